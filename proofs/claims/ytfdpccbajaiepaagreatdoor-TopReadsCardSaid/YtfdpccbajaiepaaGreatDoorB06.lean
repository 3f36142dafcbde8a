/- Texts laid together: SxpChain, RdCatch, FxR, RdRead, RdSpec13, SxMap, RdSpec14, LxTotal, LxGood, FxQ, RdSpec15, LxDec, LxWp. -/
import Derived.Test.YtfdpccbajaiepaaGreatDoorB02
import Derived.RecoverIn
import Derived.Tactics
import Derived.Tactics2
import Derived.Laws.Pointers
import Derived.Test.YtfdpccbajaiepaaGreatDoorProg
import Derived.Test.YtfdpccbajaiepaaGreatDoorB01
import Derived.Test.YtfdpccbajaiepaaGreatDoorB05
import Derived.Test.YtfdpccbajaiepaaGreatDoorB03
import Derived.Carry
import Derived.Lib.ItoaNum
/- A chain of code up to a piece that is told by itself. -/
namespace Go.Proofs.YtfdpccbajaiepaaGreatDoor.Sxp
open Go Go.Proofs.YtfdpccbajaiepaaGreatDoor.Sx
set_option linter.unusedVariables false
def codeWpC (P : Program) (n : Nat) (pn : Bool) (lp : Nat → Qx → Tm → Hp → Prop) (cut : Nat → Option (List Nat)) (KX : Tm → Hp → Prop) : Nat → Code → Nat → Qx → Tm → Hp → Prop
  | 0, _, _, _, tm, h => KX tm h
  | k + 1, c, i, Q, tm, h => match c with
    | .seq a b => codeWp P n pn lp cut a (2 * i) (thenQ (fun tm' h' => codeWpC P n pn lp cut KX k b (2 * i + 1) Q tm' h') Q) tm h
    | _ => False
def restOf : Nat → Code → Code
  | 0, c => c
  | k + 1, c => match c with
    | .seq _ b => restOf k b
    | c => c
def GoodC (P : Program) (n : Nat) (ρ : Option Nat) (pn : Bool) (lp : Nat → Qx → Tm → Hp → Prop) (cut : Nat → Option (List Nat)) : Nat → Code → Nat → Prop
  | 0, _, _ => True
  | k + 1, c, i => match c with
    | .seq a b => Good P n ρ pn lp cut a (2 * i) ∧ GoodC P n ρ pn lp cut k b (2 * i + 1)
    | _ => True
theorem chain_sound {P : Program} {n : Nat} {pn : Bool} {lp : Nat → Qx → Tm → Hp → Prop} {cut : Nat → Option (List Nat)} {KX : Tm → Hp → Prop} {Q : Qx} {Q' : Exit → Act → World → Prop} {ds : List Deferred} {w0 : World} {m : Nat}
    (hQ : ∀ e a w, e ≠ .normal → LE ds w0 n Q e a w → Q' e a w) :
    ∀ (k : Nat) (c : Code) (i : Nat) (tm : Tm) (a : Act) (w : World), (∀ tm a w, KX tm w.heap → Le ds tm a → a.tmps.size = n → Same w0 w → (restOf k c).wpIn (FW none) m P Q' a w) → GoodC P n none pn lp cut k c i →
      codeWpC P n pn lp cut KX k c i Q tm w.heap → Le ds tm a → a.tmps.size = n → Same w0 w → c.wpIn (FW none) m P Q' a w
  | 0, c, i, tm, a, w, hX, _, h, hl, hz, hs => hX tm a w h hl hz hs
  | k + 1, c, i, tm, a, w, hX, hg, h, hl, hz, hs => by
    cases c with
    | seq x y =>
      simp only [codeWpC] at h
      simp only [GoodC] at hg
      refine wpIn_seq (wpIn_mono (codeWp_sound x (2 * i) hg.1 ds _ tm a w w0 h hl hz hs m) (fun e a' w' hh => ?_))
      obtain ⟨tm', h1, h2, h3, h4⟩ := hh
      cases e with
      | normal => exact chain_sound hQ k y (2 * i + 1) tm' a' w' hX hg.2 h4 h1 h2 h3
      | exit _ => exact hQ _ _ _ (by simp) ⟨tm', h1, h2, h3, h4⟩
      | goto _ => exact hQ _ _ _ (by simp) ⟨tm', h1, h2, h3, h4⟩
      | ret => exact hQ _ _ _ (by simp) ⟨tm', h1, h2, h3, h4⟩
      | panic _ => exact hQ _ _ _ (by simp) ⟨tm', h1, h2, h3, h4⟩
      | outgrown => exact hQ _ _ _ (by simp) ⟨tm', h1, h2, h3, h4⟩
    | _ => exact h.elim
end Go.Proofs.YtfdpccbajaiepaaGreatDoor.Sxp

/- syntax.read's deferred function: what it leaves when nothing is wrong, and when a fault is given up. -/
namespace Go.Proofs.YtfdpccbajaiepaaGreatDoor.Sxp
open Go Go.RowKit Go.Proofs.YtfdpccbajaiepaaGreatDoor.Sx
set_option linter.unusedVariables false
set_option linter.unusedSimpArgs false
theorem ta_nil (w : World) : (Instr.typeAssert .nilIface 20 27 true).run Tryz.prog w = .ok (.tuple #[.pointer none, .bool false]) w := pureRun_run _ _ _ (by kernel_rfl) w
theorem ta_ok (v : Value) (w : World) : (Instr.typeAssert (.iface 27 v) 20 27 true).run Tryz.prog w = .ok (.tuple #[v, .bool true]) w := pureRun_run _ _ _ (by kernel_rfl) w
set_option maxRecDepth 100000 in
theorem catch_idle (m : Nat) (p : Addr) (w : World) :
    CallsDIn (FW none) m Tryz.prog 53 #[.pointer (some p)] .returning w fun e u' w' => e = .returned (.tuple #[]) ∧ u' = .returning ∧ w' = w := by
  refine callsDIn_of_wpSIn Tryz.func53 rfl trivial fun c₀ cs hu => ?_
  apply wpSIn_seq
  apply wpSIn_region
  simp [wpOpsSIn, go_sem, recoverD, hu, Tryz.ntmps53, Exit.thenS, ta_nil]
  apply wpSIn_seq
  apply wpSIn_region
  simp [wpOpsSIn, go_sem, Exit.thenS]
  refine wpSIn_cond (t := false) (by simp [Act.eval, Array.replicate]) ?_
  simp only [Bool.false_eq_true, if_false]
  refine wpSIn_of_wpIn rfl (wpIn_skip ?_)
  cases c₀
  simp_all [bodyPostS, results, Tryz.results53]
set_option maxRecDepth 100000 in
theorem catch_fault (m : Nat) (p : Addr) (x : Value) (pv : Option Addr) (older : List PanicEntry) (w : World) (hc : w.cell? p = some x) (hz : w.frozen? p = false) :
    CallsDIn (FW none) m Tryz.prog 53 #[.pointer (some p)] (.panicking ({ v := .iface 27 (.pointer pv), recovered := false } :: older)) w fun e u' w' =>
      e = .returned (.tuple #[]) ∧ u' = .panicking ({ v := .iface 27 (.pointer pv), recovered := true } :: older) ∧ w' = w.setCell p (.iface 27 (.pointer pv)) := by
  refine callsDIn_of_wpSIn Tryz.func53 rfl trivial fun c₀ cs hu => ?_
  apply wpSIn_seq
  apply wpSIn_region
  simp [wpOpsSIn, go_sem, recoverD, hu, Tryz.ntmps53, Exit.thenS, ta_ok]
  apply wpSIn_seq
  apply wpSIn_region
  simp [wpOpsSIn, go_sem, Exit.thenS]
  refine wpSIn_cond (t := true) (by simp [Act.eval, Array.replicate]) ?_
  simp only [if_true]
  apply wpSIn_region
  simp [wpOpsSIn, go_sem, hc, hz, bodyPostS, results, Tryz.results53]
end Go.Proofs.YtfdpccbajaiepaaGreatDoor.Sxp

/- Printed by rdpiece.py: words for the two pieces of syntax.read. -/
namespace Go.Proofs.YtfdpccbajaiepaaGreatDoor.Sxp.Fx
open Go Go.RowKit Go.Proofs.YtfdpccbajaiepaaGreatDoor.Sx
set_option linter.unusedVariables false
set_option maxRecDepth 100000

/-! ### a piece of quintet/syntax.read: function 21 -/
def read_pre (s1 : ByteArray) (v2 : Value) (X : Value → Addr → (Option Addr) → Nat → Nat → Hp → Prop) (Q : Qx) (h : Hp) : Prop :=
  newC h (.cells #[.nilIface] 24 (0, 0)) fun a4 h3 => 
  CallsP Tryz.prog 14 #[(.string s1)] h3 (fun r6 h5 =>
  ∃ A7 : Option Addr, ∃ l7 : Nat, ∃ c7 : Nat, ∃ v8 : Value, r6 = (.tuple #[(.slice A7 l7 c7), v8]) ∧ 
  HU Tryz.prog (Instr.storeAt 24 (.pointer (some a4)) v8) h5 fun h9 => 
  ∃ v10 : Value, HV Tryz.prog (Instr.loadAt 24 (.pointer (some a4))) h9 v10 ∧ 
  ∃ b11 : Bool, PV Tryz.prog (binOp .neq 24 v10 .nilIface) (.bool b11) ∧
  br b11
  (newC h9 (.cells #[(.pointer none)] 27 (0, 0)) fun a13 h12 => 
  ∃ v14 : Value, HV Tryz.prog (Instr.loadAt 24 (.pointer (some a4))) h12 v14 ∧ 
  CallsP Tryz.prog 6 #[v14, (.iface 29 (.pointer (some a13)))] h12 (fun r16 h15 =>
  ∃ b17 : Bool, r16 = (.bool b17) ∧ 
  br b17
  (∃ p18 : Option Addr, HV Tryz.prog (Instr.loadAt 27 (.pointer (some a13))) h15 (.pointer p18) ∧ 
  HU Tryz.prog (Instr.storeAt 24 (.pointer (some a4)) (.iface 27 (.pointer p18))) h15 fun h19 => 
  Q .ret (mkTm [(4, some (.pointer (some a4)))]) h19)
  (∃ v20 : Value, HV Tryz.prog (Instr.loadAt 24 (.pointer (some a4))) h15 v20 ∧ 
  HU Tryz.prog (Instr.storeAt 24 (.pointer (some a4)) v20) h15 fun h21 => 
  Q .ret (mkTm [(4, some (.pointer (some a4)))]) h21)) (fun ch h => Q (.panic ch) (mkTm []) h))
  (X v2 a4 A7 l7 c7 h9)) (fun ch h => Q (.panic ch) (mkTm []) h)
def read_pre_lp (i : Nat) (Q : Qx) (tm : Tm) (h : Hp) : Prop := False
def read_pre_cut (i : Nat) : Option (List Nat) := none
set_option maxRecDepth 100000 in
theorem read_pre_eq (s1 : ByteArray) (v2 : Value) (X : Value → Addr → (Option Addr) → Nat → Nat → Hp → Prop) (Q : Qx) (h : Hp) : read_pre s1 v2 X Q h =
    codeWpC Tryz.prog 51 true read_pre_lp read_pre_cut (fun tm h =>
      selV (tm 1) fun v25 =>
      selA (tm 4) fun a26 =>
      selS (tm 5) fun A27 l27 c27 =>
      X v25 a26 A27 l27 c27 h) 3 (sub (bodyOf Tryz.f21) []) 1 (maskQ (fun e => match e with | .panic _ => [] | _ => [4]) Q) (mkTm [(0, some (.string s1)), (1, some v2)]) h := by kernel_rfl

/-! ### a piece of quintet/syntax.read: function 21 -/
def read_post_l1 (v6 : Value) (a7 : Addr) (A8 : Option Addr) (l8 : Nat) (c8 : Nat) (a9 : Addr) (K0 : Addr → Hp → Prop) (KP : Kp)  : Nat → Hp → Prop
  | 0, _ => False
  | k + 1, h =>
    ∃ x19 : Int, HV Tryz.prog (Instr.loadAt 3 (.pointer (some (a9.add 1)))) h (.int .i64 x19) ∧ 
    br (decide (x19 < (l8 : Int)))
    (∃ x20 : Int, HV Tryz.prog (Instr.loadAt 3 (.pointer (some (a9.add 1)))) h (.int .i64 x20) ∧ 
    ∃ a21 : Addr, PV Tryz.prog (Instr.indexAt 46 (.slice A8 l8 c8) (.int .i64 x20)) (.pointer (some a21)) ∧
    ∃ x22 : Int, HV Tryz.prog (Instr.loadAt 49 (.pointer (some a21))) h (.int .i64 x22) ∧ 
    br (x22 == 4)
    (∃ x23 : Int, HV Tryz.prog (Instr.loadAt 3 (.pointer (some (a9.add 1)))) h (.int .i64 x23) ∧ 
    HU Tryz.prog (Instr.storeAt 3 (.pointer (some (a9.add 1))) (.int .i64 (IntKind.i64.wrap (x23 + 1)))) h fun h24 => 
    read_post_l1 v6 a7 A8 l8 c8 a9 K0 KP k h24)
    (HNP Tryz.prog (callS v6 #[(.pointer (some a9))]) h (fun r26 h25 =>
    r26 = (.tuple #[]) ∧ 
    read_post_l1 v6 a7 A8 l8 c8 a9 K0 KP k h25) KP))
    (K0 a7 h)
def read_post_l1_L (Q : Qx) (k : Nat) (tm : Tm) (h : Hp) : Prop :=
  selV (tm 1) fun v6 =>
  selA (tm 4) fun a7 =>
  selS (tm 5) fun A8 l8 c8 =>
  selA (tm 7) fun a9 =>
  read_post_l1 v6 a7 A8 l8 c8 a9 (fun (a18 : Addr) h => Q (.exit 0) (mkTm [(4, some (.pointer (some a18)))]) h) (fun ch h => Q (.panic ch) (mkTm [(4, some (.pointer (some a7)))]) h) k h
def read_post (v1 : Value) (a2 : Addr) (A3 : Option Addr) (l3 : Nat) (c3 : Nat) (Q : Qx) (h : Hp) : Prop :=
  newC h (.cells #[(.slice A3 l3 c3), (.int .i64 0)] 130 (0, 0)) fun a5 h4 => 
  ∃ k30, read_post_l1 v1 a2 A3 l3 c3 a5
  (fun (a27 : Addr) (h28 : Hp) =>
  HU Tryz.prog (Instr.storeAt 24 (.pointer (some a27)) .nilIface) h28 fun h29 => 
  Q .ret (mkTm [(4, some (.pointer (some a27)))]) h29)
  (fun ch h => Q (.panic ch) (mkTm [(4, some (.pointer (some a2)))]) h) k30  h4
def read_post_lp (i : Nat) (Q : Qx) (tm : Tm) (h : Hp) : Prop := match Nat.beq i 252 with
  | true => ∃ k, read_post_l1_L Q k tm h
  | false => False
def read_post_cut (i : Nat) : Option (List Nat) := none
set_option maxRecDepth 100000 in
theorem read_post_l1_step (Q : Qx) (k : Nat) (v6 : Value) (a7 : Addr) (A8 : Option Addr) (l8 : Nat) (c8 : Nat) (a9 : Addr) (h : Hp) : read_post_l1_L Q (k + 1) (mkTm [(1, some v6), (4, some (.pointer (some a7))), (5, some (.slice A8 l8 c8)), (7, some (.pointer (some a9)))]) h =
    codeWp Tryz.prog 51 true read_post_lp read_post_cut (sub (bodyOf Tryz.f21) [true, true, true, true, true, false, false, false]) 504 (thenQ (fun tm h => read_post_l1_L Q k (mask [1, 4, 5, 7] tm) h) (maskQ (fun e => match e with | .exit 0 => [4] | .panic _ => [4] | _ => []) Q)) (mkTm [(1, some v6), (4, some (.pointer (some a7))), (5, some (.slice A8 l8 c8)), (7, some (.pointer (some a9)))]) h := by kernel_rfl
theorem read_post_l1_mask (Q : Qx) (k : Nat) (tm : Tm) (h : Hp) : read_post_l1_L Q k tm h ↔ read_post_l1_L Q k (mask [1, 4, 5, 7] tm) h := Iff.rfl
set_option maxRecDepth 100000 in
theorem read_post_l1_snd : SndAt Tryz.prog 51 none (sub (bodyOf Tryz.f21) [true, true, true, true, true, false, false]) (read_post_lp 252) := by
  refine loop_sound (pn := true) (lp := read_post_lp) (cut := read_post_cut) (i := 252) (c := (sub (bodyOf Tryz.f21) [true, true, true, true, true, false, false, false])) [1, 4, 5, 7] (fun e => match e with | .exit 0 => [4] | .panic _ => [4] | _ => []) read_post_l1_L ?_ ?_ ?_
  · exact good_by (pn := true) (c := (sub (bodyOf Tryz.f21) [true, true, true, true, true, false, false, false])) (i := 504) (l := []) (by kernel_rfl) (fun _ h => by cases h)
  · intro Q tm h H
    obtain ⟨v6, e1, H⟩ := selV_ex H
    obtain ⟨a7, e4, H⟩ := selA_ex H
    obtain ⟨A8, l8, c8, e5, H⟩ := selS_ex H
    obtain ⟨a9, e7, H⟩ := selA_ex H
    exact H
  · intro Q k tm h H
    have H0 := H
    obtain ⟨v6, e1, H⟩ := selV_ex H
    obtain ⟨a7, e4, H⟩ := selA_ex H
    obtain ⟨A8, l8, c8, e5, H⟩ := selS_ex H
    obtain ⟨a9, e7, H⟩ := selA_ex H
    have e : mask [1, 4, 5, 7] tm = mkTm [(1, some v6), (4, some (.pointer (some a7))), (5, some (.slice A8 l8 c8)), (7, some (.pointer (some a9)))] := by simp only [mask, List.map_cons, List.map_nil, e1, e4, e5, e7] <;> rfl
    rw [e]
    refine Eq.mp (read_post_l1_step Q k v6 a7 A8 l8 c8 a9 h) ?_
    rw [← e]
    exact (read_post_l1_mask Q (k + 1) tm h).mp H0
set_option maxRecDepth 100000 in
theorem read_post_eq (v1 : Value) (a2 : Addr) (A3 : Option Addr) (l3 : Nat) (c3 : Nat) (Q : Qx) (h : Hp) : read_post v1 a2 A3 l3 c3 Q h =
    codeWp Tryz.prog 51 true read_post_lp read_post_cut (sub (bodyOf Tryz.f21) [true, true, true, true]) 31 (maskQ (fun e => match e with | .panic _ => [4] | _ => [4]) Q) (mkTm [(1, some v1), (4, some (.pointer (some a2))), (5, some (.slice A3 l3 c3))]) h := by kernel_rfl
set_option maxRecDepth 100000 in
theorem read_post_good : Good Tryz.prog 51 none true read_post_lp read_post_cut (sub (bodyOf Tryz.f21) [true, true, true, true]) 31 := good_by (pn := true) (c := (sub (bodyOf Tryz.f21) [true, true, true, true])) (i := 31) (l := [(252, (sub (bodyOf Tryz.f21) [true, true, true, true, true, false, false]))]) (by kernel_rfl) (List.forall_mem_cons.2 ⟨read_post_l1_snd, (fun _ h => by cases h)⟩)

end Go.Proofs.YtfdpccbajaiepaaGreatDoor.Sxp.Fx

/- syntax.read: what is told of its two pieces is told of the call; a fault that is given up is its error. -/
namespace Go.Proofs.YtfdpccbajaiepaaGreatDoor.Sxp
open Go Go.RowKit Go.Proofs.YtfdpccbajaiepaaGreatDoor.Sx Go.Proofs.YtfdpccbajaiepaaGreatDoor.Sxp.Fx
set_option linter.unusedVariables false
set_option linter.unusedSimpArgs false
/-- What stands in the error's cell at the end. -/
def rdEnd (K : Value → Hp → Prop) (a : Addr) (h : Hp) : Prop := ∃ v : Value, HV Tryz.prog (Instr.loadAt 24 (.pointer (some a))) h v ∧ K v h
def rdQ0 (K : Value → Hp → Prop) : Qx
  | .ret, tm, h => selA (tm 4) fun a => rdEnd K a h
  | _, _, _ => False
def rdQ1 (K : Value → Hp → Prop) (a : Addr) : Qx
  | .ret, tm, h => selA (tm 4) fun a' => rdEnd K a' h
  | .panic ch, tm, h => tm 4 = some (.pointer (some a)) ∧ ∃ (pv : Option Addr) (x : Value), ch = [{ v := .iface 27 (.pointer pv), recovered := false }] ∧ (W h).cell? a = some x ∧ (W h).frozen? a = false ∧
      rdEnd K a ((W h).setCell a (.iface 27 (.pointer pv))).heap
  | _, _, _ => False
theorem res_fin {ds : List Deferred} {P : Program} {fn : Func} {tm : Tm} {a : Act} {w : World} {K : Value → Hp → Prop} (hl : Le ds tm a) (hr : resQ P tm w.heap fn.results.toList fun l => K (oneV l) w.heap) : ∃ v, (results fn a.tmps).run P w = .ok v w ∧ K v w.heap := by
  obtain ⟨l, hrun, hK⟩ := resQ_run hl _ _ hr
  refine ⟨oneV l, ?_, hK⟩
  rw [results_eq, ← Array.toArray_toList (xs := fn.results), List.mapM_toArray]
  simp only [Sem.run_bind]
  simp [hrun, Result.andThen]
  match l with
  | [] => simp [oneV]
  | [v] => simp [oneV]
  | v :: u :: r => simp [oneV]
theorem rd_fin {ds : List Deferred} {tm : Tm} {a : Act} {w : World} {K : Value → Hp → Prop} {p : Addr} (hl : Le ds tm a) (h4 : tm 4 = some (.pointer (some p))) (hr : rdEnd K p w.heap) : ∃ v, (results Tryz.f21 a.tmps).run Tryz.prog w = .ok v w ∧ K v w.heap := by
  refine res_fin hl ?_
  have e : Tryz.f21.results.toList = [.cell 4 24] := by kernel_rfl
  rw [e]
  obtain ⟨v, hv, hK⟩ := hr
  have e2 : shOf Tryz.prog 24 = .one (.sc .any) := by kernel_rfl
  rw [resQ, h4]
  simp only [e2]
  exact ⟨v, hv, hK⟩
/-- The world's heap alone tells what a store leaves. -/
theorem setCell_heap (w : World) (a : Addr) (v : Value) : (w.setCell a v).heap = ((W w.heap).setCell a v).heap := rfl
set_option maxRecDepth 100000 in
theorem rd_defer : ∃ id o1 o2, sub (bodyOf Tryz.f21) [true, true, true, false] = .region id #[o1, o2] false ∧ o1.op = .makeFunc (.func 53) #[] #[.tmp 4] ∧ o1.dst = some 21 ∧ o1.guard = none ∧
    o2.op = .defer { callee := .value (.tmp 21), args := #[], argTypes := #[] } ∧ o2.dst = none ∧ o2.guard = none := ⟨_, _, _, rfl, rfl, rfl, rfl, rfl, rfl, rfl⟩
theorem rd_rest : restOf 3 (bodyOf Tryz.f21) = Code.seq (sub (bodyOf Tryz.f21) [true, true, true, false]) (sub (bodyOf Tryz.f21) [true, true, true, true]) := by kernel_rfl
theorem rd_good : GoodC Tryz.prog 51 none true read_pre_lp read_pre_cut 3 (bodyOf Tryz.f21) 1 :=
  ⟨trivial, trivial, good_by (l := []) (by kernel_rfl) (fun _ h => by cases h), trivial⟩
abbrev fvR (a : Addr) : Deferred := { target := .fn (.func 53) #[.pointer (some a)], args := #[] }
set_option maxHeartbeats 1000000 in
set_option maxRecDepth 100000 in
theorem read_ok (s : ByteArray) (v : Value) {h : Hp} {K : Value → Hp → Prop} (H : read_pre s v (fun v2 a A l c h' => read_post v2 a A l c (rdQ1 K a) h') (rdQ0 K) h) : CallsH Tryz.prog 21 #[.string s, v] h K := by
  intro w hw
  subst hw
  refine (callsIn_wide (n := 0)).1 (callsIn_of_wp_defers Tryz.func21 rfl trivial ?_)
  have H' := Eq.mp (read_pre_eq s v _ (rdQ0 K) w.heap) H
  refine chain_sound (Q := maskQ (fun e => match e with | .panic _ => [] | _ => [4]) (rdQ0 K)) (n := 51) (ds := []) (w0 := w) ?_ 3 _ 1 _ _ _ ?_ ?_ H' ?_ ?_ (Same.refl w)
  · intro e a w' hne hh
    obtain ⟨tm, h1, h2, h3, h4⟩ := hh
    cases e with
    | ret =>
      obtain ⟨p, e4, h5⟩ := selA_ex h4
      obtain ⟨v, hr, hK⟩ := rd_fin h1 (mkTm_mask tm [4] 4 _ e4) h5
      show LeavesIn _ _ _ _ _ _ a.defers .returning w'
      rw [h1.defers]
      exact ⟨v, hr, v, rfl, h3, hK⟩
    | normal => exact absurd rfl hne
    | exit _ => exact h4.elim
    | goto _ => exact h4.elim
    | panic _ => exact h4.elim
    | outgrown => exact h4.elim
  · intro tm a w' hX hl hz hs
    obtain ⟨v2, e1, hX⟩ := selV_ex hX
    obtain ⟨p, e4, hX⟩ := selA_ex hX
    obtain ⟨A, l, c, e5, hX⟩ := selS_ex hX
    show (restOf 3 (bodyOf Tryz.f21)).wpIn _ _ _ _ _ _
    rw [rd_rest]
    obtain ⟨id, o1, o2, er, p1, d1, g1, p2, d2, g2⟩ := rd_defer
    rw [er]
    refine wpIn_seq (wpIn_region ?_)
    have hr : List.range (#[o1, o2] : Array Oper).size = [0, 1] := rfl
    rw [hr]
    have w1 : ∀ t, Region.wanted o1 (yielded #[o1, o2] t) = true := fun t => by simp [Region.wanted, g1]
    have w2 : ∀ t, Region.wanted o2 (yielded #[o1, o2] t) = true := fun t => by simp [Region.wanted, g2]
    have q1 : (#[o1, o2] : Array Oper)[0]? = some o1 := rfl
    have q2 : (#[o1, o2] : Array Oper)[1]? = some o2 := rfl
    have ev4 : a.eval (.tmp 4) = .pointer (some p) := hl.ev e4
    have s1 : (execOp a.eval o1).run Tryz.prog w' = .ok (.value (.func (.func 53) #[] #[.pointer (some p)])) w' := by
      have mf : ∀ (fn : Fn) (first cap : Array Value) (w : World), (Instr.makeFunc fn first cap).run Tryz.prog w = .ok (.func fn first cap) w := fun _ _ _ _ => rfl
      simp [execOp, p1, ev4, mf, Result.andThen]
    simp only [wpOpsIn, q1, q2, w1, w2, if_true]
    refine ⟨fun _ _ => trivial, ?_⟩
    rw [Oper.semAt_eq _ _ _ (by rw [p1]; intro c h; cases h), s1]
    show Oper.wpIn _ _ _ _ _ _ _ _
    rw [d1]
    obtain ⟨a1, ha1⟩ : ∃ a1, a1 = a.put (some 21) (.func (.func 53) #[] #[.pointer (some p)]) := ⟨_, rfl⟩
    have hl1 : Le [] (tm.put 21 (.func (.func 53) #[] #[.pointer (some p)])) a1 := by rw [ha1]; exact hl.put _ (by omega)
    have hz1 : a1.tmps.size = 51 := by rw [ha1]; simp [Act.put, hz]
    rw [← ha1]
    have ev21 : a1.eval (.tmp 21) = .func (.func 53) #[] #[.pointer (some p)] := hl1.ev rfl
    have s2 : (Oper.semAt none a1.eval o2).run Tryz.prog w' = .ok (.defer (fvR p)) w' := by
      have e : Oper.semAt none a1.eval o2 = execOp a1.eval o2 := rfl
      rw [e]
      simp [execOp, p2, resolve, ev21, Deferred.ofValue, Result.andThen, fvR]
    refine ⟨fun _ _ => trivial, ?_⟩
    have s2' : (Oper.semAt (FW none).round a1.eval o2).run Tryz.prog w' = .ok (.defer (fvR p)) w' := s2
    rw [s2', Oper.uponIn_defer, d2]
    show Code.wpIn _ _ _ _ _ _ _
    obtain ⟨a2, ha2⟩ : ∃ a2 : Act, a2 = { a1 with defers := fvR p :: a1.defers } := ⟨_, rfl⟩
    have hp2 : Act.put { a1 with defers := fvR p :: a1.defers } none undef = a2 := by rw [ha2]; rfl
    rw [hp2]
    have hl2 : Le [fvR p] (mkTm [(1, some v2), (4, some (.pointer (some p))), (5, some (.slice A l c))]) a2 := by
      refine ⟨fun i u hi => ?_, by rw [ha2, hl1.defers]⟩
      rw [ha2]
      show a1.tmps[i]? = some u
      refine hl1.at_ i u ?_
      have hk : i = 1 ∨ i = 4 ∨ i = 5 := by
        simp only [mkTm] at hi
        cases b1 : Nat.beq i 1 with
        | true => exact .inl (Nat.eq_of_beq_eq_true b1)
        | false =>
          rw [b1] at hi
          cases b2 : Nat.beq i 4 with
          | true => exact .inr (.inl (Nat.eq_of_beq_eq_true b2))
          | false =>
            rw [b2] at hi
            cases b3 : Nat.beq i 5 with
            | true => exact .inr (.inr (Nat.eq_of_beq_eq_true b3))
            | false => rw [b3] at hi; cases hi
      rcases hk with rfl | rfl | rfl
      · exact e1.trans hi
      · exact e4.trans hi
      · exact e5.trans hi
    have hz2 : a2.tmps.size = 51 := by rw [ha2]; exact hz1
    have hY := codeWp_sound _ 31 read_post_good [fvR p] _ _ a2 w' w (Eq.mp (read_post_eq v2 p A l c (rdQ1 K p) w'.heap) hX) hl2 hz2 hs 0
    refine wpIn_mono hY (fun e a3 w3 hh => ?_)
    obtain ⟨tm3, h1, h2, h3, h4⟩ := hh
    have inv : (invoke (.fn (.func 53) #[.pointer (some p)]) #[]).run Tryz.prog w3 = .ok (.enter 53 #[.pointer (some p)]) w3 := pureRun_run _ _ _ (by kernel_rfl) w3
    cases e with
    | ret =>
      obtain ⟨p', e4', h5⟩ := selA_ex h4
      obtain ⟨v, hr, hK⟩ := rd_fin h1 (mkTm_mask tm3 [4] 4 _ e4') h5
      show LeavesIn _ _ _ _ _ _ a3.defers .returning w3
      rw [h1.defers]
      refine leavesIn_cons (by simp) (fun h => by cases h) inv (fun _ _ => trivial) ?_
      refine (catch_idle _ p w3).mono ?_
      rintro e u' w4 ⟨rfl, rfl, rfl⟩
      exact ⟨v, hr, v, rfl, h3, hK⟩
    | panic ch =>
      obtain ⟨e4', pv, x, rfl, hc, hfz, h5⟩ := h4
      show LeavesIn _ _ _ _ _ _ a3.defers (.panicking _) w3
      rw [h1.defers]
      refine leavesIn_cons (by simp) (fun h => by cases h) inv (fun _ _ => trivial) ?_
      refine (catch_fault _ p x pv [] w3 hc hfz).mono ?_
      rintro e u' w4 ⟨rfl, rfl, rfl⟩
      show LeavesIn _ _ _ _ _ _ [] .returning _
      obtain ⟨v, hr, hK⟩ := rd_fin (w := w3.setCell p (.iface 27 (.pointer pv))) h1 (mkTm_mask tm3 [4] 4 _ e4') h5
      exact ⟨v, hr, v, rfl, ⟨h3.os, h3.tape, h3.output, h3.drawn⟩, hK⟩
    | normal => exact h4.elim
    | exit _ => exact h4.elim
    | goto _ => exact h4.elim
    | outgrown => exact h4.elim
  · exact rd_good
  · refine ⟨fun i u hi => ?_, rfl⟩
    have hk : i = 0 ∨ i = 1 := by
      simp only [mkTm] at hi
      cases b1 : Nat.beq i 0 with
      | true => exact .inl (Nat.eq_of_beq_eq_true b1)
      | false =>
        rw [b1] at hi
        cases b2 : Nat.beq i 1 with
        | true => exact .inr (Nat.eq_of_beq_eq_true b2)
        | false => rw [b2] at hi; cases hi
    rcases hk with rfl | rfl
    · show (#[Value.string s, v] ++ Array.replicate _ undef)[0]? = some u
      rw [Array.getElem?_append_left (by simp)]
      have : (some (Value.string s)) = some u := hi
      rw [← this]; rfl
    · show (#[Value.string s, v] ++ Array.replicate _ undef)[1]? = some u
      rw [Array.getElem?_append_left (by simp)]
      have : (some v) = some u := hi
      rw [← this]; rfl
  · simp [Tryz.ntmps21]
end Go.Proofs.YtfdpccbajaiepaaGreatDoor.Sxp

/- syntax.read: the loop over the lines, whatever a line does; read of a text that is lexed. -/
namespace Go.Proofs.YtfdpccbajaiepaaGreatDoor.Lx
open Go Go.RowKit Go.Proofs.YtfdpccbajaiepaaGreatDoor.Sx Go.Proofs.YtfdpccbajaiepaaGreatDoor.Sxp Go.Proofs.YtfdpccbajaiepaaGreatDoor.Sxp.Fx Go.Proofs.YtfdpccbajaiepaaGreatDoor.Fs
set_option linter.unusedVariables false
set_option linter.unusedSimpArgs false
set_option maxRecDepth 10000
theorem callFP {P : Program} {f : FuncId} {lb args : Array Value} (hen : enters P f = true) {h : Hp} {K : Value → Hp → Prop} {KP : Kp} (H : CallsP P f (args ++ lb) h K KP) : HNP P (callS (.func (.func f) #[] lb) args) h K KP := by
  unfold HNP callS
  simp only [Deferred.ofValue, semWp_bind_eq, semWp_pure_eq, invoke]
  unfold callFunc
  unfold enters at hen
  cases hf : P.funcs[f]? with
  | none => rw [hf] at hen; cases hen
  | some fn =>
    rw [hf] at hen
    simp only [Bool.and_eq_true, Bool.not_eq_true'] at hen
    obtain ⟨h1, h2⟩ := hen
    have h4 : fn.body ≠ none := by intro hb; rw [hb] at h2; cases h2
    have h5 : fn.name ≠ "runtime.NumGoroutine" := by simpa using h1
    simp only [program, semWp_bind_eq, semWp_pure_eq, semWp, hf]
    simp [h5, h4, semWp_pure_eq, nextP, H]
theorem Good.rest {t : TokM} {r : List TokM} (g : Good (t :: r)) : Good r := by
  cases r with
  | nil => intro e he; cases he
  | cons a l => exact fun e he => g e (by rw [List.getLast?_cons_cons]; exact he)
def linesR {α : Type} (step : α → List TokM → ReR α) : Nat → α → List TokM → Except Flt α
  | 0, a, _ => .ok a
  | f + 1, a, [] => .ok a
  | f + 1, a, t :: r => if t.kind = 4 then linesR step f a r else match step a (t :: r) with
    | .error e => .error e
    | .ok (a', r') => linesR step f a' r'
def upE (g : Nat) : List PanicEntry := [{ v := .iface 27 (.pointer (some ⟨g, 0, none⟩)), recovered := false }]
/-- What a loop over lines leaves. -/
def LinK {α : Type} (R : Except Flt α) (Inv : α → List TokM → Hp → Prop) (Err : Flt → Nat → Hp → Prop) (K0 : Hp → Prop) (KP : Kp) : Prop := match R with
  | .error f => ∀ h' g, Err f g h' → KP (upE g) h'
  | .ok a => ∀ h', Inv a [] h' → K0 h'
/-- A line. -/
def StpK {α : Type} (R : ReR α) (Inv : α → List TokM → Hp → Prop) (Err : Flt → Nat → Hp → Prop) (K : Value → Hp → Prop) (KP : Kp) : Prop := match R with
  | .error f => ∀ h' g, Err f g h' → KP (upE g) h'
  | .ok (a, r) => ∀ h', Inv a r h' → K (.tuple #[]) h'
structure LoopI {α : Type} (step : α → List TokM → ReR α) (Inv : α → List TokM → Hp → Prop) (Err : Flt → Nat → Hp → Prop) (b : Nat) (A : Option Addr) (c : Nat) (ts : List TokM) (v : Value) : Prop where
  rat : ∀ a r h, Inv a r h → RAt h b A c ts r
  skip : ∀ a t r h h', t.kind = 4 → Inv a (t :: r) h → RAt h' b A c ts r → Fr (fun k => k = b) h h' → Inv a r h'
  call : ∀ a t r h (K : Value → Hp → Prop) (KP : Kp), Inv a (t :: r) h → Good (t :: r) → t.kind ≠ 4 → StpK (step a (t :: r)) Inv Err K KP → HNP Tryz.prog (callS v #[.pointer (some ⟨b, 0, none⟩)]) h K KP
  good : ∀ a r a' r', step a r = .ok (a', r') → Good r → Good r' ∧ r'.length < r.length
section
variable {α : Type} {step : α → List TokM → ReR α} {Inv : α → List TokM → Hp → Prop} {Err : Flt → Nat → Hp → Prop} {b : Nat} {A : Option Addr} {c : Nat} {ts : List TokM} {v : Value}
theorem post_l1 (I : LoopI step Inv Err b A c ts v) (ga : Addr) {K0 : Addr → Hp → Prop} {KP : Kp} (f : Nat) : ∀ (a : α) (r : List TokM) (h : Hp), r.length < f → Inv a r h → Good r → LinK (linesR step f a r) Inv Err (K0 ga) KP →
    read_post_l1 v ga A ts.length c ⟨b, 0, none⟩ K0 KP f h := by
  induction f with
  | zero => intro a r h hf; omega
  | succ f ih =>
    intro a r h hf hI g H
    unfold read_post_l1
    have q := I.rat a r h hI
    cases r with
    | nil =>
      obtain ⟨hl, n, q1, d, hn⟩ := q
      have : ts.length ≤ n := by
        rcases Nat.lt_or_ge n ts.length with h1 | h1
        · rw [List.drop_eq_getElem_cons h1] at d; cases d
        · exact h1
      exact ⟨_, ld (q1.cl.at_ 1 _ rfl) (by kernel_rfl), br_f (by simp; omega) (H h hI)⟩
    | cons t r =>
      obtain ⟨n, q1, ht, hd, hn, hl⟩ := q.head
      refine ⟨_, ld (q1.cl.at_ 1 _ rfl) (by kernel_rfl), br_t (by simp; omega) ⟨_, ld (q1.cl.at_ 1 _ rfl) (by kernel_rfl), ?_⟩⟩
      obtain ⟨ad, pv, cl⟩ := q1.look ht
      refine ⟨ad, pv, _, ld (cl.at_ 0 _ rfl) (by kernel_rfl), ?_⟩
      unfold linesR at H
      by_cases h4 : t.kind = 4
      · rw [if_pos h4] at H
        refine br_t (by simp [h4]) ⟨_, ld (q1.cl.at_ 1 _ rfl) (by kernel_rfl), ?_⟩
        have w1 : IntKind.i64.wrap ((n : Int) + 1) = ((n + 1 : Nat) : Int) := by rw [wrap_in (by omega) (by omega)]; omega
        show HU Tryz.prog (Instr.storeAt 3 _ (.int .i64 (IntKind.i64.wrap ((n : Int) + 1)))) h _
        rw [w1]
        refine q1.st (n + 1) fun h2 q2 f2 z2 => ?_
        exact ih a r h2 (by simp at hf; omega) (I.skip a t r h h2 h4 hI ⟨hl, n + 1, q2, hd, hn⟩ f2) g.rest H
      · rw [if_neg h4] at H
        refine br_f (by simp [h4]) ?_
        refine I.call a t r h _ KP hI g h4 ?_
        unfold StpK
        cases hR : step a (t :: r) with
        | error e => rw [hR] at H; exact H
        | ok p =>
          obtain ⟨a', r'⟩ := p
          rw [hR] at H
          obtain ⟨g', hlt⟩ := I.good _ _ _ _ hR g
          exact fun h2 hI2 => ⟨rfl, ih a' r' h2 (by simp at hf hlt; omega) hI2 g' H⟩
end
/-- What stands when the lines begin. -/
structure Beg (h0 h : Hp) (ge b : Nat) (A : Option Addr) (c : Nat) (ts : List TokM) : Prop where
  e : Ext h0 h
  hge : ge = h0.size
  er : h[ge]? = some (.cells [.nilIface].toArray 24 (0, 0))
  q : RAt h b A c ts ts
  oA : ∀ k, blk A k → ge < k ∧ k < b
  ob : ge < b
  z : h.size = b + 1
/-- A fault that is given up; what the error's cell wants. -/
structure ErrI (hB : Hp) (ge : Nat) (f : Flt) (g : Nat) (h : Hp) : Prop where
  e : Ext hB h
  er : h[ge]? = some (.cells [.nilIface].toArray 24 (0, 0))
  hg : ge < g
  flt : FltC h g f
theorem Read_s {α : Type} {hB h0 : Hp} (eB : Ext hB h0) {s : List UInt8} {ts : List TokM} (hl : lexM s = some (.ok ts)) (hg : Good ts) (hlen : ts.length ≤ 900000) (v : Value) (step : α → List TokM → ReR α) (a0 : α) (Inv : Nat → Option Addr → Nat → α → List TokM → Hp → Prop) {K : Value → Hp → Prop}
    (HI : ∀ h b A c, Beg h0 h h0.size b A c ts → LoopI step (Inv b A c) (ErrI hB h0.size) b A c ts v ∧ Inv b A c a0 ts h)
    (HE : ∀ b A c a r h, Inv b A c a r h → h[h0.size]? = some (.cells [.nilIface].toArray 24 (0, 0)))
    (H : match linesR step (ts.length + 1) a0 ts with
      | .error f => ∀ h' g, Ext hB h' → h0.size ≤ g → FltC h' g f → K (.iface 27 (.pointer (some ⟨g, 0, none⟩))) h'
      | .ok a => ∀ b A c h', Inv b A c a [] h' → K .nilIface h') :
    CallsH Tryz.prog 21 #[.string (bs s), v] h0 K := by
  refine read_ok _ _ ?_
  unfold read_pre
  refine newC_i (cs := [.nilIface]) fun h1 e1 c1 b1 z1 => ?_
  refine Sx.CallsH.p (All_s hl ?_)
  intro h2 A c e2 row hF
  have b2 : h2[h0.size]? = some (.cells [.nilIface].toArray 24 (0, 0)) := by rw [e2.old _ (by omega)]; exact b1
  refine ⟨_, _, _, _, rfl, ?_⟩
  refine HU_st (us := [.nilIface]) b2 rfl (by kernel_rfl) (by simp) rfl ?_
  have es : setB h2 h0.size (List.take 0 [Value.nilIface] ++ [Value.nilIface] ++ List.drop (0 + [Value.nilIface].length) [Value.nilIface]) 24 = h2 := setB_self b2
  rw [es]
  have c2 : Cl h2 ⟨h0.size, 0, none⟩ [.nilIface] := Cl.of_block b2 fun j v hj => by rw [Nat.zero_add]; exact hj
  refine ⟨_, ld (c2.at_ 0 _ rfl) (by kernel_rfl), false, fun w => pureRun_run _ _ _ (by kernel_rfl) w, br_f rfl ?_⟩
  unfold read_post
  rw [List.nil_append] at row
  show newC h2 (.cells #[(.slice A ts.length c), (.int .i64 0)] 130 (0, 0)) _
  refine newC_i (cs := rdCells A ts.length c 0) fun h3 e3 c3 b3 z3 => ?_
  have hA : ∀ k, blk A k → h0.size < k ∧ k < h2.size := fun k hk => ⟨by have := hF k hk; omega, row.old k hk⟩
  have hz2 : h1.size ≤ h2.size := e2.size
  have nb : ¬ blk A h2.size := fun hk => by have := (hA _ hk).2; omega
  have B : Beg h0 h3 h0.size h2.size A c ts :=
    { e := (e1.trans e2).trans e3, hge := rfl, er := by rw [e3.old _ (by omega)]; exact b2, q := ⟨hlen, 0, ⟨b3, row.ext e3, nb⟩, rfl, by omega⟩, oA := hA, ob := by omega, z := z3 }
  obtain ⟨I, i0⟩ := HI h3 h2.size A c B
  refine ⟨ts.length + 1, post_l1 I ⟨h0.size, 0, none⟩ (ts.length + 1) a0 ts h3 (by omega) i0 hg ?_⟩
  unfold LinK
  cases hR : linesR step (ts.length + 1) a0 ts with
  | error f =>
    rw [hR] at H
    intro h4 g E
    have c4 : Cl h4 ⟨h0.size, 0, none⟩ [.nilIface] := Cl.of_block E.er fun j v hj => by rw [Nat.zero_add]; exact hj
    refine ⟨rfl, some ⟨g, 0, none⟩, .nilIface, rfl, c4.at_ 0 _ rfl, frozen_false E.er, ?_⟩
    have es := setCell_heap (o := 0) (v := .iface 27 (.pointer (some ⟨g, 0, none⟩))) E.er
    rw [es]
    have b5 : (setB h4 h0.size ([Value.nilIface].set 0 (.iface 27 (.pointer (some ⟨g, 0, none⟩)))) 24)[h0.size]? = _ := setB_get (lt_of_get E.er)
    have f5 : Fr (fun k => k = h0.size) h4 (setB h4 h0.size ([Value.nilIface].set 0 (.iface 27 (.pointer (some ⟨g, 0, none⟩)))) 24) := setB_fr rfl
    have c5 := Cl.of_block (vs := [.iface 27 (.pointer (some ⟨g, 0, none⟩))]) (o := 0) b5 (fun j v hj => by rw [Nat.zero_add]; exact hj)
    refine ⟨_, ld (c5.at_ 0 _ rfl) (by kernel_rfl), ?_⟩
    exact H _ g (extOwn E.e f5 (fun k hk => by have := eB.size; omega)) (by have := E.hg; omega) (f5.get E.flt (by have := E.hg; omega))
  | ok a =>
    rw [hR] at H
    intro h4 i4
    have b4 := HE _ _ _ _ _ _ i4
    refine HU_st (us := [.nilIface]) b4 rfl (by kernel_rfl) (by simp) rfl ?_
    have es : setB h4 h0.size (List.take 0 [Value.nilIface] ++ [Value.nilIface] ++ List.drop (0 + [Value.nilIface].length) [Value.nilIface]) 24 = h4 := setB_self b4
    rw [es]
    have c4 : Cl h4 ⟨h0.size, 0, none⟩ [.nilIface] := Cl.of_block b4 fun j v hj => by rw [Nat.zero_add]; exact hj
    exact ⟨_, ld (c4.at_ 0 _ rfl) (by kernel_rfl), H _ _ _ _ i4⟩
end Go.Proofs.YtfdpccbajaiepaaGreatDoor.Lx

/- Maps from whole numbers to whole numbers, over the heap alone. -/
namespace Go.Proofs.YtfdpccbajaiepaaGreatDoor.Sx
open Go Go.RowKit
set_option linter.unusedVariables false
set_option linter.unusedSimpArgs false
def ent (p : Int × Int) : Value × Value := (.int .i64 p.1, .int .i64 p.2)
/-- A block is a map of these entries. -/
def MapN (h : Hp) (b : Nat) (l : List (Int × Int)) : Prop := ∃ es clock, h[b]? = some (.map es clock) ∧ es.toList.map (fun e => (e.key, e.val)) = l.map ent
theorem MapN.lt {h : Hp} {b : Nat} {l : List (Int × Int)} (m : MapN h b l) : b < h.size := by
  obtain ⟨es, c, hb, _⟩ := m
  exact lt_of_get hb
theorem MapN.keep {h h' : Hp} {b : Nat} {l : List (Int × Int)} {S : Nat → Prop} (m : MapN h b l) (f : Fr S h h') (hn : ¬ S b) : MapN h' b l := by
  obtain ⟨es, c, hb, he⟩ := m
  exact ⟨es, c, f.get hb hn, he⟩
theorem MapN.ext {h h' : Hp} {b : Nat} {l : List (Int × Int)} (m : MapN h b l) (e : Ext h h') : MapN h' b l := m.keep (e.fr fun _ => False) (fun h => h)
def lookI (l : List (Int × Int)) (x : Int) : Int := match l with
  | [] => 0
  | p :: l => if p.1 = x then p.2 else lookI l x
theorem look_not {x : Int} : ∀ {l : List (Int × Int)}, x ∉ l.map (·.1) → lookI l x = 0
  | [], _ => rfl
  | p :: l, h => by
    simp only [List.map_cons, List.mem_cons, not_or] at h
    unfold lookI
    rw [if_neg (fun e => h.1 e.symm)]
    exact look_not h.2
theorem look_in {x : Int} : ∀ {l : List (Int × Int)}, (∀ p ∈ l, 0 < p.2) → x ∈ l.map (·.1) → 0 < lookI l x
  | [], _, h => by simp at h
  | p :: l, hp, h => by
    unfold lookI
    by_cases e : p.1 = x
    · rw [if_pos e]; exact hp p (by simp)
    · rw [if_neg e]
      simp only [List.map_cons, List.mem_cons] at h
      rcases h with h | h
      · exact absurd h.symm e
      · exact look_in (fun q hq => hp q (by simp [hq])) h
theorem findNow_in (x : Int) : ∀ (l : List (Int × Int)) (es : List MapEntry) (i : Nat), es.map (fun e => (e.key, e.val)) = l.map ent →
    (x ∉ l.map (·.1) ∧ Instr.findNow (.int .i64) (.int .i64 x) es i = some none) ∨ ∃ j, Instr.findNow (.int .i64) (.int .i64 x) es i = some (some (j, .int .i64 (lookI l x))) := by
  intro l
  induction l with
  | nil =>
    intro es i h
    cases es with
    | nil => exact .inl ⟨by simp, rfl⟩
    | cons e es => simp at h
  | cons p l ih =>
    intro es i h
    cases es with
    | nil => simp at h
    | cons e es =>
      simp only [List.map_cons, List.cons.injEq, ent, Prod.mk.injEq] at h
      obtain ⟨⟨hk, hv⟩, ht⟩ := h
      have e1 : Instr.sameNow (.int .i64) (.int .i64 x) e.key = some (x == p.1) := by rw [hk]; rfl
      unfold Instr.findNow
      rw [e1]
      by_cases hx : x = p.1
      · right
        rw [show (x == p.1) = true by simp [hx]]
        refine ⟨i, ?_⟩
        simp only [lookI, hv, hx, if_true]
      · rw [show (x == p.1) = false by simp [hx]]
        simp only
        rcases ih es (i + 1) ht with ⟨h1, h2⟩ | ⟨j, h2⟩
        · left
          refine ⟨?_, h2⟩
          simp only [List.map_cons, List.mem_cons, not_or]
          exact ⟨hx, h1⟩
        · right
          refine ⟨j, ?_⟩
          rw [h2]
          simp only [lookI, if_neg (fun e : p.1 = x => hx e.symm)]
theorem checkKey_int {P : Program} {k : TypeId} (hk : P.underlying k = some (.int .i64)) (em : Bool) (n : Nat) (x : Int) (w : World) : (Instr.checkKey em (n + 1) k (.int .i64 x)).run P w = .ok () w := by
  unfold Instr.checkKey
  rw [Sem.run_bind, run_underlying hk]
  rfl
theorem lookN {P : Program} {T k e : TypeId} {i : TypeInfo} {h : Hp} {b : Nat} {l : List (Int × Int)} (m : MapN h b l) (hT : P.underlying T = some (.map k e)) (hk : P.underlying k = some (.int .i64)) (hi : P.info? e = some i) (hz : i.zero = some (.int .i64 0)) (x : Int) :
    HV P (Instr.lookup T (.map (some b)) (.int .i64 x) false) h (.int .i64 (lookI l x)) := by
  intro w hw
  subst hw
  obtain ⟨es, c, hb, he⟩ := m
  have hg : (getObj b).run P w = .ok (.map es c) w := by
    simp [getObj, Sem.run, hb]
  unfold Instr.lookup
  simp only [Sem.run_bind, run_underlying hT, Result.andThen_ok, hg, Sem.run_pure, checkKey_int hk]
  unfold Instr.findKey
  simp only [Sem.run_bind, run_underlying hk, Result.andThen_ok]
  rcases findNow_in x l es.toList 0 he with ⟨h1, h2⟩ | ⟨j, h2⟩
  · rw [h2, look_not h1]
    have hzr : (zeroValue e).run P w = .ok (.int .i64 0) w := by simp [zeroValue, typeInfo, hi, hz]
    simp [Result.andThen_ok, Sem.run_bind, hzr]
  · rw [h2]
    simp [Result.andThen_ok]
theorem makeN {P : Program} {T : TypeId} {h : Hp} {K : Value → Hp → Prop} (H : ∀ h', Ext h h' → h'.size = h.size + 1 → MapN h' h.size [] → K (.map (some h.size)) h') : HW P (Instr.makeMap T none) h K := by
  have hb : (h.push (.map #[] 0))[h.size]? = some (.map #[] 0) := by simp
  exact H _ (Ext.push h _) (by simp) ⟨#[], 0, hb, rfl⟩
theorem updN {P : Program} {T k e : TypeId} {h : Hp} {b : Nat} {l : List (Int × Int)} (m : MapN h b l) (hT : P.underlying T = some (.map k e)) (hk : P.underlying k = some (.int .i64)) {x : Int} (hx : x ∉ l.map (·.1)) (v : Int) {K : Hp → Prop}
    (H : ∀ h', MapN h' b (l ++ [(x, v)]) → Fr (fun k => k = b) h h' → h'.size = h.size → K h') : HU P (Instr.mapUpdate T (.map (some b)) (.int .i64 x) (.int .i64 v)) h K := by
  obtain ⟨es, c, hb, he⟩ := m
  unfold HU Instr.mapUpdate
  refine wp_bind P (wp_underlying P hT ?_)
  simp only
  refine wp_bind P ?_
  refine ⟨_, hb, rfl, ?_⟩
  refine wp_bind P ?_
  have hck : semWp P (Instr.checkKey false 10000 k (.int .i64 x)) h (fun _ h' => h' = h) := by
    unfold Instr.checkKey
    refine wp_bind P (wp_underlying P hk ?_)
    exact rfl
  refine semWp_mono P _ h ?_ hck
  rintro _ _ rfl
  refine wp_bind P ?_
  unfold Instr.findKey
  refine wp_bind P (wp_underlying P hk ?_)
  rcases findNow_in x l es.toList 0 he with ⟨h1, h2⟩ | ⟨j, h2⟩
  · rw [h2]
    refine ⟨⟨_, hb, rfl⟩, ?_⟩
    refine H _ ⟨es.push { key := .int .i64 x, val := .int .i64 v, born := c }, c + 1, by simp [lt_of_get hb], ?_⟩ ⟨by simp, fun k hk hn => ?_⟩ (by simp)
    · simp [he, ent]
    · rw [Array.getElem?_setIfInBounds]
      rw [if_neg (fun h => hn h.symm)]
  · exfalso
    have key : ∀ (l : List (Int × Int)) (es : List MapEntry) (i : Nat), x ∉ l.map (·.1) → es.map (fun e => (e.key, e.val)) = l.map ent → Instr.findNow (.int .i64) (.int .i64 x) es i = some none := by
      intro l
      induction l with
      | nil =>
        intro es i _ h
        cases es with
        | nil => rfl
        | cons e es => simp at h
      | cons p l ih =>
        intro es i hn h
        cases es with
        | nil => simp at h
        | cons e es =>
          simp only [List.map_cons, List.cons.injEq, ent, Prod.mk.injEq] at h
          obtain ⟨⟨hk, hv⟩, ht⟩ := h
          simp only [List.map_cons, List.mem_cons, not_or] at hn
          have e1 : Instr.sameNow (.int .i64) (.int .i64 x) e.key = some (x == p.1) := by rw [hk]; rfl
          unfold Instr.findNow
          rw [e1, show (x == p.1) = false by simp [hn.1]]
          exact ih es (i + 1) hn.2 ht
    rw [key l es.toList 0 hx he] at h2
    cases h2
end Go.Proofs.YtfdpccbajaiepaaGreatDoor.Sx

/- Rules: a line is read. -/
namespace Go.Proofs.YtfdpccbajaiepaaGreatDoor.Lx
open Go Go.RowKit Go.Proofs.YtfdpccbajaiepaaGreatDoor.Sx Go.Proofs.YtfdpccbajaiepaaGreatDoor.Sxp Go.Proofs.YtfdpccbajaiepaaGreatDoor.Sxp.Fx Go.Proofs.YtfdpccbajaiepaaGreatDoor.Fs
set_option linter.unusedVariables false
set_option linter.unusedSimpArgs false
set_option maxRecDepth 10000
theorem ext_take {h : Hp} {n : Nat} (hn : n ≤ h.size) : Ext (h.extract 0 n) h := ⟨by simp; omega, fun k hk => by
  simp only [Array.size_extract] at hk
  rw [Array.getElem?_extract, if_pos (by omega), Nat.zero_add]⟩
theorem take_size {h : Hp} {n : Nat} (hn : n ≤ h.size) : (h.extract 0 n).size = n := by simp; omega
def noteL (out : List Rul) : List (Int × Int) := out.map fun x => (x.id, 1)
/-- In the midst of the rules. -/
structure RlS (hB : Hp) (n0 go gs gm ge b : Nat) (A : Option Addr) (c : Nat) (ts : List TokM) (out : List Rul) (r : List TokM) (h : Hp) : Prop where
  e : Ext hB h
  n : n0 ≤ h.size
  q : RAt h b A c ts r
  hA : ∀ k, blk A k → ge < k ∧ k < b
  o1 : hB.size ≤ go
  o2 : go < gm
  o3 : gm < gs
  o4 : gs < ge
  o5 : ge < b
  o6 : b < n0
  o : ∃ Ao co, h[go]? = some (.cells [.slice Ao out.length co].toArray 22 (0, 0)) ∧ RowC h 75 Rul.enc 12 Ao co out ∧ (∀ k, blk Ao k → n0 ≤ k)
  s : h[gs]? = some (.cells [.map (some gm)].toArray 79 (0, 0))
  m : MapN h gm (noteL out)
  er : h[ge]? = some (.cells [.nilIface].toArray 24 (0, 0))
  ln : out.length ≤ 64
section
variable {hB : Hp} {n0 go gs gm ge b : Nat} {A : Option Addr} {c : Nat} {ts : List TokM} {out : List Rul} {r : List TokM} {h : Hp}
theorem RlS.step (S : RlS hB n0 go gs gm ge b A c ts out r h) {r' : List TokM} {h' : Hp} (q : RAt h' b A c ts r') (f : Fr (fun k => k = b) h h') : RlS hB n0 go gs gm ge b A c ts out r' h' := by
  obtain ⟨e, n, _, hA, o1, o2, o3, o4, o5, o6, ⟨Ao, co, bo, ro, hAo⟩, s, m, er, ln⟩ := S
  exact ⟨extOwn e f (fun k hk => by omega), Nat.le_trans n f.size, q, hA, o1, o2, o3, o4, o5, o6, ⟨Ao, co, f.get bo (by omega), ro.keep f (fun k hk he => by have := hAo k hk; omega), hAo⟩, f.get s (by omega), m.keep f (by omega), f.get er (by omega), ln⟩
theorem RlS.ext (S : RlS hB n0 go gs gm ge b A c ts out r h) {h' : Hp} (e : Ext h h') : RlS hB n0 go gs gm ge b A c ts out r h' := S.step (S.q.ext e) (e.fr _)
theorem RlS.up (S : RlS hB n0 go gs gm ge b A c ts out r h) {f : Flt} {KP : Kp} (H : ∀ h' g, ErrI hB ge f g h' → KP (upE g) h') : Up h b f KP := by
  intro h' g hg hf fr
  have o1 := S.o1; have o2 := S.o2; have o3 := S.o3; have o4 := S.o4; have o5 := S.o5; have o6 := S.o6; have n := S.n
  exact H h' g ⟨extOwn S.e fr (fun k hk => by omega), fr.get S.er (by omega), by omega, hf⟩
end
def lineR (out : List Rul) (r : List TokM) : ReR (List Rul) := thenR (ruleR r) fun p r1 => thenR (endR r1) fun _ r2 =>
  if out.length = 64 then .error ⟨102, (r.headD tok0).line, (r.headD tok0).col⟩ else match rightM p.1 p.2 with
  | some f => .error f
  | none => if p.1.id ∈ (noteL out).map (·.1) then .error ⟨103, (r.headD tok0).line, (r.headD tok0).col⟩ else .ok (out ++ [p.1], r2)
theorem then_ok {α β : Type} {R : ReR α} {f : α → List TokM → ReR β} {v : β} {r : List TokM} (h : thenR R f = .ok (v, r)) : ∃ u r1, R = .ok (u, r1) ∧ f u r1 = .ok (v, r) := by
  cases R with
  | error e => cases h
  | ok p => exact ⟨p.1, p.2, rfl, h⟩
theorem rule_begs {r r7 : List TokM} {p : Rul × List TokM} (h : ruleR r = .ok (p, r7)) : ∃ t2 t3 t4 t5 t6, p.2 = [tok0, r.headD tok0, t2, t3, t4, t5, t6, tok0] := by
  unfold ruleR at h
  obtain ⟨_, _, _, h⟩ := then_ok h
  obtain ⟨_, _, _, h⟩ := then_ok h
  obtain ⟨_, _, _, h⟩ := then_ok h
  obtain ⟨_, _, _, h⟩ := then_ok h
  obtain ⟨_, _, _, h⟩ := then_ok h
  obtain ⟨_, _, _, h⟩ := then_ok h
  obtain ⟨_, _, _, h⟩ := then_ok h
  cases h
  exact ⟨_, _, _, _, _, rfl⟩
theorem undRules : Tryz.prog.underlying 22 = some (.slice 75) := by kernel_rfl
theorem rulInfo : ∃ i z, Tryz.prog.info? 75 = some i ∧ i.size = 12 ∧ 0 < i.bytes ∧ i.bytes ≤ 1000 ∧ i.zero = some z ∧ z.cells.size = 12 := ⟨_, _, rfl, rfl, by decide, by decide, rfl, rfl⟩
theorem undMap : Tryz.prog.underlying 79 = some (.map 3 3) := by kernel_rfl
theorem undInt : Tryz.prog.underlying 3 = some (.int .i64) := by kernel_rfl
theorem intInfo : ∃ i, Tryz.prog.info? 3 = some i ∧ i.zero = some (.int .i64 0) := ⟨_, rfl, rfl⟩
theorem look_map {h : Hp} {b : Nat} {l : List (Int × Int)} (m : MapN h b l) (x : Int) : HV Tryz.prog (Instr.lookup 79 (.map (some b)) (.int .i64 x) false) h (.int .i64 (lookI l x)) := by
  obtain ⟨i, hi, hz⟩ := intInfo
  exact lookN m undMap undInt hi hz x
set_option maxHeartbeats 1000000 in
theorem line_s {hB : Hp} {n0 go gs gm ge b : Nat} {A : Option Addr} {c : Nat} {ts : List TokM} {out : List Rul} {t : TokM} {r : List TokM} {h : Hp} (S : RlS hB n0 go gs gm ge b A c ts out (t :: r) h) (g : Good (t :: r)) {K : Value → Hp → Prop} {KP : Kp}
    (H : StpK (lineR out (t :: r)) (RlS hB n0 go gs gm ge b A c ts) (ErrI hB ge) K KP) :
    CallsP Tryz.prog 22 #[.pointer (some ⟨b, 0, none⟩), .pointer (some ⟨go, 0, none⟩), .pointer (some ⟨gs, 0, none⟩)] h K KP := by
  refine syntax_Rules_1_ok _ _ _ ?_
  unfold syntax_Rules_1
  refine rule_s S.q g ?_
  unfold lineR at H
  cases hR : ruleR (t :: r) with
  | error f => rw [hR] at H; exact S.up H
  | ok p =>
    obtain ⟨⟨x, bs⟩, r1⟩ := p
    rw [hR] at H
    obtain ⟨t2, t3, t4, t5, t6, hbs⟩ := rule_begs hR
    simp only at hbs
    subst hbs
    obtain ⟨g1, hne⟩ := good_rule g _ _ hR
    cases r1 with
    | nil => exact absurd rfl hne
    | cons t7 r1 =>
      intro h1 q1 f1
      have S1 := S.step q1 f1
      refine ⟨_, _, _, _, _, _, _, _, _, _, _, _, _, _, _, _, _, _, _, _, _, _, _, _, _, _, _, _, _, _, _, _, _, _, _, _, _, _, _, _, _, _, _, _, _, _, _, _, _, _, _, _, rfl, ?_⟩
      refine newC_i (cs := rul0.enc) fun h2 e2 c2 b2 z2 => ?_
      refine newC_i (cs := bgT bg0) fun h3 e3 c3 b3 z3 => ?_
      refine HU_box (us := x.enc) (show h3[h1.size]? = some (.cells rul0.enc.toArray 75 (0, 0)) by rw [e3.old _ (by omega)]; exact b2) rfl rfl (by kernel_rfl) rfl fun h4 c4 b4 f4 z4 => ?_
      refine HU_box (us := bgT [tok0, t, t2, t3, t4, t5, t6, tok0]) (f4.get b3 (by omega)) rfl rfl (by kernel_rfl) rfl fun h5 c5 b5 f5 z5 => ?_
      have E5 : Ext h1 h5 := extOwn (extOwn (e2.trans e3) f4 (fun k hk => by omega)) f5 (fun k hk => by omega)
      have c4' : Cl h5 ⟨h1.size, 0, none⟩ x.enc := f5.cl c4 (by show ¬ h1.size = _; omega)
      have S5 := S1.ext E5
      have lt1 := S1.n
      refine end_r S5.q ?_
      simp only [thenR] at H
      cases hE : endR (t7 :: r1) with
      | error f => rw [hE] at H; exact S5.up H
      | ok p2 =>
        obtain ⟨u, r2⟩ := p2
        rw [hE] at H
        simp only [List.headD_cons] at H
        intro h6 q6 f6
        have S6 := S5.step q6 f6
        have o1 := S6.o1; have o2 := S6.o2; have o3 := S6.o3; have o4 := S6.o4; have o5 := S6.o5; have o6 := S6.o6; have n6 := S6.n
        have cx6 : Cl h6 ⟨h1.size, 0, none⟩ x.enc := f6.cl c4' (by show ¬ h1.size = b; omega)
        have cb6 : Cl h6 ⟨h2.size, 0, none⟩ (bgT [tok0, t, t2, t3, t4, t5, t6, tok0]) := f6.cl c5 (by show ¬ h2.size = b; omega)
        obtain ⟨Ao, co, bo, ro, hAo⟩ := S6.o
        have clo : Cl h6 ⟨go, 0, none⟩ [.slice Ao out.length co] := Cl.of_block bo fun j v hj => by rw [Nat.zero_add]; exact hj
        refine ⟨rfl, _, _, _, ld (clo.at_ 0 _ rfl) (by kernel_rfl), ?_⟩
        by_cases h64 : out.length = 64
        · rw [if_pos h64] at H
          exact br_t (by rw [h64]; rfl) ⟨_, bgIx _ 1 (by omega), _, _, _, _, _, ldS (vs := t.enc) (cl_elem cb6 rfl) (by kernel_rfl), fails_s t 102 (S6.up H)⟩
        · rw [if_neg h64] at H
          refine br_f (by simp; omega) ?_
          unfold syntax_Rules_1_j1
          refine ⟨_, _, _, _, _, _, _, _, _, _, _, _, ldS (vs := x.enc) cx6 (by kernel_rfl), _, _, _, _, _, _, _, _, _, _, _, _, _, _, _, _, _, _, _, _, _, _, _, _, _, _, _, _, _, _, _, _, _, _, _, _, _, _, _, _, ldS (vs := bgT [tok0, t, t2, t3, t4, t5, t6, tok0]) cb6 (by kernel_rfl), ?_⟩
          refine right_s (b := b) x tok0 t t2 t3 t4 t5 t6 tok0 ?_
          cases hM : rightM x [tok0, t, t2, t3, t4, t5, t6, tok0] with
          | some f => rw [hM] at H; exact S6.up H
          | none =>
            rw [hM] at H
            intro h7 e7
            have S7 := S6.ext e7
            have cx7 := cx6.ext e7
            have cb7 := cb6.ext e7
            have cs7 : Cl h7 ⟨gs, 0, none⟩ [.map (some gm)] := Cl.of_block S7.s fun j v hj => by rw [Nat.zero_add]; exact hj
            refine ⟨rfl, _, ld (cs7.at_ 0 _ rfl) (by kernel_rfl), _, ld (cx7.at_ 0 _ rfl) (by kernel_rfl), _, look_map S7.m x.id, ?_⟩
            by_cases hin : x.id ∈ (noteL out).map (·.1)
            · simp only [if_pos hin] at H
              have hp : 0 < lookI (noteL out) x.id := look_in (fun p hp => by
                unfold noteL at hp
                obtain ⟨y, _, rfl⟩ := List.mem_map.1 hp
                show (0 : Int) < 1
                decide) hin
              exact br_t (by simpa using hp) ⟨_, bgIx _ 1 (by omega), _, _, _, _, _, ldS (vs := t.enc) (cl_elem cb7 rfl) (by kernel_rfl), fails_s t 103 (S7.up H)⟩
            · simp only [if_neg hin] at H
              have hz := look_not hin
              have lk := look_map S7.m x.id
              rw [hz] at lk ⊢
              refine br_f (by decide) ⟨_, ld (cs7.at_ 0 _ rfl) (by kernel_rfl), _, ld (cx7.at_ 0 _ rfl) (by kernel_rfl), _, lk, ?_⟩
              have w1 : IntKind.i64.wrap ((0 : Int) + 1) = 1 := by decide
              show HU Tryz.prog (Instr.mapUpdate _ _ _ (.int .i64 (IntKind.i64.wrap ((0 : Int) + 1)))) h7 _
              rw [w1]
              refine updN S7.m undMap undInt hin 1 fun h8 m8 f8 z8 => ?_
              obtain ⟨Ao, co, bo7, ro7, hAo⟩ := S7.o
              have bo8 := f8.get bo7 (by omega)
              have clo8 : Cl h8 ⟨go, 0, none⟩ [.slice Ao out.length co] := Cl.of_block bo8 fun j v hj => by rw [Nat.zero_add]; exact hj
              have n7 := S7.n
              have cx8 : Cl h8 ⟨h1.size, 0, none⟩ x.enc := f8.cl cx7 (by show ¬ h1.size = gm; omega)
              refine ⟨_, _, _, ld (clo8.at_ 0 _ rfl) (by kernel_rfl), _, _, _, _, _, _, _, _, _, _, _, _, ldS (vs := x.enc) cx8 (by kernel_rfl), ?_⟩
              refine newC_i (cs := x.enc) fun h9 e9 c9 b9 z9 => ?_
              obtain ⟨i, z, hi, hsz, hb0, hb1, hz, hzl⟩ := rulInfo
              have hn9 : n0 ≤ h9.size := by omega
              have ro9 : RowC h9 75 Rul.enc 12 Ao co out := (ro7.keep f8 (fun k hk he => by have := hAo k hk; omega)).ext e9
              refine appF (enc := Rul.enc) (sz := 12) (h0 := h9.extract 0 n0) (fun _ => rfl) (fun _ => rfl) undRules hi hz hzl hsz hb0 hb1 (ext_take hn9) ro9 (fun k hk => by rw [take_size hn9]; exact hAo k hk) c9 (by have := S7.ln; omega) fun h10 A' c' e10 r10 hF f10 => ?_
              refine ⟨_, _, _, rfl, ?_⟩
              have bo10 : h10[go]? = some (.cells [.slice Ao out.length co].toArray 22 (0, 0)) := f10.get (by rw [e9.old _ (by omega)]; exact bo8) (fun hk => by have := hAo _ hk; omega)
              refine HU_box (us := [.slice A' (out ++ [x]).length c']) bo10 rfl rfl (by kernel_rfl) rfl fun h11 c11 b11 f11 z11 => ?_
              have hA' : ∀ k, blk A' k → n0 ≤ k := fun k hk => by have := hF k hk; rwa [take_size hn9] at this
              have EB : Ext hB h11 := extOwn (extOwn ((extOwn S7.e f8 (fun k hk => by omega)).trans e9) f10 (fun k hk => by have := hAo k hk; omega)) f11 (fun k hk => by omega)
              have s10 := f10.size
              refine H h11 ⟨EB, by omega, ?_, S7.hA, o1, o2, o3, o4, o5, o6, ⟨A', c', b11, r10.keep f11 (fun k hk he => by have := hA' k hk; omega), hA'⟩, ?_, ?_, ?_, ?_⟩
              · exact (((S7.q.keep f8 (by omega) (fun k hk he => by have := S7.hA k hk; omega)).ext e9).keep f10 (fun hk => by have := hAo _ hk; omega) (fun k hk he => by have := hAo _ he; have := S7.hA k hk; omega)).keep f11 (by omega) (fun k hk he => by have := S7.hA k hk; omega)
              · exact f11.get (f10.get (by rw [e9.old _ (by omega)]; exact f8.get S7.s (by omega)) (fun hk => by have := hAo _ hk; omega)) (by omega)
              · have := (((m8.ext e9).keep f10 (fun hk => by have := hAo _ hk; omega)).keep f11 (by omega))
                unfold noteL at this ⊢
                rw [List.map_append]
                exact this
              · exact f11.get (f10.get (by rw [e9.old _ (by omega)]; exact f8.get S7.er (by omega)) (fun hk => by have := hAo _ hk; omega)) (by omega)
              · have := S7.ln
                rw [List.length_append]
                simp
                omega
end Go.Proofs.YtfdpccbajaiepaaGreatDoor.Lx

/- Every text is lexed: lexM is total. -/
namespace Go.Proofs.YtfdpccbajaiepaaGreatDoor.Lx
open Go
set_option linter.unusedVariables false
def todo (r : List UInt8) (col : Nat) : Nat := 2 * r.length + (if col = 0 then 0 else 1)
theorem todo_lt {r : List UInt8} {u col col' : Nat} (hu : 0 < u) (hl : u ≤ r.length) : todo (r.drop u) col' < todo r col := by
  unfold todo
  rw [List.length_drop]
  split <;> split <;> omega
theorem ends_todo {r0 r : List UInt8} {u line col c0 : Nat} (hr : r = r0.drop u) (hu : u ≤ r0.length) (hc : u = 0 → col = c0) {t : TokM} {u' line' col' : Nat} {w : Option Flt} (h : endsM r u line col = .tok t u' line' col' w) : todo (r0.drop u') col' < todo r0 c0 := by
  cases r with
  | nil =>
    simp only [endsM] at h
    split at h
    · cases h
    · rename_i hcol
      injection h with _ h1 _ h2 _
      subst h1 h2
      rcases Nat.eq_zero_or_pos u with h0 | h0
      · have := hc h0
        subst h0 this
        unfold todo
        rw [if_neg hcol]
        simp
      · exact todo_lt h0 hu
  | cons c r' =>
    simp only [endsM] at h
    injection h with _ h1 _ h2 _
    subst h1 h2
    have : (r0.drop u).length = r'.length + 1 := by rw [← hr]; rfl
    rw [List.length_drop] at this
    exact todo_lt (by omega) (by omega)
theorem check_u {k : Nat} {tx : List UInt8} {u line col c2 : Nat} {t : TokM} {u' line' col' : Nat} {w : Option Flt} (h : checkM k tx u line col c2 = .tok t u' line' col' w) : u' = u := by
  unfold checkM at h
  split at h
  · cases h
  · split at h
    · split at h
      · cases h
      · injection h with _ h1; exact h1.symm
    · injection h with _ h1; exact h1.symm
theorem tw_le (p : UInt8 → Bool) (r : List UInt8) : (r.takeWhile p).length ≤ r.length := (List.takeWhile_sublist p).length_le
theorem read_todo {r : List UInt8} {line col : Nat} {t : TokM} {u' line' col' : Nat} {w : Option Flt} (h : readM r line col = .tok t u' line' col' w) : todo (r.drop u') col' < todo r col := by
  have hb : blanks r ≤ r.length := tw_le _ _
  simp only [readM] at h
  split at h
  · rename_i he
    exact ends_todo (r0 := r) he.symm hb (fun h0 => by omega) h
  · rename_i c rr he
    have hlen : (r.drop (blanks r)).length = rr.length + 1 := by rw [he]; rfl
    rw [List.length_drop] at hlen
    have hll : lineLen (r.drop (blanks r)) ≤ (r.drop (blanks r)).length := tw_le _ _
    rw [List.length_drop] at hll
    split at h
    · exact ends_todo (r0 := r) (by rw [List.drop_drop]) (by omega) (fun h0 => by omega) h
    · split at h
      · exact ends_todo (r0 := r) rfl hb (fun h0 => by omega) h
      · split at h
        · cases h
        · have hu := check_u h
          have hm : 0 < (if kindB c = 3 then 1 else rowLen (kindB c) (r.drop (blanks r))) ∧ (if kindB c = 3 then 1 else rowLen (kindB c) (r.drop (blanks r))) ≤ r.length - blanks r := by
            split
            · omega
            · have h1 : rowLen (kindB c) (r.drop (blanks r)) ≤ (r.drop (blanks r)).length := tw_le _ _
              rw [List.length_drop] at h1
              refine ⟨?_, h1⟩
              rw [he]
              simp [rowLen]
          rw [hu]
          exact todo_lt (by omega) (by omega)
theorem lexL_some (f : Nat) : ∀ (r : List UInt8) (line col : Nat), todo r col < f → ∃ R, lexL f r line col = some R := by
  induction f with
  | zero => intro r line col h; omega
  | succ f ih =>
    intro r line col h
    unfold lexL
    cases hR : readM r line col with
    | stop => exact ⟨_, rfl⟩
    | bad e => exact ⟨_, rfl⟩
    | tok t u line' col' w =>
      cases w with
      | some w => exact ⟨_, rfl⟩
      | none =>
        have := read_todo hR
        obtain ⟨R, hR2⟩ := ih (r.drop u) line' col' (by omega)
        simp only [hR2]
        cases R with
        | error e => exact ⟨_, rfl⟩
        | ok l => exact ⟨_, rfl⟩
theorem lexM_some (s : List UInt8) : ∃ R, lexM s = some R := by
  unfold lexM
  split
  · exact ⟨_, rfl⟩
  · split
    · exact ⟨_, rfl⟩
    · exact lexL_some _ _ _ _ (by unfold todo; simp)
end Go.Proofs.YtfdpccbajaiepaaGreatDoor.Lx

/- The tokens of a text: the last one ends a line; how many there are. -/
namespace Go.Proofs.YtfdpccbajaiepaaGreatDoor.Lx
open Go
set_option linter.unusedVariables false
theorem check_col {k : Nat} {tx : List UInt8} {u line col c2 : Nat} {t : TokM} {u' line' col' : Nat} {w : Option Flt} (h : checkM k tx u line col c2 = .tok t u' line' col' w) : col' = c2 := by
  unfold checkM at h
  split at h
  · cases h
  · split at h
    · split at h
      · cases h
      · injection h with _ _ _ h1; exact h1.symm
    · injection h with _ _ _ h1; exact h1.symm
theorem check_stop (k : Nat) (tx : List UInt8) (u line col c2 : Nat) : checkM k tx u line col c2 ≠ .stop := by
  unfold checkM
  split
  · simp
  · split
    · split <;> simp
    · simp
theorem ends_kind {r : List UInt8} {u line col : Nat} {t : TokM} {u' line' col' : Nat} {w : Option Flt} (h : endsM r u line col = .tok t u' line' col' w) : t.kind = 4 := by
  cases r with
  | nil =>
    simp only [endsM] at h
    split at h
    · cases h
    · injection h with h1; rw [← h1]
  | cons c r' =>
    simp only [endsM] at h
    injection h with h1; rw [← h1]
theorem read_kind {r : List UInt8} {line col : Nat} {t : TokM} {u' line' col' : Nat} {w : Option Flt} (h : readM r line col = .tok t u' line' col' w) (h0 : col' = 0) : t.kind = 4 := by
  simp only [readM] at h
  split at h
  · exact ends_kind h
  · rename_i c rr he
    split at h
    · exact ends_kind h
    · split at h
      · exact ends_kind h
      · split at h
        · cases h
        · rename_i h1 h2 hk
          have hc := check_col h
          exfalso
          have hm : 0 < (if kindB c = 3 then 1 else rowLen (kindB c) (r.drop (blanks r))) := by
            split
            · omega
            · rw [he]; simp [rowLen]
          omega
theorem read_stop {r : List UInt8} {line col : Nat} (h : readM r line col = .stop) : col = 0 := by
  have e : ∀ (r : List UInt8) (u line col : Nat), endsM r u line col = .stop → col = 0 := by
    intro r u line col h
    cases r with
    | nil =>
      simp only [endsM] at h
      split at h
      · assumption
      · cases h
    | cons c r' => simp only [endsM] at h; cases h
  simp only [readM] at h
  split at h
  · have := e _ _ _ _ h; omega
  · split at h
    · have := e _ _ _ _ h; omega
    · split at h
      · have := e _ _ _ _ h; omega
      · split at h
        · cases h
        · exact absurd h (check_stop _ _ _ _ _ _)
theorem lexL_good (f : Nat) : ∀ (r : List UInt8) (line col : Nat) (l : List TokM), lexL f r line col = some (.ok l) → (l = [] → col = 0) ∧ (∀ e, l.getLast? = some e → e.kind = 4) ∧ l.length ≤ todo r col := by
  induction f with
  | zero => intro r line col l h; cases h
  | succ f ih =>
    intro r line col l h
    unfold lexL at h
    cases hR : readM r line col with
    | stop =>
      rw [hR] at h
      simp only [Option.some.injEq, Except.ok.injEq] at h
      subst h
      exact ⟨fun _ => read_stop hR, by simp, by simp⟩
    | bad e => rw [hR] at h; simp at h
    | tok t u line' col' w =>
      rw [hR] at h
      cases w with
      | some w => simp at h
      | none =>
        simp only at h
        cases hL : lexL f (r.drop u) line' col' with
        | none => rw [hL] at h; simp at h
        | some R =>
          cases R with
          | error e => rw [hL] at h; simp at h
          | ok l' =>
            rw [hL] at h
            simp only [Option.some.injEq, Except.ok.injEq] at h
            subst h
            obtain ⟨h1, h2, h3⟩ := ih _ _ _ _ hL
            have ht := read_todo hR
            refine ⟨by simp, ?_, by simp; omega⟩
            cases l' with
            | nil =>
              intro e he
              simp at he
              subst he
              exact read_kind hR (h1 rfl)
            | cons a l' => intro e he; rw [List.getLast?_cons_cons] at he; exact h2 e he
theorem lexM_good {s : List UInt8} {ts : List TokM} (h : lexM s = some (.ok ts)) : (∀ e, ts.getLast? = some e → e.kind = 4) ∧ ts.length ≤ 900000 := by
  unfold lexM at h
  split at h
  · cases h
  · split at h
    · cases h
    · obtain ⟨_, h2, h3⟩ := lexL_good _ _ _ _ _ h
      refine ⟨h2, ?_⟩
      unfold todo at h3
      simp at h3
      omega
end Go.Proofs.YtfdpccbajaiepaaGreatDoor.Lx

/- Printed by sx.py: words over the heap alone for Go functions, and that each call does what its word says. -/
namespace Go.Proofs.YtfdpccbajaiepaaGreatDoor.Sxp.Fx
open Go Go.RowKit Go.Proofs.YtfdpccbajaiepaaGreatDoor.Sx
set_option linter.unusedVariables false
set_option maxRecDepth 100000
set_option maxHeartbeats 4000000

/-! ### quintet/syntax.Rules: function 5 -/
set_option maxRecDepth 100000 in
def syntax_Rules (s1 : ByteArray) (h : Hp) (K : Value → Hp → Prop) : Prop :=
  newC h (.cells #[(.slice none 0 0)] 22 (0, 0)) fun a3 h2 => 
  HW Tryz.prog (Instr.makeMap 79 none) h2 fun r5 h4 =>
  ∃ v6 : Value, r5 = v6 ∧ 
  newC h4 (.cells #[(.map none)] 79 (0, 0)) fun a8 h7 => 
  HU Tryz.prog (Instr.storeAt 79 (.pointer (some a8)) v6) h7 fun h9 => 
  CallsH Tryz.prog 21 #[(.string s1), (.func (.func 22) #[] #[(.pointer (some a3)), (.pointer (some a8))])] h9 fun r11 h10 =>
  ∃ v12 : Value, r11 = v12 ∧ 
  ∃ b13 : Bool, PV Tryz.prog (binOp .neq 24 v12 .nilIface) (.bool b13) ∧
  br b13
  (K (.tuple #[(.slice none 0 0), v12]) h10)
  (∃ A14 : Option Addr, ∃ l14 : Nat, ∃ c14 : Nat, HV Tryz.prog (Instr.loadAt 22 (.pointer (some a3))) h10 (.slice A14 l14 c14) ∧ 
  K (.tuple #[(.slice A14 l14 c14), .nilIface]) h10)
def syntax_Rules_lp (i : Nat) (Q : Qx) (tm : Tm) (h : Hp) : Prop := False
def syntax_Rules_cut (i : Nat) : Option (List Nat) := none
set_option maxRecDepth 100000 in
theorem syntax_Rules_eq (s1 : ByteArray) (h : Hp) (K : Value → Hp → Prop) : syntax_Rules s1 h K =
    codeWp Tryz.prog 15 false syntax_Rules_lp syntax_Rules_cut (bodyOf Tryz.f5) 1 (endQ Tryz.prog Tryz.f5.results.toList K) (argTm [(.string s1)]) h := by kernel_rfl
set_option maxRecDepth 100000 in
theorem syntax_Rules_ok (s1 : ByteArray) {h : Hp} {K : Value → Hp → Prop} (H : syntax_Rules s1 h K) : CallsH Tryz.prog 5 #[(.string s1)] h K :=
  calls_of (pn := false) (args := [(.string s1)]) (n := 15) (lp := syntax_Rules_lp) (cut := syntax_Rules_cut) Tryz.func5 (c := bodyOf Tryz.f5) (by kernel_rfl) (by kernel_rfl) (by kernel_rfl) (good_by (pn := false) (c := (bodyOf Tryz.f5)) (i := 1) (l := []) (by kernel_rfl) (fun _ h => by cases h))
    (Eq.mp (syntax_Rules_eq s1 h K) H)

end Go.Proofs.YtfdpccbajaiepaaGreatDoor.Sxp.Fx

/- Rules: what a text that is lexed is read as. -/
namespace Go.Proofs.YtfdpccbajaiepaaGreatDoor.Lx
open Go Go.RowKit Go.Proofs.YtfdpccbajaiepaaGreatDoor.Sx Go.Proofs.YtfdpccbajaiepaaGreatDoor.Sxp Go.Proofs.YtfdpccbajaiepaaGreatDoor.Sxp.Fx Go.Proofs.YtfdpccbajaiepaaGreatDoor.Fs
set_option linter.unusedVariables false
set_option linter.unusedSimpArgs false
set_option maxRecDepth 10000
theorem numR_lt {mx v : Int} {r r2 : List TokM} (h : numR mx r = .ok (v, r2)) : r2.length < r.length := by
  cases r with
  | nil => cases h
  | cons t r =>
    rw [numR_cons] at h
    cases hR : numM t mx with
    | error f => rw [hR] at h; cases h
    | ok x => rw [hR] at h; cases h; simp
theorem actR_lt {v : Int} {r r2 : List TokM} (h : actR r = .ok (v, r2)) : r2.length < r.length := by
  cases r with
  | nil => cases h
  | cons t r =>
    unfold actR at h
    simp only at h
    repeat' split at h
    all_goals (cases h)
    all_goals simp
theorem addrL_lt (j : Nat) : ∀ {v x : Int} {r r2 : List TokM}, addrL j v r = .ok (x, r2) → r2.length ≤ r.length := by
  induction j with
  | zero =>
    intro v x r r2 h
    unfold addrL at h
    cases h
    exact Nat.le_refl _
  | succ j ih =>
    intro v x r r2 h
    cases r with
    | nil => unfold addrL at h; cases h
    | cons t r =>
      unfold addrL at h
      split at h
      · split at h
        · cases h
        · rename_i y r3 hR
          have h1 := numR_lt hR
          have h2 := ih h
          simp
          omega
      · cases h
theorem addrR_lt {x : Int} {r r2 : List TokM} (h : addrR r = .ok (x, r2)) : r2.length < r.length := by
  unfold addrR at h
  split at h
  · cases h
  · rename_i y r3 hR
    have h1 := numR_lt hR
    have h2 := addrL_lt 3 h
    omega
theorem prefR_lt {v : Int × Int} {r r2 : List TokM} (h : prefR r = .ok (v, r2)) : r2.length < r.length := by
  cases r with
  | nil => cases h
  | cons t r =>
    unfold prefR at h
    simp only at h
    split at h
    · cases h; simp
    · split at h
      · cases h
      · cases h
      · rename_i a t2 r3 hR
        have h1 := addrR_lt hR
        split at h
        · split at h
          · cases h
          · rename_i l r4 hN
            have h2 := numR_lt hN
            cases h
            simp at h1 ⊢
            omega
        · cases h; exact h1
theorem spanR_lt {v : Int × Int} {r r2 : List TokM} (h : spanR r = .ok (v, r2)) : r2.length < r.length := by
  cases r with
  | nil => cases h
  | cons t r =>
    unfold spanR at h
    simp only at h
    split at h
    · cases h; simp
    · split at h
      · cases h
      · cases h
      · rename_i a t2 r3 hR
        have h1 := numR_lt hR
        split at h
        · split at h
          · cases h
          · rename_i l r4 hN
            have h2 := numR_lt hN
            cases h
            simp at h1 ⊢
            omega
        · cases h; exact h1
theorem maskR_lt {v : Int × Int} {r r2 : List TokM} (h : maskR r = .ok (v, r2)) : r2.length < r.length := by
  cases r with
  | nil => cases h
  | cons t r =>
    unfold maskR at h
    simp only at h
    split at h
    · cases h; simp
    · split at h
      · cases h
      · cases h
      · rename_i a t2 r3 hR
        have h1 := numR_lt hR
        split at h
        · split at h
          · cases h
          · rename_i l r4 hN
            have h2 := numR_lt hN
            cases h
            simp at h1 ⊢
            omega
        · cases h; exact h1
theorem endR_lt {v : Unit} {r r2 : List TokM} (h : endR r = .ok (v, r2)) : r2.length < r.length := by
  cases r with
  | nil => cases h
  | cons t r =>
    unfold endR at h
    simp only at h
    split at h
    · cases h; simp
    · cases h
theorem ruleR_lt {p : Rul × List TokM} {r r7 : List TokM} (h : ruleR r = .ok (p, r7)) : r7.length < r.length := by
  unfold ruleR at h
  obtain ⟨_, _, a1, h⟩ := then_ok h
  obtain ⟨_, _, a2, h⟩ := then_ok h
  obtain ⟨_, _, a3, h⟩ := then_ok h
  obtain ⟨_, _, a4, h⟩ := then_ok h
  obtain ⟨_, _, a5, h⟩ := then_ok h
  obtain ⟨_, _, a6, h⟩ := then_ok h
  obtain ⟨_, _, a7, h⟩ := then_ok h
  cases h
  have := numR_lt a1; have := actR_lt a2; have := prefR_lt a3; have := prefR_lt a4; have := spanR_lt a5; have := spanR_lt a6; have := maskR_lt a7
  omega
theorem end_good {v : Unit} {r r2 : List TokM} (h : endR r = .ok (v, r2)) (g : Good r) : Good r2 := by
  cases r with
  | nil => cases h
  | cons t r =>
    unfold endR at h
    simp only at h
    split at h
    · cases h; exact g.rest
    · cases h
theorem line_good {out out' : List Rul} {r r' : List TokM} (h : lineR out r = .ok (out', r')) (g : Good r) : Good r' ∧ r'.length < r.length := by
  unfold lineR at h
  obtain ⟨p, r1, a1, h⟩ := then_ok h
  obtain ⟨u, r2, a2, h⟩ := then_ok h
  have l1 := ruleR_lt a1
  have l2 := endR_lt a2
  have g2 := end_good a2 (good_rule g _ _ a1).1
  split at h
  · cases h
  · split at h
    · cases h
    · split at h
      · cases h
      · cases h; exact ⟨g2, by omega⟩
theorem callFP2 {P : Program} {f : FuncId} {a b c : Value} (hen : enters P f = true) {h : Hp} {K : Value → Hp → Prop} {KP : Kp} (H : CallsP P f #[a, b, c] h K KP) : HNP P (callS (.func (.func f) #[] #[b, c]) #[a]) h K KP := callFP (lb := #[b, c]) hen H
theorem callFP1 {P : Program} {f : FuncId} {a b : Value} (hen : enters P f = true) {h : Hp} {K : Value → Hp → Prop} {KP : Kp} (H : CallsP P f #[a, b] h K KP) : HNP P (callS (.func (.func f) #[] #[b]) #[a]) h K KP := callFP (lb := #[b]) hen H
theorem ent22 : enters Tryz.prog 22 = true := by kernel_rfl
def rulesR (ts : List TokM) : Except Flt (List Rul) := linesR lineR (ts.length + 1) [] ts
theorem Rules_s {h : Hp} {s : List UInt8} {ts : List TokM} (hl : lexM s = some (.ok ts)) {K : Value → Hp → Prop}
    (H : match rulesR ts with
      | .error f => ∀ h' g, Ext h h' → h.size ≤ g → FltC h' g f → K (.tuple #[.slice none 0 0, .iface 27 (.pointer (some ⟨g, 0, none⟩))]) h'
      | .ok l => ∀ h' A c, Ext h h' → RowC h' 75 Rul.enc 12 A c l → Fresh h A → K (.tuple #[.slice A l.length c, .nilIface]) h') :
    CallsH Tryz.prog 5 #[.string (bs s)] h K := by
  refine syntax_Rules_ok _ ?_
  unfold syntax_Rules
  refine newC_i (cs := [.slice none 0 0]) fun h1 e1 c1 b1 z1 => ?_
  refine makeN fun h2 e2 z2 m2 => ⟨_, rfl, ?_⟩
  refine newC_i (cs := [.map none]) fun h3 e3 c3 b3 z3 => ?_
  refine HU_box (us := [.map (some h1.size)]) b3 rfl rfl (by kernel_rfl) rfl fun h4 c4 b4 f4 z4 => ?_
  have E4 : Ext h h4 := extOwn ((e1.trans e2).trans e3) f4 (fun k hk => by omega)
  obtain ⟨hg, hlen⟩ := lexM_good hl
  have b1' : h4[h.size]? = some (.cells [.slice none 0 0].toArray 22 (0, 0)) := f4.get (by rw [e3.old _ (by omega), e2.old _ (by omega)]; exact b1) (by omega)
  have m4 : MapN h4 h1.size [] := (m2.ext e3).keep f4 (by omega)
  refine Read_s E4 hl hg hlen _ lineR [] (fun b A c => RlS h (b + 1) h.size h2.size h1.size h4.size b A c ts) (fun h5 b A c B => ⟨⟨?_, ?_, ?_, ?_⟩, ?_⟩) ?_ ?_
  · exact fun a r h6 S => S.q
  · exact fun a t r h6 h7 _ S q f => S.step q f
  · exact fun a t r h6 K KP S g hk HK => callFP2 ent22 (line_s S g HK)
  · exact fun a r a' r' hs g => line_good hs g
  · have e5 := B.e
    have ob := B.ob
    have z := B.z
    have zz := e5.size
    exact { e := E4.trans e5, n := by omega, q := B.q, hA := B.oA, o1 := Nat.le_refl _, o2 := by omega, o3 := by omega, o4 := by omega, o5 := ob, o6 := by omega
            o := ⟨none, 0, by rw [e5.old _ (by omega)]; exact b1', RowC.nil, fun k hk => by obtain ⟨a, ha, _⟩ := hk; cases ha⟩
            s := by rw [e5.old _ (by omega)]; exact b4
            m := m4.ext e5, er := B.er, ln := by simp }
  · exact fun b A c a r h6 S => S.er
  · unfold rulesR at H
    cases hR : linesR lineR (ts.length + 1) [] ts with
    | error f =>
      rw [hR] at H
      intro h5 g e5 hg hf
      refine ⟨_, rfl, true, fun w => ?_, br_t rfl (H h5 g e5 (by have := E4.size; omega) hf)⟩
      exact pureRun_run _ _ _ (by kernel_rfl) w
    | ok l =>
      rw [hR] at H
      intro b A c h5 S
      obtain ⟨Ao, co, bo, ro, hAo⟩ := S.o
      have clo : Cl h5 ⟨h.size, 0, none⟩ [.slice Ao l.length co] := Cl.of_block bo fun j v hj => by rw [Nat.zero_add]; exact hj
      have o1 := S.o1; have o2 := S.o2; have o3 := S.o3; have o4 := S.o4; have o5 := S.o5
      refine ⟨_, rfl, false, fun w => pureRun_run _ _ _ (by kernel_rfl) w, br_f rfl ⟨_, _, _, ld (clo.at_ 0 _ rfl) (by kernel_rfl), ?_⟩⟩
      exact H h5 Ao co S.e ro (fun k hk => by have := hAo k hk; omega)
end Go.Proofs.YtfdpccbajaiepaaGreatDoor.Lx

/- Numerals: their digits, their length, what they are worth to the lexer. -/
namespace Go.Proofs.YtfdpccbajaiepaaGreatDoor.Lx
open Go
set_option linter.unusedVariables false
abbrev dec (u : Nat) : List UInt8 := Lib.decDigits u
theorem dec_one {u : Nat} (h : u < 10) : dec u = [UInt8.ofNat (48 + u)] := Lib.decDigits_one h
theorem dec_step {u : Nat} (h : ¬ u < 10) : dec u = dec (u / 10) ++ [UInt8.ofNat (48 + u % 10)] := by
  show Lib.decDigits u = _
  rw [Lib.decDigits, dif_neg h]
theorem dg_toNat {d : Nat} (h : d < 10) : (UInt8.ofNat (48 + d)).toNat = 48 + d := by
  rw [UInt8.toNat_ofNat']
  omega
theorem kind_dg {d : Nat} (h : d < 10) : kindB (UInt8.ofNat (48 + d)) = 2 := by
  unfold kindB
  rw [dg_toNat h, if_neg (by omega), if_pos (by omega)]
theorem dec_ne (u : Nat) : dec u ≠ [] := by
  by_cases h : u < 10
  · rw [dec_one h]; simp
  · rw [dec_step h]; simp
theorem dec_kind (u : Nat) : ∀ c ∈ dec u, kindB c = 2 := by
  induction u using Nat.strongRecOn with
  | _ u ih =>
    by_cases h : u < 10
    · rw [dec_one h]
      intro c hc
      simp only [List.mem_singleton] at hc
      subst hc
      exact kind_dg h
    · rw [dec_step h]
      intro c hc
      rcases List.mem_append.1 hc with hc | hc
      · exact ih (u / 10) (by omega) c hc
      · simp only [List.mem_singleton] at hc
        subst hc
        exact kind_dg (Nat.mod_lt _ (by omega))
theorem dec_len : ∀ (k u : Nat), u < 10 ^ (k + 1) → (dec u).length ≤ k + 1
  | k, u, hu => by
    by_cases h : u < 10
    · rw [dec_one h]; simp
    · rw [dec_step h]
      cases k with
      | zero => simp at hu; omega
      | succ k =>
        have hu' : u / 10 < 10 ^ (k + 1) := by rw [Nat.pow_succ 10 (k + 1)] at hu; omega
        have := dec_len k (u / 10) hu'
        simp
        omega
theorem dec_len10 {u : Nat} (h : u < 4294967296) : (dec u).length ≤ 10 := dec_len 9 u (Nat.lt_trans h (by decide))
theorem numV_app (l : List UInt8) (c : UInt8) : ∀ v : Int, numV (l ++ [c]) v = min (10 * numV l v + ((c.toNat : Int) - 48)) 8589934592 := by
  induction l with
  | nil => intro v; rfl
  | cons x l ih => intro v; exact ih _
theorem dec_val (u : Nat) (h : u < 4294967296) : numV (dec u) 0 = (u : Int) := by
  induction u using Nat.strongRecOn with
  | _ u ih =>
    by_cases h1 : u < 10
    · rw [dec_one h1]
      show min (10 * 0 + (((UInt8.ofNat (48 + u)).toNat : Int) - 48)) 8589934592 = _
      rw [dg_toNat h1]
      omega
    · rw [dec_step h1, numV_app, ih (u / 10) (by omega) (by omega), dg_toNat (Nat.mod_lt _ (by omega))]
      omega
theorem dec_head (u : Nat) (h : 1 ≤ u) : (dec u).head? ≠ some 48 := by
  induction u using Nat.strongRecOn with
  | _ u ih =>
    by_cases h1 : u < 10
    · rw [dec_one h1]
      simp only [List.head?_cons, ne_eq, Option.some.injEq]
      intro e
      have := congrArg UInt8.toNat e
      rw [dg_toNat h1] at this
      have : (48 : UInt8).toNat = 48 := rfl
      omega
    · rw [dec_step h1]
      have hi := ih (u / 10) (by omega) (by omega)
      cases hd : dec (u / 10) with
      | nil => exact absurd hd (dec_ne _)
      | cons c l => rw [hd] at hi; exact hi
theorem dec_good (u : Nat) (h : u < 4294967296) : badNum (dec u) = false := by
  unfold badNum
  rw [dec_val u h]
  have e1 : decide ((u : Int) ≥ 4294967296) = false := by simp; omega
  rw [e1]
  by_cases h0 : u < 10
  · rw [dec_one h0]; simp
  · have := dec_head u (by omega)
    simp [this]
end Go.Proofs.YtfdpccbajaiepaaGreatDoor.Lx

/- Lexing a text that is known piece by piece. -/
namespace Go.Proofs.YtfdpccbajaiepaaGreatDoor.Lx
open Go
set_option linter.unusedVariables false
theorem lexL_mono (f : Nat) : ∀ (r : List UInt8) (line col : Nat) (x : Except Flt (List TokM)), lexL f r line col = some x → ∀ f', f ≤ f' → lexL f' r line col = some x := by
  induction f with
  | zero => intro r line col x h; cases h
  | succ f ih =>
    intro r line col x h f' hf
    cases f' with
    | zero => omega
    | succ f' =>
      unfold lexL at h ⊢
      cases hR : readM r line col with
      | stop => rw [hR] at h; exact h
      | bad e => rw [hR] at h; exact h
      | tok t u line' col' w =>
        rw [hR] at h
        cases w with
        | some w => exact h
        | none =>
          simp only at h ⊢
          cases hL : lexL f (r.drop u) line' col' with
          | none => rw [hL] at h; simp at h
          | some y => rw [ih _ _ _ _ hL f' (by omega)]; rw [hL] at h; exact h
/-- This text is lexed to tokens of which P holds. -/
def Lexes (s : List UInt8) (line col : Nat) (P : List TokM → Prop) : Prop := ∃ f ts, lexL f s line col = some (.ok ts) ∧ P ts
theorem Lexes.mono {s : List UInt8} {line col : Nat} {P Q : List TokM → Prop} (h : Lexes s line col P) (hm : ∀ ts, P ts → Q ts) : Lexes s line col Q := by
  obtain ⟨f, ts, h1, h2⟩ := h
  exact ⟨f, ts, h1, hm ts h2⟩
theorem Lexes.read {s : List UInt8} {P : List TokM → Prop} (h : Lexes s 1 0 P) (hl : s.length ≤ 65536) (hm : lineLen s ≤ 200) : ∃ ts, lexM s = some (.ok ts) ∧ P ts := by
  obtain ⟨f, ts, h1, h2⟩ := h
  refine ⟨ts, ?_, h2⟩
  unfold lexM
  rw [if_neg (by omega), if_neg (by omega)]
  obtain ⟨R, hR⟩ := lexL_some (2 * s.length + 3) s 1 0 (by unfold todo; simp)
  have a := lexL_mono _ _ _ _ _ h1 (f + (2 * s.length + 3)) (by omega)
  have b := lexL_mono _ _ _ _ _ hR (f + (2 * s.length + 3)) (by omega)
  rw [hR]
  exact b.symm.trans a
theorem lex_tok {s : List UInt8} {line col : Nat} {P : List TokM → Prop} {t : TokM} {u line' col' : Nat} (hr : readM s line col = .tok t u line' col' none) (h : Lexes (s.drop u) line' col' fun ts => P (t :: ts)) : Lexes s line col P := by
  obtain ⟨f, ts, h1, h2⟩ := h
  refine ⟨f + 1, t :: ts, ?_, h2⟩
  unfold lexL
  rw [hr]
  simp only [h1]
theorem lex_stop {line : Nat} {P : List TokM → Prop} (h : P []) : Lexes [] line 0 P := ⟨1, [], rfl, h⟩
theorem read_blank {c : UInt8} {r : List UInt8} {line col : Nat} (hc : blankB c = true) : readM (c :: r) line col = (match readM r line (col + 1) with | .tok t u l c w => .tok t (u + 1) l c w | x => x) := by
  have hb : blanks (c :: r) = blanks r + 1 := by unfold blanks; rw [List.takeWhile_cons, hc]; rfl
  have hd : (c :: r).drop (blanks (c :: r)) = r.drop (blanks r) := by rw [hb]; rfl
  have ee : ∀ (x : List UInt8) (u n line : Nat), endsM x (u + 1) line n = (match endsM x u line n with | .tok t u l c w => .tok t (u + 1) l c w | x => x) := by
    intro x u n line
    cases x with
    | nil => simp only [endsM]; split <;> rfl
    | cons a x => simp only [endsM]
  have cc : ∀ (k : Nat) (tx : List UInt8) (u line n m : Nat), checkM k tx (u + 1) line n m = (match checkM k tx u line n m with | .tok t u l c w => .tok t (u + 1) l c w | x => x) := by
    intro k tx u line n m
    unfold checkM
    split
    · rfl
    · split
      · split <;> rfl
      · rfl
  simp only [readM]
  rw [hd, hb]
  have e1 : col + (blanks r + 1) = col + 1 + blanks r := by omega
  rw [e1]
  split
  · exact ee _ _ _ _
  · rename_i d rr he
    split
    · have := ee ((r.drop (blanks r)).drop (lineLen (r.drop (blanks r)))) (blanks r + lineLen (r.drop (blanks r))) (col + 1 + blanks r + lineLen (r.drop (blanks r))) line
      rw [show blanks r + 1 + lineLen (r.drop (blanks r)) = blanks r + lineLen (r.drop (blanks r)) + 1 by omega]
      exact this
    · split
      · exact ee _ _ _ _
      · split
        · have e3 : ((col : Int) + ((blanks r + 1 : Nat) : Int) + 1) = ((col + 1 : Nat) : Int) + (blanks r : Int) + 1 := by omega
          rw [e3]
        · have e2 : ∀ m, blanks r + 1 + m = blanks r + m + 1 := fun m => by omega
          rw [e2]
          exact cc _ _ _ _ _ _
theorem lex_blank {c : UInt8} {r : List UInt8} {line col : Nat} {P : List TokM → Prop} (hc : blankB c = true) (h : Lexes r line (col + 1) P) : Lexes (c :: r) line col P := by
  obtain ⟨f, ts, h1, h2⟩ := h
  refine ⟨f, ts, ?_, h2⟩
  cases f with
  | zero => cases h1
  | succ f =>
    unfold lexL at h1 ⊢
    rw [read_blank hc]
    cases hR : readM r line (col + 1) with
    | stop => rw [hR] at h1; exact h1
    | bad e => rw [hR] at h1; exact h1
    | tok t u line' col' w =>
      rw [hR] at h1
      cases w with
      | none => exact h1
      | some w => exact h1
theorem row_app {k : Nat} {l r : List UInt8} (hl : ∀ c ∈ l, kindB c = k) (hr : ∀ c, r.head? = some c → kindB c ≠ k) : rowLen k (l ++ r) = l.length := by
  unfold rowLen
  induction l with
  | nil =>
    cases r with
    | nil => rfl
    | cons c r =>
      have := hr c rfl
      rw [List.nil_append, List.takeWhile_cons]
      simp [this]
  | cons c l ih =>
    rw [List.cons_append, List.takeWhile_cons]
    have : (kindB c == k) = true := by simp [hl c (by simp)]
    rw [this]
    simp only [if_true, List.length_cons]
    rw [ih fun c hc => hl c (by simp [hc])]
theorem kind_not {c : UInt8} (h : kindB c ≠ 0) : blankB c = false ∧ c.toNat ≠ 35 ∧ c.toNat ≠ 10 := by
  unfold kindB at h
  unfold blankB
  split at h
  · refine ⟨?_, by omega, by omega⟩
    simp; omega
  · split at h
    · refine ⟨?_, by omega, by omega⟩
      simp; omega
    · split at h
      · refine ⟨?_, by omega, by omega⟩
        simp; omega
      · exact absurd rfl h
theorem read_row {k : Nat} {c : UInt8} {l r : List UInt8} {line col : Nat} (hk : k = 1 ∨ k = 2) (hl : ∀ x ∈ c :: l, kindB x = k) (hr : ∀ x, r.head? = some x → kindB x ≠ k) :
    readM (c :: l ++ r) line col = checkM k (c :: l) (c :: l).length line (col + 1) (col + (c :: l).length) := by
  have hc : kindB c = k := hl c (by simp)
  obtain ⟨n1, n2, n3⟩ := kind_not (c := c) (by omega)
  have hb : blanks (c :: (l ++ r)) = 0 := by unfold blanks; rw [List.takeWhile_cons, n1]; rfl
  rw [List.cons_append]
  simp only [readM, hb, List.drop_zero, if_neg n2, if_neg n3, hc, if_neg (show ¬ k = 0 by omega), if_neg (show ¬ k = 3 by omega)]
  have := row_app hl hr
  rw [List.cons_append] at this
  rw [this, ← List.cons_append, List.take_left]
  simp only [Nat.zero_add, Nat.add_zero]
structure isNum (t : TokM) (u : Nat) : Prop where
  k : t.kind = 2
  v : t.value = (u : Int)
structure isWrd (t : TokM) (w : List UInt8) : Prop where
  k : t.kind = 1
  x : t.text = w
structure isSgn (t : TokM) (c : UInt8) : Prop where
  k : t.kind = 3
  x : t.text = [c]
theorem lex_num {u : Nat} (hu : u < 4294967296) {r : List UInt8} {line col : Nat} {P : List TokM → Prop} (hr : ∀ x, r.head? = some x → kindB x ≠ 2) (h : ∀ col', Lexes r line col' fun ts => ∀ t, isNum t u → P (t :: ts)) : Lexes (dec u ++ r) line col P := by
  obtain ⟨c, l, he⟩ : ∃ c l, dec u = c :: l := by
    cases hd : dec u with
    | nil => exact absurd hd (dec_ne u)
    | cons c l => exact ⟨c, l, rfl⟩
  have hrd := read_row (line := line) (col := col) (.inr rfl) (l := l) (c := c) (by rw [← he]; exact dec_kind u) hr
  rw [← he] at hrd
  have hck : checkM 2 (dec u) (dec u).length line (col + 1) (col + (dec u).length) = .tok ⟨2, dec u, (u : Int), line, ((col + 1 : Nat) : Int)⟩ (dec u).length line (col + (dec u).length) none := by
    unfold checkM
    rw [if_neg (by omega), if_pos rfl, dec_good u hu, dec_val u hu]
    rfl
  refine lex_tok (hrd.trans hck) ?_
  rw [List.drop_left]
  exact (h _).mono fun ts hts => hts _ ⟨rfl, rfl⟩
theorem lex_word {w : List UInt8} (hw : w ≠ []) (hw16 : w.length ≤ 16) (hk : ∀ c ∈ w, kindB c = 1) {r : List UInt8} {line col : Nat} {P : List TokM → Prop} (hr : ∀ x, r.head? = some x → kindB x ≠ 1) (h : ∀ col', Lexes r line col' fun ts => ∀ t, isWrd t w → P (t :: ts)) : Lexes (w ++ r) line col P := by
  obtain ⟨c, l, he⟩ : ∃ c l, w = c :: l := by
    cases w with
    | nil => exact absurd rfl hw
    | cons c l => exact ⟨c, l, rfl⟩
  have hrd := read_row (line := line) (col := col) (.inl rfl) (l := l) (c := c) (by rw [← he]; exact hk) hr
  rw [← he] at hrd
  have hck : checkM 1 w w.length line (col + 1) (col + w.length) = .tok ⟨1, w, 0, line, ((col + 1 : Nat) : Int)⟩ w.length line (col + w.length) none := by
    unfold checkM
    rw [if_neg (by omega), if_neg (by omega)]
    rfl
  refine lex_tok (hrd.trans hck) ?_
  rw [List.drop_left]
  exact (h _).mono fun ts hts => hts _ ⟨rfl, rfl⟩
theorem lex_sign {c : UInt8} (hk : kindB c = 3) {r : List UInt8} {line col : Nat} {P : List TokM → Prop} (h : ∀ col', Lexes r line col' fun ts => ∀ t, isSgn t c → P (t :: ts)) : Lexes (c :: r) line col P := by
  obtain ⟨n1, n2, n3⟩ := kind_not (c := c) (by omega)
  have hb : blanks (c :: r) = 0 := by unfold blanks; rw [List.takeWhile_cons, n1]; rfl
  have hrd : readM (c :: r) line col = .tok ⟨3, [c], 0, line, ((col + 0 + 1 : Nat) : Int)⟩ (0 + 1) line (col + 0 + 1) none := by
    simp only [readM, hb, List.drop_zero, if_neg n2, if_neg n3, hk]
    unfold checkM
    rw [if_neg (by omega), if_neg (by omega)]
    rfl
  refine lex_tok hrd ?_
  exact (h _).mono fun ts hts => hts _ ⟨rfl, rfl⟩
theorem lex_end {r : List UInt8} {line col : Nat} {P : List TokM → Prop} (hm : lineLen r ≤ 200) (h : Lexes r (line + 1) 0 fun ts => ∀ t : TokM, t.kind = 4 → P (t :: ts)) : Lexes (10 :: r) line col P := by
  have hb : blanks (10 :: r) = 0 := by unfold blanks; rw [List.takeWhile_cons]; rfl
  have hrd : readM (10 :: r) line col = .tok ⟨4, [10], 0, line, ((col + 0 + 1 : Nat) : Int)⟩ (0 + 1) (line + 1) 0 none := by
    simp only [readM, hb, List.drop_zero]
    rw [if_neg (by decide), if_pos (by decide)]
    simp only [endsM]
    rw [if_neg (by omega)]
    rfl
  refine lex_tok hrd ?_
  exact h.mono fun ts hts => hts _ rfl
end Go.Proofs.YtfdpccbajaiepaaGreatDoor.Lx
