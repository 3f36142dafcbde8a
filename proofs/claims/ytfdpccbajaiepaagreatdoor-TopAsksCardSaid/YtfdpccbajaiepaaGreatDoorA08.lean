/- Texts laid together: SxpChain, RdCatch, FxR, RdRead, RdSpec13, SxMap, RdSpec14, LxGood, FxQ, RdSpec15, LxWp, RdPure1, PrSpec3, PrHdr, PrBld, ScSpec1, ScSpec2, PrSpec4. -/
import Derived.Test.YtfdpccbajaiepaaGreatDoorA02
import Derived.RecoverIn
import Derived.Tactics
import Derived.Tactics2
import Derived.Laws.Pointers
import Derived.Test.YtfdpccbajaiepaaGreatDoorProg
import Derived.Test.YtfdpccbajaiepaaGreatDoorA01
import Derived.Test.YtfdpccbajaiepaaGreatDoorA03
import Derived.Test.YtfdpccbajaiepaaGreatDoorA07
import Derived.Test.YtfdpccbajaiepaaGreatDoorA04
import Derived.Carry
import Derived.Test.YtfdpccbajaiepaaGreatDoorA05
import Derived.Lib.Builder
import Derived.Laws.Concat
/- A chain of code up to a piece that is told by itself. -/
namespace Go.Proofs.YtfdpccbajaiepaaGreatDoor.Sxp
open Go Go.Proofs.YtfdpccbajaiepaaGreatDoor.Sx
set_option linter.unusedVariables false
def codeWpC (P : Program) (n : Nat) (pn : Bool) (lp : Nat → Qx → Tm → Hp → Prop) (cut : Nat → Option (List Nat)) (KX : Tm → Hp → Prop) : Nat → Code → Nat → Qx → Tm → Hp → Prop
  | 0, _, _, _, tm, h => KX tm h
  | k + 1, c, i, Q, tm, h => match c with
    | .seq a b => codeWp P n pn lp cut a (2 * i) (thenQ (fun tm' h' => codeWpC P n pn lp cut KX k b (2 * i + 1) Q tm' h') Q) tm h
    | _ => False
def restOf : Nat → Code → Code
  | 0, c => c
  | k + 1, c => match c with
    | .seq _ b => restOf k b
    | c => c
def GoodC (P : Program) (n : Nat) (ρ : Option Nat) (pn : Bool) (lp : Nat → Qx → Tm → Hp → Prop) (cut : Nat → Option (List Nat)) : Nat → Code → Nat → Prop
  | 0, _, _ => True
  | k + 1, c, i => match c with
    | .seq a b => Good P n ρ pn lp cut a (2 * i) ∧ GoodC P n ρ pn lp cut k b (2 * i + 1)
    | _ => True
theorem chain_sound {P : Program} {n : Nat} {pn : Bool} {lp : Nat → Qx → Tm → Hp → Prop} {cut : Nat → Option (List Nat)} {KX : Tm → Hp → Prop} {Q : Qx} {Q' : Exit → Act → World → Prop} {ds : List Deferred} {w0 : World} {m : Nat}
    (hQ : ∀ e a w, e ≠ .normal → LE ds w0 n Q e a w → Q' e a w) :
    ∀ (k : Nat) (c : Code) (i : Nat) (tm : Tm) (a : Act) (w : World), (∀ tm a w, KX tm w.heap → Le ds tm a → a.tmps.size = n → Same w0 w → (restOf k c).wpIn (FW none) m P Q' a w) → GoodC P n none pn lp cut k c i →
      codeWpC P n pn lp cut KX k c i Q tm w.heap → Le ds tm a → a.tmps.size = n → Same w0 w → c.wpIn (FW none) m P Q' a w
  | 0, c, i, tm, a, w, hX, _, h, hl, hz, hs => hX tm a w h hl hz hs
  | k + 1, c, i, tm, a, w, hX, hg, h, hl, hz, hs => by
    cases c with
    | seq x y =>
      simp only [codeWpC] at h
      simp only [GoodC] at hg
      refine wpIn_seq (wpIn_mono (codeWp_sound x (2 * i) hg.1 ds _ tm a w w0 h hl hz hs m) (fun e a' w' hh => ?_))
      obtain ⟨tm', h1, h2, h3, h4⟩ := hh
      cases e with
      | normal => exact chain_sound hQ k y (2 * i + 1) tm' a' w' hX hg.2 h4 h1 h2 h3
      | exit _ => exact hQ _ _ _ (by simp) ⟨tm', h1, h2, h3, h4⟩
      | goto _ => exact hQ _ _ _ (by simp) ⟨tm', h1, h2, h3, h4⟩
      | ret => exact hQ _ _ _ (by simp) ⟨tm', h1, h2, h3, h4⟩
      | panic _ => exact hQ _ _ _ (by simp) ⟨tm', h1, h2, h3, h4⟩
      | outgrown => exact hQ _ _ _ (by simp) ⟨tm', h1, h2, h3, h4⟩
    | _ => exact h.elim
end Go.Proofs.YtfdpccbajaiepaaGreatDoor.Sxp

/- syntax.read's deferred function: what it leaves when nothing is wrong, and when a fault is given up. -/
namespace Go.Proofs.YtfdpccbajaiepaaGreatDoor.Sxp
open Go Go.RowKit Go.Proofs.YtfdpccbajaiepaaGreatDoor.Sx
set_option linter.unusedVariables false
set_option linter.unusedSimpArgs false
theorem ta_nil (w : World) : (Instr.typeAssert .nilIface 20 27 true).run Tryz.prog w = .ok (.tuple #[.pointer none, .bool false]) w := pureRun_run _ _ _ (by kernel_rfl) w
theorem ta_ok (v : Value) (w : World) : (Instr.typeAssert (.iface 27 v) 20 27 true).run Tryz.prog w = .ok (.tuple #[v, .bool true]) w := pureRun_run _ _ _ (by kernel_rfl) w
set_option maxRecDepth 100000 in
theorem catch_idle (m : Nat) (p : Addr) (w : World) :
    CallsDIn (FW none) m Tryz.prog 53 #[.pointer (some p)] .returning w fun e u' w' => e = .returned (.tuple #[]) ∧ u' = .returning ∧ w' = w := by
  refine callsDIn_of_wpSIn Tryz.func53 rfl trivial fun c₀ cs hu => ?_
  apply wpSIn_seq
  apply wpSIn_region
  simp [wpOpsSIn, go_sem, recoverD, hu, Tryz.ntmps53, Exit.thenS, ta_nil]
  apply wpSIn_seq
  apply wpSIn_region
  simp [wpOpsSIn, go_sem, Exit.thenS]
  refine wpSIn_cond (t := false) (by simp [Act.eval, Array.replicate]) ?_
  simp only [Bool.false_eq_true, if_false]
  refine wpSIn_of_wpIn rfl (wpIn_skip ?_)
  cases c₀
  simp_all [bodyPostS, results, Tryz.results53]
set_option maxRecDepth 100000 in
theorem catch_fault (m : Nat) (p : Addr) (x : Value) (pv : Option Addr) (older : List PanicEntry) (w : World) (hc : w.cell? p = some x) (hz : w.frozen? p = false) :
    CallsDIn (FW none) m Tryz.prog 53 #[.pointer (some p)] (.panicking ({ v := .iface 27 (.pointer pv), recovered := false } :: older)) w fun e u' w' =>
      e = .returned (.tuple #[]) ∧ u' = .panicking ({ v := .iface 27 (.pointer pv), recovered := true } :: older) ∧ w' = w.setCell p (.iface 27 (.pointer pv)) := by
  refine callsDIn_of_wpSIn Tryz.func53 rfl trivial fun c₀ cs hu => ?_
  apply wpSIn_seq
  apply wpSIn_region
  simp [wpOpsSIn, go_sem, recoverD, hu, Tryz.ntmps53, Exit.thenS, ta_ok]
  apply wpSIn_seq
  apply wpSIn_region
  simp [wpOpsSIn, go_sem, Exit.thenS]
  refine wpSIn_cond (t := true) (by simp [Act.eval, Array.replicate]) ?_
  simp only [if_true]
  apply wpSIn_region
  simp [wpOpsSIn, go_sem, hc, hz, bodyPostS, results, Tryz.results53]
end Go.Proofs.YtfdpccbajaiepaaGreatDoor.Sxp

/- Printed by rdpiece.py: words for the two pieces of syntax.read. -/
namespace Go.Proofs.YtfdpccbajaiepaaGreatDoor.Sxp.Fx
open Go Go.RowKit Go.Proofs.YtfdpccbajaiepaaGreatDoor.Sx
set_option linter.unusedVariables false
set_option maxRecDepth 100000

/-! ### a piece of quintet/syntax.read: function 21 -/
def read_pre (s1 : ByteArray) (v2 : Value) (X : Value → Addr → (Option Addr) → Nat → Nat → Hp → Prop) (Q : Qx) (h : Hp) : Prop :=
  newC h (.cells #[.nilIface] 24 (0, 0)) fun a4 h3 => 
  CallsP Tryz.prog 14 #[(.string s1)] h3 (fun r6 h5 =>
  ∃ A7 : Option Addr, ∃ l7 : Nat, ∃ c7 : Nat, ∃ v8 : Value, r6 = (.tuple #[(.slice A7 l7 c7), v8]) ∧ 
  HU Tryz.prog (Instr.storeAt 24 (.pointer (some a4)) v8) h5 fun h9 => 
  ∃ v10 : Value, HV Tryz.prog (Instr.loadAt 24 (.pointer (some a4))) h9 v10 ∧ 
  ∃ b11 : Bool, PV Tryz.prog (binOp .neq 24 v10 .nilIface) (.bool b11) ∧
  br b11
  (newC h9 (.cells #[(.pointer none)] 27 (0, 0)) fun a13 h12 => 
  ∃ v14 : Value, HV Tryz.prog (Instr.loadAt 24 (.pointer (some a4))) h12 v14 ∧ 
  CallsP Tryz.prog 6 #[v14, (.iface 29 (.pointer (some a13)))] h12 (fun r16 h15 =>
  ∃ b17 : Bool, r16 = (.bool b17) ∧ 
  br b17
  (∃ p18 : Option Addr, HV Tryz.prog (Instr.loadAt 27 (.pointer (some a13))) h15 (.pointer p18) ∧ 
  HU Tryz.prog (Instr.storeAt 24 (.pointer (some a4)) (.iface 27 (.pointer p18))) h15 fun h19 => 
  Q .ret (mkTm [(4, some (.pointer (some a4)))]) h19)
  (∃ v20 : Value, HV Tryz.prog (Instr.loadAt 24 (.pointer (some a4))) h15 v20 ∧ 
  HU Tryz.prog (Instr.storeAt 24 (.pointer (some a4)) v20) h15 fun h21 => 
  Q .ret (mkTm [(4, some (.pointer (some a4)))]) h21)) (fun ch h => Q (.panic ch) (mkTm []) h))
  (X v2 a4 A7 l7 c7 h9)) (fun ch h => Q (.panic ch) (mkTm []) h)
def read_pre_lp (i : Nat) (Q : Qx) (tm : Tm) (h : Hp) : Prop := False
def read_pre_cut (i : Nat) : Option (List Nat) := none
set_option maxRecDepth 100000 in
theorem read_pre_eq (s1 : ByteArray) (v2 : Value) (X : Value → Addr → (Option Addr) → Nat → Nat → Hp → Prop) (Q : Qx) (h : Hp) : read_pre s1 v2 X Q h =
    codeWpC Tryz.prog 51 true read_pre_lp read_pre_cut (fun tm h =>
      selV (tm 1) fun v25 =>
      selA (tm 4) fun a26 =>
      selS (tm 5) fun A27 l27 c27 =>
      X v25 a26 A27 l27 c27 h) 3 (sub (bodyOf Tryz.f21) []) 1 (maskQ (fun e => match e with | .panic _ => [] | _ => [4]) Q) (mkTm [(0, some (.string s1)), (1, some v2)]) h := by kernel_rfl

/-! ### a piece of quintet/syntax.read: function 21 -/
def read_post_l1 (v6 : Value) (a7 : Addr) (A8 : Option Addr) (l8 : Nat) (c8 : Nat) (a9 : Addr) (K0 : Addr → Hp → Prop) (KP : Kp)  : Nat → Hp → Prop
  | 0, _ => False
  | k + 1, h =>
    ∃ x19 : Int, HV Tryz.prog (Instr.loadAt 3 (.pointer (some (a9.add 1)))) h (.int .i64 x19) ∧ 
    br (decide (x19 < (l8 : Int)))
    (∃ x20 : Int, HV Tryz.prog (Instr.loadAt 3 (.pointer (some (a9.add 1)))) h (.int .i64 x20) ∧ 
    ∃ a21 : Addr, PV Tryz.prog (Instr.indexAt 46 (.slice A8 l8 c8) (.int .i64 x20)) (.pointer (some a21)) ∧
    ∃ x22 : Int, HV Tryz.prog (Instr.loadAt 49 (.pointer (some a21))) h (.int .i64 x22) ∧ 
    br (x22 == 4)
    (∃ x23 : Int, HV Tryz.prog (Instr.loadAt 3 (.pointer (some (a9.add 1)))) h (.int .i64 x23) ∧ 
    HU Tryz.prog (Instr.storeAt 3 (.pointer (some (a9.add 1))) (.int .i64 (IntKind.i64.wrap (x23 + 1)))) h fun h24 => 
    read_post_l1 v6 a7 A8 l8 c8 a9 K0 KP k h24)
    (HNP Tryz.prog (callS v6 #[(.pointer (some a9))]) h (fun r26 h25 =>
    r26 = (.tuple #[]) ∧ 
    read_post_l1 v6 a7 A8 l8 c8 a9 K0 KP k h25) KP))
    (K0 a7 h)
def read_post_l1_L (Q : Qx) (k : Nat) (tm : Tm) (h : Hp) : Prop :=
  selV (tm 1) fun v6 =>
  selA (tm 4) fun a7 =>
  selS (tm 5) fun A8 l8 c8 =>
  selA (tm 7) fun a9 =>
  read_post_l1 v6 a7 A8 l8 c8 a9 (fun (a18 : Addr) h => Q (.exit 0) (mkTm [(4, some (.pointer (some a18)))]) h) (fun ch h => Q (.panic ch) (mkTm [(4, some (.pointer (some a7)))]) h) k h
def read_post (v1 : Value) (a2 : Addr) (A3 : Option Addr) (l3 : Nat) (c3 : Nat) (Q : Qx) (h : Hp) : Prop :=
  newC h (.cells #[(.slice A3 l3 c3), (.int .i64 0)] 130 (0, 0)) fun a5 h4 => 
  ∃ k30, read_post_l1 v1 a2 A3 l3 c3 a5
  (fun (a27 : Addr) (h28 : Hp) =>
  HU Tryz.prog (Instr.storeAt 24 (.pointer (some a27)) .nilIface) h28 fun h29 => 
  Q .ret (mkTm [(4, some (.pointer (some a27)))]) h29)
  (fun ch h => Q (.panic ch) (mkTm [(4, some (.pointer (some a2)))]) h) k30  h4
def read_post_lp (i : Nat) (Q : Qx) (tm : Tm) (h : Hp) : Prop := match Nat.beq i 252 with
  | true => ∃ k, read_post_l1_L Q k tm h
  | false => False
def read_post_cut (i : Nat) : Option (List Nat) := none
set_option maxRecDepth 100000 in
theorem read_post_l1_step (Q : Qx) (k : Nat) (v6 : Value) (a7 : Addr) (A8 : Option Addr) (l8 : Nat) (c8 : Nat) (a9 : Addr) (h : Hp) : read_post_l1_L Q (k + 1) (mkTm [(1, some v6), (4, some (.pointer (some a7))), (5, some (.slice A8 l8 c8)), (7, some (.pointer (some a9)))]) h =
    codeWp Tryz.prog 51 true read_post_lp read_post_cut (sub (bodyOf Tryz.f21) [true, true, true, true, true, false, false, false]) 504 (thenQ (fun tm h => read_post_l1_L Q k (mask [1, 4, 5, 7] tm) h) (maskQ (fun e => match e with | .exit 0 => [4] | .panic _ => [4] | _ => []) Q)) (mkTm [(1, some v6), (4, some (.pointer (some a7))), (5, some (.slice A8 l8 c8)), (7, some (.pointer (some a9)))]) h := by kernel_rfl
theorem read_post_l1_mask (Q : Qx) (k : Nat) (tm : Tm) (h : Hp) : read_post_l1_L Q k tm h ↔ read_post_l1_L Q k (mask [1, 4, 5, 7] tm) h := Iff.rfl
set_option maxRecDepth 100000 in
theorem read_post_l1_snd : SndAt Tryz.prog 51 none (sub (bodyOf Tryz.f21) [true, true, true, true, true, false, false]) (read_post_lp 252) := by
  refine loop_sound (pn := true) (lp := read_post_lp) (cut := read_post_cut) (i := 252) (c := (sub (bodyOf Tryz.f21) [true, true, true, true, true, false, false, false])) [1, 4, 5, 7] (fun e => match e with | .exit 0 => [4] | .panic _ => [4] | _ => []) read_post_l1_L ?_ ?_ ?_
  · exact good_by (pn := true) (c := (sub (bodyOf Tryz.f21) [true, true, true, true, true, false, false, false])) (i := 504) (l := []) (by kernel_rfl) (fun _ h => by cases h)
  · intro Q tm h H
    obtain ⟨v6, e1, H⟩ := selV_ex H
    obtain ⟨a7, e4, H⟩ := selA_ex H
    obtain ⟨A8, l8, c8, e5, H⟩ := selS_ex H
    obtain ⟨a9, e7, H⟩ := selA_ex H
    exact H
  · intro Q k tm h H
    have H0 := H
    obtain ⟨v6, e1, H⟩ := selV_ex H
    obtain ⟨a7, e4, H⟩ := selA_ex H
    obtain ⟨A8, l8, c8, e5, H⟩ := selS_ex H
    obtain ⟨a9, e7, H⟩ := selA_ex H
    have e : mask [1, 4, 5, 7] tm = mkTm [(1, some v6), (4, some (.pointer (some a7))), (5, some (.slice A8 l8 c8)), (7, some (.pointer (some a9)))] := by simp only [mask, List.map_cons, List.map_nil, e1, e4, e5, e7] <;> rfl
    rw [e]
    refine Eq.mp (read_post_l1_step Q k v6 a7 A8 l8 c8 a9 h) ?_
    rw [← e]
    exact (read_post_l1_mask Q (k + 1) tm h).mp H0
set_option maxRecDepth 100000 in
theorem read_post_eq (v1 : Value) (a2 : Addr) (A3 : Option Addr) (l3 : Nat) (c3 : Nat) (Q : Qx) (h : Hp) : read_post v1 a2 A3 l3 c3 Q h =
    codeWp Tryz.prog 51 true read_post_lp read_post_cut (sub (bodyOf Tryz.f21) [true, true, true, true]) 31 (maskQ (fun e => match e with | .panic _ => [4] | _ => [4]) Q) (mkTm [(1, some v1), (4, some (.pointer (some a2))), (5, some (.slice A3 l3 c3))]) h := by kernel_rfl
set_option maxRecDepth 100000 in
theorem read_post_good : Good Tryz.prog 51 none true read_post_lp read_post_cut (sub (bodyOf Tryz.f21) [true, true, true, true]) 31 := good_by (pn := true) (c := (sub (bodyOf Tryz.f21) [true, true, true, true])) (i := 31) (l := [(252, (sub (bodyOf Tryz.f21) [true, true, true, true, true, false, false]))]) (by kernel_rfl) (List.forall_mem_cons.2 ⟨read_post_l1_snd, (fun _ h => by cases h)⟩)

end Go.Proofs.YtfdpccbajaiepaaGreatDoor.Sxp.Fx

/- syntax.read: what is told of its two pieces is told of the call; a fault that is given up is its error. -/
namespace Go.Proofs.YtfdpccbajaiepaaGreatDoor.Sxp
open Go Go.RowKit Go.Proofs.YtfdpccbajaiepaaGreatDoor.Sx Go.Proofs.YtfdpccbajaiepaaGreatDoor.Sxp.Fx
set_option linter.unusedVariables false
set_option linter.unusedSimpArgs false
/-- What stands in the error's cell at the end. -/
def rdEnd (K : Value → Hp → Prop) (a : Addr) (h : Hp) : Prop := ∃ v : Value, HV Tryz.prog (Instr.loadAt 24 (.pointer (some a))) h v ∧ K v h
def rdQ0 (K : Value → Hp → Prop) : Qx
  | .ret, tm, h => selA (tm 4) fun a => rdEnd K a h
  | _, _, _ => False
def rdQ1 (K : Value → Hp → Prop) (a : Addr) : Qx
  | .ret, tm, h => selA (tm 4) fun a' => rdEnd K a' h
  | .panic ch, tm, h => tm 4 = some (.pointer (some a)) ∧ ∃ (pv : Option Addr) (x : Value), ch = [{ v := .iface 27 (.pointer pv), recovered := false }] ∧ (W h).cell? a = some x ∧ (W h).frozen? a = false ∧
      rdEnd K a ((W h).setCell a (.iface 27 (.pointer pv))).heap
  | _, _, _ => False
theorem res_fin {ds : List Deferred} {P : Program} {fn : Func} {tm : Tm} {a : Act} {w : World} {K : Value → Hp → Prop} (hl : Le ds tm a) (hr : resQ P tm w.heap fn.results.toList fun l => K (oneV l) w.heap) : ∃ v, (results fn a.tmps).run P w = .ok v w ∧ K v w.heap := by
  obtain ⟨l, hrun, hK⟩ := resQ_run hl _ _ hr
  refine ⟨oneV l, ?_, hK⟩
  rw [results_eq, ← Array.toArray_toList (xs := fn.results), List.mapM_toArray]
  simp only [Sem.run_bind]
  simp [hrun, Result.andThen]
  match l with
  | [] => simp [oneV]
  | [v] => simp [oneV]
  | v :: u :: r => simp [oneV]
theorem rd_fin {ds : List Deferred} {tm : Tm} {a : Act} {w : World} {K : Value → Hp → Prop} {p : Addr} (hl : Le ds tm a) (h4 : tm 4 = some (.pointer (some p))) (hr : rdEnd K p w.heap) : ∃ v, (results Tryz.f21 a.tmps).run Tryz.prog w = .ok v w ∧ K v w.heap := by
  refine res_fin hl ?_
  have e : Tryz.f21.results.toList = [.cell 4 24] := by kernel_rfl
  rw [e]
  obtain ⟨v, hv, hK⟩ := hr
  have e2 : shOf Tryz.prog 24 = .one (.sc .any) := by kernel_rfl
  rw [resQ, h4]
  simp only [e2]
  exact ⟨v, hv, hK⟩
/-- The world's heap alone tells what a store leaves. -/
theorem setCell_heap (w : World) (a : Addr) (v : Value) : (w.setCell a v).heap = ((W w.heap).setCell a v).heap := rfl
set_option maxRecDepth 100000 in
theorem rd_defer : ∃ id o1 o2, sub (bodyOf Tryz.f21) [true, true, true, false] = .region id #[o1, o2] false ∧ o1.op = .makeFunc (.func 53) #[] #[.tmp 4] ∧ o1.dst = some 21 ∧ o1.guard = none ∧
    o2.op = .defer { callee := .value (.tmp 21), args := #[], argTypes := #[] } ∧ o2.dst = none ∧ o2.guard = none := ⟨_, _, _, rfl, rfl, rfl, rfl, rfl, rfl, rfl⟩
theorem rd_rest : restOf 3 (bodyOf Tryz.f21) = Code.seq (sub (bodyOf Tryz.f21) [true, true, true, false]) (sub (bodyOf Tryz.f21) [true, true, true, true]) := by kernel_rfl
theorem rd_good : GoodC Tryz.prog 51 none true read_pre_lp read_pre_cut 3 (bodyOf Tryz.f21) 1 :=
  ⟨trivial, trivial, good_by (l := []) (by kernel_rfl) (fun _ h => by cases h), trivial⟩
abbrev fvR (a : Addr) : Deferred := { target := .fn (.func 53) #[.pointer (some a)], args := #[] }
set_option maxHeartbeats 1000000 in
set_option maxRecDepth 100000 in
theorem read_ok (s : ByteArray) (v : Value) {h : Hp} {K : Value → Hp → Prop} (H : read_pre s v (fun v2 a A l c h' => read_post v2 a A l c (rdQ1 K a) h') (rdQ0 K) h) : CallsH Tryz.prog 21 #[.string s, v] h K := by
  intro w hw
  subst hw
  refine (callsIn_wide (n := 0)).1 (callsIn_of_wp_defers Tryz.func21 rfl trivial ?_)
  have H' := Eq.mp (read_pre_eq s v _ (rdQ0 K) w.heap) H
  refine chain_sound (Q := maskQ (fun e => match e with | .panic _ => [] | _ => [4]) (rdQ0 K)) (n := 51) (ds := []) (w0 := w) ?_ 3 _ 1 _ _ _ ?_ ?_ H' ?_ ?_ (Same.refl w)
  · intro e a w' hne hh
    obtain ⟨tm, h1, h2, h3, h4⟩ := hh
    cases e with
    | ret =>
      obtain ⟨p, e4, h5⟩ := selA_ex h4
      obtain ⟨v, hr, hK⟩ := rd_fin h1 (mkTm_mask tm [4] 4 _ e4) h5
      show LeavesIn _ _ _ _ _ _ a.defers .returning w'
      rw [h1.defers]
      exact ⟨v, hr, v, rfl, h3, hK⟩
    | normal => exact absurd rfl hne
    | exit _ => exact h4.elim
    | goto _ => exact h4.elim
    | panic _ => exact h4.elim
    | outgrown => exact h4.elim
  · intro tm a w' hX hl hz hs
    obtain ⟨v2, e1, hX⟩ := selV_ex hX
    obtain ⟨p, e4, hX⟩ := selA_ex hX
    obtain ⟨A, l, c, e5, hX⟩ := selS_ex hX
    show (restOf 3 (bodyOf Tryz.f21)).wpIn _ _ _ _ _ _
    rw [rd_rest]
    obtain ⟨id, o1, o2, er, p1, d1, g1, p2, d2, g2⟩ := rd_defer
    rw [er]
    refine wpIn_seq (wpIn_region ?_)
    have hr : List.range (#[o1, o2] : Array Oper).size = [0, 1] := rfl
    rw [hr]
    have w1 : ∀ t, Region.wanted o1 (yielded #[o1, o2] t) = true := fun t => by simp [Region.wanted, g1]
    have w2 : ∀ t, Region.wanted o2 (yielded #[o1, o2] t) = true := fun t => by simp [Region.wanted, g2]
    have q1 : (#[o1, o2] : Array Oper)[0]? = some o1 := rfl
    have q2 : (#[o1, o2] : Array Oper)[1]? = some o2 := rfl
    have ev4 : a.eval (.tmp 4) = .pointer (some p) := hl.ev e4
    have s1 : (execOp a.eval o1).run Tryz.prog w' = .ok (.value (.func (.func 53) #[] #[.pointer (some p)])) w' := by
      have mf : ∀ (fn : Fn) (first cap : Array Value) (w : World), (Instr.makeFunc fn first cap).run Tryz.prog w = .ok (.func fn first cap) w := fun _ _ _ _ => rfl
      simp [execOp, p1, ev4, mf, Result.andThen]
    simp only [wpOpsIn, q1, q2, w1, w2, if_true]
    refine ⟨fun _ _ => trivial, ?_⟩
    rw [Oper.semAt_eq _ _ _ (by rw [p1]; intro c h; cases h), s1]
    show Oper.wpIn _ _ _ _ _ _ _ _
    rw [d1]
    obtain ⟨a1, ha1⟩ : ∃ a1, a1 = a.put (some 21) (.func (.func 53) #[] #[.pointer (some p)]) := ⟨_, rfl⟩
    have hl1 : Le [] (tm.put 21 (.func (.func 53) #[] #[.pointer (some p)])) a1 := by rw [ha1]; exact hl.put _ (by omega)
    have hz1 : a1.tmps.size = 51 := by rw [ha1]; simp [Act.put, hz]
    rw [← ha1]
    have ev21 : a1.eval (.tmp 21) = .func (.func 53) #[] #[.pointer (some p)] := hl1.ev rfl
    have s2 : (Oper.semAt none a1.eval o2).run Tryz.prog w' = .ok (.defer (fvR p)) w' := by
      have e : Oper.semAt none a1.eval o2 = execOp a1.eval o2 := rfl
      rw [e]
      simp [execOp, p2, resolve, ev21, Deferred.ofValue, Result.andThen, fvR]
    refine ⟨fun _ _ => trivial, ?_⟩
    have s2' : (Oper.semAt (FW none).round a1.eval o2).run Tryz.prog w' = .ok (.defer (fvR p)) w' := s2
    rw [s2', Oper.uponIn_defer, d2]
    show Code.wpIn _ _ _ _ _ _ _
    obtain ⟨a2, ha2⟩ : ∃ a2 : Act, a2 = { a1 with defers := fvR p :: a1.defers } := ⟨_, rfl⟩
    have hp2 : Act.put { a1 with defers := fvR p :: a1.defers } none undef = a2 := by rw [ha2]; rfl
    rw [hp2]
    have hl2 : Le [fvR p] (mkTm [(1, some v2), (4, some (.pointer (some p))), (5, some (.slice A l c))]) a2 := by
      refine ⟨fun i u hi => ?_, by rw [ha2, hl1.defers]⟩
      rw [ha2]
      show a1.tmps[i]? = some u
      refine hl1.at_ i u ?_
      have hk : i = 1 ∨ i = 4 ∨ i = 5 := by
        simp only [mkTm] at hi
        cases b1 : Nat.beq i 1 with
        | true => exact .inl (Nat.eq_of_beq_eq_true b1)
        | false =>
          rw [b1] at hi
          cases b2 : Nat.beq i 4 with
          | true => exact .inr (.inl (Nat.eq_of_beq_eq_true b2))
          | false =>
            rw [b2] at hi
            cases b3 : Nat.beq i 5 with
            | true => exact .inr (.inr (Nat.eq_of_beq_eq_true b3))
            | false => rw [b3] at hi; cases hi
      rcases hk with rfl | rfl | rfl
      · exact e1.trans hi
      · exact e4.trans hi
      · exact e5.trans hi
    have hz2 : a2.tmps.size = 51 := by rw [ha2]; exact hz1
    have hY := codeWp_sound _ 31 read_post_good [fvR p] _ _ a2 w' w (Eq.mp (read_post_eq v2 p A l c (rdQ1 K p) w'.heap) hX) hl2 hz2 hs 0
    refine wpIn_mono hY (fun e a3 w3 hh => ?_)
    obtain ⟨tm3, h1, h2, h3, h4⟩ := hh
    have inv : (invoke (.fn (.func 53) #[.pointer (some p)]) #[]).run Tryz.prog w3 = .ok (.enter 53 #[.pointer (some p)]) w3 := pureRun_run _ _ _ (by kernel_rfl) w3
    cases e with
    | ret =>
      obtain ⟨p', e4', h5⟩ := selA_ex h4
      obtain ⟨v, hr, hK⟩ := rd_fin h1 (mkTm_mask tm3 [4] 4 _ e4') h5
      show LeavesIn _ _ _ _ _ _ a3.defers .returning w3
      rw [h1.defers]
      refine leavesIn_cons (by simp) (fun h => by cases h) inv (fun _ _ => trivial) ?_
      refine (catch_idle _ p w3).mono ?_
      rintro e u' w4 ⟨rfl, rfl, rfl⟩
      exact ⟨v, hr, v, rfl, h3, hK⟩
    | panic ch =>
      obtain ⟨e4', pv, x, rfl, hc, hfz, h5⟩ := h4
      show LeavesIn _ _ _ _ _ _ a3.defers (.panicking _) w3
      rw [h1.defers]
      refine leavesIn_cons (by simp) (fun h => by cases h) inv (fun _ _ => trivial) ?_
      refine (catch_fault _ p x pv [] w3 hc hfz).mono ?_
      rintro e u' w4 ⟨rfl, rfl, rfl⟩
      show LeavesIn _ _ _ _ _ _ [] .returning _
      obtain ⟨v, hr, hK⟩ := rd_fin (w := w3.setCell p (.iface 27 (.pointer pv))) h1 (mkTm_mask tm3 [4] 4 _ e4') h5
      exact ⟨v, hr, v, rfl, ⟨h3.os, h3.tape, h3.output, h3.drawn⟩, hK⟩
    | normal => exact h4.elim
    | exit _ => exact h4.elim
    | goto _ => exact h4.elim
    | outgrown => exact h4.elim
  · exact rd_good
  · refine ⟨fun i u hi => ?_, rfl⟩
    have hk : i = 0 ∨ i = 1 := by
      simp only [mkTm] at hi
      cases b1 : Nat.beq i 0 with
      | true => exact .inl (Nat.eq_of_beq_eq_true b1)
      | false =>
        rw [b1] at hi
        cases b2 : Nat.beq i 1 with
        | true => exact .inr (Nat.eq_of_beq_eq_true b2)
        | false => rw [b2] at hi; cases hi
    rcases hk with rfl | rfl
    · show (#[Value.string s, v] ++ Array.replicate _ undef)[0]? = some u
      rw [Array.getElem?_append_left (by simp)]
      have : (some (Value.string s)) = some u := hi
      rw [← this]; rfl
    · show (#[Value.string s, v] ++ Array.replicate _ undef)[1]? = some u
      rw [Array.getElem?_append_left (by simp)]
      have : (some v) = some u := hi
      rw [← this]; rfl
  · simp [Tryz.ntmps21]
end Go.Proofs.YtfdpccbajaiepaaGreatDoor.Sxp

/- syntax.read: the loop over the lines, whatever a line does; read of a text that is lexed. -/
namespace Go.Proofs.YtfdpccbajaiepaaGreatDoor.Lx
open Go Go.RowKit Go.Proofs.YtfdpccbajaiepaaGreatDoor.Sx Go.Proofs.YtfdpccbajaiepaaGreatDoor.Sxp Go.Proofs.YtfdpccbajaiepaaGreatDoor.Sxp.Fx Go.Proofs.YtfdpccbajaiepaaGreatDoor.Fs
set_option linter.unusedVariables false
set_option linter.unusedSimpArgs false
set_option maxRecDepth 10000
theorem callFP {P : Program} {f : FuncId} {lb args : Array Value} (hen : enters P f = true) {h : Hp} {K : Value → Hp → Prop} {KP : Kp} (H : CallsP P f (args ++ lb) h K KP) : HNP P (callS (.func (.func f) #[] lb) args) h K KP := by
  unfold HNP callS
  simp only [Deferred.ofValue, semWp_bind_eq, semWp_pure_eq, invoke]
  unfold callFunc
  unfold enters at hen
  cases hf : P.funcs[f]? with
  | none => rw [hf] at hen; cases hen
  | some fn =>
    rw [hf] at hen
    simp only [Bool.and_eq_true, Bool.not_eq_true'] at hen
    obtain ⟨h1, h2⟩ := hen
    have h4 : fn.body ≠ none := by intro hb; rw [hb] at h2; cases h2
    have h5 : fn.name ≠ "runtime.NumGoroutine" := by simpa using h1
    simp only [program, semWp_bind_eq, semWp_pure_eq, semWp, hf]
    simp [h5, h4, semWp_pure_eq, nextP, H]
theorem Good.rest {t : TokM} {r : List TokM} (g : Good (t :: r)) : Good r := by
  cases r with
  | nil => intro e he; cases he
  | cons a l => exact fun e he => g e (by rw [List.getLast?_cons_cons]; exact he)
def linesR {α : Type} (step : α → List TokM → ReR α) : Nat → α → List TokM → Except Flt α
  | 0, a, _ => .ok a
  | f + 1, a, [] => .ok a
  | f + 1, a, t :: r => if t.kind = 4 then linesR step f a r else match step a (t :: r) with
    | .error e => .error e
    | .ok (a', r') => linesR step f a' r'
def upE (g : Nat) : List PanicEntry := [{ v := .iface 27 (.pointer (some ⟨g, 0, none⟩)), recovered := false }]
/-- What a loop over lines leaves. -/
def LinK {α : Type} (R : Except Flt α) (Inv : α → List TokM → Hp → Prop) (Err : Flt → Nat → Hp → Prop) (K0 : Hp → Prop) (KP : Kp) : Prop := match R with
  | .error f => ∀ h' g, Err f g h' → KP (upE g) h'
  | .ok a => ∀ h', Inv a [] h' → K0 h'
/-- A line. -/
def StpK {α : Type} (R : ReR α) (Inv : α → List TokM → Hp → Prop) (Err : Flt → Nat → Hp → Prop) (K : Value → Hp → Prop) (KP : Kp) : Prop := match R with
  | .error f => ∀ h' g, Err f g h' → KP (upE g) h'
  | .ok (a, r) => ∀ h', Inv a r h' → K (.tuple #[]) h'
structure LoopI {α : Type} (step : α → List TokM → ReR α) (Inv : α → List TokM → Hp → Prop) (Err : Flt → Nat → Hp → Prop) (b : Nat) (A : Option Addr) (c : Nat) (ts : List TokM) (v : Value) : Prop where
  rat : ∀ a r h, Inv a r h → RAt h b A c ts r
  skip : ∀ a t r h h', t.kind = 4 → Inv a (t :: r) h → RAt h' b A c ts r → Fr (fun k => k = b) h h' → Inv a r h'
  call : ∀ a t r h (K : Value → Hp → Prop) (KP : Kp), Inv a (t :: r) h → Good (t :: r) → t.kind ≠ 4 → StpK (step a (t :: r)) Inv Err K KP → HNP Tryz.prog (callS v #[.pointer (some ⟨b, 0, none⟩)]) h K KP
  good : ∀ a r a' r', step a r = .ok (a', r') → Good r → Good r' ∧ r'.length < r.length
section
variable {α : Type} {step : α → List TokM → ReR α} {Inv : α → List TokM → Hp → Prop} {Err : Flt → Nat → Hp → Prop} {b : Nat} {A : Option Addr} {c : Nat} {ts : List TokM} {v : Value}
theorem post_l1 (I : LoopI step Inv Err b A c ts v) (ga : Addr) {K0 : Addr → Hp → Prop} {KP : Kp} (f : Nat) : ∀ (a : α) (r : List TokM) (h : Hp), r.length < f → Inv a r h → Good r → LinK (linesR step f a r) Inv Err (K0 ga) KP →
    read_post_l1 v ga A ts.length c ⟨b, 0, none⟩ K0 KP f h := by
  induction f with
  | zero => intro a r h hf; omega
  | succ f ih =>
    intro a r h hf hI g H
    unfold read_post_l1
    have q := I.rat a r h hI
    cases r with
    | nil =>
      obtain ⟨hl, n, q1, d, hn⟩ := q
      have : ts.length ≤ n := by
        rcases Nat.lt_or_ge n ts.length with h1 | h1
        · rw [List.drop_eq_getElem_cons h1] at d; cases d
        · exact h1
      exact ⟨_, ld (q1.cl.at_ 1 _ rfl) (by kernel_rfl), br_f (by simp; omega) (H h hI)⟩
    | cons t r =>
      obtain ⟨n, q1, ht, hd, hn, hl⟩ := q.head
      refine ⟨_, ld (q1.cl.at_ 1 _ rfl) (by kernel_rfl), br_t (by simp; omega) ⟨_, ld (q1.cl.at_ 1 _ rfl) (by kernel_rfl), ?_⟩⟩
      obtain ⟨ad, pv, cl⟩ := q1.look ht
      refine ⟨ad, pv, _, ld (cl.at_ 0 _ rfl) (by kernel_rfl), ?_⟩
      unfold linesR at H
      by_cases h4 : t.kind = 4
      · rw [if_pos h4] at H
        refine br_t (by simp [h4]) ⟨_, ld (q1.cl.at_ 1 _ rfl) (by kernel_rfl), ?_⟩
        have w1 : IntKind.i64.wrap ((n : Int) + 1) = ((n + 1 : Nat) : Int) := by rw [wrap_in (by omega) (by omega)]; omega
        show HU Tryz.prog (Instr.storeAt 3 _ (.int .i64 (IntKind.i64.wrap ((n : Int) + 1)))) h _
        rw [w1]
        refine q1.st (n + 1) fun h2 q2 f2 z2 => ?_
        exact ih a r h2 (by simp at hf; omega) (I.skip a t r h h2 h4 hI ⟨hl, n + 1, q2, hd, hn⟩ f2) g.rest H
      · rw [if_neg h4] at H
        refine br_f (by simp [h4]) ?_
        refine I.call a t r h _ KP hI g h4 ?_
        unfold StpK
        cases hR : step a (t :: r) with
        | error e => rw [hR] at H; exact H
        | ok p =>
          obtain ⟨a', r'⟩ := p
          rw [hR] at H
          obtain ⟨g', hlt⟩ := I.good _ _ _ _ hR g
          exact fun h2 hI2 => ⟨rfl, ih a' r' h2 (by simp at hf hlt; omega) hI2 g' H⟩
end
/-- What stands when the lines begin. -/
structure Beg (h0 h : Hp) (ge b : Nat) (A : Option Addr) (c : Nat) (ts : List TokM) : Prop where
  e : Ext h0 h
  hge : ge = h0.size
  er : h[ge]? = some (.cells [.nilIface].toArray 24 (0, 0))
  q : RAt h b A c ts ts
  oA : ∀ k, blk A k → ge < k ∧ k < b
  ob : ge < b
  z : h.size = b + 1
/-- A fault that is given up; what the error's cell wants. -/
structure ErrI (hB : Hp) (ge : Nat) (f : Flt) (g : Nat) (h : Hp) : Prop where
  e : Ext hB h
  er : h[ge]? = some (.cells [.nilIface].toArray 24 (0, 0))
  hg : ge < g
  flt : FltC h g f
theorem Read_s {α : Type} {hB h0 : Hp} (eB : Ext hB h0) {s : List UInt8} {ts : List TokM} (hl : lexM s = some (.ok ts)) (hg : Good ts) (hlen : ts.length ≤ 900000) (v : Value) (step : α → List TokM → ReR α) (a0 : α) (Inv : Nat → Option Addr → Nat → α → List TokM → Hp → Prop) {K : Value → Hp → Prop}
    (HI : ∀ h b A c, Beg h0 h h0.size b A c ts → LoopI step (Inv b A c) (ErrI hB h0.size) b A c ts v ∧ Inv b A c a0 ts h)
    (HE : ∀ b A c a r h, Inv b A c a r h → h[h0.size]? = some (.cells [.nilIface].toArray 24 (0, 0)))
    (H : match linesR step (ts.length + 1) a0 ts with
      | .error f => ∀ h' g, Ext hB h' → h0.size ≤ g → FltC h' g f → K (.iface 27 (.pointer (some ⟨g, 0, none⟩))) h'
      | .ok a => ∀ b A c h', Inv b A c a [] h' → K .nilIface h') :
    CallsH Tryz.prog 21 #[.string (bs s), v] h0 K := by
  refine read_ok _ _ ?_
  unfold read_pre
  refine newC_i (cs := [.nilIface]) fun h1 e1 c1 b1 z1 => ?_
  refine Sx.CallsH.p (All_s hl ?_)
  intro h2 A c e2 row hF
  have b2 : h2[h0.size]? = some (.cells [.nilIface].toArray 24 (0, 0)) := by rw [e2.old _ (by omega)]; exact b1
  refine ⟨_, _, _, _, rfl, ?_⟩
  refine HU_st (us := [.nilIface]) b2 rfl (by kernel_rfl) (by simp) rfl ?_
  have es : setB h2 h0.size (List.take 0 [Value.nilIface] ++ [Value.nilIface] ++ List.drop (0 + [Value.nilIface].length) [Value.nilIface]) 24 = h2 := setB_self b2
  rw [es]
  have c2 : Cl h2 ⟨h0.size, 0, none⟩ [.nilIface] := Cl.of_block b2 fun j v hj => by rw [Nat.zero_add]; exact hj
  refine ⟨_, ld (c2.at_ 0 _ rfl) (by kernel_rfl), false, fun w => pureRun_run _ _ _ (by kernel_rfl) w, br_f rfl ?_⟩
  unfold read_post
  rw [List.nil_append] at row
  show newC h2 (.cells #[(.slice A ts.length c), (.int .i64 0)] 130 (0, 0)) _
  refine newC_i (cs := rdCells A ts.length c 0) fun h3 e3 c3 b3 z3 => ?_
  have hA : ∀ k, blk A k → h0.size < k ∧ k < h2.size := fun k hk => ⟨by have := hF k hk; omega, row.old k hk⟩
  have hz2 : h1.size ≤ h2.size := e2.size
  have nb : ¬ blk A h2.size := fun hk => by have := (hA _ hk).2; omega
  have B : Beg h0 h3 h0.size h2.size A c ts :=
    { e := (e1.trans e2).trans e3, hge := rfl, er := by rw [e3.old _ (by omega)]; exact b2, q := ⟨hlen, 0, ⟨b3, row.ext e3, nb⟩, rfl, by omega⟩, oA := hA, ob := by omega, z := z3 }
  obtain ⟨I, i0⟩ := HI h3 h2.size A c B
  refine ⟨ts.length + 1, post_l1 I ⟨h0.size, 0, none⟩ (ts.length + 1) a0 ts h3 (by omega) i0 hg ?_⟩
  unfold LinK
  cases hR : linesR step (ts.length + 1) a0 ts with
  | error f =>
    rw [hR] at H
    intro h4 g E
    have c4 : Cl h4 ⟨h0.size, 0, none⟩ [.nilIface] := Cl.of_block E.er fun j v hj => by rw [Nat.zero_add]; exact hj
    refine ⟨rfl, some ⟨g, 0, none⟩, .nilIface, rfl, c4.at_ 0 _ rfl, frozen_false E.er, ?_⟩
    have es := setCell_heap (o := 0) (v := .iface 27 (.pointer (some ⟨g, 0, none⟩))) E.er
    rw [es]
    have b5 : (setB h4 h0.size ([Value.nilIface].set 0 (.iface 27 (.pointer (some ⟨g, 0, none⟩)))) 24)[h0.size]? = _ := setB_get (lt_of_get E.er)
    have f5 : Fr (fun k => k = h0.size) h4 (setB h4 h0.size ([Value.nilIface].set 0 (.iface 27 (.pointer (some ⟨g, 0, none⟩)))) 24) := setB_fr rfl
    have c5 := Cl.of_block (vs := [.iface 27 (.pointer (some ⟨g, 0, none⟩))]) (o := 0) b5 (fun j v hj => by rw [Nat.zero_add]; exact hj)
    refine ⟨_, ld (c5.at_ 0 _ rfl) (by kernel_rfl), ?_⟩
    exact H _ g (extOwn E.e f5 (fun k hk => by have := eB.size; omega)) (by have := E.hg; omega) (f5.get E.flt (by have := E.hg; omega))
  | ok a =>
    rw [hR] at H
    intro h4 i4
    have b4 := HE _ _ _ _ _ _ i4
    refine HU_st (us := [.nilIface]) b4 rfl (by kernel_rfl) (by simp) rfl ?_
    have es : setB h4 h0.size (List.take 0 [Value.nilIface] ++ [Value.nilIface] ++ List.drop (0 + [Value.nilIface].length) [Value.nilIface]) 24 = h4 := setB_self b4
    rw [es]
    have c4 : Cl h4 ⟨h0.size, 0, none⟩ [.nilIface] := Cl.of_block b4 fun j v hj => by rw [Nat.zero_add]; exact hj
    exact ⟨_, ld (c4.at_ 0 _ rfl) (by kernel_rfl), H _ _ _ _ i4⟩
end Go.Proofs.YtfdpccbajaiepaaGreatDoor.Lx

/- Maps from whole numbers to whole numbers, over the heap alone. -/
namespace Go.Proofs.YtfdpccbajaiepaaGreatDoor.Sx
open Go Go.RowKit
set_option linter.unusedVariables false
set_option linter.unusedSimpArgs false
def ent (p : Int × Int) : Value × Value := (.int .i64 p.1, .int .i64 p.2)
/-- A block is a map of these entries. -/
def MapN (h : Hp) (b : Nat) (l : List (Int × Int)) : Prop := ∃ es clock, h[b]? = some (.map es clock) ∧ es.toList.map (fun e => (e.key, e.val)) = l.map ent
theorem MapN.lt {h : Hp} {b : Nat} {l : List (Int × Int)} (m : MapN h b l) : b < h.size := by
  obtain ⟨es, c, hb, _⟩ := m
  exact lt_of_get hb
theorem MapN.keep {h h' : Hp} {b : Nat} {l : List (Int × Int)} {S : Nat → Prop} (m : MapN h b l) (f : Fr S h h') (hn : ¬ S b) : MapN h' b l := by
  obtain ⟨es, c, hb, he⟩ := m
  exact ⟨es, c, f.get hb hn, he⟩
theorem MapN.ext {h h' : Hp} {b : Nat} {l : List (Int × Int)} (m : MapN h b l) (e : Ext h h') : MapN h' b l := m.keep (e.fr fun _ => False) (fun h => h)
def lookI (l : List (Int × Int)) (x : Int) : Int := match l with
  | [] => 0
  | p :: l => if p.1 = x then p.2 else lookI l x
theorem look_not {x : Int} : ∀ {l : List (Int × Int)}, x ∉ l.map (·.1) → lookI l x = 0
  | [], _ => rfl
  | p :: l, h => by
    simp only [List.map_cons, List.mem_cons, not_or] at h
    unfold lookI
    rw [if_neg (fun e => h.1 e.symm)]
    exact look_not h.2
theorem look_in {x : Int} : ∀ {l : List (Int × Int)}, (∀ p ∈ l, 0 < p.2) → x ∈ l.map (·.1) → 0 < lookI l x
  | [], _, h => by simp at h
  | p :: l, hp, h => by
    unfold lookI
    by_cases e : p.1 = x
    · rw [if_pos e]; exact hp p (by simp)
    · rw [if_neg e]
      simp only [List.map_cons, List.mem_cons] at h
      rcases h with h | h
      · exact absurd h.symm e
      · exact look_in (fun q hq => hp q (by simp [hq])) h
theorem findNow_in (x : Int) : ∀ (l : List (Int × Int)) (es : List MapEntry) (i : Nat), es.map (fun e => (e.key, e.val)) = l.map ent →
    (x ∉ l.map (·.1) ∧ Instr.findNow (.int .i64) (.int .i64 x) es i = some none) ∨ ∃ j, Instr.findNow (.int .i64) (.int .i64 x) es i = some (some (j, .int .i64 (lookI l x))) := by
  intro l
  induction l with
  | nil =>
    intro es i h
    cases es with
    | nil => exact .inl ⟨by simp, rfl⟩
    | cons e es => simp at h
  | cons p l ih =>
    intro es i h
    cases es with
    | nil => simp at h
    | cons e es =>
      simp only [List.map_cons, List.cons.injEq, ent, Prod.mk.injEq] at h
      obtain ⟨⟨hk, hv⟩, ht⟩ := h
      have e1 : Instr.sameNow (.int .i64) (.int .i64 x) e.key = some (x == p.1) := by rw [hk]; rfl
      unfold Instr.findNow
      rw [e1]
      by_cases hx : x = p.1
      · right
        rw [show (x == p.1) = true by simp [hx]]
        refine ⟨i, ?_⟩
        simp only [lookI, hv, hx, if_true]
      · rw [show (x == p.1) = false by simp [hx]]
        simp only
        rcases ih es (i + 1) ht with ⟨h1, h2⟩ | ⟨j, h2⟩
        · left
          refine ⟨?_, h2⟩
          simp only [List.map_cons, List.mem_cons, not_or]
          exact ⟨hx, h1⟩
        · right
          refine ⟨j, ?_⟩
          rw [h2]
          simp only [lookI, if_neg (fun e : p.1 = x => hx e.symm)]
theorem checkKey_int {P : Program} {k : TypeId} (hk : P.underlying k = some (.int .i64)) (em : Bool) (n : Nat) (x : Int) (w : World) : (Instr.checkKey em (n + 1) k (.int .i64 x)).run P w = .ok () w := by
  unfold Instr.checkKey
  rw [Sem.run_bind, run_underlying hk]
  rfl
theorem lookN {P : Program} {T k e : TypeId} {i : TypeInfo} {h : Hp} {b : Nat} {l : List (Int × Int)} (m : MapN h b l) (hT : P.underlying T = some (.map k e)) (hk : P.underlying k = some (.int .i64)) (hi : P.info? e = some i) (hz : i.zero = some (.int .i64 0)) (x : Int) :
    HV P (Instr.lookup T (.map (some b)) (.int .i64 x) false) h (.int .i64 (lookI l x)) := by
  intro w hw
  subst hw
  obtain ⟨es, c, hb, he⟩ := m
  have hg : (getObj b).run P w = .ok (.map es c) w := by
    simp [getObj, Sem.run, hb]
  unfold Instr.lookup
  simp only [Sem.run_bind, run_underlying hT, Result.andThen_ok, hg, Sem.run_pure, checkKey_int hk]
  unfold Instr.findKey
  simp only [Sem.run_bind, run_underlying hk, Result.andThen_ok]
  rcases findNow_in x l es.toList 0 he with ⟨h1, h2⟩ | ⟨j, h2⟩
  · rw [h2, look_not h1]
    have hzr : (zeroValue e).run P w = .ok (.int .i64 0) w := by simp [zeroValue, typeInfo, hi, hz]
    simp [Result.andThen_ok, Sem.run_bind, hzr]
  · rw [h2]
    simp [Result.andThen_ok]
theorem makeN {P : Program} {T : TypeId} {h : Hp} {K : Value → Hp → Prop} (H : ∀ h', Ext h h' → h'.size = h.size + 1 → MapN h' h.size [] → K (.map (some h.size)) h') : HW P (Instr.makeMap T none) h K := by
  have hb : (h.push (.map #[] 0))[h.size]? = some (.map #[] 0) := by simp
  exact H _ (Ext.push h _) (by simp) ⟨#[], 0, hb, rfl⟩
theorem updN {P : Program} {T k e : TypeId} {h : Hp} {b : Nat} {l : List (Int × Int)} (m : MapN h b l) (hT : P.underlying T = some (.map k e)) (hk : P.underlying k = some (.int .i64)) {x : Int} (hx : x ∉ l.map (·.1)) (v : Int) {K : Hp → Prop}
    (H : ∀ h', MapN h' b (l ++ [(x, v)]) → Fr (fun k => k = b) h h' → h'.size = h.size → K h') : HU P (Instr.mapUpdate T (.map (some b)) (.int .i64 x) (.int .i64 v)) h K := by
  obtain ⟨es, c, hb, he⟩ := m
  unfold HU Instr.mapUpdate
  refine wp_bind P (wp_underlying P hT ?_)
  simp only
  refine wp_bind P ?_
  refine ⟨_, hb, rfl, ?_⟩
  refine wp_bind P ?_
  have hck : semWp P (Instr.checkKey false 10000 k (.int .i64 x)) h (fun _ h' => h' = h) := by
    unfold Instr.checkKey
    refine wp_bind P (wp_underlying P hk ?_)
    exact rfl
  refine semWp_mono P _ h ?_ hck
  rintro _ _ rfl
  refine wp_bind P ?_
  unfold Instr.findKey
  refine wp_bind P (wp_underlying P hk ?_)
  rcases findNow_in x l es.toList 0 he with ⟨h1, h2⟩ | ⟨j, h2⟩
  · rw [h2]
    refine ⟨⟨_, hb, rfl⟩, ?_⟩
    refine H _ ⟨es.push { key := .int .i64 x, val := .int .i64 v, born := c }, c + 1, by simp [lt_of_get hb], ?_⟩ ⟨by simp, fun k hk hn => ?_⟩ (by simp)
    · simp [he, ent]
    · rw [Array.getElem?_setIfInBounds]
      rw [if_neg (fun h => hn h.symm)]
  · exfalso
    have key : ∀ (l : List (Int × Int)) (es : List MapEntry) (i : Nat), x ∉ l.map (·.1) → es.map (fun e => (e.key, e.val)) = l.map ent → Instr.findNow (.int .i64) (.int .i64 x) es i = some none := by
      intro l
      induction l with
      | nil =>
        intro es i _ h
        cases es with
        | nil => rfl
        | cons e es => simp at h
      | cons p l ih =>
        intro es i hn h
        cases es with
        | nil => simp at h
        | cons e es =>
          simp only [List.map_cons, List.cons.injEq, ent, Prod.mk.injEq] at h
          obtain ⟨⟨hk, hv⟩, ht⟩ := h
          simp only [List.map_cons, List.mem_cons, not_or] at hn
          have e1 : Instr.sameNow (.int .i64) (.int .i64 x) e.key = some (x == p.1) := by rw [hk]; rfl
          unfold Instr.findNow
          rw [e1, show (x == p.1) = false by simp [hn.1]]
          exact ih es (i + 1) hn.2 ht
    rw [key l es.toList 0 hx he] at h2
    cases h2
end Go.Proofs.YtfdpccbajaiepaaGreatDoor.Sx

/- Rules: a line is read. -/
namespace Go.Proofs.YtfdpccbajaiepaaGreatDoor.Lx
open Go Go.RowKit Go.Proofs.YtfdpccbajaiepaaGreatDoor.Sx Go.Proofs.YtfdpccbajaiepaaGreatDoor.Sxp Go.Proofs.YtfdpccbajaiepaaGreatDoor.Sxp.Fx Go.Proofs.YtfdpccbajaiepaaGreatDoor.Fs
set_option linter.unusedVariables false
set_option linter.unusedSimpArgs false
set_option maxRecDepth 10000
theorem ext_take {h : Hp} {n : Nat} (hn : n ≤ h.size) : Ext (h.extract 0 n) h := ⟨by simp; omega, fun k hk => by
  simp only [Array.size_extract] at hk
  rw [Array.getElem?_extract, if_pos (by omega), Nat.zero_add]⟩
theorem take_size {h : Hp} {n : Nat} (hn : n ≤ h.size) : (h.extract 0 n).size = n := by simp; omega
def noteL (out : List Rul) : List (Int × Int) := out.map fun x => (x.id, 1)
/-- In the midst of the rules. -/
structure RlS (hB : Hp) (n0 go gs gm ge b : Nat) (A : Option Addr) (c : Nat) (ts : List TokM) (out : List Rul) (r : List TokM) (h : Hp) : Prop where
  e : Ext hB h
  n : n0 ≤ h.size
  q : RAt h b A c ts r
  hA : ∀ k, blk A k → ge < k ∧ k < b
  o1 : hB.size ≤ go
  o2 : go < gm
  o3 : gm < gs
  o4 : gs < ge
  o5 : ge < b
  o6 : b < n0
  o : ∃ Ao co, h[go]? = some (.cells [.slice Ao out.length co].toArray 22 (0, 0)) ∧ RowC h 75 Rul.enc 12 Ao co out ∧ (∀ k, blk Ao k → n0 ≤ k)
  s : h[gs]? = some (.cells [.map (some gm)].toArray 79 (0, 0))
  m : MapN h gm (noteL out)
  er : h[ge]? = some (.cells [.nilIface].toArray 24 (0, 0))
  ln : out.length ≤ 64
section
variable {hB : Hp} {n0 go gs gm ge b : Nat} {A : Option Addr} {c : Nat} {ts : List TokM} {out : List Rul} {r : List TokM} {h : Hp}
theorem RlS.step (S : RlS hB n0 go gs gm ge b A c ts out r h) {r' : List TokM} {h' : Hp} (q : RAt h' b A c ts r') (f : Fr (fun k => k = b) h h') : RlS hB n0 go gs gm ge b A c ts out r' h' := by
  obtain ⟨e, n, _, hA, o1, o2, o3, o4, o5, o6, ⟨Ao, co, bo, ro, hAo⟩, s, m, er, ln⟩ := S
  exact ⟨extOwn e f (fun k hk => by omega), Nat.le_trans n f.size, q, hA, o1, o2, o3, o4, o5, o6, ⟨Ao, co, f.get bo (by omega), ro.keep f (fun k hk he => by have := hAo k hk; omega), hAo⟩, f.get s (by omega), m.keep f (by omega), f.get er (by omega), ln⟩
theorem RlS.ext (S : RlS hB n0 go gs gm ge b A c ts out r h) {h' : Hp} (e : Ext h h') : RlS hB n0 go gs gm ge b A c ts out r h' := S.step (S.q.ext e) (e.fr _)
theorem RlS.up (S : RlS hB n0 go gs gm ge b A c ts out r h) {f : Flt} {KP : Kp} (H : ∀ h' g, ErrI hB ge f g h' → KP (upE g) h') : Up h b f KP := by
  intro h' g hg hf fr
  have o1 := S.o1; have o2 := S.o2; have o3 := S.o3; have o4 := S.o4; have o5 := S.o5; have o6 := S.o6; have n := S.n
  exact H h' g ⟨extOwn S.e fr (fun k hk => by omega), fr.get S.er (by omega), by omega, hf⟩
end
def lineR (out : List Rul) (r : List TokM) : ReR (List Rul) := thenR (ruleR r) fun p r1 => thenR (endR r1) fun _ r2 =>
  if out.length = 64 then .error ⟨102, (r.headD tok0).line, (r.headD tok0).col⟩ else match rightM p.1 p.2 with
  | some f => .error f
  | none => if p.1.id ∈ (noteL out).map (·.1) then .error ⟨103, (r.headD tok0).line, (r.headD tok0).col⟩ else .ok (out ++ [p.1], r2)
theorem then_ok {α β : Type} {R : ReR α} {f : α → List TokM → ReR β} {v : β} {r : List TokM} (h : thenR R f = .ok (v, r)) : ∃ u r1, R = .ok (u, r1) ∧ f u r1 = .ok (v, r) := by
  cases R with
  | error e => cases h
  | ok p => exact ⟨p.1, p.2, rfl, h⟩
theorem rule_begs {r r7 : List TokM} {p : Rul × List TokM} (h : ruleR r = .ok (p, r7)) : ∃ t2 t3 t4 t5 t6, p.2 = [tok0, r.headD tok0, t2, t3, t4, t5, t6, tok0] := by
  unfold ruleR at h
  obtain ⟨_, _, _, h⟩ := then_ok h
  obtain ⟨_, _, _, h⟩ := then_ok h
  obtain ⟨_, _, _, h⟩ := then_ok h
  obtain ⟨_, _, _, h⟩ := then_ok h
  obtain ⟨_, _, _, h⟩ := then_ok h
  obtain ⟨_, _, _, h⟩ := then_ok h
  obtain ⟨_, _, _, h⟩ := then_ok h
  cases h
  exact ⟨_, _, _, _, _, rfl⟩
theorem undRules : Tryz.prog.underlying 22 = some (.slice 75) := by kernel_rfl
theorem rulInfo : ∃ i z, Tryz.prog.info? 75 = some i ∧ i.size = 12 ∧ 0 < i.bytes ∧ i.bytes ≤ 1000 ∧ i.zero = some z ∧ z.cells.size = 12 := ⟨_, _, rfl, rfl, by decide, by decide, rfl, rfl⟩
theorem undMap : Tryz.prog.underlying 79 = some (.map 3 3) := by kernel_rfl
theorem undInt : Tryz.prog.underlying 3 = some (.int .i64) := by kernel_rfl
theorem intInfo : ∃ i, Tryz.prog.info? 3 = some i ∧ i.zero = some (.int .i64 0) := ⟨_, rfl, rfl⟩
theorem look_map {h : Hp} {b : Nat} {l : List (Int × Int)} (m : MapN h b l) (x : Int) : HV Tryz.prog (Instr.lookup 79 (.map (some b)) (.int .i64 x) false) h (.int .i64 (lookI l x)) := by
  obtain ⟨i, hi, hz⟩ := intInfo
  exact lookN m undMap undInt hi hz x
set_option maxHeartbeats 1000000 in
theorem line_s {hB : Hp} {n0 go gs gm ge b : Nat} {A : Option Addr} {c : Nat} {ts : List TokM} {out : List Rul} {t : TokM} {r : List TokM} {h : Hp} (S : RlS hB n0 go gs gm ge b A c ts out (t :: r) h) (g : Good (t :: r)) {K : Value → Hp → Prop} {KP : Kp}
    (H : StpK (lineR out (t :: r)) (RlS hB n0 go gs gm ge b A c ts) (ErrI hB ge) K KP) :
    CallsP Tryz.prog 22 #[.pointer (some ⟨b, 0, none⟩), .pointer (some ⟨go, 0, none⟩), .pointer (some ⟨gs, 0, none⟩)] h K KP := by
  refine syntax_Rules_1_ok _ _ _ ?_
  unfold syntax_Rules_1
  refine rule_s S.q g ?_
  unfold lineR at H
  cases hR : ruleR (t :: r) with
  | error f => rw [hR] at H; exact S.up H
  | ok p =>
    obtain ⟨⟨x, bs⟩, r1⟩ := p
    rw [hR] at H
    obtain ⟨t2, t3, t4, t5, t6, hbs⟩ := rule_begs hR
    simp only at hbs
    subst hbs
    obtain ⟨g1, hne⟩ := good_rule g _ _ hR
    cases r1 with
    | nil => exact absurd rfl hne
    | cons t7 r1 =>
      intro h1 q1 f1
      have S1 := S.step q1 f1
      refine ⟨_, _, _, _, _, _, _, _, _, _, _, _, _, _, _, _, _, _, _, _, _, _, _, _, _, _, _, _, _, _, _, _, _, _, _, _, _, _, _, _, _, _, _, _, _, _, _, _, _, _, _, _, rfl, ?_⟩
      refine newC_i (cs := rul0.enc) fun h2 e2 c2 b2 z2 => ?_
      refine newC_i (cs := bgT bg0) fun h3 e3 c3 b3 z3 => ?_
      refine HU_box (us := x.enc) (show h3[h1.size]? = some (.cells rul0.enc.toArray 75 (0, 0)) by rw [e3.old _ (by omega)]; exact b2) rfl rfl (by kernel_rfl) rfl fun h4 c4 b4 f4 z4 => ?_
      refine HU_box (us := bgT [tok0, t, t2, t3, t4, t5, t6, tok0]) (f4.get b3 (by omega)) rfl rfl (by kernel_rfl) rfl fun h5 c5 b5 f5 z5 => ?_
      have E5 : Ext h1 h5 := extOwn (extOwn (e2.trans e3) f4 (fun k hk => by omega)) f5 (fun k hk => by omega)
      have c4' : Cl h5 ⟨h1.size, 0, none⟩ x.enc := f5.cl c4 (by show ¬ h1.size = _; omega)
      have S5 := S1.ext E5
      have lt1 := S1.n
      refine end_r S5.q ?_
      simp only [thenR] at H
      cases hE : endR (t7 :: r1) with
      | error f => rw [hE] at H; exact S5.up H
      | ok p2 =>
        obtain ⟨u, r2⟩ := p2
        rw [hE] at H
        simp only [List.headD_cons] at H
        intro h6 q6 f6
        have S6 := S5.step q6 f6
        have o1 := S6.o1; have o2 := S6.o2; have o3 := S6.o3; have o4 := S6.o4; have o5 := S6.o5; have o6 := S6.o6; have n6 := S6.n
        have cx6 : Cl h6 ⟨h1.size, 0, none⟩ x.enc := f6.cl c4' (by show ¬ h1.size = b; omega)
        have cb6 : Cl h6 ⟨h2.size, 0, none⟩ (bgT [tok0, t, t2, t3, t4, t5, t6, tok0]) := f6.cl c5 (by show ¬ h2.size = b; omega)
        obtain ⟨Ao, co, bo, ro, hAo⟩ := S6.o
        have clo : Cl h6 ⟨go, 0, none⟩ [.slice Ao out.length co] := Cl.of_block bo fun j v hj => by rw [Nat.zero_add]; exact hj
        refine ⟨rfl, _, _, _, ld (clo.at_ 0 _ rfl) (by kernel_rfl), ?_⟩
        by_cases h64 : out.length = 64
        · rw [if_pos h64] at H
          exact br_t (by rw [h64]; rfl) ⟨_, bgIx _ 1 (by omega), _, _, _, _, _, ldS (vs := t.enc) (cl_elem cb6 rfl) (by kernel_rfl), fails_s t 102 (S6.up H)⟩
        · rw [if_neg h64] at H
          refine br_f (by simp; omega) ?_
          unfold syntax_Rules_1_j1
          refine ⟨_, _, _, _, _, _, _, _, _, _, _, _, ldS (vs := x.enc) cx6 (by kernel_rfl), _, _, _, _, _, _, _, _, _, _, _, _, _, _, _, _, _, _, _, _, _, _, _, _, _, _, _, _, _, _, _, _, _, _, _, _, _, _, _, _, ldS (vs := bgT [tok0, t, t2, t3, t4, t5, t6, tok0]) cb6 (by kernel_rfl), ?_⟩
          refine right_s (b := b) x tok0 t t2 t3 t4 t5 t6 tok0 ?_
          cases hM : rightM x [tok0, t, t2, t3, t4, t5, t6, tok0] with
          | some f => rw [hM] at H; exact S6.up H
          | none =>
            rw [hM] at H
            intro h7 e7
            have S7 := S6.ext e7
            have cx7 := cx6.ext e7
            have cb7 := cb6.ext e7
            have cs7 : Cl h7 ⟨gs, 0, none⟩ [.map (some gm)] := Cl.of_block S7.s fun j v hj => by rw [Nat.zero_add]; exact hj
            refine ⟨rfl, _, ld (cs7.at_ 0 _ rfl) (by kernel_rfl), _, ld (cx7.at_ 0 _ rfl) (by kernel_rfl), _, look_map S7.m x.id, ?_⟩
            by_cases hin : x.id ∈ (noteL out).map (·.1)
            · simp only [if_pos hin] at H
              have hp : 0 < lookI (noteL out) x.id := look_in (fun p hp => by
                unfold noteL at hp
                obtain ⟨y, _, rfl⟩ := List.mem_map.1 hp
                show (0 : Int) < 1
                decide) hin
              exact br_t (by simpa using hp) ⟨_, bgIx _ 1 (by omega), _, _, _, _, _, ldS (vs := t.enc) (cl_elem cb7 rfl) (by kernel_rfl), fails_s t 103 (S7.up H)⟩
            · simp only [if_neg hin] at H
              have hz := look_not hin
              have lk := look_map S7.m x.id
              rw [hz] at lk ⊢
              refine br_f (by decide) ⟨_, ld (cs7.at_ 0 _ rfl) (by kernel_rfl), _, ld (cx7.at_ 0 _ rfl) (by kernel_rfl), _, lk, ?_⟩
              have w1 : IntKind.i64.wrap ((0 : Int) + 1) = 1 := by decide
              show HU Tryz.prog (Instr.mapUpdate _ _ _ (.int .i64 (IntKind.i64.wrap ((0 : Int) + 1)))) h7 _
              rw [w1]
              refine updN S7.m undMap undInt hin 1 fun h8 m8 f8 z8 => ?_
              obtain ⟨Ao, co, bo7, ro7, hAo⟩ := S7.o
              have bo8 := f8.get bo7 (by omega)
              have clo8 : Cl h8 ⟨go, 0, none⟩ [.slice Ao out.length co] := Cl.of_block bo8 fun j v hj => by rw [Nat.zero_add]; exact hj
              have n7 := S7.n
              have cx8 : Cl h8 ⟨h1.size, 0, none⟩ x.enc := f8.cl cx7 (by show ¬ h1.size = gm; omega)
              refine ⟨_, _, _, ld (clo8.at_ 0 _ rfl) (by kernel_rfl), _, _, _, _, _, _, _, _, _, _, _, _, ldS (vs := x.enc) cx8 (by kernel_rfl), ?_⟩
              refine newC_i (cs := x.enc) fun h9 e9 c9 b9 z9 => ?_
              obtain ⟨i, z, hi, hsz, hb0, hb1, hz, hzl⟩ := rulInfo
              have hn9 : n0 ≤ h9.size := by omega
              have ro9 : RowC h9 75 Rul.enc 12 Ao co out := (ro7.keep f8 (fun k hk he => by have := hAo k hk; omega)).ext e9
              refine appF (enc := Rul.enc) (sz := 12) (h0 := h9.extract 0 n0) (fun _ => rfl) (fun _ => rfl) undRules hi hz hzl hsz hb0 hb1 (ext_take hn9) ro9 (fun k hk => by rw [take_size hn9]; exact hAo k hk) c9 (by have := S7.ln; omega) fun h10 A' c' e10 r10 hF f10 => ?_
              refine ⟨_, _, _, rfl, ?_⟩
              have bo10 : h10[go]? = some (.cells [.slice Ao out.length co].toArray 22 (0, 0)) := f10.get (by rw [e9.old _ (by omega)]; exact bo8) (fun hk => by have := hAo _ hk; omega)
              refine HU_box (us := [.slice A' (out ++ [x]).length c']) bo10 rfl rfl (by kernel_rfl) rfl fun h11 c11 b11 f11 z11 => ?_
              have hA' : ∀ k, blk A' k → n0 ≤ k := fun k hk => by have := hF k hk; rwa [take_size hn9] at this
              have EB : Ext hB h11 := extOwn (extOwn ((extOwn S7.e f8 (fun k hk => by omega)).trans e9) f10 (fun k hk => by have := hAo k hk; omega)) f11 (fun k hk => by omega)
              have s10 := f10.size
              refine H h11 ⟨EB, by omega, ?_, S7.hA, o1, o2, o3, o4, o5, o6, ⟨A', c', b11, r10.keep f11 (fun k hk he => by have := hA' k hk; omega), hA'⟩, ?_, ?_, ?_, ?_⟩
              · exact (((S7.q.keep f8 (by omega) (fun k hk he => by have := S7.hA k hk; omega)).ext e9).keep f10 (fun hk => by have := hAo _ hk; omega) (fun k hk he => by have := hAo _ he; have := S7.hA k hk; omega)).keep f11 (by omega) (fun k hk he => by have := S7.hA k hk; omega)
              · exact f11.get (f10.get (by rw [e9.old _ (by omega)]; exact f8.get S7.s (by omega)) (fun hk => by have := hAo _ hk; omega)) (by omega)
              · have := (((m8.ext e9).keep f10 (fun hk => by have := hAo _ hk; omega)).keep f11 (by omega))
                unfold noteL at this ⊢
                rw [List.map_append]
                exact this
              · exact f11.get (f10.get (by rw [e9.old _ (by omega)]; exact f8.get S7.er (by omega)) (fun hk => by have := hAo _ hk; omega)) (by omega)
              · have := S7.ln
                rw [List.length_append]
                simp
                omega
end Go.Proofs.YtfdpccbajaiepaaGreatDoor.Lx

/- The tokens of a text: the last one ends a line; how many there are. -/
namespace Go.Proofs.YtfdpccbajaiepaaGreatDoor.Lx
open Go
set_option linter.unusedVariables false
theorem check_col {k : Nat} {tx : List UInt8} {u line col c2 : Nat} {t : TokM} {u' line' col' : Nat} {w : Option Flt} (h : checkM k tx u line col c2 = .tok t u' line' col' w) : col' = c2 := by
  unfold checkM at h
  split at h
  · cases h
  · split at h
    · split at h
      · cases h
      · injection h with _ _ _ h1; exact h1.symm
    · injection h with _ _ _ h1; exact h1.symm
theorem check_stop (k : Nat) (tx : List UInt8) (u line col c2 : Nat) : checkM k tx u line col c2 ≠ .stop := by
  unfold checkM
  split
  · simp
  · split
    · split <;> simp
    · simp
theorem ends_kind {r : List UInt8} {u line col : Nat} {t : TokM} {u' line' col' : Nat} {w : Option Flt} (h : endsM r u line col = .tok t u' line' col' w) : t.kind = 4 := by
  cases r with
  | nil =>
    simp only [endsM] at h
    split at h
    · cases h
    · injection h with h1; rw [← h1]
  | cons c r' =>
    simp only [endsM] at h
    injection h with h1; rw [← h1]
theorem read_kind {r : List UInt8} {line col : Nat} {t : TokM} {u' line' col' : Nat} {w : Option Flt} (h : readM r line col = .tok t u' line' col' w) (h0 : col' = 0) : t.kind = 4 := by
  simp only [readM] at h
  split at h
  · exact ends_kind h
  · rename_i c rr he
    split at h
    · exact ends_kind h
    · split at h
      · exact ends_kind h
      · split at h
        · cases h
        · rename_i h1 h2 hk
          have hc := check_col h
          exfalso
          have hm : 0 < (if kindB c = 3 then 1 else rowLen (kindB c) (r.drop (blanks r))) := by
            split
            · omega
            · rw [he]; simp [rowLen]
          omega
theorem read_stop {r : List UInt8} {line col : Nat} (h : readM r line col = .stop) : col = 0 := by
  have e : ∀ (r : List UInt8) (u line col : Nat), endsM r u line col = .stop → col = 0 := by
    intro r u line col h
    cases r with
    | nil =>
      simp only [endsM] at h
      split at h
      · assumption
      · cases h
    | cons c r' => simp only [endsM] at h; cases h
  simp only [readM] at h
  split at h
  · have := e _ _ _ _ h; omega
  · split at h
    · have := e _ _ _ _ h; omega
    · split at h
      · have := e _ _ _ _ h; omega
      · split at h
        · cases h
        · exact absurd h (check_stop _ _ _ _ _ _)
theorem lexL_good (f : Nat) : ∀ (r : List UInt8) (line col : Nat) (l : List TokM), lexL f r line col = some (.ok l) → (l = [] → col = 0) ∧ (∀ e, l.getLast? = some e → e.kind = 4) ∧ l.length ≤ todo r col := by
  induction f with
  | zero => intro r line col l h; cases h
  | succ f ih =>
    intro r line col l h
    unfold lexL at h
    cases hR : readM r line col with
    | stop =>
      rw [hR] at h
      simp only [Option.some.injEq, Except.ok.injEq] at h
      subst h
      exact ⟨fun _ => read_stop hR, by simp, by simp⟩
    | bad e => rw [hR] at h; simp at h
    | tok t u line' col' w =>
      rw [hR] at h
      cases w with
      | some w => simp at h
      | none =>
        simp only at h
        cases hL : lexL f (r.drop u) line' col' with
        | none => rw [hL] at h; simp at h
        | some R =>
          cases R with
          | error e => rw [hL] at h; simp at h
          | ok l' =>
            rw [hL] at h
            simp only [Option.some.injEq, Except.ok.injEq] at h
            subst h
            obtain ⟨h1, h2, h3⟩ := ih _ _ _ _ hL
            have ht := read_todo hR
            refine ⟨by simp, ?_, by simp; omega⟩
            cases l' with
            | nil =>
              intro e he
              simp at he
              subst he
              exact read_kind hR (h1 rfl)
            | cons a l' => intro e he; rw [List.getLast?_cons_cons] at he; exact h2 e he
theorem lexM_good {s : List UInt8} {ts : List TokM} (h : lexM s = some (.ok ts)) : (∀ e, ts.getLast? = some e → e.kind = 4) ∧ ts.length ≤ 900000 := by
  unfold lexM at h
  split at h
  · cases h
  · split at h
    · cases h
    · obtain ⟨_, h2, h3⟩ := lexL_good _ _ _ _ _ h
      refine ⟨h2, ?_⟩
      unfold todo at h3
      simp at h3
      omega
end Go.Proofs.YtfdpccbajaiepaaGreatDoor.Lx

/- Printed by sx.py: words over the heap alone for Go functions, and that each call does what its word says. -/
namespace Go.Proofs.YtfdpccbajaiepaaGreatDoor.Sxp.Fx
open Go Go.RowKit Go.Proofs.YtfdpccbajaiepaaGreatDoor.Sx
set_option linter.unusedVariables false
set_option maxRecDepth 100000
set_option maxHeartbeats 4000000

/-! ### quintet/syntax.Rules: function 5 -/
set_option maxRecDepth 100000 in
def syntax_Rules (s1 : ByteArray) (h : Hp) (K : Value → Hp → Prop) : Prop :=
  newC h (.cells #[(.slice none 0 0)] 22 (0, 0)) fun a3 h2 => 
  HW Tryz.prog (Instr.makeMap 79 none) h2 fun r5 h4 =>
  ∃ v6 : Value, r5 = v6 ∧ 
  newC h4 (.cells #[(.map none)] 79 (0, 0)) fun a8 h7 => 
  HU Tryz.prog (Instr.storeAt 79 (.pointer (some a8)) v6) h7 fun h9 => 
  CallsH Tryz.prog 21 #[(.string s1), (.func (.func 22) #[] #[(.pointer (some a3)), (.pointer (some a8))])] h9 fun r11 h10 =>
  ∃ v12 : Value, r11 = v12 ∧ 
  ∃ b13 : Bool, PV Tryz.prog (binOp .neq 24 v12 .nilIface) (.bool b13) ∧
  br b13
  (K (.tuple #[(.slice none 0 0), v12]) h10)
  (∃ A14 : Option Addr, ∃ l14 : Nat, ∃ c14 : Nat, HV Tryz.prog (Instr.loadAt 22 (.pointer (some a3))) h10 (.slice A14 l14 c14) ∧ 
  K (.tuple #[(.slice A14 l14 c14), .nilIface]) h10)
def syntax_Rules_lp (i : Nat) (Q : Qx) (tm : Tm) (h : Hp) : Prop := False
def syntax_Rules_cut (i : Nat) : Option (List Nat) := none
set_option maxRecDepth 100000 in
theorem syntax_Rules_eq (s1 : ByteArray) (h : Hp) (K : Value → Hp → Prop) : syntax_Rules s1 h K =
    codeWp Tryz.prog 15 false syntax_Rules_lp syntax_Rules_cut (bodyOf Tryz.f5) 1 (endQ Tryz.prog Tryz.f5.results.toList K) (argTm [(.string s1)]) h := by kernel_rfl
set_option maxRecDepth 100000 in
theorem syntax_Rules_ok (s1 : ByteArray) {h : Hp} {K : Value → Hp → Prop} (H : syntax_Rules s1 h K) : CallsH Tryz.prog 5 #[(.string s1)] h K :=
  calls_of (pn := false) (args := [(.string s1)]) (n := 15) (lp := syntax_Rules_lp) (cut := syntax_Rules_cut) Tryz.func5 (c := bodyOf Tryz.f5) (by kernel_rfl) (by kernel_rfl) (by kernel_rfl) (good_by (pn := false) (c := (bodyOf Tryz.f5)) (i := 1) (l := []) (by kernel_rfl) (fun _ h => by cases h))
    (Eq.mp (syntax_Rules_eq s1 h K) H)

end Go.Proofs.YtfdpccbajaiepaaGreatDoor.Sxp.Fx

/- Rules: what a text that is lexed is read as. -/
namespace Go.Proofs.YtfdpccbajaiepaaGreatDoor.Lx
open Go Go.RowKit Go.Proofs.YtfdpccbajaiepaaGreatDoor.Sx Go.Proofs.YtfdpccbajaiepaaGreatDoor.Sxp Go.Proofs.YtfdpccbajaiepaaGreatDoor.Sxp.Fx Go.Proofs.YtfdpccbajaiepaaGreatDoor.Fs
set_option linter.unusedVariables false
set_option linter.unusedSimpArgs false
set_option maxRecDepth 10000
theorem numR_lt {mx v : Int} {r r2 : List TokM} (h : numR mx r = .ok (v, r2)) : r2.length < r.length := by
  cases r with
  | nil => cases h
  | cons t r =>
    rw [numR_cons] at h
    cases hR : numM t mx with
    | error f => rw [hR] at h; cases h
    | ok x => rw [hR] at h; cases h; simp
theorem actR_lt {v : Int} {r r2 : List TokM} (h : actR r = .ok (v, r2)) : r2.length < r.length := by
  cases r with
  | nil => cases h
  | cons t r =>
    unfold actR at h
    simp only at h
    repeat' split at h
    all_goals (cases h)
    all_goals simp
theorem addrL_lt (j : Nat) : ∀ {v x : Int} {r r2 : List TokM}, addrL j v r = .ok (x, r2) → r2.length ≤ r.length := by
  induction j with
  | zero =>
    intro v x r r2 h
    unfold addrL at h
    cases h
    exact Nat.le_refl _
  | succ j ih =>
    intro v x r r2 h
    cases r with
    | nil => unfold addrL at h; cases h
    | cons t r =>
      unfold addrL at h
      split at h
      · split at h
        · cases h
        · rename_i y r3 hR
          have h1 := numR_lt hR
          have h2 := ih h
          simp
          omega
      · cases h
theorem addrR_lt {x : Int} {r r2 : List TokM} (h : addrR r = .ok (x, r2)) : r2.length < r.length := by
  unfold addrR at h
  split at h
  · cases h
  · rename_i y r3 hR
    have h1 := numR_lt hR
    have h2 := addrL_lt 3 h
    omega
theorem prefR_lt {v : Int × Int} {r r2 : List TokM} (h : prefR r = .ok (v, r2)) : r2.length < r.length := by
  cases r with
  | nil => cases h
  | cons t r =>
    unfold prefR at h
    simp only at h
    split at h
    · cases h; simp
    · split at h
      · cases h
      · cases h
      · rename_i a t2 r3 hR
        have h1 := addrR_lt hR
        split at h
        · split at h
          · cases h
          · rename_i l r4 hN
            have h2 := numR_lt hN
            cases h
            simp at h1 ⊢
            omega
        · cases h; exact h1
theorem spanR_lt {v : Int × Int} {r r2 : List TokM} (h : spanR r = .ok (v, r2)) : r2.length < r.length := by
  cases r with
  | nil => cases h
  | cons t r =>
    unfold spanR at h
    simp only at h
    split at h
    · cases h; simp
    · split at h
      · cases h
      · cases h
      · rename_i a t2 r3 hR
        have h1 := numR_lt hR
        split at h
        · split at h
          · cases h
          · rename_i l r4 hN
            have h2 := numR_lt hN
            cases h
            simp at h1 ⊢
            omega
        · cases h; exact h1
theorem maskR_lt {v : Int × Int} {r r2 : List TokM} (h : maskR r = .ok (v, r2)) : r2.length < r.length := by
  cases r with
  | nil => cases h
  | cons t r =>
    unfold maskR at h
    simp only at h
    split at h
    · cases h; simp
    · split at h
      · cases h
      · cases h
      · rename_i a t2 r3 hR
        have h1 := numR_lt hR
        split at h
        · split at h
          · cases h
          · rename_i l r4 hN
            have h2 := numR_lt hN
            cases h
            simp at h1 ⊢
            omega
        · cases h; exact h1
theorem endR_lt {v : Unit} {r r2 : List TokM} (h : endR r = .ok (v, r2)) : r2.length < r.length := by
  cases r with
  | nil => cases h
  | cons t r =>
    unfold endR at h
    simp only at h
    split at h
    · cases h; simp
    · cases h
theorem ruleR_lt {p : Rul × List TokM} {r r7 : List TokM} (h : ruleR r = .ok (p, r7)) : r7.length < r.length := by
  unfold ruleR at h
  obtain ⟨_, _, a1, h⟩ := then_ok h
  obtain ⟨_, _, a2, h⟩ := then_ok h
  obtain ⟨_, _, a3, h⟩ := then_ok h
  obtain ⟨_, _, a4, h⟩ := then_ok h
  obtain ⟨_, _, a5, h⟩ := then_ok h
  obtain ⟨_, _, a6, h⟩ := then_ok h
  obtain ⟨_, _, a7, h⟩ := then_ok h
  cases h
  have := numR_lt a1; have := actR_lt a2; have := prefR_lt a3; have := prefR_lt a4; have := spanR_lt a5; have := spanR_lt a6; have := maskR_lt a7
  omega
theorem end_good {v : Unit} {r r2 : List TokM} (h : endR r = .ok (v, r2)) (g : Good r) : Good r2 := by
  cases r with
  | nil => cases h
  | cons t r =>
    unfold endR at h
    simp only at h
    split at h
    · cases h; exact g.rest
    · cases h
theorem line_good {out out' : List Rul} {r r' : List TokM} (h : lineR out r = .ok (out', r')) (g : Good r) : Good r' ∧ r'.length < r.length := by
  unfold lineR at h
  obtain ⟨p, r1, a1, h⟩ := then_ok h
  obtain ⟨u, r2, a2, h⟩ := then_ok h
  have l1 := ruleR_lt a1
  have l2 := endR_lt a2
  have g2 := end_good a2 (good_rule g _ _ a1).1
  split at h
  · cases h
  · split at h
    · cases h
    · split at h
      · cases h
      · cases h; exact ⟨g2, by omega⟩
theorem callFP2 {P : Program} {f : FuncId} {a b c : Value} (hen : enters P f = true) {h : Hp} {K : Value → Hp → Prop} {KP : Kp} (H : CallsP P f #[a, b, c] h K KP) : HNP P (callS (.func (.func f) #[] #[b, c]) #[a]) h K KP := callFP (lb := #[b, c]) hen H
theorem callFP1 {P : Program} {f : FuncId} {a b : Value} (hen : enters P f = true) {h : Hp} {K : Value → Hp → Prop} {KP : Kp} (H : CallsP P f #[a, b] h K KP) : HNP P (callS (.func (.func f) #[] #[b]) #[a]) h K KP := callFP (lb := #[b]) hen H
theorem ent22 : enters Tryz.prog 22 = true := by kernel_rfl
def rulesR (ts : List TokM) : Except Flt (List Rul) := linesR lineR (ts.length + 1) [] ts
theorem Rules_s {h : Hp} {s : List UInt8} {ts : List TokM} (hl : lexM s = some (.ok ts)) {K : Value → Hp → Prop}
    (H : match rulesR ts with
      | .error f => ∀ h' g, Ext h h' → h.size ≤ g → FltC h' g f → K (.tuple #[.slice none 0 0, .iface 27 (.pointer (some ⟨g, 0, none⟩))]) h'
      | .ok l => ∀ h' A c, Ext h h' → RowC h' 75 Rul.enc 12 A c l → Fresh h A → K (.tuple #[.slice A l.length c, .nilIface]) h') :
    CallsH Tryz.prog 5 #[.string (bs s)] h K := by
  refine syntax_Rules_ok _ ?_
  unfold syntax_Rules
  refine newC_i (cs := [.slice none 0 0]) fun h1 e1 c1 b1 z1 => ?_
  refine makeN fun h2 e2 z2 m2 => ⟨_, rfl, ?_⟩
  refine newC_i (cs := [.map none]) fun h3 e3 c3 b3 z3 => ?_
  refine HU_box (us := [.map (some h1.size)]) b3 rfl rfl (by kernel_rfl) rfl fun h4 c4 b4 f4 z4 => ?_
  have E4 : Ext h h4 := extOwn ((e1.trans e2).trans e3) f4 (fun k hk => by omega)
  obtain ⟨hg, hlen⟩ := lexM_good hl
  have b1' : h4[h.size]? = some (.cells [.slice none 0 0].toArray 22 (0, 0)) := f4.get (by rw [e3.old _ (by omega), e2.old _ (by omega)]; exact b1) (by omega)
  have m4 : MapN h4 h1.size [] := (m2.ext e3).keep f4 (by omega)
  refine Read_s E4 hl hg hlen _ lineR [] (fun b A c => RlS h (b + 1) h.size h2.size h1.size h4.size b A c ts) (fun h5 b A c B => ⟨⟨?_, ?_, ?_, ?_⟩, ?_⟩) ?_ ?_
  · exact fun a r h6 S => S.q
  · exact fun a t r h6 h7 _ S q f => S.step q f
  · exact fun a t r h6 K KP S g hk HK => callFP2 ent22 (line_s S g HK)
  · exact fun a r a' r' hs g => line_good hs g
  · have e5 := B.e
    have ob := B.ob
    have z := B.z
    have zz := e5.size
    exact { e := E4.trans e5, n := by omega, q := B.q, hA := B.oA, o1 := Nat.le_refl _, o2 := by omega, o3 := by omega, o4 := by omega, o5 := ob, o6 := by omega
            o := ⟨none, 0, by rw [e5.old _ (by omega)]; exact b1', RowC.nil, fun k hk => by obtain ⟨a, ha, _⟩ := hk; cases ha⟩
            s := by rw [e5.old _ (by omega)]; exact b4
            m := m4.ext e5, er := B.er, ln := by simp }
  · exact fun b A c a r h6 S => S.er
  · unfold rulesR at H
    cases hR : linesR lineR (ts.length + 1) [] ts with
    | error f =>
      rw [hR] at H
      intro h5 g e5 hg hf
      refine ⟨_, rfl, true, fun w => ?_, br_t rfl (H h5 g e5 (by have := E4.size; omega) hf)⟩
      exact pureRun_run _ _ _ (by kernel_rfl) w
    | ok l =>
      rw [hR] at H
      intro b A c h5 S
      obtain ⟨Ao, co, bo, ro, hAo⟩ := S.o
      have clo : Cl h5 ⟨h.size, 0, none⟩ [.slice Ao l.length co] := Cl.of_block bo fun j v hj => by rw [Nat.zero_add]; exact hj
      have o1 := S.o1; have o2 := S.o2; have o3 := S.o3; have o4 := S.o4; have o5 := S.o5
      refine ⟨_, rfl, false, fun w => pureRun_run _ _ _ (by kernel_rfl) w, br_f rfl ⟨_, _, _, ld (clo.at_ 0 _ rfl) (by kernel_rfl), ?_⟩⟩
      exact H h5 Ao co S.e ro (fun k hk => by have := hAo k hk; omega)
end Go.Proofs.YtfdpccbajaiepaaGreatDoor.Lx

/- Lexing a text that is known piece by piece. -/
namespace Go.Proofs.YtfdpccbajaiepaaGreatDoor.Lx
open Go
set_option linter.unusedVariables false
theorem lexL_mono (f : Nat) : ∀ (r : List UInt8) (line col : Nat) (x : Except Flt (List TokM)), lexL f r line col = some x → ∀ f', f ≤ f' → lexL f' r line col = some x := by
  induction f with
  | zero => intro r line col x h; cases h
  | succ f ih =>
    intro r line col x h f' hf
    cases f' with
    | zero => omega
    | succ f' =>
      unfold lexL at h ⊢
      cases hR : readM r line col with
      | stop => rw [hR] at h; exact h
      | bad e => rw [hR] at h; exact h
      | tok t u line' col' w =>
        rw [hR] at h
        cases w with
        | some w => exact h
        | none =>
          simp only at h ⊢
          cases hL : lexL f (r.drop u) line' col' with
          | none => rw [hL] at h; simp at h
          | some y => rw [ih _ _ _ _ hL f' (by omega)]; rw [hL] at h; exact h
/-- This text is lexed to tokens of which P holds. -/
def Lexes (s : List UInt8) (line col : Nat) (P : List TokM → Prop) : Prop := ∃ f ts, lexL f s line col = some (.ok ts) ∧ P ts
theorem Lexes.mono {s : List UInt8} {line col : Nat} {P Q : List TokM → Prop} (h : Lexes s line col P) (hm : ∀ ts, P ts → Q ts) : Lexes s line col Q := by
  obtain ⟨f, ts, h1, h2⟩ := h
  exact ⟨f, ts, h1, hm ts h2⟩
theorem Lexes.read {s : List UInt8} {P : List TokM → Prop} (h : Lexes s 1 0 P) (hl : s.length ≤ 65536) (hm : lineLen s ≤ 200) : ∃ ts, lexM s = some (.ok ts) ∧ P ts := by
  obtain ⟨f, ts, h1, h2⟩ := h
  refine ⟨ts, ?_, h2⟩
  unfold lexM
  rw [if_neg (by omega), if_neg (by omega)]
  obtain ⟨R, hR⟩ := lexL_some (2 * s.length + 3) s 1 0 (by unfold todo; simp)
  have a := lexL_mono _ _ _ _ _ h1 (f + (2 * s.length + 3)) (by omega)
  have b := lexL_mono _ _ _ _ _ hR (f + (2 * s.length + 3)) (by omega)
  rw [hR]
  exact b.symm.trans a
theorem lex_tok {s : List UInt8} {line col : Nat} {P : List TokM → Prop} {t : TokM} {u line' col' : Nat} (hr : readM s line col = .tok t u line' col' none) (h : Lexes (s.drop u) line' col' fun ts => P (t :: ts)) : Lexes s line col P := by
  obtain ⟨f, ts, h1, h2⟩ := h
  refine ⟨f + 1, t :: ts, ?_, h2⟩
  unfold lexL
  rw [hr]
  simp only [h1]
theorem lex_stop {line : Nat} {P : List TokM → Prop} (h : P []) : Lexes [] line 0 P := ⟨1, [], rfl, h⟩
theorem read_blank {c : UInt8} {r : List UInt8} {line col : Nat} (hc : blankB c = true) : readM (c :: r) line col = (match readM r line (col + 1) with | .tok t u l c w => .tok t (u + 1) l c w | x => x) := by
  have hb : blanks (c :: r) = blanks r + 1 := by unfold blanks; rw [List.takeWhile_cons, hc]; rfl
  have hd : (c :: r).drop (blanks (c :: r)) = r.drop (blanks r) := by rw [hb]; rfl
  have ee : ∀ (x : List UInt8) (u n line : Nat), endsM x (u + 1) line n = (match endsM x u line n with | .tok t u l c w => .tok t (u + 1) l c w | x => x) := by
    intro x u n line
    cases x with
    | nil => simp only [endsM]; split <;> rfl
    | cons a x => simp only [endsM]
  have cc : ∀ (k : Nat) (tx : List UInt8) (u line n m : Nat), checkM k tx (u + 1) line n m = (match checkM k tx u line n m with | .tok t u l c w => .tok t (u + 1) l c w | x => x) := by
    intro k tx u line n m
    unfold checkM
    split
    · rfl
    · split
      · split <;> rfl
      · rfl
  simp only [readM]
  rw [hd, hb]
  have e1 : col + (blanks r + 1) = col + 1 + blanks r := by omega
  rw [e1]
  split
  · exact ee _ _ _ _
  · rename_i d rr he
    split
    · have := ee ((r.drop (blanks r)).drop (lineLen (r.drop (blanks r)))) (blanks r + lineLen (r.drop (blanks r))) (col + 1 + blanks r + lineLen (r.drop (blanks r))) line
      rw [show blanks r + 1 + lineLen (r.drop (blanks r)) = blanks r + lineLen (r.drop (blanks r)) + 1 by omega]
      exact this
    · split
      · exact ee _ _ _ _
      · split
        · have e3 : ((col : Int) + ((blanks r + 1 : Nat) : Int) + 1) = ((col + 1 : Nat) : Int) + (blanks r : Int) + 1 := by omega
          rw [e3]
        · have e2 : ∀ m, blanks r + 1 + m = blanks r + m + 1 := fun m => by omega
          rw [e2]
          exact cc _ _ _ _ _ _
theorem lex_blank {c : UInt8} {r : List UInt8} {line col : Nat} {P : List TokM → Prop} (hc : blankB c = true) (h : Lexes r line (col + 1) P) : Lexes (c :: r) line col P := by
  obtain ⟨f, ts, h1, h2⟩ := h
  refine ⟨f, ts, ?_, h2⟩
  cases f with
  | zero => cases h1
  | succ f =>
    unfold lexL at h1 ⊢
    rw [read_blank hc]
    cases hR : readM r line (col + 1) with
    | stop => rw [hR] at h1; exact h1
    | bad e => rw [hR] at h1; exact h1
    | tok t u line' col' w =>
      rw [hR] at h1
      cases w with
      | none => exact h1
      | some w => exact h1
theorem row_app {k : Nat} {l r : List UInt8} (hl : ∀ c ∈ l, kindB c = k) (hr : ∀ c, r.head? = some c → kindB c ≠ k) : rowLen k (l ++ r) = l.length := by
  unfold rowLen
  induction l with
  | nil =>
    cases r with
    | nil => rfl
    | cons c r =>
      have := hr c rfl
      rw [List.nil_append, List.takeWhile_cons]
      simp [this]
  | cons c l ih =>
    rw [List.cons_append, List.takeWhile_cons]
    have : (kindB c == k) = true := by simp [hl c (by simp)]
    rw [this]
    simp only [if_true, List.length_cons]
    rw [ih fun c hc => hl c (by simp [hc])]
theorem kind_not {c : UInt8} (h : kindB c ≠ 0) : blankB c = false ∧ c.toNat ≠ 35 ∧ c.toNat ≠ 10 := by
  unfold kindB at h
  unfold blankB
  split at h
  · refine ⟨?_, by omega, by omega⟩
    simp; omega
  · split at h
    · refine ⟨?_, by omega, by omega⟩
      simp; omega
    · split at h
      · refine ⟨?_, by omega, by omega⟩
        simp; omega
      · exact absurd rfl h
theorem read_row {k : Nat} {c : UInt8} {l r : List UInt8} {line col : Nat} (hk : k = 1 ∨ k = 2) (hl : ∀ x ∈ c :: l, kindB x = k) (hr : ∀ x, r.head? = some x → kindB x ≠ k) :
    readM (c :: l ++ r) line col = checkM k (c :: l) (c :: l).length line (col + 1) (col + (c :: l).length) := by
  have hc : kindB c = k := hl c (by simp)
  obtain ⟨n1, n2, n3⟩ := kind_not (c := c) (by omega)
  have hb : blanks (c :: (l ++ r)) = 0 := by unfold blanks; rw [List.takeWhile_cons, n1]; rfl
  rw [List.cons_append]
  simp only [readM, hb, List.drop_zero, if_neg n2, if_neg n3, hc, if_neg (show ¬ k = 0 by omega), if_neg (show ¬ k = 3 by omega)]
  have := row_app hl hr
  rw [List.cons_append] at this
  rw [this, ← List.cons_append, List.take_left]
  simp only [Nat.zero_add, Nat.add_zero]
structure isNum (t : TokM) (u : Nat) : Prop where
  k : t.kind = 2
  v : t.value = (u : Int)
structure isWrd (t : TokM) (w : List UInt8) : Prop where
  k : t.kind = 1
  x : t.text = w
structure isSgn (t : TokM) (c : UInt8) : Prop where
  k : t.kind = 3
  x : t.text = [c]
theorem lex_num {u : Nat} (hu : u < 4294967296) {r : List UInt8} {line col : Nat} {P : List TokM → Prop} (hr : ∀ x, r.head? = some x → kindB x ≠ 2) (h : ∀ col', Lexes r line col' fun ts => ∀ t, isNum t u → P (t :: ts)) : Lexes (dec u ++ r) line col P := by
  obtain ⟨c, l, he⟩ : ∃ c l, dec u = c :: l := by
    cases hd : dec u with
    | nil => exact absurd hd (dec_ne u)
    | cons c l => exact ⟨c, l, rfl⟩
  have hrd := read_row (line := line) (col := col) (.inr rfl) (l := l) (c := c) (by rw [← he]; exact dec_kind u) hr
  rw [← he] at hrd
  have hck : checkM 2 (dec u) (dec u).length line (col + 1) (col + (dec u).length) = .tok ⟨2, dec u, (u : Int), line, ((col + 1 : Nat) : Int)⟩ (dec u).length line (col + (dec u).length) none := by
    unfold checkM
    rw [if_neg (by omega), if_pos rfl, dec_good u hu, dec_val u hu]
    rfl
  refine lex_tok (hrd.trans hck) ?_
  rw [List.drop_left]
  exact (h _).mono fun ts hts => hts _ ⟨rfl, rfl⟩
theorem lex_word {w : List UInt8} (hw : w ≠ []) (hw16 : w.length ≤ 16) (hk : ∀ c ∈ w, kindB c = 1) {r : List UInt8} {line col : Nat} {P : List TokM → Prop} (hr : ∀ x, r.head? = some x → kindB x ≠ 1) (h : ∀ col', Lexes r line col' fun ts => ∀ t, isWrd t w → P (t :: ts)) : Lexes (w ++ r) line col P := by
  obtain ⟨c, l, he⟩ : ∃ c l, w = c :: l := by
    cases w with
    | nil => exact absurd rfl hw
    | cons c l => exact ⟨c, l, rfl⟩
  have hrd := read_row (line := line) (col := col) (.inl rfl) (l := l) (c := c) (by rw [← he]; exact hk) hr
  rw [← he] at hrd
  have hck : checkM 1 w w.length line (col + 1) (col + w.length) = .tok ⟨1, w, 0, line, ((col + 1 : Nat) : Int)⟩ w.length line (col + w.length) none := by
    unfold checkM
    rw [if_neg (by omega), if_neg (by omega)]
    rfl
  refine lex_tok (hrd.trans hck) ?_
  rw [List.drop_left]
  exact (h _).mono fun ts hts => hts _ ⟨rfl, rfl⟩
theorem lex_sign {c : UInt8} (hk : kindB c = 3) {r : List UInt8} {line col : Nat} {P : List TokM → Prop} (h : ∀ col', Lexes r line col' fun ts => ∀ t, isSgn t c → P (t :: ts)) : Lexes (c :: r) line col P := by
  obtain ⟨n1, n2, n3⟩ := kind_not (c := c) (by omega)
  have hb : blanks (c :: r) = 0 := by unfold blanks; rw [List.takeWhile_cons, n1]; rfl
  have hrd : readM (c :: r) line col = .tok ⟨3, [c], 0, line, ((col + 0 + 1 : Nat) : Int)⟩ (0 + 1) line (col + 0 + 1) none := by
    simp only [readM, hb, List.drop_zero, if_neg n2, if_neg n3, hk]
    unfold checkM
    rw [if_neg (by omega), if_neg (by omega)]
    rfl
  refine lex_tok hrd ?_
  exact (h _).mono fun ts hts => hts _ ⟨rfl, rfl⟩
theorem lex_end {r : List UInt8} {line col : Nat} {P : List TokM → Prop} (hm : lineLen r ≤ 200) (h : Lexes r (line + 1) 0 fun ts => ∀ t : TokM, t.kind = 4 → P (t :: ts)) : Lexes (10 :: r) line col P := by
  have hb : blanks (10 :: r) = 0 := by unfold blanks; rw [List.takeWhile_cons]; rfl
  have hrd : readM (10 :: r) line col = .tok ⟨4, [10], 0, line, ((col + 0 + 1 : Nat) : Int)⟩ (0 + 1) (line + 1) 0 none := by
    simp only [readM, hb, List.drop_zero]
    rw [if_neg (by decide), if_pos (by decide)]
    simp only [endsM]
    rw [if_neg (by omega)]
    rfl
  refine lex_tok hrd ?_
  exact h.mono fun ts hts => hts _ rfl
end Go.Proofs.YtfdpccbajaiepaaGreatDoor.Lx

/- Pieces of a text: what is printed is lexed and read as itself. -/
namespace Go.Proofs.YtfdpccbajaiepaaGreatDoor.Lx
open Go Go.RowKit Go.Proofs.YtfdpccbajaiepaaGreatDoor.Sx Go.Proofs.YtfdpccbajaiepaaGreatDoor.Pr
set_option linter.unusedVariables false
set_option linter.unusedSimpArgs false
theorem sgn_is {t : TokM} {c : UInt8} (h : isSgn t c) (d : UInt8) : isSign t [d] = decide (c = d) := by
  unfold isSign
  rw [h.k, h.x]
  simp
theorem sgn_kind {t : TokM} (h : t.kind ≠ 3) (s : List UInt8) : isSign t s = false := by
  unfold isSign
  simp [h]
theorem num_ok {t : TokM} {u : Nat} (h : isNum t u) {mx : Int} (hu : (u : Int) ≤ mx) (rest : List TokM) : numR mx (t :: rest) = .ok ((u : Int), rest) := by
  rw [numR_cons]
  unfold numM
  rw [if_pos h.k, h.v, if_neg (by omega)]
/-- A token that joins nothing. -/
def plainT (t : TokM) : Prop := isSign t [47] = false ∧ isSign t [58] = false
def Sep (rest : List TokM) : Prop := ∃ t l, rest = t :: l ∧ plainT t
/-- These tokens are read as v. -/
structure Piece {α : Type} (R : List TokM → ReR α) (v : α) (pre : List TokM) : Prop where
  hd : ∃ t l, pre = t :: l ∧ plainT t
  rd : ∀ rest, Sep rest → R (pre ++ rest) = .ok (v, rest)
theorem Piece.sep {α : Type} {R : List TokM → ReR α} {v : α} {pre : List TokM} (p : Piece R v pre) (rest : List TokM) : Sep (pre ++ rest) := by
  obtain ⟨t, l, rfl, h⟩ := p.hd
  exact ⟨t, l ++ rest, rfl, h⟩
def sepB (r : List UInt8) : Prop := ∀ x, r.head? = some x → x = 32 ∨ x = 10
theorem sepB.kind {r : List UInt8} (h : sepB r) (k : Nat) (hk : k ≠ 0) : ∀ x, r.head? = some x → kindB x ≠ k := by
  intro x hx
  rcases h x hx with rfl | rfl
  · show (0 : Nat) ≠ k; omega
  · show (0 : Nat) ≠ k; omega
/-- This text is read as v. -/
def Prints {α : Type} (T : List UInt8) (R : List TokM → ReR α) (v : α) : Prop :=
  ∀ (r : List UInt8) (line col : Nat) (P : List TokM → Prop), sepB r → (∀ col', Lexes r line col' fun ts => ∀ pre, Piece R v pre → P (pre ++ ts)) → Lexes (T ++ r) line col P
theorem prints_blank {α : Type} {T : List UInt8} {R : List TokM → ReR α} {v : α} (h : Prints T R v) : Prints (32 :: T) R v := fun r line col P hs H => lex_blank rfl (h r line (col + 1) P hs H)
theorem num_plain {t : TokM} {u : Nat} (h : isNum t u) : plainT t := ⟨sgn_kind (by rw [h.k]; omega) _, sgn_kind (by rw [h.k]; omega) _⟩
theorem prints_num {u : Nat} (hu : u < 4294967296) {mx : Int} (hm : (u : Int) ≤ mx) : Prints (dec u) (numR mx) (u : Int) := fun r line col P hs H =>
  lex_num hu (hs.kind 2 (by omega)) fun col' => (H col').mono fun ts h t ht => h [t] ⟨⟨t, [], rfl, num_plain ht⟩, fun rest _ => num_ok ht hm rest⟩
/-! ### addresses -/
theorem or256 {n x : Nat} (hn : n < 16777216) (hx : x < 256) : bOr .u32 (IntKind.u32.wrap ((n : Int) * 256)) (x : Int) = ((n * 256 + x : Nat) : Int) := by
  have e0 : IntKind.u32.wrap ((n : Int) * 256) = ((n * 256 : Nat) : Int) := by
    simp only [IntKind.wrap, IntKind.bits, IntKind.signed]
    simp
    omega
  rw [e0]
  unfold bOr
  have e1 : BitVec.ofInt IntKind.u32.bits ((n * 256 : Nat) : Int) = BitVec.ofNat 32 (n * 256) := by rw [BitVec.ofInt_natCast]; rfl
  have e2 : BitVec.ofInt IntKind.u32.bits (x : Int) = BitVec.ofNat 32 x := by rw [BitVec.ofInt_natCast]; rfl
  have e3 : (BitVec.ofInt IntKind.u32.bits ((n * 256 : Nat) : Int) ||| BitVec.ofInt IntKind.u32.bits (x : Int)).toNat = n * 256 + x := by
    rw [e1, e2]
    show (BitVec.ofNat 32 (n * 256) ||| BitVec.ofNat 32 x).toNat = _
    rw [BitVec.toNat_or, BitVec.toNat_ofNat, BitVec.toNat_ofNat, Nat.mod_eq_of_lt (by omega), Nat.mod_eq_of_lt (by omega)]
    have := Nat.shiftLeft_add_eq_or_of_lt (i := 8) (b := x) (by omega) n
    rw [Nat.shiftLeft_eq] at this
    exact this.symm
  rw [e3]
  simp only [IntKind.wrap, IntKind.bits, IntKind.signed]
  simp
  omega
theorem addr_ok {a : Nat} (ha : a < 4294967296) {n3 n2 n1 n0 s3 s2 s1 : TokM} (h3 : isNum n3 (a / 2 ^ 24 % 256)) (h2 : isNum n2 (a / 2 ^ 16 % 256)) (h1 : isNum n1 (a / 2 ^ 8 % 256)) (h0 : isNum n0 (a / 2 ^ 0 % 256))
    (k3 : isSgn s3 46) (k2 : isSgn s2 46) (k1 : isSgn s1 46) (rest : List TokM) : addrR (n3 :: s3 :: n2 :: s2 :: n1 :: s1 :: n0 :: rest) = .ok ((a : Int), rest) := by
  have lt : ∀ k : Nat, a / 2 ^ k % 256 < 256 := fun k => Nat.mod_lt _ (by decide)
  unfold addrR
  rw [num_ok h3 (by have := lt 24; omega)]
  simp only
  unfold addrL
  rw [sgn_is k3, if_pos (by decide), num_ok h2 (by have := lt 16; omega)]
  simp only
  rw [or256 (by have := lt 24; omega) (lt 16)]
  unfold addrL
  rw [sgn_is k2, if_pos (by decide), num_ok h1 (by have := lt 8; omega)]
  simp only
  rw [or256 (by have := lt 24; have := lt 16; omega) (lt 8)]
  unfold addrL
  rw [sgn_is k1, if_pos (by decide), num_ok h0 (by have := lt 0; omega)]
  simp only
  rw [or256 (by have := lt 24; have := lt 16; have := lt 8; omega) (lt 0)]
  unfold addrL
  have e : ((a / 2 ^ 24 % 256 * 256 + a / 2 ^ 16 % 256) * 256 + a / 2 ^ 8 % 256) * 256 + a / 2 ^ 0 % 256 = a := by
    simp only [Nat.reducePow]
    omega
  rw [e]
def addrT0 (a : Nat) : List UInt8 := dec (a / 2 ^ 24 % 256) ++ (46 :: (dec (a / 2 ^ 16 % 256) ++ (46 :: (dec (a / 2 ^ 8 % 256) ++ (46 :: dec (a / 2 ^ 0 % 256))))))
theorem addrT_eq (a : Nat) : addrT a = 32 :: addrT0 a := by
  unfold addrT addrT0
  simp [dec]
/-- An address, whatever comes behind but a digit. -/
theorem lex_addr {a : Nat} (ha : a < 4294967296) {r : List UInt8} {line col : Nat} {P : List TokM → Prop} (hr : ∀ x, r.head? = some x → kindB x ≠ 2)
    (H : ∀ col', Lexes r line col' fun ts => ∀ t l, t.kind = 2 → (∀ rest, addrR (t :: l ++ rest) = .ok ((a : Int), rest)) → P (t :: l ++ ts)) : Lexes (addrT0 a ++ r) line col P := by
  have lt : ∀ k : Nat, a / 2 ^ k % 256 < 4294967296 := fun k => by have : a / 2 ^ k % 256 < 256 := Nat.mod_lt _ (by decide); omega
  have h46 : ∀ x l, (46 :: l : List UInt8).head? = some x → kindB x ≠ 2 := by
    intro x l hx
    simp only [List.head?_cons, Option.some.injEq] at hx
    subst hx
    decide
  unfold addrT0
  simp only [List.append_assoc, List.cons_append]
  refine lex_num (lt 24) (fun x hx => h46 x _ hx) fun _ => lex_sign rfl fun _ => lex_num (lt 16) (fun x hx => h46 x _ hx) fun _ => lex_sign rfl fun _ => lex_num (lt 8) (fun x hx => h46 x _ hx) fun _ => lex_sign rfl fun _ => lex_num (lt 0) hr fun c' => (H c').mono ?_
  intro ts h n0 h0 s1 k1 n1 h1 s2 k2 n2 h2 s3 k3 n3 h3
  exact h n3 [s3, n2, s2, n1, s1, n0] h3.k (fun rest => addr_ok ha h3 h2 h1 h0 k3 k2 k1 rest)
theorem kind2_plain {t : TokM} (h : t.kind = 2) : plainT t := ⟨sgn_kind (by omega) _, sgn_kind (by omega) _⟩
theorem prints_addr {a : Nat} (ha : a < 4294967296) : Prints (addrT0 a) addrR (a : Int) := fun r line col P hs H =>
  lex_addr ha (hs.kind 2 (by omega)) fun col' => (H col').mono fun ts h t l hk hrd => h (t :: l) ⟨⟨t, l, rfl, kind2_plain hk⟩, fun rest _ => hrd rest⟩
end Go.Proofs.YtfdpccbajaiepaaGreatDoor.Lx

/- Printing: a header. -/
namespace Go.Proofs.YtfdpccbajaiepaaGreatDoor.Pr
open Go Go.RowKit Go.Proofs.YtfdpccbajaiepaaGreatDoor.Sx Go.Proofs.YtfdpccbajaiepaaGreatDoor.Sxp Go.Proofs.YtfdpccbajaiepaaGreatDoor.Sxp.Fx Go.Proofs.YtfdpccbajaiepaaGreatDoor.Lx
set_option linter.unusedVariables false
set_option linter.unusedSimpArgs false
set_option maxRecDepth 10000
theorem u64w (n : Nat) (h : n < 18446744073709551616) : IntKind.u64.wrap (n : Int) = (n : Int) := by
  simp only [IntKind.wrap, IntKind.bits, IntKind.signed]
  simp
  omega
theorem undU8 : Tryz.prog.underlying 5 = some (.int .u8) := by kernel_rfl
def hdrT (s d sp dp pr : Nat) : List UInt8 := addrT0 s ++ (32 :: (addrT0 d ++ (32 :: (dec sp ++ (32 :: (dec dp ++ (32 :: dec pr)))))))
theorem addrT_len (a : Nat) (ha : a < 4294967296) : (addrT a).length ≤ 44 := by
  have lt : ∀ k : Nat, a / 2 ^ k % 256 < 256 := fun k => Nat.mod_lt _ (by decide)
  have d : ∀ k : Nat, (Lib.decDigits (a / 2 ^ k % 256)).length ≤ 10 := fun k => decl_len _ (by have := lt k; omega)
  have d1 := d 24; have d2 := d 16; have d3 := d 8; have d4 := d 0
  unfold addrT
  simp only [List.length_append, List.length_cons, List.length_nil]
  omega
theorem ByR.clT {h : Hp} {A : Option Addr} {c : Nat} {l : List UInt8} (r : ByT h A c l) (h0 : 0 < l.length) : ∃ a, A = some a ∧ Cl h a (Lib.byteCells l) ∧ l.length ≤ c := by
  obtain ⟨a, ha, cl⟩ := RSl.some r.read h0
  rw [flatB] at cl
  refine ⟨a, ha, cl, ?_⟩
  rcases r.row with ⟨rfl, h1, _⟩ | ⟨g, rest, rfl, hb, h1, h2, h3⟩
  · omega
  · exact h3
theorem PrintHeader_s {h : Hp} (t : Tab h) (s d sp dp pr : Nat) (hs : s < 4294967296) (hd : d < 4294967296) (hsp : sp < 65536) (hdp : dp < 65536) (hpr : pr < 256) {K : Value → Hp → Prop}
    (H : ∀ h', Ext h h' → K (.string (bs (hdrT s d sp dp pr))) h') : CallsH Tryz.prog 18 #[.agg #[.int .u32 (s : Int), .int .u32 (d : Int), .int .u16 (sp : Int), .int .u16 (dp : Int), .int .u8 (pr : Int)]] h K := by
  refine syntax_PrintHeader_ok _ _ _ _ _ ?_
  unfold syntax_PrintHeader
  refine newC_i (cs := [.int .u32 (s : Int), .int .u32 (d : Int), .int .u16 (sp : Int), .int .u16 (dp : Int), .int .u8 (pr : Int)]) fun h1 e1 c1 b1 z1 => ?_
  have t1 := t.ext e1
  refine ⟨_, ld (c1.at_ 0 _ rfl) (by kernel_rfl), ?_⟩
  have ls := addrT_len s hs
  have ldd := addrT_len d hd
  have l1 := decl_len sp (by omega)
  have l2 := decl_len dp (by omega)
  refine address_s (l := []) t1 s hs (Ext.refl h1) ByR.nil (Fresh.none _) (by simp) fun h2 A2 c2 e2 o2 r2 F2 => ⟨_, _, _, rfl, ?_⟩
  rw [List.nil_append] at r2 ⊢
  refine ⟨_, ld ((c1.ext e2).at_ 1 _ rfl) (by kernel_rfl), ld (c1.at_ 1 _ rfl) (by kernel_rfl), ?_⟩
  refine address_s t1 d hd e2 r2 F2 (by omega) fun h3 A3 c3 e3 o3 r3 F3 => ⟨_, _, _, rfl, ?_⟩
  refine ⟨_, ld ((c1.ext e3).at_ 2 _ rfl) (by kernel_rfl), ?_⟩
  rw [u64w sp (by omega)]
  refine number_s t1 [32] sp (by omega) e3 r3 F3 (by simp; omega) fun h4 A4 c4 e4 o4 r4 F4 => ⟨_, _, _, rfl, ?_⟩
  refine ⟨_, ld ((c1.ext e4).at_ 3 _ rfl) (by kernel_rfl), ?_⟩
  rw [u64w dp (by omega)]
  refine number_s t1 [32] dp (by omega) e4 r4 F4 (by simp at *; omega) fun h5 A5 c5 e5 o5 r5 F5 => ⟨_, _, _, rfl, ?_⟩
  refine ⟨_, ld ((c1.ext e5).at_ 4 _ rfl) (by kernel_rfl), ?_⟩
  rw [u64w pr (by omega)]
  refine number_s t1 [32] pr (by omega) e5 r5 F5 (by simp at *; omega) fun h6 A6 c6 e6 o6 r6 F6 => ⟨_, _, _, rfl, ?_⟩
  have eq : addrT s ++ addrT d ++ [32] ++ Lib.decDigits sp ++ [32] ++ Lib.decDigits dp ++ [32] ++ Lib.decDigits pr = 32 :: hdrT s d sp dp pr := by
    rw [addrT_eq, addrT_eq]
    unfold hdrT
    simp only [List.append_assoc, List.cons_append, List.nil_append]
  rw [eq] at r6 ⊢
  have hne : 0 < (hdrT s d sp dp pr).length := by unfold hdrT; simp only [List.length_append, List.length_cons]; omega
  obtain ⟨a, rfl, cl, hlc⟩ := ByR.clT r6 (by simp)
  obtain ⟨i, z, hi, hz, hzl, hi1, hb⟩ := byInfo
  refine ⟨_, _, _, slLo (i := i) undBy hi (by omega) (by simp only [List.length_cons]; omega), ?_⟩
  have hc1 : ¬ c6 = (1 : Int).toNat := by
    simp only [List.length_cons] at hlc
    show ¬ c6 = 1
    omega
  have e3' : (if c6 = (1 : Int).toNat then some a else (some a).map (·.add ((1 : Int).toNat * i.size))) = some (a.add 1) := by
    rw [if_neg hc1, hi1]
    rfl
  rw [e3']
  have cl2 : Cl h6 (a.add 1) (Lib.byteCells (hdrT s d sp dp pr)) := cl.sub 1 fun j v hj => by
    show (Lib.byteCells (32 :: hdrT s d sp dp pr))[1 + j]? = some v
    rw [Nat.add_comm]
    exact hj
  refine ⟨_, convCl undBy undStr undU8 cl2 (by simp), ?_⟩
  exact H h6 (e1.trans e6)
end Go.Proofs.YtfdpccbajaiepaaGreatDoor.Pr

/- A header as 13 bytes, and back. -/
namespace Go.Proofs.YtfdpccbajaiepaaGreatDoor.Pr
open Go Go.RowKit Go.Proofs.YtfdpccbajaiepaaGreatDoor.Sx Go.Proofs.YtfdpccbajaiepaaGreatDoor.Sxp Go.Proofs.YtfdpccbajaiepaaGreatDoor.Sxp.Fx Go.Proofs.YtfdpccbajaiepaaGreatDoor.Lx Go.Proofs.YtfdpccbajaiepaaGreatDoor.Fs
set_option linter.unusedVariables false
set_option linter.unusedSimpArgs false
set_option maxRecDepth 200000
theorem u8w (n : Nat) : IntKind.u8.wrap (n : Int) = ((n % 256 : Nat) : Int) := by
  simp only [IntKind.wrap, IntKind.bits, IntKind.signed]
  simp
theorem fd (n k : Nat) : IntKind.u8.wrap (Int.fdiv (n : Int) (k : Int)) = ((n / k % 256 : Nat) : Int) := by
  rw [← Int.ofNat_fdiv]
  exact u8w _
theorem u32w (n : Nat) (h : n < 4294967296) : IntKind.u32.wrap (n : Int) = (n : Int) := by
  simp only [IntKind.wrap, IntKind.bits, IntKind.signed]
  simp
  omega
theorem u16w (n : Nat) (h : n < 65536) : IntKind.u16.wrap (n : Int) = (n : Int) := by
  simp only [IntKind.wrap, IntKind.bits, IntKind.signed]
  simp
  omega
theorem or32 (k m x : Nat) (hx : x < 2 ^ k) (hs : m * 2 ^ k + x < 4294967296) : bOr .u32 ((m * 2 ^ k : Nat) : Int) (x : Int) = ((m * 2 ^ k + x : Nat) : Int) := by
  unfold bOr
  have e1 : BitVec.ofInt IntKind.u32.bits ((m * 2 ^ k : Nat) : Int) = BitVec.ofNat 32 (m * 2 ^ k) := by rw [BitVec.ofInt_natCast]; rfl
  have e2 : BitVec.ofInt IntKind.u32.bits (x : Int) = BitVec.ofNat 32 x := by rw [BitVec.ofInt_natCast]; rfl
  have e3 : (BitVec.ofInt IntKind.u32.bits ((m * 2 ^ k : Nat) : Int) ||| BitVec.ofInt IntKind.u32.bits (x : Int)).toNat = m * 2 ^ k + x := by
    rw [e1, e2]
    show (BitVec.ofNat 32 (m * 2 ^ k) ||| BitVec.ofNat 32 x).toNat = _
    rw [BitVec.toNat_or, BitVec.toNat_ofNat, BitVec.toNat_ofNat, Nat.mod_eq_of_lt (show m * 2 ^ k < 2 ^ 32 by omega), Nat.mod_eq_of_lt (show x < 2 ^ 32 by omega)]
    have := Nat.shiftLeft_add_eq_or_of_lt hx m
    rw [Nat.shiftLeft_eq] at this
    exact this.symm
  rw [e3]
  exact u32w _ hs
theorem or16 (k m x : Nat) (hx : x < 2 ^ k) (hs : m * 2 ^ k + x < 65536) : bOr .u16 ((m * 2 ^ k : Nat) : Int) (x : Int) = ((m * 2 ^ k + x : Nat) : Int) := by
  unfold bOr
  have e1 : BitVec.ofInt IntKind.u16.bits ((m * 2 ^ k : Nat) : Int) = BitVec.ofNat 16 (m * 2 ^ k) := by rw [BitVec.ofInt_natCast]; rfl
  have e2 : BitVec.ofInt IntKind.u16.bits (x : Int) = BitVec.ofNat 16 x := by rw [BitVec.ofInt_natCast]; rfl
  have e3 : (BitVec.ofInt IntKind.u16.bits ((m * 2 ^ k : Nat) : Int) ||| BitVec.ofInt IntKind.u16.bits (x : Int)).toNat = m * 2 ^ k + x := by
    rw [e1, e2]
    show (BitVec.ofNat 16 (m * 2 ^ k) ||| BitVec.ofNat 16 x).toNat = _
    rw [BitVec.toNat_or, BitVec.toNat_ofNat, BitVec.toNat_ofNat, Nat.mod_eq_of_lt (show m * 2 ^ k < 2 ^ 16 by omega), Nat.mod_eq_of_lt (show x < 2 ^ 16 by omega)]
    have := Nat.shiftLeft_add_eq_or_of_lt hx m
    rw [Nat.shiftLeft_eq] at this
    exact this.symm
  rw [e3]
  exact u16w _ hs
def byC (n : Nat) : Value := .int .u8 (n : Int)
def pk (s d sp dp pr : Nat) : List Value := [byC (s / 16777216 % 256), byC (s / 65536 % 256), byC (s / 256 % 256), byC (s % 256), byC (d / 16777216 % 256), byC (d / 65536 % 256), byC (d / 256 % 256), byC (d % 256), byC (sp / 256 % 256), byC (sp % 256), byC (dp / 256 % 256), byC (dp % 256), byC pr]
def hdE (s d sp dp pr : Nat) : List Value := [.int .u32 (s : Int), .int .u32 (d : Int), .int .u16 (sp : Int), .int .u16 (dp : Int), .int .u8 (pr : Int)]
theorem packed_s (s d sp dp pr : Nat) {h : Hp} {K : Value → Hp → Prop} (H : ∀ h', Ext h h' → K (.agg (pk s d sp dp pr).toArray) h') : CallsH Tryz.prog 41 #[.agg (hdE s d sp dp pr).toArray] h K := by
  refine header_packed_ok _ _ _ _ _ ?_
  unfold header_packed
  refine newC_i (cs := hdE s d sp dp pr) fun h1 e1 c1 b1 z1 => ?_
  refine newC_i (cs := [byC 0, byC 0, byC 0, byC 0, byC 0, byC 0, byC 0, byC 0, byC 0, byC 0, byC 0, byC 0, byC 0]) fun h2 e2 c2 b2 z2 => ?_
  have c12 := c1.ext e2
  refine ⟨_, ld (c12.at_ 0 _ rfl) (by kernel_rfl), _, ld (c12.at_ 0 _ rfl) (by kernel_rfl), _, ld (c12.at_ 0 _ rfl) (by kernel_rfl), _, ld (c12.at_ 0 _ rfl) (by kernel_rfl), ?_⟩
  refine ⟨_, ld (c12.at_ 1 _ rfl) (by kernel_rfl), _, ld (c12.at_ 1 _ rfl) (by kernel_rfl), _, ld (c12.at_ 1 _ rfl) (by kernel_rfl), _, ld (c12.at_ 1 _ rfl) (by kernel_rfl), ?_⟩
  refine ⟨_, ld (c12.at_ 2 _ rfl) (by kernel_rfl), _, ld (c12.at_ 2 _ rfl) (by kernel_rfl), _, ld (c12.at_ 3 _ rfl) (by kernel_rfl), _, ld (c12.at_ 3 _ rfl) (by kernel_rfl), _, ld (c12.at_ 4 _ rfl) (by kernel_rfl), ?_⟩
  have f1 : ∀ n : Nat, IntKind.u8.wrap (Int.fdiv (n : Int) 16777216) = ((n / 16777216 % 256 : Nat) : Int) := fun n => fd n 16777216
  have f2 : ∀ n : Nat, IntKind.u8.wrap (Int.fdiv (n : Int) 65536) = ((n / 65536 % 256 : Nat) : Int) := fun n => fd n 65536
  have f3 : ∀ n : Nat, IntKind.u8.wrap (Int.fdiv (n : Int) 256) = ((n / 256 % 256 : Nat) : Int) := fun n => fd n 256
  rw [f1 s, f2 s, f3 s, u8w s, f1 d, f2 d, f3 d, u8w d, f3 sp, u8w sp, f3 dp, u8w dp]
  refine HU_box (us := pk s d sp dp pr) b2 rfl rfl (by kernel_rfl) rfl fun h3 c3 b3 f3 z3 => ?_
  exact ⟨_, _, _, _, _, _, _, _, _, _, _, _, _, ldS (vs := pk s d sp dp pr) c3 (by kernel_rfl), H h3 (extOwn (e1.trans e2) f3 (fun k hk => by omega))⟩
theorem Pack_s (s d sp dp pr : Nat) {h : Hp} {K : Value → Hp → Prop} (H : ∀ h' A c, Ext h h' → RSl h' A 13 1 (pk s d sp dp pr) → 13 ≤ c → (∀ k, blk A k → k < h'.size) → K (.slice A 13 c) h') : CallsH Tryz.prog 16 #[.agg (hdE s d sp dp pr).toArray] h K := by
  refine header_Pack_ok _ _ _ _ _ ?_
  unfold header_Pack
  refine newC_i (cs := hdE s d sp dp pr) fun h1 e1 c1 b1 z1 => ?_
  refine ⟨_, _, _, _, _, ldS (vs := hdE s d sp dp pr) c1 (by kernel_rfl), ?_⟩
  refine packed_s s d sp dp pr fun h2 e2 => ⟨_, _, _, _, _, _, _, _, _, _, _, _, _, rfl, ?_⟩
  refine newV (us := pk s d sp dp pr) rfl rfl (by kernel_rfl) rfl fun h3 e3 c3 b3 z3 => ?_
  refine ⟨some ⟨h2.size, 0, none⟩, 13, 13, fun w => pureRun_run _ _ _ (by kernel_rfl) w, ?_⟩
  obtain ⟨i, z, hi, hz, hzl, hi1, hb⟩ := byInfo
  refine HW_appendC (P := Tryz.prog) (T := 58) (E := 5) (A := none) (n := 0) (c := 0) (m := 13) (cx := 13) (cs := []) (ns := pk s d sp dp pr) undBy hi hz hzl (by omega) (.inl ⟨rfl, rfl, rfl, rfl⟩) c3 (by rw [hi1]; rfl) (by omega) rfl (by rw [hb]; decide) fun h4 A' c' r4 hA hs f4 hc => ?_
  refine ⟨_, _, _, rfl, ?_⟩
  rw [hi1] at r4
  rw [List.nil_append] at r4
  rw [show (0 + 13 : Nat) = 13 from rfl] at r4
  refine H h4 A' c' (extOwn ((e1.trans e2).trans e3) f4 (fun k hk => by obtain ⟨a, ha, _⟩ := hk; cases ha)) r4.read ?_ (fun k hk => r4.blk_lt hk)
  rcases r4 with ⟨_, h0, _⟩ | ⟨g, rest, _, _, _, _, h3⟩
  · omega
  · exact h3
theorem ar1 (b0 b1 : Nat) : b0 * 2 ^ 24 + b1 * 65536 = (b0 * 256 + b1) * 2 ^ 16 := by simp only [Nat.reducePow]; omega
theorem ar2 {b2 : Nat} (h : b2 < 256) : b2 * 256 < 2 ^ 16 := by simp only [Nat.reducePow]; omega
theorem ar3 {b0 b1 b2 : Nat} (h0 : b0 < 256) (h1 : b1 < 256) (h2 : b2 < 256) : (b0 * 256 + b1) * 2 ^ 16 + b2 * 256 < 4294967296 := by simp only [Nat.reducePow]; omega
theorem ar4 (b0 b1 b2 : Nat) : (b0 * 256 + b1) * 2 ^ 16 + b2 * 256 = ((b0 * 256 + b1) * 256 + b2) * 2 ^ 8 := by simp only [Nat.reducePow]; omega
theorem ar5 {b3 : Nat} (h : b3 < 256) : b3 < 2 ^ 8 := by simp only [Nat.reducePow]; omega
theorem ar6 {b0 b1 b2 b3 : Nat} (h0 : b0 < 256) (h1 : b1 < 256) (h2 : b2 < 256) (h3 : b3 < 256) : ((b0 * 256 + b1) * 256 + b2) * 2 ^ 8 + b3 < 4294967296 := by simp only [Nat.reducePow]; omega
theorem ar7 (b0 b1 b2 b3 : Nat) : ((b0 * 256 + b1) * 256 + b2) * 2 ^ 8 + b3 = b0 * 16777216 + b1 * 65536 + b2 * 256 + b3 := by simp only [Nat.reducePow]; omega
theorem ar8 {b1 : Nat} (h : b1 < 256) : b1 * 65536 < 2 ^ 24 := by simp only [Nat.reducePow]; omega
theorem ar9 {b0 b1 : Nat} (h0 : b0 < 256) (h1 : b1 < 256) : b0 * 2 ^ 24 + b1 * 65536 < 4294967296 := by simp only [Nat.reducePow]; omega
theorem ar10 (s : Nat) (hs : s < 4294967296) : s / 16777216 % 256 * 16777216 + s / 65536 % 256 * 65536 + s / 256 % 256 * 256 + s % 256 = s := by omega
theorem ar11 (s : Nat) (hs : s < 65536) : s / 256 % 256 * 256 + s % 256 = s := by omega
theorem word_s {h : Hp} {a : Addr} {l c : Nat} (hl : 4 ≤ l) (b0 b1 b2 b3 : Nat) (h0 : b0 < 256) (h1 : b1 < 256) (h2 : b2 < 256) (h3 : b3 < 256) (cl : Cl h a [byC b0, byC b1, byC b2, byC b3]) {K : Value → Hp → Prop} (H : K (.int .u32 ((b0 * 16777216 + b1 * 65536 + b2 * 256 + b3 : Nat) : Int)) h) :
    CallsH Tryz.prog 42 #[.slice (some a) l c] h K := by
  refine header_word_ok _ _ _ ?_
  unfold header_word
  have hs : (Tryz.prog.info? 5).map (·.size) = some 1 := by kernel_rfl
  refine ⟨_, ix (sz := 1) (by omega) (by omega) undBy hs, _, ld (cl.at_ 0 _ rfl) (by kernel_rfl), _, ix (sz := 1) (by omega) (by omega) undBy hs, _, ld (cl.at_ 1 _ rfl) (by kernel_rfl), _, ix (sz := 1) (by omega) (by omega) undBy hs, _, ld (cl.at_ 2 _ rfl) (by kernel_rfl), _, ix (sz := 1) (by omega) (by omega) undBy hs, _, ld (cl.at_ 3 _ rfl) (by kernel_rfl), ?_⟩
  have w : ∀ n k : Nat, n < 256 → n * k < 4294967296 → IntKind.u32.wrap (IntKind.u32.wrap (n : Int) * (k : Int)) = ((n * k : Nat) : Int) := fun n k hn hk => by
    rw [u32w n (by omega), ← Int.natCast_mul, u32w _ hk]
  have e0 : IntKind.u32.wrap (IntKind.u32.wrap (b0 : Int) * 16777216) = ((b0 * 2 ^ 24 : Nat) : Int) := w b0 16777216 h0 (by omega)
  have e1 : IntKind.u32.wrap (IntKind.u32.wrap (b1 : Int) * 65536) = ((b1 * 65536 : Nat) : Int) := w b1 65536 h1 (by omega)
  have e2 : IntKind.u32.wrap (IntKind.u32.wrap (b2 : Int) * 256) = ((b2 * 256 : Nat) : Int) := w b2 256 h2 (by omega)
  have e3 : IntKind.u32.wrap (b3 : Int) = (b3 : Int) := u32w b3 (by omega)
  rw [e0, e1, e2, e3]
  clear w e0 e1 e2 e3
  rw [or32 24 b0 (b1 * 65536) (ar8 h1) (ar9 h0 h1)]
  rw [ar1 b0 b1, or32 16 _ (b2 * 256) (ar2 h2) (ar3 h0 h1 h2), ar4 b0 b1 b2, or32 8 _ b3 (ar5 h3) (ar6 h0 h1 h2 h3), ar7 b0 b1 b2 b3]
  exact H
theorem port_s {h : Hp} {a : Addr} {l c : Nat} (hl : 2 ≤ l) (b0 b1 : Nat) (h0 : b0 < 256) (h1 : b1 < 256) (cl : Cl h a [byC b0, byC b1]) {K : Value → Hp → Prop} (H : K (.int .u16 ((b0 * 256 + b1 : Nat) : Int)) h) :
    CallsH Tryz.prog 43 #[.slice (some a) l c] h K := by
  refine header_port_ok _ _ _ ?_
  unfold header_port
  have hs : (Tryz.prog.info? 5).map (·.size) = some 1 := by kernel_rfl
  refine ⟨_, ix (sz := 1) (by omega) (by omega) undBy hs, _, ld (cl.at_ 0 _ rfl) (by kernel_rfl), _, ix (sz := 1) (by omega) (by omega) undBy hs, _, ld (cl.at_ 1 _ rfl) (by kernel_rfl), ?_⟩
  have e0 : IntKind.u16.wrap (IntKind.u16.wrap (b0 : Int) * 256) = ((b0 * 2 ^ 8 : Nat) : Int) := by
    have := u16w (b0 * 256) (by omega)
    rw [u16w b0 (by omega)]
    rw [Int.natCast_mul] at this
    simp only [Nat.reducePow, Int.natCast_mul]
    exact this
  rw [e0, u16w b1 (by omega), or16 8 b0 b1 (by simp only [Nat.reducePow]; omega) (by simp only [Nat.reducePow]; omega)]
  exact H
theorem Unpack_s {h : Hp} {A : Option Addr} {c : Nat} (s d sp dp pr : Nat) (hs : s < 4294967296) (hd : d < 4294967296) (hsp : sp < 65536) (hdp : dp < 65536) (r : RSl h A 13 1 (pk s d sp dp pr)) (hc : 13 ≤ c) {K : Value → Hp → Prop}
    (H : ∀ h', Ext h h' → K (.tuple #[.agg (hdE s d sp dp pr).toArray, .int .i64 0]) h') : CallsH Tryz.prog 17 #[.slice A 13 c] h K := by
  refine header_Unpack_ok _ _ _ ?_
  unfold header_Unpack
  refine newC_i (cs := hdE 0 0 0 0 0) fun h1 e1 c1 b1 z1 => ?_
  refine br_f (by decide) ?_
  obtain ⟨a, rfl, cl⟩ := (r.ext e1).some (by omega)
  obtain ⟨i, z, hi, hz, hzl, hi1, hb⟩ := byInfo
  have sz : (Tryz.prog.info? 5).map (·.size) = some 1 := by kernel_rfl
  have lt : ∀ n : Nat, n % 256 < 256 := fun n => Nat.mod_lt _ (by decide)
  have cut : ∀ n : Nat, n < 13 → (if c = (n : Int).toNat then some a else (some a).map (·.add ((n : Int).toNat * i.size))) = some (a.add n) := fun n hn => by
    rw [if_neg (by rw [Int.toNat_natCast]; omega), hi1, Int.toNat_natCast, Nat.mul_one]
    rfl
  have sl : ∀ n : Nat, n < 13 → PV Tryz.prog (Instr.sliceAt 58 (.slice (some a) 13 c) (some (.int .i64 (n : Int))) none none) (.slice (some (a.add n)) (13 - n) (c - n)) := fun n hn => by
    have := slLo (P := Tryz.prog) (T := 58) (A := some a) (l := 13) (c := c) (x := (n : Int)) (i := i) undBy hi (by omega) (by omega)
    rw [cut n hn] at this
    rw [Int.toNat_natCast] at this
    exact this
  have cl0 : Cl h1 a [byC (s / 16777216 % 256), byC (s / 65536 % 256), byC (s / 256 % 256), byC (s % 256)] := cl.sub 0 fun j v hj => by
    match j, hj with
    | 0, hj => exact hj
    | 1, hj => exact hj
    | 2, hj => exact hj
    | 3, hj => exact hj
  have cl4 : Cl h1 (a.add 4) [byC (d / 16777216 % 256), byC (d / 65536 % 256), byC (d / 256 % 256), byC (d % 256)] := cl.sub 4 fun j v hj => by
    match j, hj with
    | 0, hj => exact hj
    | 1, hj => exact hj
    | 2, hj => exact hj
    | 3, hj => exact hj
  have cl8 : Cl h1 (a.add 8) [byC (sp / 256 % 256), byC (sp % 256)] := cl.sub 8 fun j v hj => by
    match j, hj with
    | 0, hj => exact hj
    | 1, hj => exact hj
  have cl10 : Cl h1 (a.add 10) [byC (dp / 256 % 256), byC (dp % 256)] := cl.sub 10 fun j v hj => by
    match j, hj with
    | 0, hj => exact hj
    | 1, hj => exact hj
  refine word_s (by omega) _ _ _ _ (lt _) (lt _) (lt _) (lt _) cl0 ⟨_, rfl, _, _, _, sl 4 (by omega), ?_⟩
  refine word_s (by omega) _ _ _ _ (lt _) (lt _) (lt _) (lt _) cl4 ⟨_, rfl, _, _, _, sl 8 (by omega), ?_⟩
  refine port_s (by omega) _ _ (lt _) (lt _) cl8 ⟨_, rfl, _, _, _, sl 10 (by omega), ?_⟩
  refine port_s (by omega) _ _ (lt _) (lt _) cl10 ⟨_, rfl, ?_⟩
  have hv := ld (P := Tryz.prog) (t := 5) (cl.at_ 12 (byC pr) rfl) (by kernel_rfl)
  refine ⟨_, ix (sz := 1) (by omega) (by omega) undBy sz, (pr : Int), hv, hv, hv, hv, hv, ?_⟩
  rw [ar10 s hs, ar10 d hd, ar11 sp hsp, ar11 dp hdp]
  refine HU_box (us := hdE s d sp dp pr) b1 rfl rfl (by kernel_rfl) rfl fun h3 c3 b3 f3 z3 => ?_
  exact ⟨_, _, _, _, _, ldS (vs := hdE s d sp dp pr) c3 (by kernel_rfl), H h3 (extOwn e1 f3 (fun k hk => by omega))⟩
end Go.Proofs.YtfdpccbajaiepaaGreatDoor.Pr

/- strings.Builder: what is written stands in it. -/
namespace Go.Proofs.YtfdpccbajaiepaaGreatDoor.Pr
open Go Go.RowKit Go.Proofs.YtfdpccbajaiepaaGreatDoor.Sx Go.Proofs.YtfdpccbajaiepaaGreatDoor.Sxp Go.Proofs.YtfdpccbajaiepaaGreatDoor.Sxp.Fx Go.Proofs.YtfdpccbajaiepaaGreatDoor.Lx
set_option linter.unusedVariables false
set_option linter.unusedSimpArgs false
set_option maxRecDepth 10000
/-- All is kept but block b and rows of bytes. -/
def OthB (b : Nat) (h h' : Hp) : Prop := ∀ (k : Nat) (o : Obj), h[k]? = some o → k ≠ b → (∀ c fz, o ≠ Obj.cells c 5 fz) → h'[k]? = some o
theorem OthB.trans {b : Nat} {x y z : Hp} (p : OthB b x y) (q : OthB b y z) : OthB b x z := fun k o h hb ho => q k o (p k o h hb ho) hb ho
theorem OthB.of {b : Nat} {h h' : Hp} (p : OthT h h') : OthB b h h' := fun k o h hb ho => p k o h ho
theorem OthB.fr {b : Nat} {h h' : Hp} (f : Fr (fun k => k = b) h h') : OthB b h h' := fun k o h hb ho => f.get h hb
theorem OthB.cells {b : Nat} {h h' : Hp} (x : OthB b h h') {k : Nat} {cs : Array Value} {T : TypeId} {fz : Nat × Nat} (hb : h[k]? = some (.cells cs T fz)) (hk : k ≠ b) (hT : T ≠ 5) : h'[k]? = some (.cells cs T fz) := x k _ hb hk (fun c f h => by injection h with _ h1; exact hT h1)
def bdC (p : Option Addr) (A : Option Addr) (n c : Nat) : List Value := [.pointer p, .slice A n c]
/-- A builder of the call's own that holds these bytes. -/
structure BdS (h0 h : Hp) (b : Nat) (l : List UInt8) : Prop where
  e : Ext h0 h
  hb : h0.size ≤ b
  ex : ∃ p A c, (p = none ∨ p = some ⟨b, 0, none⟩) ∧ h[b]? = some (.cells (bdC p A l.length c).toArray 113 (0, 0)) ∧ ByT h A c l ∧ Fresh h0 A ∧ ¬ blk A b
/-- .. written to before. -/
structure BdW (h0 h : Hp) (b : Nat) (A : Option Addr) (c : Nat) (l : List UInt8) : Prop where
  e : Ext h0 h
  hb : h0.size ≤ b
  bb : h[b]? = some (.cells (bdC (some ⟨b, 0, none⟩) A l.length c).toArray 113 (0, 0))
  r : ByT h A c l
  f : Fresh h0 A
  nb : ¬ blk A b
theorem undBd : Tryz.prog.underlying 111 = some (.pointer 113) := by kernel_rfl
theorem undUn : Tryz.prog.underlying 89 = some .unsafePointer := by kernel_rfl
theorem bdSz : (Tryz.prog.info? 113).map (·.size) = some 2 := by kernel_rfl
theorem bd_neq (a : Addr) : PV Tryz.prog (binOp .neq 111 (.pointer (some a)) (.pointer (some a))) (.bool false) := by
  intro w
  cases hi : Tryz.prog.info? 113 with
  | none => have := bdSz; rw [hi] at this; cases this
  | some j => exact Lib.run_neq_ptr_same w a undBd hi
theorem bd_shape {h : Hp} {b : Nat} {p A : Option Addr} {n c : Nat} (hb : h[b]? = some (.cells (bdC p A n c).toArray 113 (0, 0))) (w : World) (hw : w.heap = h) : w.shape? b = some (113, 2) := by
  subst hw
  simp [World.shape?, hb, bdC]
theorem bd_lies : liesAt Tryz.prog Tryz.prog.depth 113 (2 / Tryz.prog.cellsOf 113) 0 113 1 = true := by kernel_rfl
theorem bd_to {h : Hp} {b : Nat} {p A : Option Addr} {n c : Nat} (hb : h[b]? = some (.cells (bdC p A n c).toArray 113 (0, 0))) : HV Tryz.prog (convert 111 89 (.pointer (some ⟨b, 0, none⟩))) h (.pointer (some ⟨b, 0, none⟩)) := by
  intro w hw
  cases hi : Tryz.prog.info? 113 with
  | none => have := bdSz; rw [hi] at this; cases this
  | some j =>
    have hj : j.size = 2 := by have := bdSz; rw [hi] at this; simpa using this
    exact Lib.run_to_unsafe w ⟨b, 0, none⟩ undBd undUn hi (by omega) (bd_shape hb w hw) (by show 0 < 2; omega)
theorem bd_from {h : Hp} {b : Nat} {p A : Option Addr} {n c : Nat} (hb : h[b]? = some (.cells (bdC p A n c).toArray 113 (0, 0))) : HV Tryz.prog (convert 89 111 (.pointer (some ⟨b, 0, none⟩))) h (.pointer (some ⟨b, 0, none⟩)) := by
  intro w hw
  cases hi : Tryz.prog.info? 113 with
  | none => have := bdSz; rw [hi] at this; cases this
  | some j => exact Lib.run_from_unsafe w ⟨b, 0, none⟩ undUn undBd hi (bd_shape hb w hw) bd_lies
theorem check_s {h0 h : Hp} {b : Nat} {l : List UInt8} (S : BdS h0 h b l) {K : Value → Hp → Prop} (H : ∀ h' A c, BdW h0 h' b A c l → Fr (fun k => k = b) h h' → K (.tuple #[]) h') :
    CallsH Tryz.prog 69 #[.pointer (some ⟨b, 0, none⟩)] h K := by
  obtain ⟨e, hb, p, A, c, hp, bb, r, f, nb⟩ := S
  refine strings_Builder_copyCheck_ok _ ?_
  unfold strings_Builder_copyCheck
  have cl : Cl h ⟨b, 0, none⟩ (bdC p A l.length c) := Cl.of_block bb fun j v hj => by rw [Nat.zero_add]; exact hj
  refine ⟨_, ld (cl.at_ 0 _ rfl) (by kernel_rfl), _, eqNil (by kernel_rfl), ?_⟩
  rcases hp with rfl | rfl
  · refine br_t rfl ⟨_, bd_to bb, _, bd_from bb, ?_⟩
    refine HU_st (o := 0) (us := [.pointer (some ⟨b, 0, none⟩)]) bb rfl (by kernel_rfl) (by simp [bdC]) rfl ?_
    have f2 : Fr (fun k => k = b) h (setB h b (bdC (some ⟨b, 0, none⟩) A l.length c) 113) := setB_fr rfl
    exact H _ A c ⟨extOwn e f2 (fun k hk => by omega), hb, setB_get (lt_of_get bb), r.keep f2 (fun k hk he => nb (he ▸ hk)), f, nb⟩ f2
  · refine br_f rfl ⟨_, ld (cl.at_ 0 _ rfl) (by kernel_rfl), false, fun w hw => bd_neq _ w, br_f rfl ?_⟩
    exact H h A c ⟨e, hb, bb, r, f, nb⟩ (Fr.refl _ _)
/-- The buffer stored. -/
theorem bd_buf {h0 h h1 : Hp} {b : Nat} {A A' : Option Addr} {c c' : Nat} {l l' : List UInt8} (S : BdW h0 h b A c l) (e1 : Ext h0 h1) (o1 : OthT h h1) (r1 : ByT h1 A' c' l') (f1 : Fresh h0 A') {K : Hp → Prop}
    (H : ∀ h', BdS h0 h' b l' → OthB b h h' → K h') : HU Tryz.prog (Instr.storeAt 58 (.pointer (some ((⟨b, 0, none⟩ : Addr).add 1))) (.slice A' l'.length c')) h1 K := by
  have bb1 := o1.cells S.bb (by decide)
  have nb' : ¬ blk A' b := by
    rintro ⟨a, ha, hk⟩
    rcases r1.row with ⟨rfl, _⟩ | ⟨g, rest, rfl, hb, _⟩
    · cases ha
    · injection ha with ha
      subst ha
      simp only at hk
      subst hk
      rw [hb] at bb1
      injection bb1 with bb1
      injection bb1 with _ h3
      exact absurd h3 (by decide)
  rw [add_eq0]
  refine HU_st (o := 1) (us := [.slice A' l'.length c']) bb1 rfl (by kernel_rfl) (by simp [bdC]) rfl ?_
  have f2 : Fr (fun k => k = b) h1 (setB h1 b (bdC (some ⟨b, 0, none⟩) A' l'.length c') 113) := setB_fr rfl
  refine H _ ⟨extOwn e1 f2 (fun k hk => by have := S.hb; omega), S.hb, _, A', c', .inr rfl, setB_get (lt_of_get bb1), r1.keep f2 (fun k hk he => nb' (he ▸ hk)), f1, nb'⟩ ((OthB.of o1).trans (OthB.fr f2))
theorem wstr_s {h0 h : Hp} {b : Nat} {l : List UInt8} (S : BdS h0 h b l) (s : List UInt8) (hl : l.length + s.length ≤ 1000000000) {K : Value → Hp → Prop} (H : ∀ h', BdS h0 h' b (l ++ s) → OthB b h h' → K (.tuple #[.int .i64 ((bs s).size : Int), .nilIface]) h') :
    CallsH Tryz.prog 37 #[.pointer (some ⟨b, 0, none⟩), .string (bs s)] h K := by
  refine strings_Builder_WriteString_ok _ _ ?_
  unfold strings_Builder_WriteString
  refine check_s S fun h1 A c W f1 => ⟨rfl, ?_⟩
  have cl : Cl h1 ⟨b, 0, none⟩ (bdC (some ⟨b, 0, none⟩) A l.length c) := Cl.of_block W.bb fun j v hj => by rw [Nat.zero_add]; exact hj
  refine ⟨_, _, _, ld (cl.at_ 1 _ rfl) (by kernel_rfl), ?_⟩
  refine app_s s W.e W.r W.f hl fun h2 A2 c2 e2 o2 r2 f2 => ⟨_, _, _, rfl, ?_⟩
  exact bd_buf W e2 o2 r2 f2 fun h3 S3 o3 => H h3 S3 ((OthB.fr f1).trans o3)
theorem wbyte_s {h0 h : Hp} {b : Nat} {l : List UInt8} (S : BdS h0 h b l) (x : UInt8) (hl : l.length ≤ 1000000000) {K : Value → Hp → Prop} (H : ∀ h', BdS h0 h' b (l ++ [x]) → OthB b h h' → K .nilIface h') :
    CallsH Tryz.prog 51 #[.pointer (some ⟨b, 0, none⟩), .int .u8 (x.toNat : Int)] h K := by
  refine strings_Builder_WriteByte_ok _ _ ?_
  unfold strings_Builder_WriteByte
  refine check_s S fun h1 A c W f1 => ⟨rfl, ?_⟩
  have cl : Cl h1 ⟨b, 0, none⟩ (bdC (some ⟨b, 0, none⟩) A l.length c) := Cl.of_block W.bb fun j v hj => by rw [Nat.zero_add]; exact hj
  refine ⟨_, _, _, ld (cl.at_ 1 _ rfl) (by kernel_rfl), ?_⟩
  refine newC_i (cs := encB x) fun h2 e2 c2 b2 z2 => ?_
  obtain ⟨i, z, hi, hz, hzl, hi1, hb⟩ := byInfo
  refine appF (enc := encB) (sz := 1) (x := x) (fun _ => rfl) (fun _ => rfl) undBy hi hz (by omega) hi1 (by omega) (by omega) (W.e.trans e2) (W.r.ext e2) W.f c2 hl fun h3 A3 c3 e3 r3 f3 fr3 => ⟨_, _, _, rfl, ?_⟩
  have r2 : ByT h2 A c l := W.r.ext e2
  exact bd_buf W e3 ((Ext.oth e2).trans (fr3.oth r2)) r3 f3 fun h4 S4 o4 => H h4 S4 ((OthB.fr f1).trans o4)
theorem blen_s {h0 h : Hp} {b : Nat} {l : List UInt8} (S : BdS h0 h b l) {K : Value → Hp → Prop} (H : K (.int .i64 (l.length : Int)) h) : CallsH Tryz.prog 52 #[.pointer (some ⟨b, 0, none⟩)] h K := by
  obtain ⟨e, hb, p, A, c, hp, bb, r, f, nb⟩ := S
  refine strings_Builder_Len_ok _ ?_
  unfold strings_Builder_Len
  have cl : Cl h ⟨b, 0, none⟩ (bdC p A l.length c) := Cl.of_block bb fun j v hj => by rw [Nat.zero_add]; exact hj
  exact ⟨_, _, _, ld (cl.at_ 1 _ rfl) (by kernel_rfl), H⟩
theorem own_of {w : World} {B : Nat} {A : Option Addr} {c : Nat} {l : List UInt8} (r : ByT w.heap A c l) (hF : ∀ k, blk A k → B ≤ k) : w.ownsRow B 5 1 (.slice A l.length c) l.length (Lib.byteCells l) := by
  have r1 := r.row
  unfold Row at r1
  rw [flatB] at r1
  refine ⟨by rw [Lib.byteCells_length, Nat.mul_one], ?_⟩
  rcases r1 with ⟨rfl, h1, rfl, h2⟩ | ⟨g, rest, rfl, hb, h1, h2, h3⟩
  · left
    exact ⟨by rw [h1], h1⟩
  · right
    refine ⟨g, c, (Lib.byteCells l ++ rest).toArray, rfl, hF g ⟨_, rfl, rfl⟩, hb, h3, ?_, by simpa using h2, ?_⟩
    · have := r.cap
      unfold maxLen
      omega
    · simp only [Nat.mul_one]
      rw [← Lib.byteCells_length l]
      simp
/-- String: the bytes. -/
theorem bstr_s {h0 h : Hp} {b : Nat} {l : List UInt8} (S : BdS h0 h b l) {K : Value → Hp → Prop} (H : ∀ h', Ext h0 h' → K (.string (bs l)) h') : CallsH Tryz.prog 38 #[.pointer (some ⟨b, 0, none⟩)] h K := fun w hw => by
  subst hw
  obtain ⟨e, hb, p, A, c, hp, bb, r, f, nb⟩ := S
  have ib : Lib.IsBuilder 113 5 h0.size b (Lib.byteCells l) w := by
    have own := own_of r f
    have nbo : (Value.slice A l.length c).ownBlock ≠ some b := by
      cases A with
      | none => simp [Value.ownBlock]
      | some a =>
        simp only [Value.ownBlock, ne_eq, Option.some.injEq]
        exact fun h => nb ⟨a, rfl, h⟩
    have own' : w.ownsRow h0.size 5 1 (.slice A l.length c) (Lib.byteCells l).length (Lib.byteCells l) := by rw [Lib.byteCells_length]; exact own
    rcases hp with rfl | rfl
    · exact .inl ⟨hb, _, bb, own', nbo⟩
    · exact .inr ⟨hb, _, bb, own', nbo⟩
  refine (Tryz.Builder_String_any h0.size b l w ib e.size).mono fun en w' hh => ?_
  obtain ⟨rfl, bl⟩ := hh
  exact ⟨_, rfl, ⟨bl.os, bl.tape, bl.output, trivial⟩, H _ ⟨Nat.le_trans e.size bl.size, fun k hk => by rw [bl.block k hk, e.old k hk]⟩⟩
end Go.Proofs.YtfdpccbajaiepaaGreatDoor.Pr

/- The reader: the command 'ask'. -/
namespace Go.Proofs.YtfdpccbajaiepaaGreatDoor.Lx
open Go Go.RowKit Go.Proofs.YtfdpccbajaiepaaGreatDoor.Sx Go.Proofs.YtfdpccbajaiepaaGreatDoor.Sxp Go.Proofs.YtfdpccbajaiepaaGreatDoor.Sxp.Fx Go.Proofs.YtfdpccbajaiepaaGreatDoor.Fs
set_option linter.unusedVariables false
set_option linter.unusedSimpArgs false
set_option maxRecDepth 10000
def kInsert : List UInt8 := [105, 110, 115, 101, 114, 116]
def kDelete : List UInt8 := [100, 101, 108, 101, 116, 101]
def kMove : List UInt8 := [109, 111, 118, 101]
def kAsk : List UInt8 := [97, 115, 107]
def kThin : List UInt8 := [116, 104, 105, 110]
def kDump : List UInt8 := [100, 117, 109, 112]
def kStats : List UInt8 := [115, 116, 97, 116, 115]
def kShadows : List UInt8 := [115, 104, 97, 100, 111, 119, 115]
def kClashes : List UInt8 := [99, 108, 97, 115, 104, 101, 115]
def kMap : List UInt8 := [109, 97, 112]
def kU : List Value := [.string (bs []), .string (bs kInsert), .string (bs kDelete), .string (bs kMove), .string (bs kAsk), .string (bs kThin), .string (bs kDump), .string (bs kStats), .string (bs kShadows), .string (bs kClashes), .string (bs kMap)]
theorem kinds_s {h : Hp} {K : Value → Hp → Prop} (H : ∀ h', Ext h h' → K (.agg kU.toArray) h') : CallsH Tryz.prog 49 #[] h K := by
  refine syntax_kinds_ok ?_
  unfold syntax_kinds
  refine newV (us := kU) rfl rfl (by kernel_rfl) rfl fun h1 e1 c1 b1 z1 => ?_
  exact ⟨_, _, _, _, _, _, _, _, _, _, _, ldS (vs := kU) c1 (by kernel_rfl), H h1 e1⟩
/-- A command of the kind k (0: none yet) that asks for g. -/
def cmA (k : Int) (g : Hdr) : List Value := [.int .i64 k, .int .i64 0, .int .i64 0, .int .i64 0, .int .u32 0, .int .i64 0, .int .u32 0, .int .i64 0, .int .u16 0, .int .u16 0, .int .u16 0, .int .u16 0, .int .u8 0, .int .u8 0, .int .i64 0, .int .u32 g.src, .int .u32 g.dst, .int .u16 g.sp, .int .u16 g.dp, .int .u8 g.pr]
def hd0 : Hdr := ⟨0, 0, 0, 0, 0⟩
structure CmS (h0 h : Hp) (b : Nat) (A : Option Addr) (c : Nat) (ts r : List TokM) (g3 g5 g7 g9 g21 : Nat) (k : Int) (g : Hdr) (t : TokM) : Prop where
  q : RAt h b A c ts r
  fr : Fr (fun k => k = b) h0 h
  hb : b < h0.size
  hA : ∀ k, blk A k → k < h0.size
  o3 : h0.size ≤ g3
  o5 : g3 < g5
  o7 : g5 < g7
  o9 : g7 < g9
  o21 : g9 < g21
  b3 : h[g3]? = some (.cells (cmA 0 hd0).toArray 77 (0, 0))
  b5 : h[g5]? = some (.cells (bgT bg0).toArray 83 (0, 0))
  b7 : h[g7]? = some (.cells (cmA k g).toArray 77 (0, 0))
  b9 : h[g9]? = some (.cells (bgT bg0).toArray 83 (0, 0))
  b21 : h[g21]? = some (.cells t.enc.toArray 52 (0, 0))
section
variable {h0 h : Hp} {b : Nat} {A : Option Addr} {c : Nat} {ts r : List TokM} {g3 g5 g7 g9 g21 : Nat} {k : Int} {g : Hdr} {t : TokM}
theorem CmS.call (S : CmS h0 h b A c ts r g3 g5 g7 g9 g21 k g t) {h' : Hp} {r' : List TokM} (q : RAt h' b A c ts r') (f : Fr (fun k => k = b) h h') : CmS h0 h' b A c ts r' g3 g5 g7 g9 g21 k g t := by
  obtain ⟨_, fr, hb, hA, o3, o5, o7, o9, o21, b3, b5, b7, b9, b21⟩ := S
  exact ⟨q, fr.trans f, hb, hA, o3, o5, o7, o9, o21, f.get b3 (by omega), f.get b5 (by omega), f.get b7 (by omega), f.get b9 (by omega), f.get b21 (by omega)⟩
theorem CmS.field (S : CmS h0 h b A c ts r g3 g5 g7 g9 g21 k g t) {T : TypeId} {a : Addr} {o : Nat} {us : List Value} {v : Value} (k' : Int) (g' : Hdr) {K : Hp → Prop} (ha : a = ⟨g7, o, none⟩) (hv : v.cells = us.toArray) (hsz : (Tryz.prog.info? T).map (·.size) = some us.length)
    (hl : o + us.length ≤ 20) (hf : us.all flatV = true) (hcs : (cmA k g).take o ++ us ++ (cmA k g).drop (o + us.length) = cmA k' g') (H : ∀ h', CmS h0 h' b A c ts r g3 g5 g7 g9 g21 k' g' t → K h') :
    HU Tryz.prog (Instr.storeAt T (.pointer (some a)) v) h K := by
  obtain ⟨q, fr, hb, hA, o3, o5, o7, o9, o21, b3, b5, b7, b9, b21⟩ := S
  rw [ha]
  refine HU_at b7 hv hsz hl hf hcs fun h' b7' f' z' => H h' ?_
  exact ⟨q.keep f' (by omega) (fun k hk he => by have := hA k hk; omega), frT fr f' (fun k hk he => by omega), hb, hA, o3, o5, o7, o9, o21, f'.get b3 (by omega), f'.get b5 (by omega), b7', f'.get b9 (by omega), f'.get b21 (by omega)⟩
theorem CmS.rd {α : Type} {R : ReR α} {v : α} {r' : List TokM} (S : CmS h0 h b A c ts r g3 g5 g7 g9 g21 k g t) (hR : R = .ok (v, r')) {K : α → Hp → Prop} {KP : Kp} (H : ∀ h', CmS h0 h' b A c ts r' g3 g5 g7 g9 g21 k g t → K v h') : RdK R h b A c ts K KP := by
  subst hR
  exact fun h' q f => H h' (S.call q f)
theorem CmS.tok (S : CmS h0 h b A c ts r g3 g5 g7 g9 g21 k g t) : Cl h ⟨g21, 0, none⟩ t.enc := Cl.of_block S.b21 fun j v hj => by rw [Nat.zero_add]; exact hj
theorem CmS.cmd (S : CmS h0 h b A c ts r g3 g5 g7 g9 g21 k g t) : Cl h ⟨g7, 0, none⟩ (cmA k g) := Cl.of_block S.b7 fun j v hj => by rw [Nat.zero_add]; exact hj
theorem cm_miss (S : CmS h0 h b A c ts r g3 g5 g7 g9 g21 k g t) (ht : isWrd t kAsk) {K0 : Option Addr → Addr → Addr → Addr → Addr → Addr → Hp → Prop} {KP : Kp} {f i : Nat} (hi : 0 < i) (hi5 : i < 11) (w : List UInt8) (hw : w ≠ kAsk) {s0 s1 s2 s3 s4 s5 s6 s7 s8 s9 s10 : ByteArray}
    (pv : PV Tryz.prog (Instr.index 134 (.agg #[.string s0, .string s1, .string s2, .string s3, .string s4, .string s5, .string s6, .string s7, .string s8, .string s9, .string s10]) (.int .i64 (i : Int))) (.string (bs w))) {p3 : Option Addr} {a3 a5 a7 a9 : Addr}
    (rest : syntax_reader_command_l1 p3 a3 a5 a7 a9 ⟨g21, 0, none⟩ s0 s1 s2 s3 s4 s5 s6 s7 s8 s9 s10 K0 KP f ((i + 1 : Nat) : Int) h) :
    syntax_reader_command_l1 p3 a3 a5 a7 a9 ⟨g21, 0, none⟩ s0 s1 s2 s3 s4 s5 s6 s7 s8 s9 s10 K0 KP (f + 1) (i : Int) h := by
  unfold syntax_reader_command_l1
  have w1 : IntKind.i64.wrap ((i : Int) + 1) = ((i + 1 : Nat) : Int) := by rw [wrap_in (by omega) (by omega)]; omega
  refine br_t (by simp; omega) ⟨_, pv, br_t (by simp; omega) ⟨_, ld (S.tok.at_ 0 _ rfl) (by kernel_rfl), ?_⟩⟩
  rw [w1]
  refine br_t (by simp [ht.k]) ⟨_, ld (S.tok.at_ 1 _ rfl) (by kernel_rfl), br_f ?_ rest⟩
  rw [ht.x]
  simpa [bs] using fun h => hw h.symm
theorem cm_hit (S : CmS h0 h b A c ts r g3 g5 g7 g9 g21 k g t) (ht : isWrd t kAsk) {K0 : Option Addr → Addr → Addr → Addr → Addr → Addr → Hp → Prop} {KP : Kp} {f i : Nat} (hi : 0 < i) (hi5 : i < 11) {s0 s1 s2 s3 s4 s5 s6 s7 s8 s9 s10 : ByteArray}
    (pv : PV Tryz.prog (Instr.index 134 (.agg #[.string s0, .string s1, .string s2, .string s3, .string s4, .string s5, .string s6, .string s7, .string s8, .string s9, .string s10]) (.int .i64 (i : Int))) (.string (bs kAsk))) {p3 : Option Addr} {a3 a5 a9 : Addr}
    (rest : ∀ h', CmS h0 h' b A c ts r g3 g5 g7 g9 g21 i g t → syntax_reader_command_l1 p3 a3 a5 ⟨g7, 0, none⟩ a9 ⟨g21, 0, none⟩ s0 s1 s2 s3 s4 s5 s6 s7 s8 s9 s10 K0 KP f ((i + 1 : Nat) : Int) h') :
    syntax_reader_command_l1 p3 a3 a5 ⟨g7, 0, none⟩ a9 ⟨g21, 0, none⟩ s0 s1 s2 s3 s4 s5 s6 s7 s8 s9 s10 K0 KP (f + 1) (i : Int) h := by
  unfold syntax_reader_command_l1
  have w1 : IntKind.i64.wrap ((i : Int) + 1) = ((i + 1 : Nat) : Int) := by rw [wrap_in (by omega) (by omega)]; omega
  refine br_t (by simp; omega) ⟨_, pv, br_t (by simp; omega) ⟨_, ld (S.tok.at_ 0 _ rfl) (by kernel_rfl), ?_⟩⟩
  rw [w1]
  refine br_t (by simp [ht.k]) ⟨_, ld (S.tok.at_ 1 _ rfl) (by kernel_rfl), br_t (by rw [ht.x]; simp) ?_⟩
  exact S.field (o := 0) (us := [.int .i64 (i : Int)]) i g rfl rfl (by kernel_rfl) (by simp) rfl rfl rest
end
def askR (r : List TokM) : ReR Hdr := thenR (addrR r) fun s r1 => thenR (addrR r1) fun d r2 => thenR (numR 65535 r2) fun sp r3 => thenR (numR 65535 r3) fun dp r4 => thenR (numR 255 r4) fun pr r5 => .ok (⟨s, d, IntKind.u16.wrap sp, IntKind.u16.wrap dp, IntKind.u8.wrap pr⟩, r5)
set_option maxHeartbeats 1000000 in
theorem ask_s {h : Hp} {b : Nat} {A : Option Addr} {c : Nat} {ts r r' : List TokM} {t : TokM} (q : RAt h b A c ts (t :: r)) (gd : Good (t :: r)) (ht : isWrd t kAsk) {g : Hdr} (hR : askR r = .ok (g, r')) {K : Value → Hp → Prop} {KP : Kp}
    (H : ∀ h', RAt h' b A c ts r' → Fr (fun k => k = b) h h' → K (.tuple #[.agg (cmA 4 g).toArray, begsV bg0]) h') :
    CallsP Tryz.prog 47 #[.pointer (some ⟨b, 0, none⟩)] h K KP := by
  obtain ⟨s, r1, R1, hR⟩ := then_ok hR
  obtain ⟨d, r2, R2, hR⟩ := then_ok hR
  obtain ⟨sp, r3, R3, hR⟩ := then_ok hR
  obtain ⟨dp, r4, R4, hR⟩ := then_ok hR
  obtain ⟨pr, r5, R5, hR⟩ := then_ok hR
  injection hR with hR
  injection hR with hg hr
  subst hg hr
  obtain ⟨g0, ne0⟩ := gd.tail (by rw [ht.k]; omega)
  obtain ⟨g1, ne1⟩ := good_addr g0 _ _ R1
  obtain ⟨g2, ne2⟩ := good_addr g1 _ _ R2
  obtain ⟨g3, ne3⟩ := good_num g2 _ _ R3
  obtain ⟨g4, ne4⟩ := good_num g3 _ _ R4
  refine syntax_reader_command_ok _ ?_
  unfold syntax_reader_command
  obtain ⟨hb, hA⟩ := q.lt
  refine newC_i (cs := cmA 0 hd0) fun h1 e1 c1 b1 z1 => ?_
  refine newC_i (cs := bgT bg0) fun h2 e2 c2 b2 z2 => ?_
  refine newC_i (cs := cmA 0 hd0) fun h3 e3 c3 b3 z3 => ?_
  refine newC_i (cs := bgT bg0) fun h4 e4 c4 b4 z4 => ?_
  have E4 : Ext h h4 := ((e1.trans e2).trans e3).trans e4
  have q4 := q.ext E4
  obtain ⟨n, q4', htn, hd, hn, hl⟩ := q4.head
  obtain ⟨a, pv, cl⟩ := q4'.look htn
  refine ⟨_, _, _, ld (q4'.cl.at_ 0 _ rfl) (by kernel_rfl), _, ld (q4'.cl.at_ 1 _ rfl) (by kernel_rfl), a, pv, _, _, _, _, _, ldS (vs := t.enc) cl (by kernel_rfl), ?_⟩
  refine newC_i (cs := tok0.enc) fun h5 e5 c5 b5 z5 => ?_
  have q5 := q4'.ext e5
  refine ⟨ldS (vs := t.enc) (cl.ext e5) (by kernel_rfl), ld (q5.cl.at_ 1 _ rfl) (by kernel_rfl), ld (q5.cl.at_ 0 _ rfl) (by kernel_rfl), ?_⟩
  refine HU_box (us := t.enc) b5 rfl rfl tokSz rfl fun h6 c6 b6 f6 z6 => ?_
  have E6 : Ext h h6 := extOwn (E4.trans e5) f6 (fun k hk => by omega)
  have S6 : CmS h h6 b A c ts (t :: r) h.size h1.size h2.size h3.size h4.size 0 hd0 t :=
    ⟨q.ext E6, E6.fr _, hb, hA, Nat.le_refl _, by omega, by omega, by omega, by omega, f6.get (by rw [e5.old _ (by omega), e4.old _ (by omega), e3.old _ (by omega), e2.old _ (by omega)]; exact b1) (by omega),
      f6.get (by rw [e5.old _ (by omega), e4.old _ (by omega), e3.old _ (by omega)]; exact b2) (by omega), f6.get (by rw [e5.old _ (by omega), e4.old _ (by omega)]; exact b3) (by omega), f6.get (by rw [e5.old _ (by omega)]; exact b4) (by omega), b6⟩
  refine Sx.CallsH.p (kinds_s fun h7 e7 => ⟨_, _, _, _, _, _, _, _, _, _, _, rfl, 12, ?_⟩)
  have S7 := S6.call (S6.q.ext e7) (e7.fr _)
  unfold syntax_reader_command_l1
  refine br_t (by decide) ⟨bs [], fun w => pureRun_run _ _ _ (by kernel_rfl) w, br_f (by decide) ?_⟩
  refine cm_miss (i := 1) S7 ht (by omega) (by omega) kInsert (by decide) (fun w => pureRun_run _ _ _ (by kernel_rfl) w) ?_
  refine cm_miss (i := 2) S7 ht (by omega) (by omega) kDelete (by decide) (fun w => pureRun_run _ _ _ (by kernel_rfl) w) ?_
  refine cm_miss (i := 3) S7 ht (by omega) (by omega) kMove (by decide) (fun w => pureRun_run _ _ _ (by kernel_rfl) w) ?_
  refine cm_hit (i := 4) S7 ht (by omega) (by omega) (fun w => pureRun_run _ _ _ (by kernel_rfl) w) fun h8 S8 => ?_
  refine cm_miss (i := 5) S8 ht (by omega) (by omega) kThin (by decide) (fun w => pureRun_run _ _ _ (by kernel_rfl) w) ?_
  refine cm_miss (i := 6) S8 ht (by omega) (by omega) kDump (by decide) (fun w => pureRun_run _ _ _ (by kernel_rfl) w) ?_
  refine cm_miss (i := 7) S8 ht (by omega) (by omega) kStats (by decide) (fun w => pureRun_run _ _ _ (by kernel_rfl) w) ?_
  refine cm_miss (i := 8) S8 ht (by omega) (by omega) kShadows (by decide) (fun w => pureRun_run _ _ _ (by kernel_rfl) w) ?_
  refine cm_miss (i := 9) S8 ht (by omega) (by omega) kClashes (by decide) (fun w => pureRun_run _ _ _ (by kernel_rfl) w) ?_
  refine cm_miss (i := 10) S8 ht (by omega) (by omega) kMap (by decide) (fun w => pureRun_run _ _ _ (by kernel_rfl) w) ?_
  unfold syntax_reader_command_l1
  refine br_f (by decide) ?_
  obtain ⟨n8, q8, htn8, hd8, hn8, hl8⟩ := S8.q.head
  refine ⟨_, ld (q8.cl.at_ 1 _ rfl) (by kernel_rfl), ?_⟩
  have w1 : IntKind.i64.wrap ((n8 : Int) + 1) = ((n8 + 1 : Nat) : Int) := by rw [wrap_in (by omega) (by omega)]; omega
  show HU Tryz.prog (Instr.storeAt 3 (.pointer (some ((⟨b, 0, none⟩ : Addr).add 1))) (.int .i64 (IntKind.i64.wrap ((n8 : Int) + 1)))) h8 _
  rw [w1]
  refine q8.st (n8 + 1) fun h9 q9 f9 z9 => ?_
  have S9 := S8.call (r' := r) ⟨hl8, n8 + 1, q9, hd8, hn8⟩ f9
  refine ⟨_, ld (S9.cmd.at_ 0 _ rfl) (by kernel_rfl), ?_⟩
  refine br_f (by decide) (br_f (by decide) (br_f (by decide) (br_f (by decide) (br_t (by decide) ?_))))
  refine addr_s S9.q g0 ne0 (S9.rd R1 fun h10 S10 => ⟨_, rfl, ?_⟩)
  refine S10.field (o := 15) (us := [.int .u32 s]) _ ⟨s, 0, 0, 0, 0⟩ rfl rfl (by kernel_rfl) (by simp) rfl rfl fun h11 S11 => ?_
  refine addr_s S11.q g1 ne1 (S11.rd R2 fun h12 S12 => ⟨_, rfl, ?_⟩)
  refine S12.field (o := 16) (us := [.int .u32 d]) _ ⟨s, d, 0, 0, 0⟩ rfl rfl (by kernel_rfl) (by simp) rfl rfl fun h13 S13 => ?_
  obtain ⟨t2, r2', rfl⟩ : ∃ t l, r2 = t :: l := by cases r2 with | nil => exact absurd rfl ne2 | cons t l => exact ⟨t, l, rfl⟩
  obtain ⟨t3, r3', rfl⟩ : ∃ t l, r3 = t :: l := by cases r3 with | nil => exact absurd rfl ne3 | cons t l => exact ⟨t, l, rfl⟩
  obtain ⟨t4, r4', rfl⟩ : ∃ t l, r4 = t :: l := by cases r4 with | nil => exact absurd rfl ne4 | cons t l => exact ⟨t, l, rfl⟩
  refine num_r S13.q 65535 (S13.rd R3 fun h14 S14 => ⟨_, rfl, ?_⟩)
  refine S14.field (o := 17) (us := [.int .u16 (IntKind.u16.wrap sp)]) _ ⟨s, d, IntKind.u16.wrap sp, 0, 0⟩ rfl rfl (by kernel_rfl) (by simp) rfl rfl fun h15 S15 => ?_
  refine num_r S15.q 65535 (S15.rd R4 fun h16 S16 => ⟨_, rfl, ?_⟩)
  refine S16.field (o := 18) (us := [.int .u16 (IntKind.u16.wrap dp)]) _ ⟨s, d, IntKind.u16.wrap sp, IntKind.u16.wrap dp, 0⟩ rfl rfl (by kernel_rfl) (by simp) rfl rfl fun h17 S17 => ?_
  refine num_r S17.q 255 (S17.rd R5 fun h18 S18 => ⟨_, rfl, ?_⟩)
  refine S18.field (o := 19) (us := [.int .u8 (IntKind.u8.wrap pr)]) _ ⟨s, d, IntKind.u16.wrap sp, IntKind.u16.wrap dp, IntKind.u8.wrap pr⟩ rfl rfl (by kernel_rfl) (by simp) rfl rfl fun h19 S19 => ?_
  have cl7 := S19.cmd
  obtain ⟨q, fr, hb, hA, o3, o5, o7, o9, o21, b3, b5, b7, b9, b21⟩ := S19
  have cl9 : Cl h19 ⟨h3.size, 0, none⟩ (bgT bg0) := Cl.of_block b9 fun j v hj => by rw [Nat.zero_add]; exact hj
  refine ⟨_, _, _, _, _, _, _, _, _, _, _, _, _, _, _, _, _, _, _, _, ldS cl7 (by kernel_rfl), _, _, _, _, _, _, _, _, _, _, _, _, _, _, _, _, _, _, _, _, _, _, _, _, _, _, _, _, _, _, _, _, _, _, _, _, _, _, _, _, ldS cl9 (by kernel_rfl), ?_⟩
  refine HU_box (us := cmA 4 ⟨s, d, IntKind.u16.wrap sp, IntKind.u16.wrap dp, IntKind.u8.wrap pr⟩) b3 rfl rfl (by kernel_rfl) rfl fun h25 c25 b25 f25 z25 => ?_
  refine ⟨ldS (f25.cl cl9 (by show ¬ h3.size = _; omega)) (by kernel_rfl), ?_⟩
  refine HU_box (us := bgT bg0) (f25.get b5 (by omega)) rfl rfl (by kernel_rfl) rfl fun h26 c26 b26 f26 z26 => ?_
  refine ⟨_, _, _, _, _, _, _, _, _, _, _, _, _, _, _, _, _, _, _, _, ldS (f26.cl c25 (by show ¬ h.size = _; omega)) (by kernel_rfl), _, _, _, _, _, _, _, _, _, _, _, _, _, _, _, _, _, _, _, _, _, _, _, _, _, _, _, _, _, _, _, _, _, _, _, _, _, _, _, _, ldS c26 (by kernel_rfl), ?_⟩
  exact H h26 ((q.keep f25 (by omega) (fun k hk he => by have := hA k hk; omega)).keep f26 (by omega) (fun k hk he => by have := hA k hk; omega)) (frT (frT fr f25 (fun k hk he => by omega)) f26 (fun k hk he => by omega))
end Go.Proofs.YtfdpccbajaiepaaGreatDoor.Lx

/- Script: a text of one question. -/
namespace Go.Proofs.YtfdpccbajaiepaaGreatDoor.Lx
open Go Go.RowKit Go.Proofs.YtfdpccbajaiepaaGreatDoor.Sx Go.Proofs.YtfdpccbajaiepaaGreatDoor.Sxp Go.Proofs.YtfdpccbajaiepaaGreatDoor.Sxp.Fx Go.Proofs.YtfdpccbajaiepaaGreatDoor.Fs
set_option linter.unusedVariables false
set_option linter.unusedSimpArgs false
set_option maxRecDepth 10000
abbrev encA (g : Hdr) : List Value := cmA 4 g
structure ScS (hB : Hp) (n0 go ge b : Nat) (A : Option Addr) (c : Nat) (ts : List TokM) (out : List Hdr) (r : List TokM) (h : Hp) : Prop where
  e : Ext hB h
  n : n0 ≤ h.size
  q : RAt h b A c ts r
  hA : ∀ k, blk A k → ge < k ∧ k < b
  o1 : hB.size ≤ go
  o2 : go < ge
  o3 : ge < b
  o4 : b < n0
  o : ∃ Ao co, h[go]? = some (.cells [.slice Ao out.length co].toArray 63 (0, 0)) ∧ RowC h 77 encA 20 Ao co out ∧ (∀ k, blk Ao k → n0 ≤ k)
  er : h[ge]? = some (.cells [.nilIface].toArray 24 (0, 0))
section
variable {hB : Hp} {n0 go ge b : Nat} {A : Option Addr} {c : Nat} {ts : List TokM} {out : List Hdr} {r : List TokM} {h : Hp}
theorem ScS.step (S : ScS hB n0 go ge b A c ts out r h) {r' : List TokM} {h' : Hp} (q : RAt h' b A c ts r') (f : Fr (fun k => k = b) h h') : ScS hB n0 go ge b A c ts out r' h' := by
  obtain ⟨e, n, _, hA, o1, o2, o3, o4, ⟨Ao, co, bo, ro, hAo⟩, er⟩ := S
  exact ⟨extOwn e f (fun k hk => by omega), Nat.le_trans n f.size, q, hA, o1, o2, o3, o4, ⟨Ao, co, f.get bo (by omega), ro.keep f (fun k hk he => by have := hAo k hk; omega), hAo⟩, f.get er (by omega)⟩
theorem ScS.ext (S : ScS hB n0 go ge b A c ts out r h) {h' : Hp} (e : Ext h h') : ScS hB n0 go ge b A c ts out r h' := S.step (S.q.ext e) (e.fr _)
end
theorem undCmds : Tryz.prog.underlying 63 = some (.slice 77) := by kernel_rfl
theorem cmdInfo : ∃ i z, Tryz.prog.info? 77 = some i ∧ i.size = 20 ∧ 0 < i.bytes ∧ i.bytes ≤ 1000 ∧ i.zero = some z ∧ z.cells.size = 20 := ⟨_, _, rfl, rfl, by decide, by decide, rfl, rfl⟩
set_option maxHeartbeats 1000000 in
theorem scl_s {hB : Hp} {n0 go ge b : Nat} {A : Option Addr} {c : Nat} {ts : List TokM} {t t5 : TokM} {r : List TokM} {h : Hp} {g : Hdr} (S : ScS hB n0 go ge b A c ts [] (t :: r) h) (gd : Good (t :: r)) (ht : isWrd t kAsk) (hR : askR r = .ok (g, [t5])) (h5 : t5.kind = 4) {K : Value → Hp → Prop} {KP : Kp}
    (H : ∀ h', ScS hB n0 go ge b A c ts [g] [] h' → K (.tuple #[]) h') :
    CallsP Tryz.prog 46 #[.pointer (some ⟨b, 0, none⟩), .pointer (some ⟨go, 0, none⟩)] h K KP := by
  refine syntax_Script_1_ok _ _ ?_
  unfold syntax_Script_1
  obtain ⟨n, q4', htn, hd, hn, hl⟩ := S.q.head
  obtain ⟨a, pv, cl⟩ := q4'.look htn
  refine ⟨_, _, _, ld (q4'.cl.at_ 0 _ rfl) (by kernel_rfl), _, ld (q4'.cl.at_ 1 _ rfl) (by kernel_rfl), a, pv, _, _, _, _, _, ldS (vs := t.enc) cl (by kernel_rfl), ?_⟩
  refine newC_i (cs := tok0.enc) fun h1 e1 c1 b1 z1 => ?_
  have q1 := q4'.ext e1
  refine ⟨ldS (vs := t.enc) (cl.ext e1) (by kernel_rfl), ld (q1.cl.at_ 1 _ rfl) (by kernel_rfl), ld (q1.cl.at_ 0 _ rfl) (by kernel_rfl), ?_⟩
  refine HU_box (us := t.enc) b1 rfl rfl tokSz rfl fun h2 c2 b2 f2 z2 => ?_
  have E2 : Ext h h2 := extOwn e1 f2 (fun k hk => by omega)
  have S2 := S.ext E2
  refine ask_s S2.q gd ht hR fun h3 q3 f3 => ?_
  have S3 := S2.step q3 f3
  refine ⟨_, _, _, _, _, _, _, _, _, _, _, _, _, _, _, _, _, _, _, _, _, _, _, _, _, _, _, _, _, _, _, _, _, _, _, _, _, _, _, _, _, _, _, _, _, _, _, _, _, _, _, _, _, _, _, _, _, _, _, _, rfl, ?_⟩
  refine newC_i (cs := cmA 0 hd0) fun h4 e4 c4 b4 z4 => ?_
  refine newC_i (cs := bgT bg0) fun h5' e5 c5 b5 z5 => ?_
  refine HU_box (us := cmA 4 g) (show h5'[h3.size]? = some (.cells (cmA 0 hd0).toArray 77 (0, 0)) by rw [e5.old _ (by omega)]; exact b4) rfl rfl (by kernel_rfl) rfl fun h6 c6 b6 f6 z6 => ?_
  refine HU_box (us := bgT bg0) (f6.get b5 (by omega)) rfl rfl (by kernel_rfl) rfl fun h7 c7 b7 f7 z7 => ?_
  have E7 : Ext h3 h7 := extOwn (extOwn (e4.trans e5) f6 (fun k hk => by omega)) f7 (fun k hk => by omega)
  have c6' : Cl h7 ⟨h3.size, 0, none⟩ (cmA 4 g) := f7.cl c6 (by show ¬ h3.size = _; omega)
  have S7 := S3.ext E7
  refine end_r S7.q ?_
  have hE : endR [t5] = .ok ((), []) := by simp [endR, h5]
  rw [hE]
  intro h8 q8 f8
  have S8 := S7.step q8 f8
  have o1 := S8.o1; have o2 := S8.o2; have o3 := S8.o3; have o4 := S8.o4; have n3 := S3.n; have n8 := S8.n
  have cx8 : Cl h8 ⟨h3.size, 0, none⟩ (cmA 4 g) := f8.cl c6' (by show ¬ h3.size = b; omega)
  obtain ⟨Ao, co, bo, ro, hAo⟩ := S8.o
  have clo : Cl h8 ⟨go, 0, none⟩ [.slice Ao 0 co] := Cl.of_block bo fun j v hj => by rw [Nat.zero_add]; exact hj
  refine ⟨rfl, _, _, _, ld (clo.at_ 0 _ rfl) (by kernel_rfl), br_f (by decide) ⟨_, ld (cx8.at_ 0 _ rfl) (by kernel_rfl), br_f (by decide) ?_⟩⟩
  refine ⟨_, _, _, ld (clo.at_ 0 _ rfl) (by kernel_rfl), _, _, _, _, _, _, _, _, _, _, _, _, _, _, _, _, _, _, _, _, ldS (vs := cmA 4 g) cx8 (by kernel_rfl), ?_⟩
  refine newC_i (cs := cmA 4 g) fun h9 e9 c9 b9 z9 => ?_
  obtain ⟨i, z, hi, hsz, hb0, hb1, hz, hzl⟩ := cmdInfo
  have hn9 : n0 ≤ h9.size := by omega
  have ro9 : RowC h9 77 encA 20 Ao co [] := ro.ext e9
  refine appF (enc := encA) (sz := 20) (xs := []) (x := g) (h0 := h9.extract 0 n0) (fun _ => rfl) (fun _ => rfl) undCmds hi hz hzl hsz hb0 hb1 (ext_take hn9) ro9 (fun k hk => by rw [take_size hn9]; exact hAo k hk) c9 (by simp) fun h10 A' c' e10 r10 hF f10 => ?_
  refine ⟨_, _, _, rfl, ?_⟩
  have bo10 : h10[go]? = some (.cells [.slice Ao 0 co].toArray 63 (0, 0)) := f10.get (by rw [e9.old _ (by omega)]; exact bo) (fun hk => by have := hAo _ hk; omega)
  refine HU_box (us := [.slice A' 1 c']) bo10 rfl rfl (by kernel_rfl) rfl fun h11 c11 b11 f11 z11 => ?_
  have hA' : ∀ k, blk A' k → n0 ≤ k := fun k hk => by have := hF k hk; rwa [take_size hn9] at this
  have EB : Ext hB h11 := extOwn (extOwn (S8.e.trans e9) f10 (fun k hk => by have := hAo k hk; omega)) f11 (fun k hk => by omega)
  have s10 := f10.size
  refine H h11 ⟨EB, by omega, ?_, S8.hA, o1, o2, o3, o4, ⟨A', c', b11, r10.keep f11 (fun k hk he => by have := hA' k hk; omega), hA'⟩, ?_⟩
  · exact ((S8.q.ext e9).keep f10 (fun hk => by have := hAo _ hk; omega) (fun k hk he => by have := hAo _ he; have := S8.hA k hk; omega)).keep f11 (by omega) (fun k hk he => by have := S8.hA k hk; omega)
  · exact f11.get (f10.get (by rw [e9.old _ (by omega)]; exact S8.er) (fun hk => by have := hAo _ hk; omega)) (by omega)
theorem ent46 : enters Tryz.prog 46 = true := by kernel_rfl
def askStep (g : Hdr) (out : List Hdr) (r : List TokM) : ReR (List Hdr) := match r with
  | [] => .error ⟨0, 0, 0⟩
  | _ :: _ => .ok ([g], [])
theorem Script_s {h : Hp} {s : List UInt8} {t t5 : TokM} {r : List TokM} {g : Hdr} (hl : lexM s = some (.ok (t :: r))) (ht : isWrd t kAsk) (hR : askR r = .ok (g, [t5])) (h5 : t5.kind = 4) {K : Value → Hp → Prop}
    (H : ∀ h' A c, Ext h h' → RowC h' 77 encA 20 A c [g] → Fresh h A → K (.tuple #[.slice A 1 c, .nilIface]) h') :
    CallsH Tryz.prog 19 #[.string (bs s)] h K := by
  refine syntax_Script_ok _ ?_
  unfold syntax_Script
  refine newC_i (cs := [.slice none 0 0]) fun h1 e1 c1 b1 z1 => ?_
  obtain ⟨hg, hlen⟩ := lexM_good hl
  refine Read_s e1 hl hg hlen _ (askStep g) [] (fun b A c out r' h' => ScS h (b + 1) h.size h1.size b A c (t :: r) out r' h' ∧ (out = [] ∧ r' = t :: r ∨ out = [g] ∧ r' = [])) (fun h5' b A c B => ⟨⟨?_, ?_, ?_, ?_⟩, ?_⟩) ?_ ?_
  · exact fun a r h6 S => S.1.q
  · rintro a t' r' h6 h7 hk ⟨S, ⟨rfl, hr⟩ | ⟨rfl, hr⟩⟩ q f
    · exfalso
      injection hr with hr1 hr2
      subst hr1
      have := ht.k
      omega
    · cases hr
  · rintro a t' r' h6 K KP ⟨S, ⟨rfl, hr⟩ | ⟨rfl, hr⟩⟩ gd hk HK
    · injection hr with hr1 hr2
      subst hr1 hr2
      exact callFP1 ent46 (scl_s S gd ht hR h5 fun h' S' => HK h' ⟨S', .inr ⟨rfl, rfl⟩⟩)
    · cases hr
  · intro a r' a' r'' hs gd
    cases r' with
    | nil => cases hs
    | cons x l => cases hs; exact ⟨(fun e he => by cases he), by simp⟩
  · have e5 := B.e
    have ob := B.ob
    have z := B.z
    have zz := e5.size
    exact ⟨{ e := e1.trans e5, n := by omega, q := B.q, hA := B.oA, o1 := Nat.le_refl _, o2 := by omega, o3 := ob, o4 := by omega, o := ⟨none, 0, by rw [e5.old _ (by omega)]; exact b1, RowC.nil, fun k hk => by obtain ⟨a, ha, _⟩ := hk; cases ha⟩, er := B.er }, .inl ⟨rfl, rfl⟩⟩
  · exact fun b A c a r h6 S => S.1.er
  · have hk : ¬ t.kind = 4 := by rw [ht.k]; omega
    have hR : linesR (askStep g) ((t :: r).length + 1) [] (t :: r) = .ok [g] := by
      unfold linesR
      rw [if_neg hk]
      show linesR (askStep g) (r.length + 1) [g] [] = _
      rfl
    rw [hR]
    rintro b A c h6 ⟨S, _⟩
    obtain ⟨Ao, co, bo, ro, hAo⟩ := S.o
    have clo : Cl h6 ⟨h.size, 0, none⟩ [.slice Ao 1 co] := Cl.of_block bo fun j v hj => by rw [Nat.zero_add]; exact hj
    have o1 := S.o1; have o2 := S.o2; have o3 := S.o3; have o4 := S.o4
    refine ⟨_, rfl, false, fun w => pureRun_run _ _ _ (by kernel_rfl) w, br_f rfl ⟨_, _, _, ld (clo.at_ 0 _ rfl) (by kernel_rfl), ?_⟩⟩
    exact H h6 Ao co S.e ro (fun k hk => by have := hAo k hk; omega)
end Go.Proofs.YtfdpccbajaiepaaGreatDoor.Lx

/- Printing: a script of one question. -/
namespace Go.Proofs.YtfdpccbajaiepaaGreatDoor.Pr
open Go Go.RowKit Go.Proofs.YtfdpccbajaiepaaGreatDoor.Sx Go.Proofs.YtfdpccbajaiepaaGreatDoor.Sxp Go.Proofs.YtfdpccbajaiepaaGreatDoor.Sxp.Fx Go.Proofs.YtfdpccbajaiepaaGreatDoor.Lx Go.Proofs.YtfdpccbajaiepaaGreatDoor.Fs
set_option linter.unusedVariables false
set_option linter.unusedSimpArgs false
set_option maxRecDepth 10000
theorem addS {T : TypeId} (x y : List UInt8) (hx : x.length ≤ 100000) (hy : y.length ≤ 100000) : PV Tryz.prog (binOp .add T (.string (bs x)) (.string (bs y))) (.string (bs (x ++ y))) := by
  intro w
  have := run_string_add_lists (P := Tryz.prog) (w := w) x y (by omega) (by omega)
  exact this
theorem neCm (g : Hdr) : PV Tryz.prog (binOp .neq 77 (.agg (cmA 4 g).toArray) (.agg (cmA 4 g).toArray)) (.bool false) := by
  intro w
  unfold cmA
  rw [run_neq_struct, run_equalIn_struct w 9999 77 _ _ (by kernel_rfl) (by kernel_rfl)]
  simp [go_sem]
theorem eqHd (g : Hdr) : PV Tryz.prog (binOp .eql 57 (.agg #[.int .u32 g.src, .int .u32 g.dst, .int .u16 g.sp, .int .u16 g.dp, .int .u8 g.pr]) (.agg #[.int .u32 g.src, .int .u32 g.dst, .int .u16 g.sp, .int .u16 g.dp, .int .u8 g.pr])) (.bool true) := by
  intro w
  rw [run_eql_struct, run_equalIn_struct w 9999 57 _ _ (by kernel_rfl) (by kernel_rfl)]
  simp [go_sem]
theorem checked_s (g : Hdr) {h : Hp} {K : Value → Hp → Prop} (H : ∀ h', Ext h h' → K (.int .i64 0) h') : CallsH Tryz.prog 48 #[.agg (cmA 4 g).toArray] h K := by
  refine syntax_checked_ok _ _ _ _ _ _ _ _ _ _ _ _ _ _ _ _ _ _ _ _ ?_
  unfold syntax_checked
  refine newC_i (cs := cmA 4 g) fun h1 e1 c1 b1 z1 => ?_
  refine ⟨_, ld (c1.at_ 0 _ rfl) (by kernel_rfl), ?_⟩
  refine newV (us := cmA 4 hd0) rfl rfl (by kernel_rfl) rfl fun h2 e2 c2 b2 z2 => ?_
  have c12 := c1.ext e2
  refine ⟨_, ld (c12.at_ 0 _ rfl) (by kernel_rfl), br_f (by decide) (br_f (by decide) (br_f (by decide) (br_t (by decide) ?_)))⟩
  have cg : Cl h2 ((⟨h.size, 0, none⟩ : Addr).add 15) [.int .u32 g.src, .int .u32 g.dst, .int .u16 g.sp, .int .u16 g.dp, .int .u8 g.pr] := c12.sub 15 fun j v hj => by
    match j, hj with
    | 0, hj => exact hj
    | 1, hj => exact hj
    | 2, hj => exact hj
    | 3, hj => exact hj
    | 4, hj => exact hj
  refine ⟨_, _, _, _, _, ldS (vs := [.int .u32 g.src, .int .u32 g.dst, .int .u16 g.sp, .int .u16 g.dp, .int .u8 g.pr]) cg (by kernel_rfl), ?_⟩
  rw [add_eq0]
  refine HU_at (cs' := cmA 4 g) (us := [.int .u32 g.src, .int .u32 g.dst, .int .u16 g.sp, .int .u16 g.dp, .int .u8 g.pr]) b2 rfl (by kernel_rfl) (by simp [cmA]) rfl rfl fun h3 b3 f3 z3 => ?_
  have c3 : Cl h3 ⟨h1.size, 0, none⟩ (cmA 4 g) := Cl.of_block b3 fun j v hj => by rw [Nat.zero_add]; exact hj
  have c13 : Cl h3 ⟨h.size, 0, none⟩ (cmA 4 g) := f3.cl c12 (by show ¬ h.size = _; omega)
  unfold syntax_checked_j2
  refine ⟨_, _, _, _, _, _, _, _, _, _, _, _, _, _, _, _, _, _, _, _, ldS (vs := cmA 4 g) c3 (by kernel_rfl), _, _, _, _, _, _, _, _, _, _, _, _, _, _, _, _, _, _, _, _, ldS (vs := cmA 4 g) c13 (by kernel_rfl), _, neCm g, br_f rfl ?_⟩
  refine ⟨_, ld (c13.at_ 1 _ rfl) (by kernel_rfl), _, ld (c13.at_ 1 _ rfl) (by kernel_rfl), br_f (by decide) ?_⟩
  refine ⟨_, ld (c13.at_ 2 _ rfl) (by kernel_rfl), _, ld (c13.at_ 2 _ rfl) (by kernel_rfl), br_f (by decide) ?_⟩
  unfold syntax_checked_j3
  refine ⟨_, ld (c13.at_ 0 _ rfl) (by kernel_rfl), br_f (by decide) ?_⟩
  exact H h3 (extOwn (e1.trans e2) f3 (fun k hk => by omega))
theorem hdrT_len {s d sp dp pr : Nat} (hs : s < 4294967296) (hd : d < 4294967296) (hsp : sp < 65536) (hdp : dp < 65536) (hpr : pr < 256) : (hdrT s d sp dp pr).length ≤ 130 := by
  have ls := addrT_len s hs
  have ldd := addrT_len d hd
  have l1 := decl_len sp (by omega)
  have l2 := decl_len dp (by omega)
  have l3 := decl_len pr (by omega)
  rw [addrT_eq] at ls ldd
  simp only [List.length_cons] at ls ldd
  unfold hdrT
  simp only [List.length_append, List.length_cons, dec]
  omega
def hdN (s d sp dp pr : Nat) : Hdr := ⟨(s : Int), (d : Int), (sp : Int), (dp : Int), (pr : Int)⟩
def askT (s d sp dp pr : Nat) : List UInt8 := kAsk ++ (32 :: hdrT s d sp dp pr) ++ [10]
theorem PrintScript_s {h : Hp} (t : Tab h) (s d sp dp pr : Nat) (hs : s < 4294967296) (hd : d < 4294967296) (hsp : sp < 65536) (hdp : dp < 65536) (hpr : pr < 256) {A : Option Addr} {c : Nat} (r : RowC h 77 encA 20 A c [hdN s d sp dp pr]) {K : Value → Hp → Prop}
    (H : ∀ h', Ext h h' → K (.tuple #[.string (bs (askT s d sp dp pr)), .int .i64 0]) h') : CallsH Tryz.prog 20 #[.slice A 1 c] h K := by
  obtain ⟨g, hg⟩ : ∃ g, g = hdN s d sp dp pr := ⟨_, rfl⟩
  have hlen := hdrT_len hs hd hsp hdp hpr
  rw [← hg] at r
  refine syntax_PrintScript_ok _ _ _ ?_
  unfold syntax_PrintScript
  refine br_f (by decide) ?_
  refine newC_i (cs := bdC none none 0 0) fun h1 e1 c1 b1 z1 => ?_
  have B1 : BdS h h1 h.size [] := ⟨e1, Nat.le_refl _, none, none, 0, .inl rfl, b1, ByR.nil, Fresh.none _, (fun hk => by obtain ⟨a, ha, _⟩ := hk; cases ha)⟩
  refine ⟨2, ?_⟩
  unfold syntax_PrintScript_l1
  refine br_t (by decide) ?_
  have r1 := r.ext e1
  obtain ⟨a, ha, _, pv, cl⟩ := ixR (P := Tryz.prog) (T := 63) (E := 77) (enc := encA) (sz := 20) (xs := [g]) (h := h1) (A := A) (l := 1) (c := c) (k := .i64) (i := 0) (x := g) (fun _ => rfl) r1.read rfl undCmds (by kernel_rfl) rfl
  refine ⟨a, pv, _, _, _, _, _, _, _, _, _, _, _, _, _, _, _, _, _, _, _, _, ldS (vs := cmA 4 g) cl (by kernel_rfl), ?_⟩
  refine newV (us := cmA 4 g) rfl rfl (by kernel_rfl) rfl fun h2 e2 c2 b2 z2 => ?_
  refine ⟨_, _, _, _, _, _, _, _, _, _, _, _, _, _, _, _, _, _, _, _, ldS (vs := cmA 4 g) c2 (by kernel_rfl), ?_⟩
  refine checked_s g fun h3 e3 => ⟨_, rfl, br_f (by decide) ?_⟩
  have c3 := c2.ext e3
  refine kinds_s fun h4 e4 => ⟨_, _, _, _, _, _, _, _, _, _, _, rfl, ?_⟩
  have c4 := c3.ext e4
  refine ⟨_, ld (c4.at_ 0 _ rfl) (by kernel_rfl), ld (c3.at_ 0 _ rfl) (by kernel_rfl), bs kAsk, fun w => pureRun_run _ _ _ (by kernel_rfl) w, ?_⟩
  have E4 : Ext h1 h4 := (e2.trans e3).trans e4
  have B4 : BdS h h4 h.size [] := by
    obtain ⟨e, hb, p, A', c', hp, bb, r, f, nb⟩ := B1
    exact ⟨e.trans E4, hb, p, A', c', hp, by rw [E4.old _ (lt_of_get bb)]; exact bb, r.ext E4, f, nb⟩
  have b4 : h4[h1.size]? = some (.cells (cmA 4 g).toArray 77 (0, 0)) := by rw [e4.old _ (by have := e3.size; omega), e3.old _ (by omega)]; exact b2
  refine wstr_s B4 kAsk (by decide) fun h5 B5 o5 => ⟨_, _, rfl, ?_⟩
  have b5 := o5.cells b4 (by omega) (by decide)
  have c5 : Cl h5 ⟨h1.size, 0, none⟩ (cmA 4 g) := Cl.of_block b5 fun j v hj => by rw [Nat.zero_add]; exact hj
  refine ⟨_, ld (c5.at_ 0 _ rfl) (by kernel_rfl), br_f (by decide) (br_f (by decide) (br_f (by decide) (br_t (by decide) ?_)))⟩
  have cg : Cl h5 ((⟨h1.size, 0, none⟩ : Addr).add 15) [.int .u32 g.src, .int .u32 g.dst, .int .u16 g.sp, .int .u16 g.dp, .int .u8 g.pr] := c5.sub 15 fun j v hj => by
    match j, hj with
    | 0, hj => exact hj
    | 1, hj => exact hj
    | 2, hj => exact hj
    | 3, hj => exact hj
    | 4, hj => exact hj
  refine ⟨_, _, _, _, _, ldS (vs := [.int .u32 g.src, .int .u32 g.dst, .int .u16 g.sp, .int .u16 g.dp, .int .u8 g.pr]) cg (by kernel_rfl), ?_⟩
  subst hg
  refine PrintHeader_s (t.ext B5.e) s d sp dp pr hs hd hsp hdp hpr fun h6 e6 => ⟨_, rfl, bs (32 :: hdrT s d sp dp pr), addS [32] _ (by decide) (by omega), ?_⟩
  have B6 : BdS h h6 h.size ([] ++ kAsk) := by
    obtain ⟨e, hb, p, A', c', hp, bb, r, f, nb⟩ := B5
    exact ⟨e.trans e6, hb, p, A', c', hp, by rw [e6.old _ (lt_of_get bb)]; exact bb, r.ext e6, f, nb⟩
  refine wstr_s B6 (32 :: hdrT s d sp dp pr) (by simp [kAsk]; omega) fun h7 B7 o7 => ⟨_, _, rfl, ?_⟩
  refine wbyte_s B7 10 (by simp [kAsk]; omega) fun h8 B8 o8 => ⟨_, rfl, ?_⟩
  unfold syntax_PrintScript_l1
  refine br_f (by decide) ?_
  refine blen_s B8 ⟨_, rfl, br_f (by simp [kAsk]; omega) ?_⟩
  refine bstr_s B8 fun h9 e9 => ⟨_, rfl, ?_⟩
  exact H h9 e9
end Go.Proofs.YtfdpccbajaiepaaGreatDoor.Pr
