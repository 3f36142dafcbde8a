/-
The tied card of TopReads: the row's statement, and what it lists tied to the program's text.
Conditions: none beyond the statement's own.
-/
import Derived.Test.YtfdpccbajaiepaaGreatDoorB08
import Derived.Test.YtfdpccbajaiepaaGreatDoorB06
import Derived.Test.YtfdpccbajaiepaaGreatDoorB07
import Derived.Test.YtfdpccbajaiepaaGreatDoorB01
import Derived.ProofKit
import Derived.OpenShut
import Derived.Deep.Slices
import Derived.SizedLaws
import Derived.Test.YtfdpccbajaiepaaGreatDoorRows
import Derived.Stop.LaidErr
import Derived.LaidHandle
import Derived.WalkKit
import Derived.ShutString
import Derived.ChangeOld
import Derived.Below
import Derived.LaidLaws
import Derived.Stop.Joined
import Derived.Test.YtfdpccbajaiepaaGreatDoorTie
import Derived.Test.YtfdpccbajaiepaaGreatDoorCards
import Derived.SevenTiedAt
/- reads: rules are read and kept. -/
namespace Go.Proofs.YtfdpccbajaiepaaGreatDoor.Lx
open Go Go.RowKit Go.Proofs.YtfdpccbajaiepaaGreatDoor.Sx Go.Proofs.YtfdpccbajaiepaaGreatDoor.Sxp Go.Proofs.YtfdpccbajaiepaaGreatDoor.Sxp.Fx Go.Proofs.YtfdpccbajaiepaaGreatDoor.Fs
set_option linter.unusedVariables false
set_option linter.unusedSimpArgs false
set_option maxRecDepth 10000
def exT : List UInt8 := [49, 32, 112, 101, 114, 109, 105, 116, 32, 49, 48, 46, 48, 46, 48, 46, 48, 47, 56, 32, 42, 32, 42, 32, 42, 32, 42, 10]
def exR : Rul := ⟨1, 167772160, 8, 0, 0, 0, 65535, 0, 65535, 0, 0, 2⟩
def exTs : List TokM := match lexM exT with
  | some (.ok ts) => ts
  | _ => []
theorem ex_lex0 : (match lexM exT with | some (.ok _) => true | _ => false) = true := by decide +kernel
theorem ex_lex : lexM exT = some (.ok exTs) := by
  have h := ex_lex0
  unfold exTs
  cases hL : lexM exT with
  | none => rw [hL] at h; cases h
  | some R =>
    cases R with
    | error e => rw [hL] at h; cases h
    | ok ts => rfl
theorem ex_rules : (match rulesR exTs with | .ok l => decide (l = [exR]) | .error _ => false) = true := by decide +kernel
theorem ex_rules' : rulesR exTs = .ok [exR] := by
  have h := ex_rules
  cases hR : rulesR exTs with
  | error f => rw [hR] at h; cases h
  | ok l => rw [hR] at h; simpa using h
def roomC (a : Int) : Cfg := ⟨64, a, 1048576, 1048576, 1048576, 4, 8⟩
theorem roomy_s (a : Int) {h : Hp} {K : Value → Hp → Prop} (H : ∀ h', Ext h h' → K (roomC a).val h') : CallsH Tryz.prog 10 #[.int .i64 a] h K := by
  refine quintettop_roomy_ok _ ?_
  unfold quintettop_roomy
  refine newV (us := (roomC a).enc) rfl rfl (by kernel_rfl) rfl fun h1 e1 c1 b1 z1 => ?_
  exact ⟨_, _, _, _, _, _, _, ldS (vs := (roomC a).enc) c1 (by kernel_rfl), H h1 e1⟩
def exG : Hdr := ⟨167772167, 0, 0, 0, 0⟩
theorem eqVd (b : Int) (c : Int) : PV Tryz.prog (binOp .eql 104 (.agg #[.bool true, .int .i64 b, .int .i64 c]) (.agg #[.bool true, .int .i64 b, .int .i64 c])) (.bool true) := by
  intro w
  rw [run_eql_struct, run_equalIn_struct w 9999 104 _ _ (by kernel_rfl) (by kernel_rfl)]
  simp [go_sem]
theorem reads_s {h : Hp} {K : Value → Hp → Prop} (H : ∀ h', Ext h h' → K (.bool true) h') : CallsH Tryz.prog 8 #[] h K := by
  refine quintettop_reads_ok ?_
  unfold quintettop_reads
  refine Rules_s (s := exT) ex_lex ?_
  rw [ex_rules']
  intro h1 A c e1 r1 f1
  refine ⟨_, _, _, _, rfl, ?_⟩
  refine roomy_s 1 fun h2 e2 => ⟨_, _, _, _, _, _, _, rfl, ?_⟩
  refine table_New_s (roomC 1) (fun hn => absurd (by decide) hn) fun _ h3 b e3 hb t3 => ⟨_, _, rfl, ?_⟩
  refine ⟨false, fun w => pureRun_run _ _ _ (by kernel_rfl) w, br_f rfl ⟨false, eqNil eq27, br_f rfl (br_f (by decide) (br_f (by decide) ?_))⟩⟩
  have E3 := (e1.trans e2).trans e3
  have r3 : RowC h3 75 Rul.enc 12 A c [exR] := (r1.ext e2).ext e3
  have hc : 1 ≤ c := by
    rcases r3.row with ⟨_, h1, _⟩ | ⟨g, rest, rfl, hb, h1, h2, h3⟩
    · cases h1
    · exact h3
  refine table_Set_s t3 (A := A) (l := 1) (c := c) (xs := [exR]) rfl (by omega) hc r3.read (fun _ a ha hk => ?_) fun h4 S' t4 hS f4 => ?_
  · have := r1.old a.block ⟨a, ha, rfl⟩
    have := e2.size
    omega
  have hset : setI (roomC 1).max [] [exR] 0 = 0 := by decide +kernel
  rw [hset] at t4 ⊢
  refine ⟨_, rfl, br_f (by decide) ?_⟩
  have E4 : Ext h h4 := extOwn E3 f4 (fun k hk => by have := e1.size; have := e2.size; omega)
  unfold quintettop_reads_j1
  refine table_Match_s t4 exG (by simp) fun h5 v i e5 hm => ?_
  have hm2 : matchI (roomC 1).dflt exG [exR] 0 = ((true, 1, 2), 0) := by decide +kernel
  have hm3 : ((true, 1, 2), 0) = (v, i) := hm2.symm.trans hm
  injection hm3 with hv hi
  subst hv hi
  refine ⟨_, _, _, _, rfl, ?_⟩
  refine newV (us := verd (true, 1, 2)) rfl rfl (by kernel_rfl) rfl fun h6 e6 c6 b6 z6 => ?_
  refine br_t (by decide) ⟨_, _, _, ldS (vs := verd (true, 1, 2)) c6 (by kernel_rfl), _, eqVd 1 2, ?_⟩
  exact H h6 ((E4.trans e5).trans e6)
end Go.Proofs.YtfdpccbajaiepaaGreatDoor.Lx

/- TopReads: any text is read as rules, or refused; what is read is kept, printed, read again. -/
namespace Go.Proofs.YtfdpccbajaiepaaGreatDoor.Pr
open Go Go.RowKit Go.Proofs.YtfdpccbajaiepaaGreatDoor.Sx Go.Proofs.YtfdpccbajaiepaaGreatDoor.Sxp Go.Proofs.YtfdpccbajaiepaaGreatDoor.Sxp.Fx Go.Proofs.YtfdpccbajaiepaaGreatDoor.Lx Go.Proofs.YtfdpccbajaiepaaGreatDoor.Fs
set_option linter.unusedVariables false
set_option linter.unusedSimpArgs false
set_option maxRecDepth 10000
/-- Rules of any text. -/
theorem Rules_w {h : Hp} (d : Hd h) (s : List UInt8) {K : Value → Hp → Prop}
    (He : ∀ f, (f = ⟨2, 0, 0⟩ ∨ FOk f) → ∀ h' g, Ext h h' → FltC h' g f → K (.tuple #[.slice none 0 0, .iface 27 (.pointer (some ⟨g, 0, none⟩))]) h')
    (Ho : ∀ ns : List RN, (∀ n ∈ ns, n.ok) → (ns.map (·.id)).Nodup → ns.length ≤ 64 → ∀ h' A c, Ext h h' → RowC h' 75 Rul.enc 12 A c (ns.map RN.r) → Fresh h A → K (.tuple #[.slice A (ns.map RN.r).length c, .nilIface]) h') :
    CallsH Tryz.prog 5 #[.string (bs s)] h K := by
  obtain ⟨R, hR⟩ := lexM_some s
  cases R with
  | error f => exact Rules_e hR d fun h' g e _ hf => He f (lexM_err hR) h' g e hf
  | ok ts =>
    refine Rules_s hR ?_
    cases hr : rulesR ts with
    | error f => exact fun h' g e _ hf => He f (.inr (rules_fok hR hr)) h' g e hf
    | ok l =>
      obtain ⟨ns, rfl, hok, hnd, hlen⟩ := rules_may hr
      exact fun h' A c e r f => Ho ns hok hnd hlen h' A c e r f
theorem takes_ok {seen : List Rul} {x : Rul} (hc : x.check.1 = 0) (hn : ∀ y ∈ seen, y.id ≠ x.id) : takesI seen x = 0 := by
  unfold takesI
  rw [if_neg (by simpa using hc), findI_none hn]
  decide
theorem set_ok : ∀ (l seen : List Rul) (i : Nat), (∀ x ∈ l, x.check.1 = 0) → (∀ x ∈ l, ∀ y ∈ seen, y.id ≠ x.id) → (l.map (·.id)).Nodup → i + l.length ≤ 64 → setI 64 seen l i = 0
  | [], _, _, _, _, _, _ => rfl
  | x :: l, seen, i, hc, hs, hnd, hl => by
    unfold setI
    have h1 := takes_ok (hc x (by simp)) (hs x (by simp))
    simp only [List.length_cons] at hl
    rw [if_neg (by rw [h1]; simp), if_neg (by omega)]
    have hnd' := List.nodup_cons.1 (show (x.id :: l.map (·.id)).Nodup from hnd)
    refine set_ok l (seen ++ [x]) (i + 1) (fun y hy => hc y (by simp [hy])) (fun y hy z hz => ?_) hnd'.2 (by omega)
    rcases List.mem_append.1 hz with hz | hz
    · exact hs y (by simp [hy]) z hz
    · simp only [List.mem_singleton] at hz
      subst hz
      exact fun he => hnd'.1 (List.mem_map.2 ⟨y, hy, he.symm⟩)
theorem cnt_take {ts : List TokM} {i : Nat} {t : TokM} (h : ts[i]? = some t) : cnt (ts.take (i + 1)) = cnt (ts.take i) + (if t.kind = 4 then 1 else 0) := by
  rw [List.take_add_one, h, cnt_app]
  congr 1
  unfold cnt
  by_cases hk : t.kind = 4
  · rw [if_pos hk]; simp [hk]
  · rw [if_neg hk]; simp [hk]
theorem ends_l3 {h : Hp} {ts : List TokM} (hl : ts.length ≤ 900000) {A1 : Option Addr} {l1 c1 : Nat} {s1 : ByteArray} {x1 : Int} {A2 : Option Addr} {l2 c2 : Nat} {v2 : Value} {s2 : ByteArray} {x2 : Int} {A : Option Addr} {c : Nat} {v : Value} (r : RSl h A ts.length 5 (ts.flatMap TokM.enc))
    {K0 : Option Addr → Nat → Nat → ByteArray → Int → Option Addr → Nat → Nat → Value → ByteArray → Int → Value → Int → Hp → Prop} (H : K0 A1 l1 c1 s1 x1 A2 l2 c2 v2 s2 x2 v (cnt ts : Int) h) (f : Nat) :
    ∀ (i : Nat), ts.length - i < f → i ≤ ts.length → quintettop_TopReads_l3 A1 l1 c1 s1 x1 A2 l2 c2 v2 s2 x2 A ts.length c v K0 f (cnt (ts.take i) : Int) (i : Int) h := by
  induction f with
  | zero => intro i hf; omega
  | succ f ih =>
    intro i hf hi
    unfold quintettop_TopReads_l3
    by_cases hlt : i < ts.length
    · refine br_t (by simp; omega) ?_
      obtain ⟨t, ht⟩ : ∃ n, ts[i]? = some n := ⟨_, List.getElem?_eq_getElem hlt⟩
      obtain ⟨a, ha, _, pv, cl⟩ := ixR (P := Tryz.prog) (T := 46) (E := 52) (enc := TokM.enc) (sz := 5) (xs := ts) (h := h) (A := A) (l := ts.length) (c := c) (k := .i64) (i := i) (x := t) (fun _ => rfl) r rfl undToks tokSz ht
      refine ⟨a, pv, _, ld (cl.at_ 0 _ rfl) (by kernel_rfl), ?_⟩
      have hc := cnt_take ht
      have hcl : cnt (ts.take i) ≤ i := by
        unfold cnt
        exact Nat.le_trans (List.length_filter_le _ _) (by rw [List.length_take]; omega)
      have w2 : IntKind.i64.wrap ((i : Int) + 1) = ((i + 1 : Nat) : Int) := by rw [wrap_in (by omega) (by omega)]; omega
      have hi2 := ih (i + 1) (by omega) (by omega)
      by_cases hk : t.kind = 4
      · rw [if_pos hk] at hc
        refine br_t (by simp [hk]) ?_
        have w1 : IntKind.i64.wrap ((cnt (ts.take i) : Int) + 1) = ((cnt (ts.take (i + 1)) : Nat) : Int) := by rw [hc, wrap_in (by omega) (by omega)]; omega
        rw [w1, w2]
        exact hi2
      · have hc' : cnt (ts.take (i + 1)) = cnt (ts.take i) := by rw [hc, if_neg hk]; rfl
        refine br_f (by simp [hk]) ?_
        rw [w2, ← hc']
        exact hi2
    · have hi' : i = ts.length := by omega
      refine br_f (by simp; omega) ?_
      rw [hi', List.take_length]
      exact H
set_option maxHeartbeats 1000000 in
theorem TopReads_s {h : Hp} (t : Tab h) (d : Hd h) (s : List UInt8) {K : Value → Hp → Prop} (H : ∀ h', Ext h h' → K (.bool true) h') : CallsH Tryz.prog 3 #[.string (bs s)] h K := by
  refine quintettop_TopReads_ok _ ?_
  unfold quintettop_TopReads
  by_cases hbig : s.length > 16777216
  · exact br_t (by rw [bs_size]; simp; omega) (H h (Ext.refl h))
  · refine br_f (by rw [bs_size]; simp; omega) ?_
    refine Rules_w d s (fun f hf h2 g e2 fc => ?_) (fun ns hok hnd hlen h2 A c e2 r2 F2 => ?_)
    · refine ⟨_, _, _, _, rfl, true, fun w => pureRun_run _ _ _ (by kernel_rfl) w, br_t rfl ?_⟩
      refine newC_i (cs := [.pointer none]) fun h3 e3 c3 b3 z3 => ?_
      refine As_s (d.ext (e2.trans e3)) b3 fun h4 b4 f4 => ⟨_, rfl, ?_⟩
      have hg : g < h2.size := lt_of_get fc
      have fc4 : FltC h4 g f := f4.get (show h3[g]? = _ by rw [e3.old _ hg]; exact fc) (by omega)
      have E4 : Ext h h4 := extOwn (e2.trans e3) f4 (fun k hk => by have := e2.size; omega)
      refine Is_s fc4 ⟨_, rfl, ?_⟩
      refine reads_s fun h5 e5 => ⟨_, rfl, br_t rfl (br_t (by decide) (br_t rfl ?_))⟩
      have b5 : h5[h2.size]? = some (.cells [.pointer (some ⟨g, 0, none⟩)].toArray 27 (0, 0)) := by rw [e5.old _ (lt_of_get b4)]; exact b4
      have c5 : Cl h5 ⟨h2.size, 0, none⟩ [.pointer (some ⟨g, 0, none⟩)] := Cl.of_block b5 fun j v hj => by rw [Nat.zero_add]; exact hj
      have fc5 : FltC h5 g f := by unfold FltC; rw [e5.old _ (lt_of_get fc4)]; exact fc4
      have cf : Cl h5 ⟨g, 0, none⟩ f.enc := Cl.of_block fc5 fun j v hj => by rw [Nat.zero_add]; exact hj
      have ldp := ld (P := Tryz.prog) (t := 27) (c5.at_ 0 _ rfl) (by kernel_rfl)
      have hK := H h5 (E4.trans e5)
      refine ⟨_, ldp, _, neNil (by kernel_rfl), br_t rfl ⟨_, ldp, _, ld (cf.at_ 0 _ rfl) (by kernel_rfl), ?_⟩⟩
      rcases hf with rfl | hf
      · refine br_t (by decide) (br_t (by decide) ⟨_, ldp, _, ld (cf.at_ 1 _ rfl) (by kernel_rfl), br_t (by decide) ⟨_, ldp, _, ld (cf.at_ 2 _ rfl) (by kernel_rfl), br_t (by decide) hK⟩⟩)
      · have hc2 : decide (f.code = 2) = false := by simp [hf.c2]
        rw [hc2]
        have h1 := hf.l
        have h2 := hf.c
        refine br_t (by simpa using hf.c0) (br_f rfl (br_t rfl ⟨_, ldp, _, ld (cf.at_ 1 _ rfl) (by kernel_rfl), br_t (by simpa using h1) ⟨_, ldp, _, ld (cf.at_ 2 _ rfl) (by kernel_rfl), ?_⟩⟩))
        have hd : decide (f.col ≥ 1) = true := by simpa using h2
        rw [hd]
        exact hK
    · refine ⟨_, _, _, _, rfl, false, fun w => pureRun_run _ _ _ (by kernel_rfl) w, br_f rfl ?_⟩
      refine roomy_s 1 fun h3 e3 => ⟨_, _, _, _, _, _, _, rfl, ?_⟩
      refine table_New_s (roomC 1) (fun hn => absurd (by decide) hn) fun _ h4 b e4 hb t4 => ⟨_, _, rfl, ?_⟩
      refine ⟨false, eqNil eq27, br_f rfl (br_f (by decide) ?_)⟩
      have E4 := (e2.trans e3).trans e4
      have r4 := (r2.ext e3).ext e4
      have hc : (ns.map RN.r).length ≤ c := by
        rcases r4.row with ⟨_, h1, _⟩ | ⟨g, rest, rfl, hb, h1, h2, h3⟩
        · omega
        · exact h3
      have hml : (ns.map RN.r).length = ns.length := by simp
      have hset : setI (roomC 1).max [] (ns.map RN.r) 0 = 0 := set_ok _ _ _ (fun x hx => by
        obtain ⟨n, hn, rfl⟩ := List.mem_map.1 hx
        exact (hok n hn).chk) (fun x hx y hy => by cases hy) (by
        rw [List.map_map]
        have : ((fun x : Rul => x.id) ∘ RN.r) = (fun n : Nat => (n : Int)) ∘ (fun n : RN => n.id) := rfl
        rw [this, ← List.map_map]
        exact List.Pairwise.map (R := fun a b : Nat => a ≠ b) _ (fun a b hab h => hab (by omega)) hnd) (by omega)
      refine table_Set_s t4 (A := A) (l := (ns.map RN.r).length) (c := c) (xs := ns.map RN.r) rfl (by omega) hc r4.read (fun _ a ha hk => ?_) fun h5 S' t5 hS f5 => ?_
      · have := r2.old a.block ⟨a, ha, rfl⟩
        have := e3.size
        omega
      rw [hset] at t5 ⊢
      rw [if_pos rfl] at t5
      refine ⟨_, rfl, br_f (by decide) ?_⟩
      have E5 : Ext h h5 := extOwn E4 f5 (fun k hk => by have := e2.size; have := e3.size; omega)
      have r5 : RowC h5 75 Rul.enc 12 A c (ns.map RN.r) := r4.keep f5 (fun k hk he => by have := r2.old k hk; have := e3.size; omega)
      unfold quintettop_TopReads_j2
      refine table_Rules_s t5 (by simp; omega) fun h6 e6 r6 => ⟨_, _, _, rfl, ?_⟩
      have E6 := E5.trans e6
      have rr6 : RSl h6 (some ⟨h5.size, 0, none⟩) ns.length 12 ((ns.map RN.r).flatMap Rul.enc) := by have := Row.read r6; rwa [hml] at this
      rw [hml]
      refine PrintRules_s (t.ext E6) hok hnd hlen rr6 fun h7 e7 => ⟨_, _, rfl, ?_⟩
      obtain ⟨ts, hl, hr, hcn⟩ := rules_again hok hnd hlen
      refine Rules_s hl ?_
      rw [hr]
      intro h8 A8 c8 e8 r8 f8
      refine ⟨_, _, _, _, rfl, ?_⟩
      have rr8 : RSl h8 A8 ns.length 12 ((ns.map RN.r).flatMap Rul.enc) := by have := r8.read; rwa [hml] at this
      have E8 := (E6.trans e7).trans e8
      rw [hml]
      refine PrintRules_s (t.ext E8) hok hnd hlen rr8 fun h9 e9 => ⟨_, _, rfl, ?_⟩
      refine All_s hl ?_
      intro h10 A10 c10 e10 r10 f10
      refine ⟨_, _, _, _, rfl, ts.length + 1, ?_⟩
      rw [List.nil_append] at r10
      have hE := (E8.trans e9).trans e10
      refine ends_l3 (lexM_good hl).2 r10.read ?_ _ 0 (by omega) (by omega)
      refine reads_s fun h11 e11 => ⟨_, rfl, br_t rfl (br_t (by decide) ⟨true, fun w => pureRun_run _ _ _ (by kernel_rfl) w, br_t rfl ?_⟩)⟩
      have E511 : Ext h5 h11 := ((((e6.trans e7).trans e8).trans e9).trans e10).trans e11
      have ra := (r5.ext E511).read
      have rb := (r8.ext ((e9.trans e10).trans e11)).read
      have hs := same_s (c := c) (d := c8) ra rb (by omega) (K := fun v h' => v = .bool true ∧ h' = h11) ⟨rfl, rfl⟩
      rw [hml] at hs
      refine hs.mono ?_
      rintro v h' ⟨rfl, rfl⟩
      refine ⟨_, rfl, br_t rfl (br_t (by decide) (br_t (by simp) ⟨true, fun w => pureRun_run _ _ _ (by kernel_rfl) w, br_t rfl ?_⟩))⟩
      rw [hcn]
      have : ((ns.length : Int) == (ns.length : Int)) = true := by simp
      rw [this]
      exact H _ (hE.trans e11)
end Go.Proofs.YtfdpccbajaiepaaGreatDoor.Pr

/- Arguments laid open: flat structs of whole numbers (nested, any number of fields), and slices of them, as the heap alone tells them. -/
namespace Go.Proofs.YtfdpccbajaiepaaGreatDoor.Sx
open Go Go.RowKit Go.ChangeShapes Go.WideShapes Go.Deep
set_option linter.unusedVariables false

def flatFields (P : Program) (g : TypeId → Option (List IntKind)) : List Field → Nat → Option (List IntKind)
  | [], _ => some []
  | f :: r, off => match g f.type with
    | some ks => if f.offset = off ∧ P.cellsOf f.type = ks.length then (flatFields P g r (off + ks.length)).map (ks ++ ·) else none
    | none => none
/-- The kinds of a type's cells, where all are whole numbers. -/
def flatKinds (P : Program) : Nat → TypeId → Option (List IntKind)
  | 0, _ => none
  | n + 1, t => match P.underlying t with
    | some (.int k) => some [k]
    | some (.struct fs) => match flatFields P (flatKinds P n) fs.toList 0 with
      | some ks => if P.cellsOf t = ks.length then some ks else none
      | none => none
    | _ => none
section
variable {H : Type} {enc : TypeId × Value → H} {P : Program} {w : World} {base : Nat} {spare : Nat → Bool} {held : Bool}
theorem flat_fields {g : TypeId → Option (List IntKind)} {cs : List Value} {n : Nat}
    (hg : ∀ t ks cs x, g t = some ks → DataW.trod enc P w base spare held n t cs = some x → ∃ ns : List Int, ns.length = ks.length ∧ cs = List.zipWith Value.int ks ns ∧ ∀ p ∈ ks.zip ns, (Lit.int p.1 p.2).wf = true) :
    ∀ (L : List Field) (off : Nat) (ks : List IntKind), flatFields P g L off = some ks → (∀ f ∈ L, ∃ y, DataW.trod enc P w base spare held n f.type ((cs.drop f.offset).take (P.cellsOf f.type)) = some y) →
      ∃ ns : List Int, ns.length = ks.length ∧ (cs.drop off).take ks.length = List.zipWith Value.int ks ns ∧ ∀ p ∈ ks.zip ns, (Lit.int p.1 p.2).wf = true
  | [], off, ks, h, _ => by
    simp only [flatFields, Option.some.injEq] at h
    subst h
    exact ⟨[], rfl, by simp, by simp⟩
  | f :: r, off, ks, h, hf => by
    unfold flatFields at h
    cases hk : g f.type with
    | none => rw [hk] at h; cases h
    | some k0 =>
      rw [hk] at h
      simp only at h
      split at h
      · rename_i hc
        obtain ⟨h1, h2⟩ := hc
        obtain ⟨k1, hk1, rfl⟩ := Option.map_eq_some_iff.1 h
        obtain ⟨y, hy⟩ := hf f List.mem_cons_self
        obtain ⟨ns0, l0, e0, w0⟩ := hg _ _ _ _ hk hy
        obtain ⟨ns1, l1, e1, w1⟩ := flat_fields hg r _ k1 hk1 (fun f' hf' => hf f' (List.mem_cons_of_mem _ hf'))
        refine ⟨ns0 ++ ns1, by simp [l0, l1], ?_, ?_⟩
        · rw [h1, h2] at e0
          rw [List.zipWith_append (by rw [l0]), ← e0, ← e1, List.length_append, List.take_add, List.drop_drop]
        · intro p hp
          rw [List.zip_append (by rw [l0])] at hp
          rcases List.mem_append.1 hp with hp | hp
          · exact w0 p hp
          · exact w1 p hp
      · cases h
theorem flat_open : ∀ (n : Nat) (t : TypeId) (ks : List IntKind) (fuel : Nat) (cs : List Value) (x : DataW H × List MemPlace), flatKinds P n t = some ks → DataW.trod enc P w base spare held fuel t cs = some x →
    ∃ ns : List Int, ns.length = ks.length ∧ cs = List.zipWith Value.int ks ns ∧ ∀ p ∈ ks.zip ns, (Lit.int p.1 p.2).wf = true
  | 0, _, _, _, _, _, h, _ => by cases h
  | n + 1, t, ks, fuel, cs, x, h, hx => by
    unfold flatKinds at h
    split at h
    · rename_i k hu
      simp only [Option.some.injEq] at h
      subst h
      obtain ⟨m, rfl, _, hw⟩ := DataW.trod_int hu hx
      exact ⟨[m], rfl, rfl, by simpa using hw⟩
    · rename_i fs hu
      split at h
      · rename_i k0 hk0
        split at h
        · rename_i hc
          simp only [Option.some.injEq] at h
          subst h
          obtain ⟨xs, m, rfl, _, hlen, hxl, hf⟩ := DataW.trod_struct hu hx
          obtain ⟨ns, l, e, w⟩ := flat_fields (cs := cs) (n := m) (fun t' ks' cs' x' h' hx' => flat_open n t' ks' m cs' x' h' hx') fs.toList 0 k0 hk0 (fun f hf' => by
            obtain ⟨i, hi, rfl⟩ := List.mem_iff_getElem.1 hf'
            have hi' : i < xs.length := by rw [hxl]; simpa using hi
            refine ⟨xs[i], ?_⟩
            rw [hf i _ (by simp at hi ⊢)]
            exact List.getElem?_eq_getElem hi')
          refine ⟨ns, l, ?_, w⟩
          rw [← e, List.drop_zero, List.take_of_length_le (Nat.le_of_eq (hlen.trans hc))]
        · cases h
      · cases h
    · cases h
/-- A flat struct as an argument. -/
theorem open_flat {r : Reach} {b0 : Nat} {t : TypeId} {fs : Array Field} {v : Value} {d : DataW H} {p : List MemPlace} (n : Nat) (ks : List IntKind) (hs : P.underlying t = some (.struct fs)) (hk : flatKinds P n t = some ks)
    (hv : Value.okWide P w r b0 t v) (h : DataW.Trod enc P w base spare held t v d p) :
    ∃ ns : List Int, ns.length = ks.length ∧ v = .agg (List.zipWith Value.int ks ns).toArray ∧ ∀ p ∈ ks.zip ns, (Lit.int p.1 p.2).wf = true := by
  obtain ⟨cs, rfl, _⟩ := okWide_struct hs hv
  obtain ⟨fuel, hf⟩ := h
  obtain ⟨ns, l, e, w⟩ := flat_open n t ks fuel _ _ hk hf
  refine ⟨ns, l, ?_, w⟩
  rw [← e]
  simp [Value.cells]
/-- A slice of flat structs as an argument: its rows of numbers. -/
theorem open_rows {r : Reach} {b0 : Nat} {t e : TypeId} {v : Value} {dd : DataW H} {p : List MemPlace} (n : Nat) (ks : List IntKind) (hs : P.underlying t = some (.slice e)) (hk : flatKinds P n e = some ks) (hC : P.cellsOf e = ks.length) (h0 : 0 < ks.length)
    (hv : Value.okWide P w r b0 t v) (h : DataW.Trod enc P w base spare held t v dd p) :
    ∃ (A : Option Addr) (l : List (List Int)) (cap : Nat), v = .slice A l.length cap ∧ RSl w.heap A l.length ks.length (l.flatMap (List.zipWith Value.int ks)) ∧ l.length ≤ cap ∧ cap ≤ maxLen ∧ ∀ ns ∈ l, ns.length = ks.length ∧ ∀ p ∈ ks.zip ns, (Lit.int p.1 p.2).wf = true := by
  obtain ⟨a0, len, cap, rfl⟩ := okWide_slice hs hv
  obtain ⟨fuel, hf⟩ := h
  rcases open_slice hs hf with ⟨hcs, _⟩ | ⟨a, len', cap', m, q, D, Pl, hcs, hb, hl, hm, hmm, hx, hi⟩
  · simp [Value.cells] at hcs
    obtain ⟨rfl, rfl, rfl⟩ := hcs
    exact ⟨none, [], 0, rfl, ⟨by simp, .inl rfl⟩, Nat.le_refl _, by simp, by simp⟩
  · simp [Value.cells] at hcs
    obtain ⟨rfl, rfl, rfl⟩ := hcs
    have hml : len ≤ m := by rw [hmm]; split <;> omega
    have hel : ∀ i, i < len → ∃ ns : List Int, ns.length = ks.length ∧ (∀ p ∈ ks.zip ns, (Lit.int p.1 p.2).wf = true) ∧ ∀ j u, (List.zipWith Value.int ks ns)[j]? = some u → w.cell? (a.add (i * ks.length + j)) = some u := by
      intro i hil
      obtain ⟨cs', hc, ht⟩ := hi i (by omega)
      obtain ⟨ns, l, e', w'⟩ := flat_open n e ks q _ _ hk ht
      refine ⟨ns, l, w', fun j u hj => ?_⟩
      obtain ⟨_, hcl, hat⟩ := World.cells?_some hc
      rw [hC] at hat hcl
      rw [← e'] at hj
      have hjl : j < ks.length := by
        have := (List.getElem?_eq_some_iff.1 hj).1
        omega
      have := hat j hjl
      rw [← Go.Deep.add_add, this]
      exact hj
    obtain ⟨f, hf⟩ : ∃ f : Nat → List Int, ∀ i, i < len → (f i).length = ks.length ∧ (∀ p ∈ ks.zip (f i), (Lit.int p.1 p.2).wf = true) ∧ ∀ j u, (List.zipWith Value.int ks (f i))[j]? = some u → w.cell? (a.add (i * ks.length + j)) = some u :=
      ⟨fun i => if h : i < len then Classical.choose (hel i h) else [], fun i h => by simp only [dif_pos h]; exact Classical.choose_spec (hel i h)⟩
    refine ⟨some a, (List.range len).map f, cap, by simp, ⟨?_, ?_⟩, by simpa using hl, hm, fun x hx => ?_⟩
    · have : ∀ L : List Nat, (∀ i ∈ L, i < len) → ((L.map f).flatMap (List.zipWith Value.int ks)).length = L.length * ks.length := by
        intro L
        induction L with
        | nil => intro _; simp
        | cons i L ih =>
          intro hL
          rw [List.map_cons, List.flatMap_cons, List.length_append, ih (fun j hj => hL j (List.mem_cons_of_mem _ hj)), List.length_zipWith, (hf i (hL i List.mem_cons_self)).1, List.length_cons, Nat.add_mul]
          simp; omega
      rw [this _ (fun i hi => List.mem_range.1 hi)]
      simp
    · rcases Nat.eq_zero_or_pos len with hz | hz
      · left; simpa using hz
      · right
        refine ⟨a, rfl, ?_, fun j u hj => ?_⟩
        · have hi0 := (hf 0 hz).2.2 0
          have hlen0 := (hf 0 hz).1
          have hg : (List.zipWith Value.int ks (f 0))[0]? = some ((List.zipWith Value.int ks (f 0))[0]'(by simp; omega)) := List.getElem?_eq_getElem _
          have hc := hi0 _ hg
          rw [Nat.zero_mul, Nat.zero_add] at hc
          show a.spot = none
          have hc' : w.cell? a = _ := hc
          unfold World.cell? at hc'
          split at hc'
          · cases hsp : a.spot with
            | none => rfl
            | some s => rw [hsp] at hc'; cases hc'
          · cases hc'
        · have key : ∀ (L : List Nat) (b j : Nat) (u : Value), (∀ q i, L[q]? = some i → i = b + q ∧ i < len) → ((L.map f).flatMap (List.zipWith Value.int ks))[j]? = some u → w.cell? (a.add (b * ks.length + j)) = some u := by
            intro L
            induction L with
            | nil => intro b j u _ hj; simp at hj
            | cons i L ih =>
              intro b j u hL hj
              obtain ⟨hib, hil⟩ := hL 0 i rfl
              rw [Nat.add_zero] at hib
              subst hib
              have hzl : (List.zipWith Value.int ks (f i)).length = ks.length := by rw [List.length_zipWith, (hf i hil).1]; simp
              rw [List.map_cons, List.flatMap_cons] at hj
              by_cases hjl : j < ks.length
              · rw [List.getElem?_append_left (by omega)] at hj
                exact (hf i hil).2.2 j u hj
              · rw [List.getElem?_append_right (by omega), hzl] at hj
                have := ih (i + 1) (j - ks.length) u (fun q i' hq => by
                  obtain ⟨h1, h2⟩ := hL (q + 1) i' (by simpa using hq)
                  exact ⟨by omega, h2⟩) hj
                rw [Nat.add_mul, Nat.one_mul] at this
                rw [← this]
                congr 2
                omega
          have := key (List.range len) 0 j u (fun q i hq => by
            have := List.getElem?_eq_some_iff.1 hq
            simp at this
            omega) hj
          rw [Nat.zero_mul, Nat.zero_add] at this
          exact this
    · obtain ⟨i, hi', rfl⟩ := List.mem_map.1 hx
      exact ⟨(hf i (List.mem_range.1 hi')).1, (hf i (List.mem_range.1 hi')).2.1⟩
end
theorem len_succ {l : List Int} {n : Nat} (h : l.length = n + 1) : ∃ a t, l = a :: t ∧ t.length = n := by
  cases l with
  | nil => cases h
  | cons a t => exact ⟨a, t, rfl, by simpa using h⟩
theorem len_zero {l : List Int} (h : l.length = 0) : l = [] := List.eq_nil_of_length_eq_zero h
theorem wf_u8 {x : Int} (h : (Lit.int .u8 x).wf = true) : 0 ≤ x ∧ x ≤ 255 := by simpa [Lit.wf, IntKind.min, IntKind.max, IntKind.signed, IntKind.bits] using h
theorem wf_u16 {x : Int} (h : (Lit.int .u16 x).wf = true) : 0 ≤ x ∧ x ≤ 65535 := by simpa [Lit.wf, IntKind.min, IntKind.max, IntKind.signed, IntKind.bits] using h
theorem wf_u32 {x : Int} (h : (Lit.int .u32 x).wf = true) : 0 ≤ x ∧ x ≤ 4294967295 := by simpa [Lit.wf, IntKind.min, IntKind.max, IntKind.signed, IntKind.bits] using h
theorem wf_i64 {x : Int} (h : (Lit.int .i64 x).wf = true) : -9223372036854775808 ≤ x ∧ x ≤ 9223372036854775807 := by simpa [Lit.wf, IntKind.min, IntKind.max, IntKind.signed, IntKind.bits] using h
/-- A call that comes back true, and leaves what was there: as the rows ask it. -/
theorem walk_of {P : Program} {f : FuncId} {args : Array Value} {W : World} (h : CallsH P f args W.heap (fun v h' => v = .bool true ∧ Ext W.heap h')) : Calls P f args W fun e w' => e = .returned (.bool true) ∧ Below W.heap.size W w' :=
  (h W rfl).mono fun e w' ⟨v, he, hs, hv, hx⟩ => ⟨by rw [he, hv], ⟨hs.os, hs.tape, hs.output, hx.size, fun k hk => hx.old k hk⟩⟩
end Go.Proofs.YtfdpccbajaiepaaGreatDoor.Sx

/-
TopReads: any text is read as rules or refused, and what was read is printed and read again the same.
Conditions: none beyond the statement's own (the listed variables read as the row lists them).
-/
namespace Go.Proofs.YtfdpccbajaiepaaGreatDoor.PureTopReads
open Go Go.RowKit Go.Proofs.YtfdpccbajaiepaaGreatDoor.Sx Go.Proofs.YtfdpccbajaiepaaGreatDoor.Lx Go.Proofs.YtfdpccbajaiepaaGreatDoor.Pr
set_option linter.unusedVariables false
theorem tab_row : (Rows.laid_internal_strconv_uint64pow10 : DataW Unit) = Lib.tabData .u64 Lib.pow10Tab := by kernel_rfl
theorem et : Tryz.prog.globalNamed "errors.errorType" = some 0 := by kernel_rfl
theorem rt : (Tryz.prog.cutTypes.find? (·.1 == "internal/reflectlite.rtype")).map (·.2) = some 147 := by kernel_rfl
theorem oneRow : ((List.range 234).filter fun t => Tryz.prog.rowNamed t [101, 114, 114, 111, 114]) = [24] := by kernel_rfl
theorem tysize : Tryz.prog.types.size = 234 := by kernel_rfl
theorem parts {W : World} (hL : laidMetH Tryz.prog Rows.topReadsRow.laid W) : laidMet Tryz.prog [("math/bits.deBruijn32tab", Rows.laid_math_bits_deBruijn32tab), ("math/bits.deBruijn64tab", Rows.laid_math_bits_deBruijn64tab), ("internal/strconv.uint64pow10", Rows.laid_internal_strconv_uint64pow10)] W ∧ handlesMet Tryz.prog [("errors.errorType", Rows.laid_errors_errorType)] W := hL
theorem tab_laid {W : World} (hL : laidMetH Tryz.prog Rows.topReadsRow.laid W) : Tab W.heap := by
  have h : laidMet Tryz.prog [("internal/strconv.uint64pow10", Rows.laid_internal_strconv_uint64pow10)] W := (parts hL).1.tail.tail
  rw [tab_row] at h
  exact tab_of (Lib.tabIs_of_head (t := 201) (e := 128) (n := 20) glob (by kernel_rfl) (by kernel_rfl) (by kernel_rfl) (by kernel_rfl) (by kernel_rfl) h)
theorem handle_of_laid {W : World} (hL : laidMetH Tryz.prog Rows.topReadsRow.laid W) : Hd W.heap := by
  obtain ⟨name, u, ty, e1, e2, e3, e4, e5⟩ := (parts hL).2 _ (List.mem_singleton.2 rfl)
  have en : name = [101, 114, 114, 111, 114] := (Option.some.inj e1).symm
  subst en
  obtain rfl := Option.some.inj (rt.symm.trans e2)
  have hm : ty ∈ (List.range 234).filter fun t => Tryz.prog.rowNamed t [101, 114, 114, 111, 114] := List.mem_filter.2 ⟨List.mem_range.2 (by rw [← tysize]; exact e3), e4⟩
  rw [oneRow] at hm
  obtain rfl := List.mem_singleton.1 hm
  have hh : typeHandle Tryz.prog 24 = .pointer (some ⟨4, 24, none⟩) := by kernel_rfl
  rw [hh] at e5
  have := World.var?_cell et e5 0
  have h2 : W.cell? ⟨0, 0, none⟩ = some (.iface 147 (.agg #[.pointer (some ⟨4, 24, none⟩)])) := by simpa using this
  exact h2
theorem walk {W : World} (a : ByteArray) (ya : a.size ≤ maxLen) (za : a.size ≤ 140737488351232) (hL : laidMetH Tryz.prog Rows.topReadsRow.laid W) :
    Calls Tryz.prog 3 #[.string a] W fun e w' => e = .returned (.bool true) ∧ Below W.heap.size W w' := by
  have e : bs a.data.toList = a := rfl
  rw [← e]
  exact walk_of (TopReads_s (tab_laid hL) (handle_of_laid hL) a.data.toList fun h' e => ⟨rfl, e⟩)
end Go.Proofs.YtfdpccbajaiepaaGreatDoor.PureTopReads

/- Arguments laid open: structs of whole numbers and slices (nested). -/
namespace Go.Proofs.YtfdpccbajaiepaaGreatDoor.Sx
open Go Go.RowKit Go.ChangeShapes Go.WideShapes Go.Deep
set_option linter.unusedVariables false
/-- Cells by their kinds: a whole number of a kind, or a slice. -/
inductive Fits : List (Option IntKind) → List Value → Prop where
  | nil : Fits [] []
  | int (k : IntKind) (n : Int) {ks : List (Option IntKind)} {cs : List Value} (w : (Lit.int k n).wf = true) (r : Fits ks cs) : Fits (some k :: ks) (.int k n :: cs)
  | sl (A : Option Addr) (l c : Nat) {ks : List (Option IntKind)} {cs : List Value} (r : Fits ks cs) : Fits (none :: ks) (.slice A l c :: cs)
theorem Fits.append : ∀ {ks : List (Option IntKind)} {cs : List Value} {ks' : List (Option IntKind)} {cs' : List Value}, Fits ks cs → Fits ks' cs' → Fits (ks ++ ks') (cs ++ cs')
  | _, _, _, _, .nil, h' => h'
  | _, _, _, _, .int k n w r, h' => .int k n w (r.append h')
  | _, _, _, _, .sl A l c r, h' => .sl A l c (r.append h')
theorem Fits.len : ∀ {ks : List (Option IntKind)} {cs : List Value}, Fits ks cs → cs.length = ks.length
  | _, _, .nil => rfl
  | _, _, .int k n w r => by simp [r.len]
  | _, _, .sl A l c r => by simp [r.len]
def mixFields (P : Program) (g : TypeId → Option (List (Option IntKind))) : List Field → Nat → Option (List (Option IntKind))
  | [], _ => some []
  | f :: r, off => match g f.type with
    | some ks => if f.offset = off ∧ P.cellsOf f.type = ks.length then (mixFields P g r (off + ks.length)).map (ks ++ ·) else none
    | none => none
def mixKinds (P : Program) : Nat → TypeId → Option (List (Option IntKind))
  | 0, _ => none
  | n + 1, t => match P.underlying t with
    | some (.int k) => some [some k]
    | some (.slice _) => some [none]
    | some (.struct fs) => match mixFields P (mixKinds P n) fs.toList 0 with
      | some ks => if P.cellsOf t = ks.length then some ks else none
      | none => none
    | _ => none
section
variable {H : Type} {enc : TypeId × Value → H} {P : Program} {w : World} {base : Nat} {spare : Nat → Bool} {held : Bool}
theorem mix_fields {g : TypeId → Option (List (Option IntKind))} {cs : List Value} {n : Nat}
    (hg : ∀ t ks cs x, g t = some ks → DataW.trod enc P w base spare held n t cs = some x → Fits ks cs) :
    ∀ (L : List Field) (off : Nat) (ks : List (Option IntKind)), mixFields P g L off = some ks → (∀ f ∈ L, ∃ y, DataW.trod enc P w base spare held n f.type ((cs.drop f.offset).take (P.cellsOf f.type)) = some y) →
      Fits ks ((cs.drop off).take ks.length)
  | [], off, ks, h, _ => by
    simp only [mixFields, Option.some.injEq] at h
    subst h
    simpa using Fits.nil
  | f :: r, off, ks, h, hf => by
    unfold mixFields at h
    cases hk : g f.type with
    | none => rw [hk] at h; cases h
    | some k0 =>
      rw [hk] at h
      simp only at h
      split at h
      · rename_i hc
        obtain ⟨h1, h2⟩ := hc
        obtain ⟨k1, hk1, rfl⟩ := Option.map_eq_some_iff.1 h
        obtain ⟨y, hy⟩ := hf f List.mem_cons_self
        have e0 := hg _ _ _ _ hk hy
        have e1 := mix_fields hg r _ k1 hk1 (fun f' hf' => hf f' (List.mem_cons_of_mem _ hf'))
        rw [h1, h2] at e0
        rw [List.length_append, List.take_add, List.drop_drop]
        exact e0.append e1
      · cases h
theorem mix_open : ∀ (n : Nat) (t : TypeId) (ks : List (Option IntKind)) (fuel : Nat) (cs : List Value) (x : DataW H × List MemPlace), mixKinds P n t = some ks → DataW.trod enc P w base spare held fuel t cs = some x → Fits ks cs
  | 0, _, _, _, _, _, h, _ => by cases h
  | n + 1, t, ks, fuel, cs, x, h, hx => by
    unfold mixKinds at h
    split at h
    · rename_i k hu
      simp only [Option.some.injEq] at h
      subst h
      obtain ⟨m, rfl, _, hw⟩ := DataW.trod_int hu hx
      exact .int k m hw .nil
    · rename_i e hu
      simp only [Option.some.injEq] at h
      subst h
      rcases open_slice hu hx with ⟨hcs, _⟩ | ⟨a, len', cap', m, q, D, Pl, hcs, _⟩
      · rw [hcs]; exact .sl _ _ _ .nil
      · rw [hcs]; exact .sl _ _ _ .nil
    · rename_i fs hu
      split at h
      · rename_i k0 hk0
        split at h
        · rename_i hc
          simp only [Option.some.injEq] at h
          subst h
          obtain ⟨xs, m, rfl, _, hlen, hxl, hf⟩ := DataW.trod_struct hu hx
          have e := mix_fields (cs := cs) (n := m) (fun t' ks' cs' x' h' hx' => mix_open n t' ks' m cs' x' h' hx') fs.toList 0 k0 hk0 (fun f hf' => by
            obtain ⟨i, hi, rfl⟩ := List.mem_iff_getElem.1 hf'
            have hi' : i < xs.length := by rw [hxl]; simpa using hi
            refine ⟨xs[i], ?_⟩
            rw [hf i _ (by simp at hi ⊢)]
            exact List.getElem?_eq_getElem hi')
          rw [List.drop_zero, List.take_of_length_le (Nat.le_of_eq (hlen.trans hc))] at e
          exact e
        · cases h
      · cases h
    · cases h
/-- A struct with slices as an argument. -/
theorem open_mix {r : Reach} {b0 : Nat} {t : TypeId} {fs : Array Field} {v : Value} {d : DataW H} {p : List MemPlace} (n : Nat) (ks : List (Option IntKind)) (hs : P.underlying t = some (.struct fs)) (hk : mixKinds P n t = some ks)
    (hv : Value.okWide P w r b0 t v) (h : DataW.Trod enc P w base spare held t v d p) : ∃ cs : List Value, Fits ks cs ∧ v = .agg cs.toArray := by
  obtain ⟨cs, rfl, _⟩ := okWide_struct hs hv
  obtain ⟨fuel, hf⟩ := h
  have e := mix_open n t ks fuel _ _ hk hf
  exact ⟨_, e, by simp [Value.cells]⟩
end
theorem Fits.int_inv {k : IntKind} {ks : List (Option IntKind)} {cs : List Value} (h : Fits (some k :: ks) cs) : ∃ n cs', cs = .int k n :: cs' ∧ (Lit.int k n).wf = true ∧ Fits ks cs' := by
  cases h with
  | int k n w r => exact ⟨n, _, rfl, w, r⟩
theorem Fits.sl_inv {ks : List (Option IntKind)} {cs : List Value} (h : Fits (none :: ks) cs) : ∃ A l c cs', cs = .slice A l c :: cs' ∧ Fits ks cs' := by
  cases h with
  | sl A l c r => exact ⟨A, l, c, _, rfl, r⟩
theorem Fits.nil_inv {cs : List Value} (h : Fits [] cs) : cs = [] := by
  cases h; rfl
end Go.Proofs.YtfdpccbajaiepaaGreatDoor.Sx

/- Arguments laid open: slices of structs that hold slices of flat structs. -/
namespace Go.Proofs.YtfdpccbajaiepaaGreatDoor.Sx
open Go Go.RowKit Go.ChangeShapes Go.WideShapes Go.Deep
set_option linter.unusedVariables false
/-- Cells by their kinds: a whole number of a kind, or a slice of rows of numbers. -/
inductive Fits2 (h : Hp) : List (IntKind ⊕ List IntKind) → List Value → Prop where
  | nil : Fits2 h [] []
  | int (k : IntKind) (n : Int) {ks : List (IntKind ⊕ List IntKind)} {cs : List Value} (w : (Lit.int k n).wf = true) (r : Fits2 h ks cs) : Fits2 h (.inl k :: ks) (.int k n :: cs)
  | sl (A : Option Addr) (rows : List (List Int)) (c : Nat) {qs : List IntKind} {ks : List (IntKind ⊕ List IntKind)} {cs : List Value} (hr : RSl h A rows.length qs.length (rows.flatMap (List.zipWith Value.int qs))) (hc : rows.length ≤ c)
      (wf : ∀ ns ∈ rows, ns.length = qs.length ∧ ∀ p ∈ qs.zip ns, (Lit.int p.1 p.2).wf = true) (r : Fits2 h ks cs) : Fits2 h (.inr qs :: ks) (.slice A rows.length c :: cs)
theorem Fits2.append {h : Hp} : ∀ {ks : List (IntKind ⊕ List IntKind)} {cs : List Value} {ks' : List (IntKind ⊕ List IntKind)} {cs' : List Value}, Fits2 h ks cs → Fits2 h ks' cs' → Fits2 h (ks ++ ks') (cs ++ cs')
  | _, _, _, _, .nil, h' => h'
  | _, _, _, _, .int k n w r, h' => .int k n w (r.append h')
  | _, _, _, _, .sl A l c hr hc wf r, h' => .sl A l c hr hc wf (r.append h')
theorem Fits2.len {h : Hp} : ∀ {ks : List (IntKind ⊕ List IntKind)} {cs : List Value}, Fits2 h ks cs → cs.length = ks.length
  | _, _, .nil => rfl
  | _, _, .int k n w r => by simp [r.len]
  | _, _, .sl A l c hr hc wf r => by simp [r.len]
def mix2Fields (P : Program) (g : TypeId → Option (List (IntKind ⊕ List IntKind))) : List Field → Nat → Option (List (IntKind ⊕ List IntKind))
  | [], _ => some []
  | f :: r, off => match g f.type with
    | some ks => if f.offset = off ∧ P.cellsOf f.type = ks.length then (mix2Fields P g r (off + ks.length)).map (ks ++ ·) else none
    | none => none
def mix2Kinds (P : Program) : Nat → TypeId → Option (List (IntKind ⊕ List IntKind))
  | 0, _ => none
  | n + 1, t => match P.underlying t with
    | some (.int k) => some [.inl k]
    | some (.slice e) => match flatKinds P n e with
      | some qs => if P.cellsOf e = qs.length ∧ 0 < qs.length then some [.inr qs] else none
      | none => none
    | some (.struct fs) => match mix2Fields P (mix2Kinds P n) fs.toList 0 with
      | some ks => if P.cellsOf t = ks.length then some ks else none
      | none => none
    | _ => none
section
variable {H : Type} {enc : TypeId × Value → H} {P : Program} {w : World} {base : Nat} {spare : Nat → Bool} {held : Bool}
/-- Rows of elements that are each laid open by a function of their own: as the heap tells them. -/
theorem rows_gen {a : Addr} {len C : Nat} {α : Type} {f : α → List Value} (hf : ∀ x, (f x).length = C) (l : List α) (hl : l.length = len) (h0 : 0 < len) (h0C : 0 < C)
    (hat : ∀ i x, l[i]? = some x → ∀ j u, (f x)[j]? = some u → w.cell? (a.add (i * C + j)) = some u) : RSl w.heap (some a) len C (l.flatMap f) := by
  subst hl
  refine ⟨flat_len hf l, .inr ⟨a, rfl, ?_, fun j u hj => ?_⟩⟩
  · have hx : l[0]? = some (l[0]'h0) := List.getElem?_eq_getElem _
    have hg : (f (l[0]'h0))[0]? = some ((f (l[0]'h0))[0]'(by rw [hf]; exact h0C)) := List.getElem?_eq_getElem _
    have hc := hat 0 _ hx 0 _ hg
    rw [Nat.zero_mul, Nat.zero_add] at hc
    have hc' : w.cell? a = _ := hc
    unfold World.cell? at hc'
    split at hc'
    · cases hsp : a.spot with
      | none => rfl
      | some s => rw [hsp] at hc'; cases hc'
    · cases hc'
  · have hjl : j < l.length * C := by rw [← flat_len hf l]; exact (List.getElem?_eq_some_iff.1 hj).1
    have hi : j / C < l.length := by rw [Nat.div_lt_iff_lt_mul h0C]; exact hjl
    have hm : j % C < C := Nat.mod_lt _ h0C
    have hx : l[j / C]? = some (l[j / C]'hi) := List.getElem?_eq_getElem _
    have e := flat_get hf l (j / C) (j % C) _ hx hm
    have hd : j / C * C + j % C = j := Nat.div_add_mod' j C
    rw [hd] at e
    rw [e] at hj
    have := hat _ _ hx _ _ hj
    rw [hd] at this
    exact this
theorem rows_open {t e : TypeId} {fuel : Nat} {cs : List Value} {x : DataW H × List MemPlace} (n : Nat) (ks : List IntKind) (hs : P.underlying t = some (.slice e)) (hk : flatKinds P n e = some ks) (hC : P.cellsOf e = ks.length) (h0 : 0 < ks.length) (hf : DataW.trod enc P w base spare held fuel t cs = some x) :
    ∃ (A : Option Addr) (l : List (List Int)) (cap : Nat), cs = [.slice A l.length cap] ∧ RSl w.heap A l.length ks.length (l.flatMap (List.zipWith Value.int ks)) ∧ l.length ≤ cap ∧ ∀ ns ∈ l, ns.length = ks.length ∧ ∀ p ∈ ks.zip ns, (Lit.int p.1 p.2).wf = true := by
  rcases open_slice hs hf with ⟨hcs, _⟩ | ⟨a, len, cap, m, q, D, Pl, hcs, hb, hl, hm, hmm, hx, hi⟩
  · exact ⟨none, [], 0, hcs, ⟨by simp, .inl rfl⟩, Nat.le_refl _, by simp⟩
  · have hml : len ≤ m := by rw [hmm]; split <;> omega
    have hel : ∀ i, i < len → ∃ ns : List Int, ns.length = ks.length ∧ (∀ p ∈ ks.zip ns, (Lit.int p.1 p.2).wf = true) ∧ ∀ j u, (List.zipWith Value.int ks ns)[j]? = some u → w.cell? (a.add (i * ks.length + j)) = some u := by
      intro i hil
      obtain ⟨cs', hc, ht⟩ := hi i (by omega)
      obtain ⟨ns, l, e', w'⟩ := flat_open n e ks q _ _ hk ht
      refine ⟨ns, l, w', fun j u hj => ?_⟩
      obtain ⟨_, hcl, hat⟩ := World.cells?_some hc
      rw [hC] at hat hcl
      rw [← e'] at hj
      have hjl : j < ks.length := by
        have := (List.getElem?_eq_some_iff.1 hj).1
        omega
      have := hat j hjl
      rw [← Go.Deep.add_add, this]
      exact hj
    obtain ⟨f, hf⟩ : ∃ f : Nat → List Int, ∀ i, i < len → (f i).length = ks.length ∧ (∀ p ∈ ks.zip (f i), (Lit.int p.1 p.2).wf = true) ∧ ∀ j u, (List.zipWith Value.int ks (f i))[j]? = some u → w.cell? (a.add (i * ks.length + j)) = some u :=
      ⟨fun i => if h : i < len then Classical.choose (hel i h) else [], fun i h => by simp only [dif_pos h]; exact Classical.choose_spec (hel i h)⟩
    have hlen : ((List.range len).map f).length = len := by simp
    have hmem : ∀ i x, ((List.range len).map f)[i]? = some x → i < len ∧ x = f i := fun i x hx => by
      have := List.getElem?_eq_some_iff.1 hx
      simp at this
      exact ⟨this.1, this.2.symm⟩
    refine ⟨some a, (List.range len).map f, cap, by rw [hlen]; exact hcs, ?_, by rw [hlen]; exact hl, fun x hx => ?_⟩
    · rw [hlen]
      rcases Nat.eq_zero_or_pos len with hz | hz
      · subst hz; exact ⟨by simp, .inl rfl⟩
      · -- the rows' lengths are told for those that are there
        let g : {ns : List Int // ns.length = ks.length} → List Value := fun ns => List.zipWith Value.int ks ns.1
        let F : List {ns : List Int // ns.length = ks.length} := (List.range len).pmap (fun i hi => ⟨f i, (hf i hi).1⟩) (fun i hi => List.mem_range.1 hi)
        have hF : F.flatMap g = ((List.range len).map f).flatMap (List.zipWith Value.int ks) := by
          rw [← List.flatMap_map (f := Subtype.val)]
          congr 1
          rw [List.map_pmap, List.pmap_eq_map]
        rw [← hF]
        refine rows_gen (f := g) (fun x => by simp [g, x.2]) F (by simp [F]) hz h0 (fun i x hx j u hj => ?_)
        have hx' := List.getElem?_eq_some_iff.1 hx
        obtain ⟨h1, h2⟩ := hx'
        simp only [F, List.length_pmap, List.length_range] at h1
        simp only [F, List.getElem_pmap, List.getElem_range] at h2
        subst h2
        exact (hf i h1).2.2 j u hj
    · obtain ⟨i, hi', rfl⟩ := List.mem_map.1 hx
      exact ⟨(hf i (List.mem_range.1 hi')).1, (hf i (List.mem_range.1 hi')).2.1⟩
theorem mix2_fields {g : TypeId → Option (List (IntKind ⊕ List IntKind))} {cs : List Value} {n : Nat}
    (hg : ∀ t ks cs x, g t = some ks → DataW.trod enc P w base spare held n t cs = some x → Fits2 w.heap ks cs) :
    ∀ (L : List Field) (off : Nat) (ks : List (IntKind ⊕ List IntKind)), mix2Fields P g L off = some ks → (∀ f ∈ L, ∃ y, DataW.trod enc P w base spare held n f.type ((cs.drop f.offset).take (P.cellsOf f.type)) = some y) →
      Fits2 w.heap ks ((cs.drop off).take ks.length)
  | [], off, ks, h, _ => by
    simp only [mix2Fields, Option.some.injEq] at h
    subst h
    simpa using Fits2.nil
  | f :: r, off, ks, h, hf => by
    unfold mix2Fields at h
    cases hk : g f.type with
    | none => rw [hk] at h; cases h
    | some k0 =>
      rw [hk] at h
      simp only at h
      split at h
      · rename_i hc
        obtain ⟨h1, h2⟩ := hc
        obtain ⟨k1, hk1, rfl⟩ := Option.map_eq_some_iff.1 h
        obtain ⟨y, hy⟩ := hf f List.mem_cons_self
        have e0 := hg _ _ _ _ hk hy
        have e1 := mix2_fields hg r _ k1 hk1 (fun f' hf' => hf f' (List.mem_cons_of_mem _ hf'))
        rw [h1, h2] at e0
        rw [List.length_append, List.take_add, List.drop_drop]
        exact e0.append e1
      · cases h
theorem mix2_open : ∀ (n : Nat) (t : TypeId) (ks : List (IntKind ⊕ List IntKind)) (fuel : Nat) (cs : List Value) (x : DataW H × List MemPlace), mix2Kinds P n t = some ks → DataW.trod enc P w base spare held fuel t cs = some x → Fits2 w.heap ks cs
  | 0, _, _, _, _, _, h, _ => by cases h
  | n + 1, t, ks, fuel, cs, x, h, hx => by
    unfold mix2Kinds at h
    split at h
    · rename_i k hu
      simp only [Option.some.injEq] at h
      subst h
      obtain ⟨m, rfl, _, hw⟩ := DataW.trod_int hu hx
      exact .int k m hw .nil
    · rename_i e hu
      split at h
      · rename_i qs hqs
        split at h
        · rename_i hc
          simp only [Option.some.injEq] at h
          subst h
          obtain ⟨A, l, cap, rfl, hr, hcap, wf⟩ := rows_open n qs hu hqs hc.1 hc.2 hx
          exact .sl A l cap hr hcap wf .nil
        · cases h
      · cases h
    · rename_i fs hu
      split at h
      · rename_i k0 hk0
        split at h
        · rename_i hc
          simp only [Option.some.injEq] at h
          subst h
          obtain ⟨xs, m, rfl, _, hlen, hxl, hf⟩ := DataW.trod_struct hu hx
          have e := mix2_fields (cs := cs) (n := m) (fun t' ks' cs' x' h' hx' => mix2_open n t' ks' m cs' x' h' hx') fs.toList 0 k0 hk0 (fun f hf' => by
            obtain ⟨i, hi, rfl⟩ := List.mem_iff_getElem.1 hf'
            have hi' : i < xs.length := by rw [hxl]; simpa using hi
            refine ⟨xs[i], ?_⟩
            rw [hf i _ (by simp at hi ⊢)]
            exact List.getElem?_eq_getElem hi')
          rw [List.drop_zero, List.take_of_length_le (Nat.le_of_eq (hlen.trans hc))] at e
          exact e
        · cases h
      · cases h
    · cases h
/-- A slice of such structs as an argument. -/
theorem open_rows2 {r : Reach} {b0 : Nat} {t e : TypeId} {v : Value} {dd : DataW H} {p : List MemPlace} (n : Nat) (ks : List (IntKind ⊕ List IntKind)) (hs : P.underlying t = some (.slice e)) (hk : mix2Kinds P n e = some ks) (hC : P.cellsOf e = ks.length) (h0 : 0 < ks.length)
    (hv : Value.okWide P w r b0 t v) (h : DataW.Trod enc P w base spare held t v dd p) :
    ∃ (A : Option Addr) (l : List {cs : List Value // Fits2 w.heap ks cs}) (cap : Nat), v = .slice A l.length cap ∧ RSl w.heap A l.length ks.length (l.flatMap (·.1)) := by
  obtain ⟨a0, len0, cap0, rfl⟩ := okWide_slice hs hv
  obtain ⟨fuel, hf⟩ := h
  rcases open_slice hs hf with ⟨hcs, _⟩ | ⟨a, len', cap', m, q, D, Pl, hcs, hb, hl, hm, hmm, hx, hi⟩
  · simp [Value.cells] at hcs
    obtain ⟨rfl, rfl, rfl⟩ := hcs
    exact ⟨none, [], 0, rfl, ⟨by simp, .inl rfl⟩⟩
  · simp [Value.cells] at hcs
    obtain ⟨rfl, rfl, rfl⟩ := hcs
    have hml : len0 ≤ m := by rw [hmm]; split <;> omega
    have hel : ∀ i, i < len0 → ∃ cs : List Value, Fits2 w.heap ks cs ∧ ∀ j u, cs[j]? = some u → w.cell? (a.add (i * ks.length + j)) = some u := by
      intro i hil
      obtain ⟨cs', hc, ht⟩ := hi i (by omega)
      have ft := mix2_open n e ks q _ _ hk ht
      refine ⟨_, ft, fun j u hj => ?_⟩
      obtain ⟨_, hcl, hat⟩ := World.cells?_some hc
      rw [hC] at hat hcl
      have hjl : j < ks.length := by
        have := (List.getElem?_eq_some_iff.1 hj).1
        have := ft.len
        omega
      have := hat j hjl
      rw [← Go.Deep.add_add, this]
      exact hj
    let F : List {cs : List Value // Fits2 w.heap ks cs} := (List.range len0).pmap (fun i hi => ⟨Classical.choose (hel i hi), (Classical.choose_spec (hel i hi)).1⟩) (fun i hi => List.mem_range.1 hi)
    have hFl : F.length = len0 := by simp [F]
    refine ⟨some a, F, cap0, by rw [hFl], ?_⟩
    rw [hFl]
    rcases Nat.eq_zero_or_pos len0 with hz | hz
    · have : F = [] := List.eq_nil_of_length_eq_zero (by omega)
      rw [this, hz]
      exact ⟨by simp, .inl rfl⟩
    · refine rows_gen (f := fun x => x.1) (fun x => x.2.len) F hFl hz h0 (fun i x hx j u hj => ?_)
      obtain ⟨h1, h2⟩ := List.getElem?_eq_some_iff.1 hx
      simp only [F, List.length_pmap, List.length_range] at h1
      simp only [F, List.getElem_pmap, List.getElem_range] at h2
      subst h2
      exact (Classical.choose_spec (hel i h1)).2 j u hj
end
theorem Fits2.int_inv {h : Hp} {k : IntKind} {ks : List (IntKind ⊕ List IntKind)} {cs : List Value} (q : Fits2 h (.inl k :: ks) cs) : ∃ n cs', cs = .int k n :: cs' ∧ (Lit.int k n).wf = true ∧ Fits2 h ks cs' := by
  cases q with
  | int k n w r => exact ⟨n, _, rfl, w, r⟩
theorem Fits2.sl_inv {h : Hp} {qs : List IntKind} {ks : List (IntKind ⊕ List IntKind)} {cs : List Value} (q : Fits2 h (.inr qs :: ks) cs) : ∃ A rows c cs', cs = .slice A (List.length rows) c :: cs' ∧ RSl h A rows.length qs.length (rows.flatMap (List.zipWith Value.int qs)) ∧ rows.length ≤ c ∧ (∀ ns ∈ rows, ns.length = qs.length ∧ ∀ p ∈ qs.zip ns, (Lit.int p.1 p.2).wf = true) ∧ Fits2 h ks cs' := by
  cases q with
  | sl A l c hr hc wf r => exact ⟨A, l, c, _, rfl, hr, hc, wf, r⟩
theorem Fits2.nil_inv {h : Hp} {cs : List Value} (q : Fits2 h [] cs) : cs = [] := by
  cases q; rfl
end Go.Proofs.YtfdpccbajaiepaaGreatDoor.Sx

/-
The row of the statement TopReadsSaid: for every input the Go function quintet/quintettop.TopReads returns true, and each argument reads afterwards as it read before; out of the walk and the plain law of YtfdpccbajaiepaaGreatDoorPureTopReads.
Conditions: none beyond the statement's own.
-/
namespace Go.Proofs.YtfdpccbajaiepaaGreatDoor.topReads
open Go.ChangeShapes Go.WideShapes Go.ChangeAt Go.RowKit
open Go.ChangeMaps (open_string shut_string)
set_option linter.unusedVariables false
theorem own : ownKnob Tryz.prog.godebug = none := by kernel_rfl
theorem laidOut : laidOutB Tryz.prog = true := by kernel_rfl
/-- The cells of a datum of whole numbers. -/
def cellsD : DataW Unit → Array Value
  | .agg l => (l.map fun | .lit (.int k z) => Value.int k z | _ => .nilIface).toArray
  | _ => #[]
/-- A world that meets the row's list. -/
noncomputable def laidWorld (os : Os) : World :=
  let w0 := World.holding Tryz.prog os ⟨#[], #[], []⟩
  { w0 with heap := w0.heap
      |>.modify 2 (fun | .cells _ t frozen => .cells (cellsD Rows.laid_math_bits_deBruijn32tab) t frozen | o => o)
      |>.modify 3 (fun | .cells _ t frozen => .cells (cellsD Rows.laid_math_bits_deBruijn64tab) t frozen | o => o)
      |>.modify 1 (fun | .cells _ t frozen => .cells (cellsD Rows.laid_internal_strconv_uint64pow10) t frozen | o => o)
      |>.modify 0 (fun | .cells _ t frozen => .cells #[.iface 147 (.agg #[.pointer (some ⟨4, 24, none⟩)])] t frozen | o => o) }
theorem laidWorld_met (os : Os) (args : Array Value) : laidMetH Tryz.prog Rows.topReadsRow.laid ((laidWorld os).forCall (fun _ _ => 0) ⟨#[], args, []⟩).memory :=
  laidMetH_of_parts (laidMet_of_run' 8 (by kernel_rfl) (by kernel_rfl)) (by kernel_rfl)
set_option maxRecDepth 100000 in
theorem lifted (os : Os) (started : os.Started) (H : Type) (enc : TypeId × Value → H) :
    ReturnsInHanded {} Tryz.checked os 3 .any (fun w args => (Rows.topReadsSpec.pre enc Tryz.prog Tryz.f3 Rows.topReadsRow.domain false w args ∧ laidMetH Tryz.prog Rows.topReadsRow.laid w) ∧ sizedMet enc Tryz.prog Tryz.f3 (OpenSpec.ofChange Rows.topReadsSpec) false w args) (Rows.topReadsSpec.post enc Tryz.prog Tryz.f3 false true false false) := by
  refine returnsInHanded_of_change_and (C := Tryz.checked) (X := fun w _ => laidMetH Tryz.prog Rows.topReadsRow.laid w) (fun _ _ _ hh h => h.of_heap hh) own started (by kernel_rfl) Tryz.func3
    (ChangeSpec.witness_at (enc := enc) (C := Tryz.checked) (os := os) (X := fun w _ => laidMetH Tryz.prog Rows.topReadsRow.laid w) false (laidWorld os) #[.string ByteArray.empty] 8 rfl (by kernel_rfl) (by kernel_rfl) (by kernel_rfl) (by kernel_rfl) (by kernel_rfl) (laidWorld_met os _)) ?_
  intro W base args ds gs before hval0 hW hcnd hsz0 hL _
  have hsz : (DataW.weightsEach Tryz.prog (Tryz.f3.params.toList ++ Rows.topReadsSpec.plain.varTypes Tryz.prog) (ds ++ gs)).all (· ≤ reachBytes) = true := hsz0
  have hval : ∀ (j : Nat) t v, Tryz.f3.params[j]? = some t → args[j]? = some v → Value.okWide Tryz.prog W .any base t v := hval0
  have hW' := hW
  obtain ⟨p, q, hA0, hV, rfl, hfz, hnd⟩ := hW
  have hA : DataW.TrodAll enc Tryz.prog W 0 (fun _ => true) true Tryz.f3.params.toList args.toList ds p := hA0
  rw [Tryz.params3] at hA hval hsz
  obtain ⟨v0, vs0, d0, ds0, p0, q0, hargs, rfl, rfl, h0, r0⟩ := trodAll_cons hA
  obtain ⟨rfl, rfl, rfl⟩ := trodAll_nil r0
  obtain rfl : args = #[v0] := by cases args; simp_all
  obtain ⟨rfl, rfl⟩ := trodVars_none hV
  obtain ⟨a0, rfl, rfl, rfl, y0⟩ := open_string Tryz.underlying9 (hval 0 9 v0 rfl rfl) h0
  have z0 : a0.size ≤ 140737488351232 := by
    have z := sized_string hsz (j := 0) (t := 9) rfl rfl
    rw [Array.length_toList] at z
    exact z
  clear hA0 hval0 hsz0 hsz
  refine (Go.Proofs.YtfdpccbajaiepaaGreatDoor.PureTopReads.walk a0 y0 z0 hL).mono fun e W' ⟨he, bel⟩ => ?_
  subst he
  exact ⟨_, rfl, _, _, _, [], _, [], hW', trodAll_mk1 (shut_bool Tryz.underlying4 _), (trodAll_cons_mk (shut_string Tryz.underlying9 y0) trodAll_mk0), rfl, bel.frame _, fun h => by cases h⟩
theorem over : Rows.topReadsRow.holds Tryz.pinned (OpenSpec.ofChange Rows.topReadsSpec) :=
  OpenClaim.holds_of_wide 3 Tryz.f3 rfl rfl rfl rfl rfl rfl rfl ⟨rfl, rfl, rfl, rfl, rfl⟩ rfl rfl rfl rfl rfl (by kernel_rfl) Tryz.func3 (by kernel_rfl)
    (of_decide_eq_true (by kernel_rfl)) (by unfold Func.isWrapper; first | (rw [if_pos (by decide +kernel)]; kernel_rfl) | (rw [if_neg (by decide +kernel)]; exact ⟨rfl, rfl⟩))
    (fun os started H enc _ => lifted os started H enc)
theorem proved : Rows.TopReadsSaid := over
end Go.Proofs.YtfdpccbajaiepaaGreatDoor.topReads
namespace Go.Proofs.YtfdpccbajaiepaaGreatDoor
theorem topReads_holds : Rows.TopReadsSaid := topReads.proved
end Go.Proofs.YtfdpccbajaiepaaGreatDoor

/-
The tied card of TopReads: the row's statement, and what it lists tied to the program's text.
Conditions: none beyond the statement's own.
-/
namespace Go.Proofs.YtfdpccbajaiepaaGreatDoor
open Go
set_option maxRecDepth 100000
theorem topReadsCard_holds : Rows.TopReadsCardSaid :=
  Claim7.holds_tied_plain_at .later [] [.data, .data, .data, .handle] true (true, "143c36606b7964ae0f9c95efd951f96b7357ec8e0c28080261581f388e6240d3") true
    topReads_holds (fun _ h => by cases h) (by kernel_rfl) (fun _ h => by cases h) topReads_row_tie rfl ⟨rfl, rfl⟩ (by kernel_rfl) rfl
    (fun f fn hf hfn => by
      obtain rfl : f = 3 := Option.some.inj ((show Tryz.prog.funcNamed "quintet/quintettop.TopReads" = some 3 by kernel_rfl).symm.trans hf) |>.symm
      obtain rfl : fn = Tryz.f3 := (Option.some.inj (Tryz.func3.symm.trans hfn)).symm
      exact ⟨by kernel_rfl, fun j t ht => by
        rw [Tryz.params3] at ht
        have hm : t ∈ [9] := by simpa using Array.mem_of_getElem? ht
        have hall : ([9].all fun u => !Tryz.prog.wantsStandIn u) = true := by kernel_rfl
        exact (show Tryz.prog.wantsStandIn t = false by simpa using List.all_eq_true.1 hall t hm)⟩)
    (by kernel_rfl)
#print axioms topReadsCard_holds
end Go.Proofs.YtfdpccbajaiepaaGreatDoor
