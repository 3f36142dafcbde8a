/- The hash's calls while no slots are laid anew. -/
import Derived.Test.YtoheablfncdibaaDoorHSpec
namespace Go.Proofs.YtoheablfncdibaaDoor.Fs
open Go Go.RowKit Go.Proofs.YtoheablfncdibaaDoor.Sx
set_option linter.unusedVariables false
set_option linter.unusedSimpArgs false
set_option maxRecDepth 10000
/-- The same, its slots' block told. -/
def HAg (h : Hp) (b : Nat) (S : Nat → Prop) (t : HT) (g c : Nat) : Prop :=
  S b ∧ (∀ k, S k → k < h.size) ∧ h[b]? = some (.cells (t.enc g c).toArray 63 (0, 0)) ∧ RowS h g c t.ss ∧ S g ∧ g ≠ b
theorem HAg.at_ {h : Hp} {b : Nat} {S : Nat → Prop} {t : HT} {g c : Nat} (q : HAg h b S t g c) : HAt h b S t := by
  obtain ⟨h1, h2, h3, h4, h5, h6⟩ := q
  exact ⟨h1, h2, g, c, h3, h4, h5, h6⟩
theorem HAt.ag {h : Hp} {b : Nat} {S : Nat → Prop} {t : HT} (q : HAt h b S t) : ∃ g c, HAg h b S t g c := by
  obtain ⟨h1, h2, g, c, h3, h4, h5, h6⟩ := q
  exact ⟨g, c, h1, h2, h3, h4, h5, h6⟩
theorem HAg.cl {h : Hp} {b : Nat} {S : Nat → Prop} {t : HT} {g c : Nat} (q : HAg h b S t g c) : Cl h ⟨b, 0, none⟩ (t.enc g c) := by
  obtain ⟨_, _, hb, _⟩ := q
  exact Cl.of_block hb fun j v hj => by rw [Nat.zero_add]; exact hj
theorem HAg.row {h : Hp} {b : Nat} {S : Nat → Prop} {t : HT} {g c : Nat} (q : HAg h b S t g c) : RSl h (some ⟨g, 0, none⟩) t.ss.length 7 (t.ss.flatMap Slot.enc) := q.2.2.2.1.read
theorem HAg.put {h h' : Hp} {b : Nat} {S : Nat → Prop} {t t' : HT} {g c : Nat} (q : HAg h b S t g c) (hl : t'.ss = t.ss) (hb : h'[b]? = some (.cells (t'.enc g c).toArray 63 (0, 0))) (f : Fr (fun k => k = b) h h') : HAg h' b S t' g c ∧ Fr S h h' := by
  obtain ⟨h1, h2, h3, h4, h5, h6⟩ := q
  refine ⟨⟨h1, fun k hk => Nat.lt_of_lt_of_le (h2 k hk) f.size, hb, ?_, h5, h6⟩, f.mono (fun k hk => hk ▸ h1)⟩
  rw [hl]
  exact h4.keep f (by rintro k ⟨a, ha, rfl⟩ e; injection ha with ha; subst ha; exact h6 e)
theorem HAg.st_n {h : Hp} {b : Nat} {S : Nat → Prop} {t : HT} {g c : Nat} (q : HAg h b S t g c) (x : Int) {K : Hp → Prop} (H : ∀ h', HAg h' b S { t with n := x } g c → Fr S h h' → h'.size = h.size → K h') : HU Tryd.prog (Instr.storeAt 3 (.pointer (some ((⟨b, 0, none⟩ : Addr).add 2))) (.int .i64 x)) h K := by
  rw [add_eq0]
  refine HU_st (us := [.int .i64 x]) q.2.2.1 rfl (by kernel_rfl) (by simp [HT.enc]) rfl ?_
  have e : (t.enc g c).take 2 ++ [.int .i64 x] ++ (t.enc g c).drop (2 + [Value.int .i64 x].length) = ({ t with n := x } : HT).enc g c := rfl
  rw [e]
  have := q.put (t' := { t with n := x }) rfl (setB_get (lt_of_get q.2.2.1)) (setB_fr rfl)
  exact H _ this.1 this.2 setB_size
theorem HAg.st_marks {h : Hp} {b : Nat} {S : Nat → Prop} {t : HT} {g c : Nat} (q : HAg h b S t g c) (x : Int) {K : Hp → Prop} (H : ∀ h', HAg h' b S { t with marks := x } g c → Fr S h h' → h'.size = h.size → K h') : HU Tryd.prog (Instr.storeAt 3 (.pointer (some ((⟨b, 0, none⟩ : Addr).add 3))) (.int .i64 x)) h K := by
  rw [add_eq0]
  refine HU_st (us := [.int .i64 x]) q.2.2.1 rfl (by kernel_rfl) (by simp [HT.enc]) rfl ?_
  have e : (t.enc g c).take 3 ++ [.int .i64 x] ++ (t.enc g c).drop (3 + [Value.int .i64 x].length) = ({ t with marks := x } : HT).enc g c := rfl
  rw [e]
  have := q.put (t' := { t with marks := x }) rfl (setB_get (lt_of_get q.2.2.1)) (setB_fr rfl)
  exact H _ this.1 this.2 setB_size
theorem HAg.rows {h h' : Hp} {b : Nat} {S : Nat → Prop} {t : HT} {g c : Nat} (q : HAg h b S t g c) {ss : List Slot} (hl : ss.length = t.ss.length) (r : RowS h' g c ss) (f : Fr (fun k => k = g) h h') : HAg h' b S { t with ss := ss } g c ∧ Fr S h h' := by
  obtain ⟨h1, h2, h3, h4, h5, h6⟩ := q
  refine ⟨⟨h1, fun k hk => Nat.lt_of_lt_of_le (h2 k hk) f.size, ?_, r, h5, h6⟩, f.mono (fun k hk => hk ▸ h5)⟩
  have := f.get h3 (fun e => h6 e.symm)
  rw [this]
  simp [HT.enc, hl]
theorem HAg.st_slot {h : Hp} {b : Nat} {S : Nat → Prop} {t : HT} {g c : Nat} (q : HAg h b S t g c) {i : Nat} (hi : i < t.ss.length) (s : Slot) {K : Hp → Prop} (H : ∀ h', HAg h' b S { t with ss := t.ss.set i s } g c → Fr S h h' → h'.size = h.size → K h') : HU Tryd.prog (Instr.storeAt 65 (.pointer (some ((⟨g, 0, none⟩ : Addr).add (i * 7)))) (.agg #[.int .u8 s.is, .int .u32 s.k.src, .int .u32 s.k.dst, .int .u16 s.k.sp, .int .u16 s.k.dp, .int .u8 s.k.pr, .int .i64 s.v])) h K := by
  rw [add_eq0]
  refine HU_elem (enc := Slot.enc) Slot.len Slot.flat q.2.2.2.1 hi (x := s) rfl size120 fun h' r f z => ?_
  have := q.rows (by simp) r f
  exact H h' this.1 this.2 z
theorem HAg.st_v {h : Hp} {b : Nat} {S : Nat → Prop} {t : HT} {g c : Nat} (q : HAg h b S t g c) {i : Nat} {s : Slot} (hi : t.ss[i]? = some s) (v : Int) {K : Hp → Prop} (H : ∀ h', HAg h' b S { t with ss := t.ss.set i { s with v := v } } g c → Fr S h h' → h'.size = h.size → K h') : HU Tryd.prog (Instr.storeAt 3 (.pointer (some (((⟨g, 0, none⟩ : Addr).add (i * 7)).add 6))) (.int .i64 v)) h K := by
  obtain ⟨hlt, hget⟩ := List.getElem?_eq_some_iff.1 hi
  rw [add_add rfl, add_eq0]
  obtain ⟨g', rest, hA, hb, hl, hcl⟩ := q.2.2.2.1.open Slot.len (by omega)
  injection hA with hA
  injection hA with hA _ _
  subst hA
  have hX : ((t.ss.take i).flatMap Slot.enc).length = i * 7 := by rw [flat_len Slot.len]; simp; omega
  have hs1 : t.ss.flatMap Slot.enc = (t.ss.take i).flatMap Slot.enc ++ (s.enc ++ (t.ss.drop (i + 1)).flatMap Slot.enc) := by
    have : t.ss = t.ss.take i ++ s :: t.ss.drop (i + 1) := by rw [← hget, ← List.drop_eq_getElem_cons hlt, List.take_append_drop]
    rw [this]
    simp
    rw [← this]
  refine HU_st (us := [.int .i64 v]) hb rfl (by kernel_rfl) ?_ rfl ?_
  · rw [hs1]
    simp [hX, Slot.enc]
    omega
  · have hs2 : t.ss.flatMap Slot.enc ++ rest = (t.ss.take i).flatMap Slot.enc ++ (s.enc ++ ((t.ss.drop (i + 1)).flatMap Slot.enc ++ rest)) := by rw [hs1]; simp only [List.append_assoc]
    have e : (t.ss.flatMap Slot.enc ++ rest).take (i * 7 + 6) ++ [.int .i64 v] ++ (t.ss.flatMap Slot.enc ++ rest).drop (i * 7 + 6 + [Value.int .i64 v].length) = (t.ss.set i { s with v := v }).flatMap Slot.enc ++ rest := by
      rw [List.set_eq_take_append_cons_drop, if_pos hlt, hs2]
      have d0 : ((t.ss.take i).flatMap Slot.enc).drop (i * 7 + 7) = [] := List.drop_of_length_le (by rw [hX]; omega)
      have d1 : ((t.ss.take i).flatMap Slot.enc).take (i * 7 + 6) = (t.ss.take i).flatMap Slot.enc := List.take_of_length_le (by rw [hX]; omega)
      rw [show i * 7 + 6 + [Value.int .i64 v].length = i * 7 + 7 from rfl, List.take_append, List.drop_append, hX, d0, d1, show i * 7 + 6 - i * 7 = 6 by omega, show i * 7 + 7 - i * 7 = 7 by omega]
      simp [Slot.enc]
    rw [e]
    have r := Row.shut (enc := Slot.enc) (c := c) (xs := t.ss.set i { s with v := v }) (rest := rest) (E := 65) Slot.len (setB_get (lt_of_get hb)) (by rw [← hl, List.length_append, List.length_append, flat_len Slot.len, flat_len Slot.len, List.length_set]) (by simpa using hcl)
    have := q.rows (by simp) r (setB_fr rfl)
    exact H _ this.1 this.2 setB_size
/-! ### What the calls answer -/
def HT.still (t : HT) : Bool := decide (2 * t.n ≤ t.ss.length) && decide (2 * (t.n + t.marks) ≤ t.ss.length)
def put1 (t : HT) (i : Nat) (k : Hdr) (v : Int) (s : Slot) : HT := ⟨t.most, t.ss.set i ⟨1, k, v⟩, t.n + 1, if s.is = 2 then t.marks - 1 else t.marks⟩
def putI (t : HT) (k : Hdr) (v : Int) : Option (Int × HT) := match seekT t.ss k with
  | none => none
  | some (a, fr, _) => if 0 ≤ a then (match t.ss[a.toNat]? with
      | none => none
      | some s => some (0, { t with ss := t.ss.set a.toNat { s with v := v } }))
    else if t.n ≥ t.most then some (150, t)
    else if fr < 0 then none else match t.ss[fr.toNat]? with
      | none => none
      | some s =>
        if (put1 t fr.toNat k v s).still = true then some (0, put1 t fr.toNat k v s) else none
def getI (t : HT) (k : Hdr) : Option (Int × Bool) := match seekT t.ss k with
  | none => none
  | some (a, _, _) => if a < 0 then some (0, false) else match t.ss[a.toNat]? with
      | none => none
      | some s => some (s.v, true)
def delI (t : HT) (k : Hdr) : Option (Bool × HT) := match seekT t.ss k with
  | none => none
  | some (a, _, _) => if a < 0 then some (false, t) else match t.ss[a.toNat]? with
      | none => none
      | some s => if (HT.still ⟨t.most, t.ss.set a.toNat ⟨2, h0, 0⟩, t.n - 1, t.marks + 1⟩) = true then some (true, ⟨t.most, t.ss.set a.toNat ⟨2, h0, 0⟩, t.n - 1, t.marks + 1⟩) else none
structure HT.ok (t : HT) : Prop where
  l0 : 0 < t.ss.length
  l1 : t.ss.length ≤ 1000000000
  n0 : 0 ≤ t.n
  n1 : t.n ≤ 1000000000
  m0 : -1000000000 ≤ t.marks
  m1 : t.marks ≤ 1000000000
theorem mend_s {h : Hp} {b : Nat} {S : Nat → Prop} {t : HT} {g c : Nat} (q : HAg h b S t g c) (hn : -1000000001 ≤ t.n ∧ t.n ≤ 1000000001) (hm : -1000000001 ≤ t.marks ∧ t.marks ≤ 1000000001) (hst : t.still = true) {K : Value → Hp → Prop} (H : K (.tuple #[]) h) : CallsH Tryd.prog 24 #[.pointer (some ⟨b, 0, none⟩)] h K := by
  refine hash_Table_mend_ok _ ?_
  unfold hash_Table_mend
  have hc := q.cl
  simp only [HT.still, Bool.and_eq_true, decide_eq_true_eq] at hst
  refine ⟨_, _, _, ld (hc.at_ 1 _ rfl) (by kernel_rfl), _, ld (hc.at_ 2 _ rfl) (by kernel_rfl), ?_⟩
  rw [wrap_in (by omega) (by omega)]
  refine br_f (by simp; omega) ⟨_, ld (hc.at_ 2 _ rfl) (by kernel_rfl), _, ld (hc.at_ 3 _ rfl) (by kernel_rfl), ?_⟩
  rw [wrap_in (n := t.n + t.marks) (by omega) (by omega), wrap_in (by omega) (by omega)]
  exact br_f (by simp; omega) H
theorem hput_s {h : Hp} {b : Nat} {S : Nat → Prop} {t : HT} (q : HAt h b S t) (ok : t.ok) (k : Hdr) (v : Int) (hs0 : 0 ≤ scat k) {e : Int} {t' : HT} (hp : putI t k v = some (e, t')) {K : Value → Hp → Prop}
    (H : ∀ h', HAt h' b S t' → Fr S h h' → K (.int .i64 e) h') : CallsH Tryd.prog 15 #[.pointer (some ⟨b, 0, none⟩), k.val, .int .i64 v] h K := by
  refine hash_Table_Put_ok _ _ _ _ _ _ _ ?_
  unfold hash_Table_Put
  obtain ⟨ol0, ol1, on0, on1, om0, om1⟩ := ok
  refine newC_i fun h1 e1 c1 b1 z1 => ⟨_, eqNil eq22, br_f rfl ⟨_, _, _, _, _, ldS (vs := k.enc) c1 (by kernel_rfl), ?_⟩⟩
  unfold putI at hp
  cases hsk : seekT t.ss k with
  | none => rw [hsk] at hp; cases hp
  | some r =>
    obtain ⟨a, fr, p⟩ := r
    rw [hsk] at hp
    simp only at hp
    refine seek_s (q.ext e1) k (by omega) ol0 hs0 hsk fun h2 e2 => ⟨_, _, _, rfl, ?_⟩
    have e12 := e1.trans e2
    have ck := c1.ext e2
    obtain ⟨g, c, qg⟩ := (q.ext e12).ag
    have hc := qg.cl
    refine br_i (fun ca => ?_) (fun ca => ?_)
    · have ca : 0 ≤ a := by simpa using ca
      rw [if_pos ca] at hp
      cases hs : t.ss[a.toNat]? with
      | none => rw [hs] at hp; cases hp
      | some s =>
        rw [hs] at hp
        injection hp with hp
        injection hp with he ht
        subst he ht
        obtain ⟨i, rfl⟩ := Int.eq_ofNat_of_zero_le ca
        obtain ⟨hix, _⟩ := rd_slot (c := c) qg.row rfl hs
        simp only [Int.toNat_natCast] at hs hix H
        refine ⟨_, _, _, ld (hc.at_ 1 _ rfl) (by kernel_rfl), _, hix, ?_⟩
        exact qg.st_v hs v fun h3 q3 f3 z3 => H h3 q3.at_ ((e12.fr S).trans f3)
    · have ca : ¬ 0 ≤ a := by simpa using ca
      rw [if_neg ca] at hp
      refine ⟨_, ld (hc.at_ 2 _ rfl) (by kernel_rfl), _, ld (hc.at_ 0 _ rfl) (by kernel_rfl), br_i (fun cn => ?_) (fun cn => ?_)⟩
      · have cn : t.n ≥ t.most := by simpa using cn
        rw [if_pos cn] at hp
        injection hp with hp
        injection hp with he ht
        subst he ht
        exact H h2 (q.ext e12) (e12.fr S)
      · have cn : ¬ t.n ≥ t.most := by simpa using cn
        rw [if_neg cn] at hp
        by_cases cf : fr < 0
        · rw [if_pos cf] at hp; cases hp
        rw [if_neg cf] at hp
        obtain ⟨i, rfl⟩ := Int.eq_ofNat_of_zero_le (a := fr) (by omega)
        simp only [Int.toNat_natCast] at hp
        cases hs : t.ss[i]? with
        | none => rw [hs] at hp; cases hp
        | some s =>
          rw [hs] at hp
          simp only at hp
          split at hp
          · rename_i hst
            injection hp with hp
            injection hp with he ht
            subst he
            obtain ⟨hix, hcl⟩ := rd_slot (c := c) qg.row rfl hs
            have hlt := (List.getElem?_eq_some_iff.1 hs).1
            have fin : ∀ (h3 : Hp) (m : Int) (q3 : HAg h3 b S { t with marks := m } g c), Fr S h h3 → Cl h3 ⟨h.size, 0, none⟩ k.enc → m = (if s.is = 2 then t.marks - 1 else t.marks) → hash_Table_Put_j1 (fun x80 h81 => K (.int .i64 x80) h81) (some ⟨b, 0, none⟩) v ⟨h.size, 0, none⟩ i h3 := fun h3 m q3 f3 k3 hm => by
              unfold hash_Table_Put_j1
              have hc3 := q3.cl
              obtain ⟨hix3, _⟩ := rd_slot (c := c) q3.row rfl (i := i) (s := s) hs
              refine ⟨_, _, _, ld (hc3.at_ 1 _ rfl) (by kernel_rfl), _, _, _, _, _, ldS k3 (by kernel_rfl), _, hix3, ?_⟩
              refine q3.st_slot (i := i) hlt ⟨1, k, v⟩ fun h4 q4 f4 z4 => ?_
              refine ⟨_, ld (q4.cl.at_ 2 _ rfl) (by kernel_rfl), ?_⟩
              rw [wrap_in (by show -9223372036854775808 ≤ t.n + 1; omega) (by show t.n + 1 ≤ _; omega)]
              refine q4.st_n (t.n + 1) fun h5 q5 f5 z5 => ?_
              subst hm
              refine mend_s q5 (by show -1000000001 ≤ t.n + 1 ∧ t.n + 1 ≤ _; omega) (by show -1000000001 ≤ (if s.is = 2 then t.marks - 1 else t.marks) ∧ (if s.is = 2 then t.marks - 1 else t.marks) ≤ 1000000001; split <;> omega) hst ⟨rfl, ?_⟩
              refine H h5 ?_ ((f3.trans f4).trans f5)
              rw [← ht]
              exact q5.at_
            refine ⟨_, _, _, ld (hc.at_ 1 _ rfl) (by kernel_rfl), _, hix, _, ld hcl.head (by kernel_rfl), br_i (fun c2 => ?_) (fun c2 => ?_)⟩
            · have c2 : s.is = 2 := by simpa using c2
              refine ⟨_, ld (hc.at_ 3 _ rfl) (by kernel_rfl), ?_⟩
              rw [wrap_in (by omega) (by omega)]
              refine qg.st_marks (t.marks - 1) fun h3 q3 f3 z3 => ?_
              refine fin h3 _ q3 ((e12.fr S).trans f3) (f3.cl ck (fun hs => by have := q.2.1 _ hs; simp at this)) (by rw [if_pos c2])
            · have c2 : ¬ s.is = 2 := by simpa using c2
              exact fin h2 t.marks qg (e12.fr S) ck (by rw [if_neg c2])
          · cases hp
theorem hget_s {h : Hp} {b : Nat} {S : Nat → Prop} {t : HT} (q : HAt h b S t) (ok : t.ok) (k : Hdr) (hs0 : 0 ≤ scat k) {v : Int} {f : Bool} (hp : getI t k = some (v, f)) {K : Value → Hp → Prop}
    (H : ∀ h', Ext h h' → K (.tuple #[.int .i64 v, .bool f]) h') : CallsH Tryd.prog 17 #[.pointer (some ⟨b, 0, none⟩), k.val] h K := by
  refine hash_Table_Get_ok _ _ _ _ _ _ ?_
  unfold hash_Table_Get
  obtain ⟨ol0, ol1, on0, on1, om0, om1⟩ := ok
  refine newC_i fun h1 e1 c1 b1 z1 => ⟨_, eqNil eq22, br_f rfl ⟨_, _, _, _, _, ldS (vs := k.enc) c1 (by kernel_rfl), ?_⟩⟩
  unfold getI at hp
  cases hsk : seekT t.ss k with
  | none => rw [hsk] at hp; cases hp
  | some r =>
    obtain ⟨a, fr, p⟩ := r
    rw [hsk] at hp
    simp only at hp
    refine seek_s (q.ext e1) k (by omega) ol0 hs0 hsk fun h2 e2 => ⟨_, _, _, rfl, ?_⟩
    have e12 := e1.trans e2
    obtain ⟨g, c, qg⟩ := (q.ext e12).ag
    have hc := qg.cl
    refine br_i (fun ca => ?_) (fun ca => ?_)
    · have ca : a < 0 := by simpa using ca
      rw [if_pos ca] at hp
      injection hp with hp
      injection hp with he ht
      subst he ht
      exact H h2 e12
    · have ca : ¬ a < 0 := by simpa using ca
      rw [if_neg ca] at hp
      cases hs : t.ss[a.toNat]? with
      | none => rw [hs] at hp; cases hp
      | some s =>
        rw [hs] at hp
        injection hp with hp
        injection hp with he ht
        subst he ht
        obtain ⟨i, rfl⟩ := Int.eq_ofNat_of_zero_le (a := a) (by omega)
        obtain ⟨hix, hcl⟩ := rd_slot (c := c) qg.row rfl hs
        simp only [Int.toNat_natCast] at hix hcl
        exact ⟨_, _, _, ld (hc.at_ 1 _ rfl) (by kernel_rfl), _, hix, _, ld (hcl.at_ 6 _ rfl) (by kernel_rfl), H h2 e12⟩
theorem hdel_s {h : Hp} {b : Nat} {S : Nat → Prop} {t : HT} (q : HAt h b S t) (ok : t.ok) (k : Hdr) (hs0 : 0 ≤ scat k) {f : Bool} {t' : HT} (hp : delI t k = some (f, t')) {K : Value → Hp → Prop}
    (H : ∀ h', HAt h' b S t' → Fr S h h' → K (.bool f) h') : CallsH Tryd.prog 19 #[.pointer (some ⟨b, 0, none⟩), k.val] h K := by
  refine hash_Table_Delete_ok _ _ _ _ _ _ ?_
  unfold hash_Table_Delete
  obtain ⟨ol0, ol1, on0, on1, om0, om1⟩ := ok
  refine newC_i fun h1 e1 c1 b1 z1 => ⟨_, eqNil eq22, br_f rfl ⟨_, _, _, _, _, ldS (vs := k.enc) c1 (by kernel_rfl), ?_⟩⟩
  unfold delI at hp
  cases hsk : seekT t.ss k with
  | none => rw [hsk] at hp; cases hp
  | some r =>
    obtain ⟨a, fr, p⟩ := r
    rw [hsk] at hp
    simp only at hp
    refine seek_s (q.ext e1) k (by omega) ol0 hs0 hsk fun h2 e2 => ⟨_, _, _, rfl, ?_⟩
    have e12 := e1.trans e2
    obtain ⟨g, c, qg⟩ := (q.ext e12).ag
    have hc := qg.cl
    refine br_i (fun ca => ?_) (fun ca => ?_)
    · have ca : a < 0 := by simpa using ca
      rw [if_pos ca] at hp
      injection hp with hp
      injection hp with he ht
      subst he ht
      exact H h2 (q.ext e12) (e12.fr S)
    · have ca : ¬ a < 0 := by simpa using ca
      rw [if_neg ca] at hp
      obtain ⟨i, rfl⟩ := Int.eq_ofNat_of_zero_le (a := a) (by omega)
      simp only [Int.toNat_natCast] at hp
      cases hs : t.ss[i]? with
      | none => rw [hs] at hp; cases hp
      | some s =>
        rw [hs] at hp
        simp only at hp
        split at hp
        · rename_i hst
          injection hp with hp
          injection hp with he ht
          subst he
          obtain ⟨hix, hcl⟩ := rd_slot (c := c) qg.row rfl hs
          have hlt := (List.getElem?_eq_some_iff.1 hs).1
          refine ⟨_, _, _, ld (hc.at_ 1 _ rfl) (by kernel_rfl), _, hix, ?_⟩
          refine qg.st_slot (i := i) hlt ⟨2, h0, 0⟩ fun h3 q3 f3 z3 => ?_
          refine ⟨_, ld (q3.cl.at_ 2 _ rfl) (by kernel_rfl), ?_⟩
          rw [wrap_in (by show -9223372036854775808 ≤ t.n - 1; omega) (by show t.n - 1 ≤ _; omega)]
          refine q3.st_n (t.n - 1) fun h4 q4 f4 z4 => ?_
          refine ⟨_, ld (q4.cl.at_ 3 _ rfl) (by kernel_rfl), ?_⟩
          rw [wrap_in (by show -9223372036854775808 ≤ t.marks + 1; omega) (by show t.marks + 1 ≤ _; omega)]
          refine q4.st_marks (t.marks + 1) fun h5 q5 f5 z5 => ?_
          refine mend_s q5 (by show -1000000001 ≤ t.n - 1 ∧ t.n - 1 ≤ _; omega) (by show -1000000001 ≤ t.marks + 1 ∧ t.marks + 1 ≤ _; omega) hst ⟨rfl, ?_⟩
          refine H h5 ?_ ((((e12.fr S).trans f3).trans f4).trans f5)
          rw [← ht]
          exact q5.at_
        · cases hp
theorem hlen_s {h : Hp} {b : Nat} {S : Nat → Prop} {t : HT} (q : HAt h b S t) {K : Value → Hp → Prop} (H : K (.int .i64 t.n) h) : CallsH Tryd.prog 18 #[.pointer (some ⟨b, 0, none⟩)] h K := by
  refine hash_Table_Len_ok _ ?_
  unfold hash_Table_Len
  obtain ⟨g, c, qg⟩ := q.ag
  exact ⟨_, eqNil eq22, br_f rfl ⟨_, ld (qg.cl.at_ 2 _ rfl) (by kernel_rfl), H⟩⟩
theorem proto_s (x : Int) {h : Hp} {K : Value → Hp → Prop} (H : ∀ h', Ext h h' → K (Hdr.val ⟨0, 0, 0, 0, x⟩) h') : CallsH Tryd.prog 16 #[.int .u8 x] h K := by
  refine quintetlaw15_proto_ok _ ?_
  unfold quintetlaw15_proto
  refine newV (us := Hdr.enc ⟨0, 0, 0, 0, x⟩) rfl rfl (by kernel_rfl) rfl fun h1 e1 c1 b1 z1 => ?_
  exact ⟨_, _, _, _, _, ldS c1 (by kernel_rfl), H h1 e1⟩
def newHT (m : Int) : HT := ⟨m, List.replicate 8 zS, 0, 0⟩
theorem hnew_s (m : Int) {h : Hp} {K : Value → Hp → Prop} (H0 : (m < 1 ∨ m > 65536) → K (.tuple #[.pointer none, .int .i64 1]) h)
    (H1 : ¬ (m < 1 ∨ m > 65536) → ∀ h' b S, Ext h h' → (∀ k, S k → h.size ≤ k) → HAt h' b S (newHT m) → K (.tuple #[.pointer (some ⟨b, 0, none⟩), .int .i64 0]) h') : CallsH Tryd.prog 14 #[.int .i64 m] h K := by
  refine hash_New_ok _ ?_
  unfold hash_New
  refine br_i (fun hc => H0 (by left; simpa using hc)) (fun hc => br_i (fun hd => H0 (by right; simpa using hd)) (fun hd => ?_))
  have hm : ¬ (m < 1 ∨ m > 65536) := by simp at hc hd; omega
  obtain ⟨i, z, hi, hisz, hiby, hiz, hzc⟩ := info120
  have h8 := HW_makeRow (n := 8) (K := fun r h' => ∃ A4 : Option Addr, ∃ l4 : Nat, ∃ c4 : Nat, r = (.slice A4 l4 c4) ∧ newC h' (.cells #[(.int .i64 m), (.slice A4 l4 c4), (.int .i64 0), (.int .i64 0)] 63 (0, 0)) fun a6 h5 => K (.tuple #[(.pointer (some a6)), (.int .i64 0)]) h5) (h := h) (enc := Slot.enc) (zr := zS) und93 hi hiz hisz (by omega) hzc Slot.len (by omega) (by omega) (fun h1 e1 r1 => ?_)
  · exact h8
  · refine ⟨_, _, _, rfl, newC_i fun h2 e2 c2 b2 z2 => ?_⟩
    have r2 := r1.keep (e2.fr (fun _ => False)) (fun _ _ h => h)
    have hl1 : h.size < h1.size := by
      rcases r1 with ⟨h, _⟩ | ⟨g, rest, hA, hg, _⟩
      · cases h
      · injection hA with hA; injection hA with hA; rw [hA]; exact lt_of_get hg
    refine H1 hm h2 h1.size (fun k => k = h1.size ∨ k = h.size) (e1.trans e2) (fun k hk => by rcases hk with rfl | rfl <;> omega) ⟨.inl rfl, fun k hk => by rcases hk with rfl | rfl <;> omega, h.size, 8, b2, r2, .inr rfl, by omega⟩
theorem hnewS_s (m : Int) {h : Hp} {K : Value → Hp → Prop} (H0 : (m < 1 ∨ m > 65536) → K (.tuple #[.pointer none, .int .i64 1]) h)
    (H1 : ¬ (m < 1 ∨ m > 65536) → ∀ h' b, Ext h h' → K (.tuple #[.pointer (some ⟨b, 0, none⟩), .int .i64 0]) h') : CallsH Tryd.prog 4 #[.int .i64 m] h K := by
  refine hash_NewS_ok _ ?_
  unfold hash_NewS
  refine br_i (fun hc => H0 (by left; simpa using hc)) (fun hc => br_i (fun hd => H0 (by right; simpa using hd)) (fun hd => ?_))
  have hm : ¬ (m < 1 ∨ m > 65536) := by simp at hc hd; omega
  obtain ⟨i, z, hi, hisz, hiby, hiz, hz⟩ : ∃ i z, Tryd.prog.info? (match Tryd.prog.underlying 41 with | some (.slice e) => e | _ => 0) = some i ∧ i.size = 7 ∧ i.bytes ≤ 100 ∧ i.zero = some z ∧ z.cells.size = 7 := ⟨_, _, rfl, rfl, by decide, rfl, rfl⟩
  have hu : Tryd.prog.underlying 41 = some (.slice (match Tryd.prog.underlying 41 with | some (.slice e) => e | _ => 0)) := by kernel_rfl
  refine HW_make (n := 8) (c := 8) hu hi hiz (by rw [hz, hisz]) (by omega) (by omega) (by omega) (by omega) (by omega) ?_
  intro h1 he1 hO
  refine ⟨_, _, _, rfl, newC_i fun h2 e2 c2 b2 z2 => H1 hm h2 h1.size (Ext.trans (he1 ▸ Ext.push _ _) e2)⟩
/-! ### The examples -/
def p0 : Hdr := ⟨0, 0, 0, 0, 0⟩
def p6 : Hdr := ⟨0, 0, 0, 0, 6⟩
def p7 : Hdr := ⟨0, 0, 0, 0, 7⟩
def t0 : HT := newHT 2
def t1 : HT := ((putI t0 p0 5).getD (0, t0)).2
def t2 : HT := ((putI t1 p6 7).getD (0, t0)).2
def t3 : HT := ((putI t2 p6 9).getD (0, t0)).2
def t4 : HT := ((delI t3 p6).getD (false, t0)).2
theorem q1 : putI t0 p0 5 = some (0, t1) := by decide +kernel
theorem q2 : putI t1 p6 7 = some (0, t2) := by decide +kernel
theorem q3 : putI t2 p7 8 = some (150, t2) := by decide +kernel
theorem q4 : putI t2 p6 9 = some (0, t3) := by decide +kernel
theorem q5 : getI t3 p6 = some (9, true) := by decide +kernel
theorem q6 : getI t3 p7 = some (0, false) := by decide +kernel
theorem q7 : delI t3 p6 = some (true, t4) := by decide +kernel
theorem q8 : delI t4 p6 = some (false, t4) := by decide +kernel
def okB (t : HT) : Bool := decide (0 < t.ss.length) && decide (t.ss.length ≤ 1000000000) && decide (0 ≤ t.n) && decide (t.n ≤ 1000000000) && decide (-1000000000 ≤ t.marks) && decide (t.marks ≤ 1000000000)
theorem ok_of {t : HT} (h : okB t = true) : t.ok := by
  simp only [okB, Bool.and_eq_true, decide_eq_true_eq] at h
  obtain ⟨⟨⟨⟨⟨a, b⟩, c⟩, d⟩, e⟩, f⟩ := h
  exact ⟨a, b, c, d, e, f⟩
theorem hawake_s {h : Hp} {K : Value → Hp → Prop} (H : ∀ h', Ext h h' → K (.bool true) h') : CallsH Tryd.prog 9 #[] h K := by
  refine quintetlaw15_awake_ok ?_
  unfold quintetlaw15_awake
  refine hnew_s 2 (fun hc => by omega) (fun _ g1 b S e1 hS w1 => ?_)
  refine ⟨_, _, rfl, _, eqNil eq22, br_f rfl (br_f rfl ?_)⟩
  have own : ∀ g, Fr S g1 g → Ext h g := fun g f => ⟨Nat.le_trans e1.size f.size, fun k hk => by rw [f.keep k (Nat.lt_of_lt_of_le hk e1.size) (fun hs => by have := hS k hs; omega), e1.old k hk]⟩
  unfold quintetlaw15_awake_j1
  refine proto_s 0 fun g2 e2 => ⟨_, _, _, _, _, rfl, ?_⟩
  refine hput_s (w1.ext e2) (ok_of (by decide +kernel)) p0 5 (by decide +kernel) q1 fun g3 w3 f3 => ⟨_, rfl, ?_⟩
  have F3 := (e2.fr S).trans f3
  refine proto_s 6 fun g4 e4 => ⟨_, _, _, _, _, rfl, ?_⟩
  refine hput_s (w3.ext e4) (ok_of (by decide +kernel)) p6 7 (by decide +kernel) q2 fun g5 w5 f5 => ⟨_, rfl, ?_⟩
  have F5 := (F3.trans (e4.fr S)).trans f5
  refine proto_s 7 fun g6 e6 => ⟨_, _, _, _, _, rfl, ?_⟩
  refine hput_s (w5.ext e6) (ok_of (by decide +kernel)) p7 8 (by decide +kernel) q3 fun g7 w7 f7 => ⟨_, rfl, ?_⟩
  have F7 := (F5.trans (e6.fr S)).trans f7
  refine proto_s 6 fun g8 e8 => ⟨_, _, _, _, _, rfl, ?_⟩
  refine hput_s (w7.ext e8) (ok_of (by decide +kernel)) p6 9 (by decide +kernel) q4 fun g9 w9 f9 => ⟨_, rfl, ?_⟩
  have F9 := (F7.trans (e8.fr S)).trans f9
  refine proto_s 6 fun g10 e10 => ⟨_, _, _, _, _, rfl, ?_⟩
  refine hget_s (w9.ext e10) (ok_of (by decide +kernel)) p6 (by decide +kernel) q5 fun g11 e11 => ⟨_, _, rfl, ?_⟩
  refine proto_s 7 fun g12 e12 => ⟨_, _, _, _, _, rfl, ?_⟩
  have w12 := ((w9.ext e10).ext e11).ext e12
  refine hget_s w12 (ok_of (by decide +kernel)) p7 (by decide +kernel) q6 fun g13 e13 => ⟨_, _, rfl, ?_⟩
  have w13 := w12.ext e13
  have F13 := F9.trans ((((e10.trans e11).trans e12).trans e13).fr S)
  refine br_t rfl (br_t rfl (br_t rfl (br_t rfl (br_t rfl (br_t rfl (br_t rfl (br_t rfl ?_)))))))
  refine hlen_s w13 ⟨_, rfl, br_t (by decide +kernel) ?_⟩
  refine proto_s 6 fun g14 e14 => ⟨_, _, _, _, _, rfl, ?_⟩
  refine hdel_s (w13.ext e14) (ok_of (by decide +kernel)) p6 (by decide +kernel) q7 fun g15 w15 f15 => ⟨_, rfl, br_t rfl ?_⟩
  have F15 := (F13.trans (e14.fr S)).trans f15
  refine proto_s 6 fun g16 e16 => ⟨_, _, _, _, _, rfl, ?_⟩
  refine hdel_s (w15.ext e16) (ok_of (by decide +kernel)) p6 (by decide +kernel) q8 fun g17 w17 f17 => ⟨_, rfl, br_t rfl ?_⟩
  have F17 := (F15.trans (e16.fr S)).trans f17
  refine hlen_s w17 ⟨_, rfl, ?_⟩
  have : (t4.n == 1) = true := by decide +kernel
  rw [this]
  exact H g17 (own g17 F17)
theorem eq26 : Tryd.prog.underlying 27 = some (.pointer (Tryd.prog.pointee 27)) := by kernel_rfl
end Go.Proofs.YtoheablfncdibaaDoor.Fs
