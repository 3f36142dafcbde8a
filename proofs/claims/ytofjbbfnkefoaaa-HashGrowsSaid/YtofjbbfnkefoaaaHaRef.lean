/- The document's list of entries. -/
import Derived.Test.YtofjbbfnkefoaaaHaCmp
namespace Go.Proofs.Ytofjbbfnkefoaaa.Fs
open Go Go.RowKit Go.Proofs.Ytofjbbfnkefoaaa.Sx
set_option linter.unusedVariables false
set_option linter.unusedSimpArgs false
set_option maxRecDepth 10000
structure Ent where
  k : Hdr
  v : Int
  deriving DecidableEq
def Ent.enc (e : Ent) : List Value := [.int .u32 e.k.src, .int .u32 e.k.dst, .int .u16 e.k.sp, .int .u16 e.k.dp, .int .u8 e.k.pr, .int .i64 e.v]
theorem Ent.len (e : Ent) : e.enc.length = 6 := rfl
theorem Ent.flat (e : Ent) : e.enc.all flatV = true := rfl
theorem und_en : Try.prog.underlying 32 = some (.slice 52) := by kernel_rfl
theorem size_en : (Try.prog.info? 52).map (·.size) = some 6 := by kernel_rfl
theorem info_en : ∃ i z, Try.prog.info? 52 = some i ∧ i.zero = some z ∧ z.cells.size = 6 ∧ i.size = 6 ∧ 0 < i.bytes ∧ i.bytes ≤ 1000 := ⟨_, _, rfl, rfl, rfl, rfl, by decide, by decide⟩
abbrev RowEn (h : Hp) (A : Option Addr) (c : Nat) (l : List Ent) : Prop := RowC h 52 Ent.enc 6 A c l
/-! ### the list, plain -/
def fidx (L : List Ent) (k : Hdr) : Nat := L.findIdx fun e => decide (0 ≤ cmpH e.k k)
def fis (L : List Ent) (k : Hdr) : Bool := match L[fidx L k]? with
  | some e => decide (e.k = k)
  | none => false
structure LM (L : List Ent) (M : Hdr → Option Int) : Prop where
  sorted : L.Pairwise fun a b => ltH a.k b.k
  wf : ∀ e, e ∈ L → e.k.wf
  mem : ∀ k v, (⟨k, v⟩ : Ent) ∈ L ↔ M k = some v
theorem LM.nil : LM [] (fun _ => none) := ⟨List.Pairwise.nil, fun e h => by simp at h, fun k v => by simp⟩
theorem not_ltH {a b : Hdr} : 0 ≤ cmpH a b ↔ ¬ ltH a b := by rw [← cmpH_lt]; omega
theorem LM.split {L : List Ent} {M : Hdr → Option Int} (m : LM L M) (k : Hdr) : ∃ X Y, L = X ++ Y ∧ X.length = fidx L k ∧ (∀ e, e ∈ X → ltH e.k k) ∧ ((∃ v Y', Y = ⟨k, v⟩ :: Y' ∧ M k = some v ∧ fis L k = true ∧ ∀ e, e ∈ Y' → ltH k e.k) ∨ (M k = none ∧ fis L k = false ∧ ∀ e, e ∈ Y → ltH k e.k)) := by
  have hle : fidx L k ≤ L.length := List.findIdx_le_length
  refine ⟨L.take (fidx L k), L.drop (fidx L k), (List.take_append_drop ..).symm, by rw [List.length_take]; omega, fun e he => ?_, ?_⟩
  · obtain ⟨j, hj, rfl⟩ := List.mem_iff_getElem.1 he
    rw [List.length_take] at hj
    rw [List.getElem_take]
    have := List.not_of_lt_findIdx (p := fun e : Ent => decide (0 ≤ cmpH e.k k)) (xs := L) (i := j) (by show j < fidx L k; omega)
    rw [← cmpH_lt]
    simp only [decide_eq_false_iff_not] at this
    omega
  · by_cases hlt : fidx L k < L.length
    · obtain ⟨x, hx⟩ : ∃ x, L[fidx L k]? = some x := ⟨_, List.getElem?_eq_getElem hlt⟩
      have hge : ¬ ltH x.k k := by
        have := List.findIdx_getElem (p := fun e : Ent => decide (0 ≤ cmpH e.k k)) (w := hlt)
        have h2 := (List.getElem?_eq_some_iff.1 hx).2
        rw [← not_ltH]
        simp only [decide_eq_true_eq] at this
        rw [← h2]
        exact this
      have hd : L.drop (fidx L k) = x :: L.drop (fidx L k + 1) := by
        rw [← (List.getElem?_eq_some_iff.1 hx).2]
        exact List.drop_eq_getElem_cons hlt
      have hrest : ∀ e, e ∈ L.drop (fidx L k + 1) → ltH x.k e.k := fun e he => by
        have := m.sorted
        rw [← List.take_append_drop (fidx L k) L, List.pairwise_append, hd, List.pairwise_cons] at this
        exact this.2.1.1 e he
      have hfis : fis L k = decide (x.k = k) := by unfold fis; rw [hx]
      by_cases heq : x.k = k
      · left
        have hxe : x = (⟨k, x.v⟩ : Ent) := by rw [← heq]
        refine ⟨x.v, L.drop (fidx L k + 1), by rw [hd, ← hxe], ?_, by rw [hfis]; simpa using heq, fun e he => by rw [← heq]; exact hrest e he⟩
        rw [← m.mem, ← heq]
        exact List.mem_of_getElem? hx
      · right
        have hall : ∀ e, e ∈ L.drop (fidx L k) → ltH k e.k := fun e he => by
          have h0 : ltH k x.k := by
            rcases ltH_tri x.k k with h | h | h
            · exact absurd h hge
            · exact absurd h heq
            · exact h
          rw [hd] at he
          rcases List.mem_cons.1 he with rfl | he
          · exact h0
          · exact ltH_trans h0 (hrest e he)
        refine ⟨?_, ?_, hall⟩
        · cases hM : M k with
          | none => rfl
          | some v =>
            exfalso
            have := (m.mem k v).2 hM
            rw [← List.take_append_drop (fidx L k) L, List.mem_append] at this
            rcases this with h | h
            · obtain ⟨j, hj, e⟩ := List.mem_iff_getElem.1 h
              rw [List.length_take] at hj
              rw [List.getElem_take] at e
              have := List.not_of_lt_findIdx (p := fun e : Ent => decide (0 ≤ cmpH e.k k)) (xs := L) (i := j) (by show j < fidx L k; omega)
              rw [e] at this
              have h0 : cmpH k k = 0 := (cmpH_eq k k).2 rfl
              simp [h0] at this
            · exact ltH_irr k (hall _ h)
        · rw [hfis]; simpa using heq
    · right
      have hd : L.drop (fidx L k) = [] := List.drop_of_length_le (by omega)
      refine ⟨?_, ?_, fun e he => by rw [hd] at he; simp at he⟩
      · cases hM : M k with
        | none => rfl
        | some v =>
          exfalso
          have := (m.mem k v).2 hM
          obtain ⟨j, hj, e⟩ := List.mem_iff_getElem.1 this
          have := List.not_of_lt_findIdx (p := fun e : Ent => decide (0 ≤ cmpH e.k k)) (xs := L) (i := j) (by show j < fidx L k; omega)
          rw [e] at this
          have h0 : cmpH k k = 0 := (cmpH_eq k k).2 rfl
          simp [h0] at this
      · unfold fis
        rw [List.getElem?_eq_none (by omega)]
theorem LM.old {X Y : List Ent} {k : Hdr} {v : Int} {M : Hdr → Option Int} (m : LM (X ++ ⟨k, v⟩ :: Y) M) (hX : ∀ e, e ∈ X → ltH e.k k) (hY : ∀ e, e ∈ Y → ltH k e.k) (w : Int) : LM (X ++ ⟨k, w⟩ :: Y) (upd M k (some w)) := by
  have hs := m.sorted
  rw [List.pairwise_append, List.pairwise_cons] at hs
  refine ⟨?_, fun e he => ?_, fun k' v' => ?_⟩
  · rw [List.pairwise_append, List.pairwise_cons]
    refine ⟨hs.1, ⟨hY, hs.2.1.2⟩, fun a ha b hb => ?_⟩
    rcases List.mem_cons.1 hb with rfl | hb
    · exact hX a ha
    · exact hs.2.2 a ha b (List.mem_cons_of_mem _ hb)
  · rcases List.mem_append.1 he with h | h
    · exact m.wf e (by simp [h])
    · rcases List.mem_cons.1 h with rfl | h
      · exact m.wf ⟨k, v⟩ (by simp)
      · exact m.wf e (by simp [h])
  · have := m.mem k' v'
    unfold upd
    by_cases hk : k' = k
    · subst hk
      rw [if_pos rfl]
      constructor
      · intro h
        rcases List.mem_append.1 h with h | h
        · exact absurd (hX _ h) (ltH_irr _)
        · rcases List.mem_cons.1 h with h | h
          · injection h with _ h; rw [h]
          · exact absurd (hY _ h) (ltH_irr _)
      · intro h; injection h with h; subst h; simp
    · rw [if_neg hk, ← this]
      simp [hk]
theorem LM.new {X Y : List Ent} {k : Hdr} {M : Hdr → Option Int} (m : LM (X ++ Y) M) (hX : ∀ e, e ∈ X → ltH e.k k) (hY : ∀ e, e ∈ Y → ltH k e.k) (hw : k.wf) (w : Int) : LM (X ++ ⟨k, w⟩ :: Y) (upd M k (some w)) := by
  have hs := m.sorted
  rw [List.pairwise_append] at hs
  refine ⟨?_, fun e he => ?_, fun k' v' => ?_⟩
  · rw [List.pairwise_append, List.pairwise_cons]
    refine ⟨hs.1, ⟨hY, hs.2.1⟩, fun a ha b hb => ?_⟩
    rcases List.mem_cons.1 hb with rfl | hb
    · exact hX a ha
    · exact hs.2.2 a ha b hb
  · rcases List.mem_append.1 he with h | h
    · exact m.wf e (by simp [h])
    · rcases List.mem_cons.1 h with rfl | h
      · exact hw
      · exact m.wf e (by simp [h])
  · have := m.mem k' v'
    unfold upd
    by_cases hk : k' = k
    · subst hk
      rw [if_pos rfl]
      constructor
      · intro h
        rcases List.mem_append.1 h with h | h
        · exact absurd (hX _ h) (ltH_irr _)
        · rcases List.mem_cons.1 h with h | h
          · injection h with _ h; rw [h]
          · exact absurd (hY _ h) (ltH_irr _)
      · intro h; injection h with h; subst h; simp
    · rw [if_neg hk, ← this]
      simp [hk]
theorem LM.del {X Y : List Ent} {k : Hdr} {v : Int} {M : Hdr → Option Int} (m : LM (X ++ ⟨k, v⟩ :: Y) M) (hX : ∀ e, e ∈ X → ltH e.k k) (hY : ∀ e, e ∈ Y → ltH k e.k) : LM (X ++ Y) (upd M k none) := by
  have hs := m.sorted
  rw [List.pairwise_append, List.pairwise_cons] at hs
  refine ⟨?_, fun e he => m.wf e ?_, fun k' v' => ?_⟩
  · rw [List.pairwise_append]
    exact ⟨hs.1, hs.2.1.2, fun a ha b hb => hs.2.2 a ha b (List.mem_cons_of_mem _ hb)⟩
  · rcases List.mem_append.1 he with h | h <;> simp [h]
  · have := m.mem k' v'
    unfold upd
    by_cases hk : k' = k
    · subst hk
      rw [if_pos rfl]
      constructor
      · intro h
        rcases List.mem_append.1 h with h | h
        · exact absurd (hX _ h) (ltH_irr _)
        · exact absurd (hY _ h) (ltH_irr _)
      · intro h; cases h
    · rw [if_neg hk, ← this]
      simp [hk]
/-! ### calls -/
theorem find_l1 {h0 : Hp} {A : Option Addr} {c : Nat} {L : List Ent} {k : Hdr} {ka : Addr} (hL : L.length ≤ 100000) (hw : ∀ e, e ∈ L → e.k.wf) (hkw : k.wf) {K0 : Int → Bool → Hp → Prop} {K1 : (Option Addr) → Nat → Nat → Hp → Prop} 
    (H0 : ∀ h', Ext h0 h' → fidx L k < L.length → K0 (fidx L k : Int) (fis L k) h') (H1 : ∀ h', Ext h0 h' → fidx L k = L.length → K1 A L.length c h') :
    ∀ (rest done : List Ent) (h : Hp), L = done ++ rest → (∀ e, e ∈ done → cmpH e.k k < 0) → Ext h0 h → RSl h A L.length 6 (L.flatMap Ent.enc) → Cl h ka k.enc → quintetref15_Find_l1 A L.length c ka K0 K1 (rest.length + 1) (done.length : Int) h := by
  intro rest
  induction rest with
  | nil =>
    intro done h he hd e r ck
    unfold quintetref15_Find_l1
    have : L.length = done.length := by rw [he]; simp
    refine br_f (by simp; omega) (H1 h e ?_)
    unfold fidx
    rw [List.findIdx_eq_length]
    intro x hx
    have := hd x (by rw [he] at hx; simpa using hx)
    simp only [decide_eq_false_iff_not]
    omega
  | cons x rest ih =>
    intro done h he hd e r ck
    unfold quintetref15_Find_l1
    have hlen : L.length = done.length + (rest.length + 1) := by rw [he]; simp
    have hx : L[done.length]? = some x := by rw [he]; simp
    have hxm : x ∈ L := List.mem_of_getElem? hx
    refine br_t (by simp; omega) ?_
    obtain ⟨a, _, _, hix, hcl⟩ := ixR (P := Try.prog) (T := 32) (E := 52) (k := .i64) (c := c) Ent.len r rfl und_en size_en hx
    refine ⟨_, hix, _, _, _, _, _, ldS (vs := x.k.enc) ⟨hcl.spot, fun j v hj => hcl.at_ j v (by
      have : j < 5 := (List.getElem?_eq_some_iff.1 hj).1
      have hj2 : (x.enc)[j]? = (x.k.enc)[j]? := by
        match j, this with
        | 0, _ => rfl
        | 1, _ => rfl
        | 2, _ => rfl
        | 3, _ => rfl
        | 4, _ => rfl
      rw [hj2]; exact hj)⟩ (by kernel_rfl), _, _, _, _, _, ldS (vs := k.enc) ck (by kernel_rfl), ?_⟩
    refine rcmp_s x.k k (hw x hxm) hkw fun h1 e1 => ⟨_, rfl, br_i (fun p => ?_) (fun p => ?_)⟩
    · have p : 0 ≤ cmpH x.k k := by simpa using p
      have hidx : fidx L k = done.length := by
        unfold fidx
        rw [he, List.findIdx_append]
        have : List.findIdx (fun e : Ent => decide (0 ≤ cmpH e.k k)) done = done.length := by
          rw [List.findIdx_eq_length]
          intro y hy
          have := hd y hy
          simp only [decide_eq_false_iff_not]
          omega
        rw [this, if_neg (by omega), List.findIdx_cons]
        simp [p]
      have := H0 h1 (e.trans e1) (by omega)
      have hfis : fis L k = (cmpH x.k k == 0) := by
        unfold fis
        rw [hidx, hx]
        show decide (x.k = k) = _
        rw [Bool.eq_iff_iff]
        simp [cmpH_eq]
      rw [hidx, hfis] at this
      exact this
    · have p : cmpH x.k k < 0 := by simpa using p
      have ew : IntKind.i64.wrap ((done.length : Int) + 1) = ((done ++ [x]).length : Int) := by rw [wrap_in (by omega) (by omega)]; simp
      rw [ew]
      exact ih (done ++ [x]) h1 (by rw [he]; simp) (fun y hy => by
        rcases List.mem_append.1 hy with hy | hy
        · exact hd y hy
        · have : y = x := by simpa using hy
          rw [this]; exact p) (e.trans e1) (r.ext e1) (ck.ext e1)
theorem rfind_s {h : Hp} {A : Option Addr} {c : Nat} {L : List Ent} {k : Hdr} (r : RowEn h A c L) (hL : L.length ≤ 100000) (hw : ∀ e, e ∈ L → e.k.wf) (hkw : k.wf) {K : Value → Hp → Prop}
    (H : ∀ h', Ext h h' → K (.tuple #[.int .i64 (fidx L k : Int), .bool (fis L k)]) h') : CallsH Try.prog 45 #[.slice A L.length c, k.val] h K := by
  refine quintetref15_Find_ok _ _ _ _ _ _ _ _ ?_
  unfold quintetref15_Find
  refine newC_i fun h1 e1 c1 b1 z1 => ⟨L.length + 1, ?_⟩
  refine find_l1 (h0 := h1) hL hw hkw (fun h' e _ => H h' (e1.trans e)) (fun h' e hi => ?_) L [] h1 rfl (fun e he => by simp at he) (Ext.refl _) (r.ext e1).read c1
  have := H h' (e1.trans e)
  have hf : fis L k = false := by
    unfold fis
    rw [hi, List.getElem?_eq_none (Nat.le_refl _)]
  rw [hi, hf] at this
  exact this
theorem rget_a {h : Hp} {A : Option Addr} {c : Nat} {L : List Ent} {M : Hdr → Option Int} (m : LM L M) (r : RowEn h A c L) (hL : L.length ≤ 100000) (k : Hdr) (hkw : k.wf) {K : Value → Hp → Prop}
    (H : ∀ h', Ext h h' → K (.tuple #[.int .i64 ((M k).getD 0), .bool (M k).isSome]) h') : CallsH Try.prog 18 #[.slice A L.length c, k.val] h K := by
  refine quintetref15_Get_ok _ _ _ _ _ _ _ _ ?_
  unfold quintetref15_Get
  refine newC_i fun h1 e1 c1 b1 z1 => ⟨_, _, _, _, _, ldS (vs := k.enc) c1 (by kernel_rfl), ?_⟩
  refine rfind_s (r.ext e1) hL m.wf hkw fun h2 e2 => ⟨_, _, rfl, ?_⟩
  have e12 := e1.trans e2
  obtain ⟨X, Y, hLs, hXl, hX, hY⟩ := m.split k
  rcases hY with ⟨v, Y', rfl, hM, hf, _⟩ | ⟨hM, hf, _⟩
  · rw [hf]
    rw [hM] at H
    refine br_f rfl ?_
    have hx : L[fidx L k]? = some (⟨k, v⟩ : Ent) := by rw [← hXl, hLs]; simp
    obtain ⟨a, _, _, hix, hcl⟩ := ixR (P := Try.prog) (T := 32) (E := 52) (k := .i64) (c := c) Ent.len (r.ext e12).read rfl und_en size_en hx
    exact ⟨_, hix, _, ld (hcl.at_ 5 _ rfl) (by kernel_rfl), H h2 e12⟩
  · rw [hf]
    rw [hM] at H
    exact br_t rfl (H h2 e12)
theorem nilEn (h : Hp) : RowEn h none 0 [] := RowC.nil
theorem rput_a {h : Hp} {A : Option Addr} {c : Nat} {L : List Ent} {M : Hdr → Option Int} (m : LM L M) (r : RowEn h A c L) (hL : L.length ≤ 99999) (mx : Int) (k : Hdr) (hkw : k.wf) (v : Int) {K : Value → Hp → Prop}
    (H1 : ∀ w, M k = some w → ∀ h' A' c' L', Ext h h' → RowEn h' A' c' L' → Fresh h A' → LM L' (upd M k (some v)) → L'.length = L.length → K (.tuple #[.slice A' L'.length c', .int .i64 0]) h')
    (H2 : M k = none → mx ≤ L.length → ∀ h', Ext h h' → K (.tuple #[.slice A L.length c, .int .i64 150]) h')
    (H3 : M k = none → (L.length : Int) < mx → ∀ h' A' c' L', Ext h h' → RowEn h' A' c' L' → Fresh h A' → LM L' (upd M k (some v)) → L'.length = L.length + 1 → K (.tuple #[.slice A' L'.length c', .int .i64 0]) h') :
    CallsH Try.prog 16 #[.slice A L.length c, .int .i64 mx, k.val, .int .i64 v] h K := by
  refine quintetref15_Put_ok _ _ _ _ _ _ _ _ _ _ ?_
  unfold quintetref15_Put
  obtain ⟨i, z, hi, hz, hzl, hsz, hb0, hb1⟩ := info_en
  refine newC_i fun h1 e1 c1 b1 z1 => ⟨_, _, _, _, _, ldS (vs := k.enc) c1 (by kernel_rfl), ?_⟩
  refine rfind_s (r.ext e1) (by omega) m.wf hkw fun h2 e2 => ⟨_, _, rfl, ?_⟩
  have e12 := e1.trans e2
  have r2 := r.ext e12
  obtain ⟨X, Y, hLs, hXl, hX, hY⟩ := m.split k
  rcases hY with ⟨w, Y', rfl, hM, hf, hYl⟩ | ⟨hM, hf, hYl⟩
  · rw [hf]
    refine br_t rfl ?_
    refine appCut (xs := []) (c := 0) Ent.len Ent.flat und_en hi hz hzl hsz hb0 hb1 e12 (nilEn h2) (Fresh.none h) rfl r2.read (by simp; omega) fun h3 A3 c3 e3 r3 f3 _ => ⟨_, _, _, rfl, ?_⟩
    simp only [List.nil_append] at r3 ⊢
    have hx : L[fidx L k]? = some (⟨k, w⟩ : Ent) := by rw [← hXl, hLs]; simp
    have hlt := (List.getElem?_eq_some_iff.1 hx).1
    obtain ⟨g, rfl⟩ := r3.blk0 Ent.len (by omega)
    have hix : PV Try.prog (Instr.indexAt 32 (.slice (some ⟨g, 0, none⟩) L.length c3) (.int .i64 ((fidx L k : Nat) : Int))) (.pointer (some ⟨g, fidx L k * 6, none⟩)) := ix0 hlt und_en size_en
    refine ⟨_, hix, ?_⟩
    have hadd : ((⟨g, fidx L k * 6, none⟩ : Addr).add 5) = ⟨g, fidx L k * 6 + 5, none⟩ := add_off rfl 5
    rw [hadd]
    refine HU_part (x' := (⟨k, v⟩ : Ent)) (us := [.int .i64 v]) Ent.len r3.row hx rfl (by kernel_rfl) rfl (by show 5 + 1 ≤ 6; decide) rfl fun h4 r4 f4 z4 => ?_
    have hset : L.set (fidx L k) (⟨k, v⟩ : Ent) = X ++ ⟨k, v⟩ :: Y' := by rw [← hXl, hLs]; simp
    have hlen : (L.set (fidx L k) (⟨k, v⟩ : Ent)).length = L.length := by simp
    have := H1 w hM h4 (some ⟨g, 0, none⟩) c3 _ (extOwn e3 f4 (fun q hq => by subst hq; exact f3 _ ⟨_, rfl, rfl⟩)) ⟨r4, r3.cap⟩ f3 (by
      rw [hset]
      rw [hLs] at m
      exact m.old hX hYl v) hlen
    rw [hlen] at this
    exact this
  · rw [hf]
    refine br_f rfl (br_i (fun p => H2 hM (by simpa using p) h2 e12) (fun p => ?_))
    have p : (L.length : Int) < mx := by simpa using p
    have hle : fidx L k ≤ L.length := List.findIdx_le_length
    refine ⟨_, _, _, cutHi und_en hi (Nat.le_trans hle r2.le), ?_⟩
    refine appCut (xs := []) (c := 0) (ys := L.take (fidx L k)) Ent.len Ent.flat und_en hi hz hzl hsz hb0 hb1 e12 (nilEn h2) (Fresh.none h) (by rw [List.length_take]; omega) (rslTake Ent.len r2.read rfl hle) (by simp; omega) fun h3 A3 c3 e3 r3 f3 g3 => ⟨_, _, _, rfl, ?_⟩
    simp only [List.nil_append] at r3 ⊢
    have g3' : Ext h2 h3 := ⟨g3.size, fun q hq => g3.keep q hq (fun hh => by obtain ⟨a, ha, _⟩ := hh; cases ha)⟩
    refine ⟨_, _, _, _, _, ldS (vs := k.enc) ((c1.ext e2).ext g3') (by kernel_rfl), newC_i fun h4 e4 c4 b4 z4 => ?_⟩
    refine appF Ent.len Ent.flat und_en hi hz hzl hsz hb0 hb1 (e3.trans e4) (r3.ext e4) f3 (x := (⟨k, v⟩ : Ent)) c4 (by rw [List.length_take]; omega) fun h5 A5 c5 e5 r5 f5 _ => ⟨_, _, _, rfl, ?_⟩
    refine ⟨_, _, _, cutLo (sz := 6) und_en hi hsz hle, ?_⟩
    refine appCut (ys := L.drop (fidx L k)) Ent.len Ent.flat und_en hi hz hzl hsz hb0 hb1 e5 r5 f5 (by rw [List.length_drop]) (rslLo Ent.len (r.ext e5).read rfl r2.le hle) (by simp; omega) fun h6 A6 c6 e6 r6 f6 _ => ⟨_, _, _, rfl, ?_⟩
    have hsplit : L.take (fidx L k) ++ [(⟨k, v⟩ : Ent)] ++ L.drop (fidx L k) = X ++ ⟨k, v⟩ :: Y := by
      have h1 : L.take (fidx L k) = X := by rw [← hXl, hLs]; simp
      have h2 : L.drop (fidx L k) = Y := by rw [← hXl, hLs]; simp
      rw [h1, h2]; simp
    refine H3 hM p h6 A6 c6 _ e6 r6 f6 ?_ (by simp; omega)
    rw [hsplit]
    rw [hLs] at m
    exact m.new hX hYl hkw v
theorem rdel_a {h : Hp} {A : Option Addr} {c : Nat} {L : List Ent} {M : Hdr → Option Int} (m : LM L M) (r : RowEn h A c L) (hL : L.length ≤ 99999) (k : Hdr) (hkw : k.wf) {K : Value → Hp → Prop}
    (H0 : M k = none → ∀ h', Ext h h' → K (.tuple #[.slice A L.length c, .bool false]) h')
    (H1 : (M k).isSome = true → ∀ h' A' c' L', Ext h h' → RowEn h' A' c' L' → Fresh h A' → LM L' (upd M k none) → L'.length + 1 = L.length → K (.tuple #[.slice A' L'.length c', .bool true]) h') :
    CallsH Try.prog 20 #[.slice A L.length c, k.val] h K := by
  refine quintetref15_Delete_ok _ _ _ _ _ _ _ _ ?_
  unfold quintetref15_Delete
  obtain ⟨i, z, hi, hz, hzl, hsz, hb0, hb1⟩ := info_en
  refine newC_i fun h1 e1 c1 b1 z1 => ⟨_, _, _, _, _, ldS (vs := k.enc) c1 (by kernel_rfl), ?_⟩
  refine rfind_s (r.ext e1) (by omega) m.wf hkw fun h2 e2 => ⟨_, _, rfl, ?_⟩
  have e12 := e1.trans e2
  have r2 := r.ext e12
  obtain ⟨X, Y, hLs, hXl, hX, hY⟩ := m.split k
  rcases hY with ⟨w, Y', rfl, hM, hf, hYl⟩ | ⟨hM, hf, hYl⟩
  · rw [hf]
    refine br_f rfl ?_
    have hx : L[fidx L k]? = some (⟨k, w⟩ : Ent) := by rw [← hXl, hLs]; simp
    have hlt := (List.getElem?_eq_some_iff.1 hx).1
    refine ⟨_, _, _, cutHi und_en hi (Nat.le_trans (by omega) r2.le), ?_⟩
    refine appCut (xs := []) (c := 0) (ys := L.take (fidx L k)) Ent.len Ent.flat und_en hi hz hzl hsz hb0 hb1 e12 (nilEn h2) (Fresh.none h) (by rw [List.length_take]; omega) (rslTake Ent.len r2.read rfl (by omega)) (by simp; omega) fun h3 A3 c3 e3 r3 f3 g3 => ⟨_, _, _, rfl, ?_⟩
    simp only [List.nil_append] at r3 ⊢
    rw [wrap_in (by omega) (by omega)]
    refine ⟨_, _, _, cutLo (n := fidx L k + 1) (sz := 6) und_en hi hsz (by omega), ?_⟩
    refine appCut (ys := L.drop (fidx L k + 1)) Ent.len Ent.flat und_en hi hz hzl hsz hb0 hb1 e3 r3 f3 (by rw [List.length_drop]) (rslLo Ent.len (r.ext e3).read rfl r2.le (by omega)) (by simp; omega) fun h6 A6 c6 e6 r6 f6 _ => ⟨_, _, _, rfl, ?_⟩
    have hsplit : L.take (fidx L k) ++ L.drop (fidx L k + 1) = X ++ Y' := by
      have h1 : L.take (fidx L k) = X := by rw [← hXl, hLs]; simp
      have h2 : L.drop (fidx L k + 1) = Y' := by
        rw [← hXl, hLs, List.drop_append, List.drop_of_length_le (by omega)]
        simp
      rw [h1, h2]
    refine H1 (by rw [hM]; rfl) h6 A6 c6 _ e6 r6 f6 ?_ (by simp; omega)
    rw [hsplit]
    rw [hLs] at m
    exact m.del hX hYl
  · rw [hf]
    exact br_t rfl (H0 hM h2 e12)
end Go.Proofs.Ytofjbbfnkefoaaa.Fs
