/- Levels: the order's list, step by step (plain laws, no program in sight). -/
import Derived.Test.YtgahbkbmolfpnaaGreatNePure2
namespace Go.Proofs.YtgahbkbmolfpnaaGreat.Ne
open Go Go.Proofs.YtgahbkbmolfpnaaGreat.Sp
set_option linter.unusedVariables false
set_option linter.unusedSimpArgs false
def insU : List Sp → Sp → List Sp
  | [], s => [s]
  | x :: U, s => if aheadB x s = true then x :: insU U s else if x = s then x :: U else s :: x :: U
def unl (l : List Sp) : List Sp := l.foldl insU []
def cutK (U : List Sp) (s : Sp) : Nat := U.findIdx fun x => !aheadB x s
theorem insU_eq : ∀ (U : List Sp) (s : Sp), insU U s = if U[cutK U s]? = some s then U else U.take (cutK U s) ++ s :: U.drop (cutK U s)
  | [], s => by simp [insU, cutK]
  | x :: U, s => by
    unfold insU cutK
    rw [List.findIdx_cons]
    cases h : aheadB x s
    · simp
    · simp
      rw [insU_eq U s]
      unfold cutK
      split <;> rfl
theorem insU_mem : ∀ (U : List Sp) (s z : Sp), z ∈ insU U s ↔ z = s ∨ z ∈ U
  | [], s, z => by simp [insU]
  | x :: U, s, z => by
    unfold insU
    split
    · rw [List.mem_cons, List.mem_cons, insU_mem U s z]
      constructor
      · rintro (h | h | h) <;> simp [h]
      · rintro (h | h | h) <;> simp [h]
    · split
      · rename_i h
        subst h
        simp
      · simp
theorem insU_strict : ∀ (U : List Sp) (s : Sp), U.Pairwise (fun a b => aheadB a b = true) → (insU U s).Pairwise (fun a b => aheadB a b = true)
  | [], s, _ => by simp [insU]
  | x :: U, s, h => by
    unfold insU
    rw [List.pairwise_cons] at h
    split
    · rename_i hx
      rw [List.pairwise_cons]
      refine ⟨fun z hz => ?_, insU_strict U s h.2⟩
      rcases (insU_mem U s z).1 hz with e | e
      · subst e; exact hx
      · exact h.1 z e
    · rename_i hx
      split
      · exact List.pairwise_cons.2 h
      · rename_i hne
        have hsx : aheadB s x = true := by
          cases hc : aheadB s x
          · exact absurd (ahead_tot (by simpa using hx) hc) hne
          · rfl
        rw [List.pairwise_cons, List.pairwise_cons]
        refine ⟨fun z hz => ?_, h⟩
        rcases List.mem_cons.1 hz with e | e
        · subst e; exact hsx
        · exact ahead_tr hsx (h.1 z e)
theorem fold_ins_mem : ∀ (l U : List Sp) (z : Sp), z ∈ l.foldl insU U ↔ z ∈ U ∨ z ∈ l
  | [], U, z => by simp
  | s :: l, U, z => by
    rw [List.foldl_cons, fold_ins_mem l, insU_mem, List.mem_cons]
    constructor
    · rintro ((h | h) | h) <;> simp [h]
    · rintro (h | h | h) <;> simp [h]
theorem fold_ins_strict : ∀ (l U : List Sp), U.Pairwise (fun a b => aheadB a b = true) → (l.foldl insU U).Pairwise (fun a b => aheadB a b = true)
  | [], U, h => h
  | s :: l, U, h => fold_ins_strict l _ (insU_strict U s h)
theorem unl_mem (l : List Sp) (z : Sp) : z ∈ unl l ↔ z ∈ l := by unfold unl; rw [fold_ins_mem]; simp
theorem unl_strict (l : List Sp) : (unl l).Pairwise (fun a b => aheadB a b = true) := fold_ins_strict l [] List.Pairwise.nil
/-- The levels of a list's spans. -/
def DL (l : List Sp) : Lv := (unl l).foldl app []
theorem keys_DL (l : List Sp) : keys (DL l) = unl l := by unfold DL; rw [keys_app]; rfl
theorem lk_app {D : Lv} {E : Lv} {x : Sp} (h : x ∈ keys D) : lk (D ++ E) x = lk D x := by
  unfold lk
  rw [List.find?_append]
  cases hf : D.find? (fun y => y.1 == x) with
  | some y => rfl
  | none =>
    exfalso
    obtain ⟨y, hy, rfl⟩ := List.mem_map.1 h
    have := List.find?_eq_none.1 hf y hy
    simp at this
theorem lk_new {D : Lv} {s : Sp} {v : Nat} (h : s ∉ keys D) : lk (D ++ [(s, v)]) s = v := by
  unfold lk
  rw [List.find?_append]
  have : D.find? (fun y => y.1 == s) = none := List.find?_eq_none.2 fun y hy hc => h (List.mem_map.2 ⟨y, hy, by simpa using hc⟩)
  rw [this]
  simp
/-! ### step by step -/
abbrev Orde (ss : List Sp) : Prop := ss.Pairwise (fun a b => aheadB b a = false)
structure LInv (ss : List Sp) (m : Nat) (D : Lv) (ends : List Int) : Prop where
  run : D = runL [] (ss.take m)
  key : ∀ x, x ∈ keys D ↔ x ∈ ss.take m
  last : D.getLast?.map (·.1) = (ss.take m).getLast?
  ends : ∀ lo, (∀ s ∈ ss.take m, s.lo ≤ lo) → Ends D ends lo
theorem LInv.zero (ss : List Sp) : LInv ss 0 [] [] := ⟨rfl, by simp [keys], rfl, fun lo _ => ⟨rfl, by simp, by simp⟩⟩
theorem take1 {ss : List Sp} {m : Nat} {s : Sp} (h : ss[m]? = some s) : ss.take (m + 1) = ss.take m ++ [s] := by
  obtain ⟨h1, h2⟩ := List.getElem?_eq_some_iff.1 h
  rw [List.take_succ_eq_append_getElem h1, h2]
theorem takeL {ss : List Sp} {m : Nat} {s : Sp} (h0 : 0 < m) (h : ss[m - 1]? = some s) : (ss.take m).getLast? = some s := by
  have : m = (m - 1) + 1 := by omega
  rw [this, take1 h]
  simp
theorem LInv.same {ss : List Sp} {m : Nat} {D : Lv} {ends : List Int} {s : Sp} (q : LInv ss m D ends) (h0 : 0 < m) (h : ss[m]? = some s) (h' : ss[m - 1]? = some s) : LInv ss (m + 1) D ends := by
  have hl := takeL h0 h'
  have hm : s ∈ ss.take m := List.mem_of_getLast? hl
  have e := take1 h
  have hmem : ∀ x, x ∈ ss.take (m + 1) ↔ x ∈ ss.take m := fun x => by
    rw [e, List.mem_append, List.mem_singleton]
    exact ⟨fun h => h.elim id fun h => h ▸ hm, .inl⟩
  refine ⟨?_, fun x => (q.key x).trans (hmem x).symm, ?_, fun lo hlo => q.ends lo fun s hs => hlo s ((hmem s).2 hs)⟩
  · rw [e]
    unfold runL
    rw [List.foldl_append]
    have hr := q.run
    unfold runL at hr
    rw [← hr]
    show D = grow D s
    have hd := q.last
    rw [hl] at hd
    unfold grow
    cases hg : D.getLast? with
    | none => rw [hg] at hd; cases hd
    | some x =>
      rw [hg] at hd
      have : x.1 = s := by simpa using hd
      simp [this]
  · rw [q.last, hl, e]; simp
theorem LInv.new {ss : List Sp} (ho : Orde ss) {m : Nat} {D : Lv} {ends : List Int} {s : Sp} (q : LInv ss m D ends) (h : ss[m]? = some s) (hs : s.lo ≤ s.hi) (hne : ∀ y, (ss.take m).getLast? = some y → y ≠ s) :
    LInv ss (m + 1) (app D s) (setE ends (gLevel ends s) s.hi) ∧ s ∉ keys D ∧ least D s = gLevel ends s ∧ gLevel ends s ≤ ends.length := by
  have e := take1 h
  obtain ⟨hlt, hget⟩ := List.getElem?_eq_some_iff.1 h
  replace ho := List.pairwise_iff_getElem.1 ho
  have hbef : ∀ x ∈ ss.take m, aheadB s x = false := fun x hx => by
    obtain ⟨j, hj, rfl⟩ := List.mem_iff_getElem.1 hx
    have hjm : j < m := by simp at hj; omega
    rw [List.getElem_take, ← hget]
    exact ho j m (by omega) hlt hjm
  have hlo : ∀ x ∈ ss.take m, x.lo ≤ s.lo := fun x hx => by
    have := hbef x hx
    simp only [aheadB, decide_eq_false_iff_not] at this
    omega
  have hE := q.ends s.lo hlo
  have hg := gLevel_least hE hs
  have hnk : s ∉ keys D := fun hk => by
    have hk := (q.key s).1 hk
    obtain ⟨j, hj, hjs⟩ := List.mem_iff_getElem.1 hk
    have hjm : j < m := by simp at hj; omega
    have hm1 : m - 1 < ss.length := by omega
    have hl := takeL (ss := ss) (by omega) (List.getElem?_eq_getElem hm1)
    have h1 := hbef _ (List.mem_of_getLast? hl)
    refine hne _ hl ?_
    rw [List.getElem_take] at hjs
    rcases Nat.eq_or_lt_of_le (show j ≤ m - 1 by omega) with c | c
    · subst c; exact hjs
    · have h2 := ho j (m - 1) (by omega) hm1 c
      rw [hjs] at h2
      exact ahead_tot h2 h1
  refine ⟨⟨?_, fun x => ?_, ?_, fun lo hl => ?_⟩, hnk, hg, List.findIdx_le_length⟩
  · rw [e]
    unfold runL
    rw [List.foldl_append]
    have hr := q.run
    unfold runL at hr
    rw [← hr]
    show app D s = grow D s
    unfold grow
    cases hg : D.getLast? with
    | none => rfl
    | some x =>
      have hd := q.last
      rw [hg] at hd
      have := hne x.1 (by simpa using hd.symm)
      simp [this, app]
  · rw [e, List.mem_append, List.mem_singleton, ← q.key x]
    simp [keys, app]
  · rw [e]; simp [app]
  · refine ends_step hE hs (hl s ?_)
    rw [e]; simp
theorem bound (L : List Sp) : ∃ lo, ∀ s ∈ L, s.lo ≤ lo := by
  induction L with
  | nil => exact ⟨0, by simp⟩
  | cons x L ih =>
    obtain ⟨lo, h⟩ := ih
    refine ⟨max x.lo lo, fun s hs => ?_⟩
    rcases List.mem_cons.1 hs with e | hs
    · subst e; omega
    · have := h s hs; omega
theorem LInv.len {ss : List Sp} {m : Nat} {D : Lv} {ends : List Int} (q : LInv ss m D ends) : ends.length = top D := by
  obtain ⟨lo, h⟩ := bound (ss.take m)
  exact (q.ends lo h).len
theorem LInv.done {ss l : List Sp} (ho : Orde ss) (hm : ∀ x, x ∈ ss ↔ x ∈ l) {D : Lv} {ends : List Int} (q : LInv ss ss.length D ends) : D = DL l := by
  rw [q.run, List.take_length]
  exact run_eq ho (unl_strict l) fun x => (hm x).trans (unl_mem l x).symm
end Go.Proofs.YtgahbkbmolfpnaaGreat.Ne
