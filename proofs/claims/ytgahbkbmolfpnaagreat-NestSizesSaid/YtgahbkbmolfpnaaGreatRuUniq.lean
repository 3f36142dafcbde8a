/- Lists without repeats (plain laws, no program in sight). -/
import Derived.ProofKit
namespace Go.Proofs.YtgahbkbmolfpnaaGreat.Uq
set_option linter.unusedVariables false
set_option linter.unusedSimpArgs false
section
variable {α : Type} [DecidableEq α]
def ddA : α → List α → List α
  | _, [] => []
  | x, y :: L => if x = y then ddA x L else y :: ddA y L
/-- Those that are like the one ahead are left out. -/
def cpt : List α → List α
  | [] => []
  | x :: L => x :: ddA x L
theorem ddA_snoc : ∀ (L : List α) (x z : α), ddA x (L ++ [z]) = if (x :: L).getLast (by simp) = z then ddA x L else ddA x L ++ [z]
  | [], x, z => by
    simp only [List.nil_append, ddA, List.getLast_singleton]
    by_cases c : x = z <;> simp [c]
  | y :: L, x, z => by
    have e : (x :: y :: L).getLast (by simp) = (y :: L).getLast (by simp) := by simp
    rw [e, List.cons_append]
    unfold ddA
    by_cases c : x = y
    · subst c
      rw [if_pos rfl, if_pos rfl, ddA_snoc L x z]
    · rw [if_neg c, if_neg c, ddA_snoc L y z]
      split <;> simp
theorem cpt_step {xs : List α} {m : Nat} {a b : α} (h0 : 0 < m) (ha : xs[m - 1]? = some a) (hb : xs[m]? = some b) : cpt (xs.take (m + 1)) = if a = b then cpt (xs.take m) else cpt (xs.take m) ++ [b] := by
  obtain ⟨h1, h2⟩ := List.getElem?_eq_some_iff.1 hb
  obtain ⟨h3, h4⟩ := List.getElem?_eq_some_iff.1 ha
  rw [List.take_succ_eq_append_getElem h1, h2]
  have hlast : (xs.take m).getLast? = some a := by
    have e : m = (m - 1) + 1 := by omega
    rw [e, List.take_succ_eq_append_getElem h3, h4]
    simp
  cases ht : xs.take m with
  | nil => rw [ht] at hlast; cases hlast
  | cons x L =>
    rw [ht] at hlast
    have hl : (x :: L).getLast (by simp) = a := by
      rw [List.getLast?_eq_some_getLast (by simp)] at hlast
      exact Option.some.inj hlast
    rw [List.cons_append]
    show x :: ddA x (L ++ [b]) = if a = b then x :: ddA x L else x :: ddA x L ++ [b]
    rw [ddA_snoc, hl]
    split <;> rfl
theorem cpt_len_le : ∀ (L : List α) (x : α), (ddA x L).length ≤ L.length
  | [], x => by simp [ddA]
  | y :: L, x => by
    unfold ddA
    split
    · have := cpt_len_le L x; simp; omega
    · have := cpt_len_le L y; simp; omega
theorem ddA_mem : ∀ (L : List α) (x z : α), z ∈ ddA x L → z ∈ L
  | [], x, z, h => by simp [ddA] at h
  | y :: L, x, z, h => by
    unfold ddA at h
    split at h
    · exact List.mem_cons_of_mem _ (ddA_mem L x z h)
    · rcases List.mem_cons.1 h with rfl | h
      · simp
      · exact List.mem_cons_of_mem _ (ddA_mem L y z h)
theorem mem_ddA : ∀ (L : List α) (x z : α), z ∈ L → z = x ∨ z ∈ ddA x L
  | y :: L, x, z, h => by
    unfold ddA
    by_cases c : x = y
    · rw [if_pos c]
      rcases List.mem_cons.1 h with rfl | h
      · exact .inl c.symm
      · exact mem_ddA L x z h
    · rw [if_neg c]
      rcases List.mem_cons.1 h with rfl | h
      · simp
      · rcases mem_ddA L y z h with rfl | h
        · simp
        · exact .inr (List.mem_cons_of_mem _ h)
theorem cpt_mem (L : List α) (z : α) : z ∈ cpt L ↔ z ∈ L := by
  cases L with
  | nil => simp [cpt]
  | cons x L =>
    unfold cpt
    rw [List.mem_cons, List.mem_cons]
    constructor
    · rintro (h | h)
      · exact .inl h
      · exact .inr (ddA_mem L x z h)
    · rintro (h | h)
      · exact .inl h
      · exact mem_ddA L x z h
theorem ddA_strict {lt : α → α → Bool} (tot : ∀ a b, lt a b = false → lt b a = false → a = b) : ∀ (L : List α) (x : α), (x :: L).Pairwise (fun a b => lt b a = false) → (∀ a, lt a a = false) → (x :: ddA x L).Pairwise (fun a b => lt a b = true)
  | [], x, _, _ => by simp [ddA]
  | y :: L, x, h, ir => by
    rw [List.pairwise_cons] at h
    unfold ddA
    by_cases c : x = y
    · rw [if_pos c]
      subst c
      exact ddA_strict tot L x h.2 ir
    · rw [if_neg c]
      have ih := ddA_strict tot L y h.2 ir
      rw [List.pairwise_cons]
      refine ⟨fun z hz => ?_, ih⟩
      have hxz : lt z x = false := by
        rcases List.mem_cons.1 hz with rfl | hz
        · exact h.1 _ (by simp)
        · exact h.1 _ (List.mem_cons_of_mem _ (ddA_mem L y z hz))
      cases hb : lt x z
      · exfalso
        have e := tot x z hb hxz
        subst e
        have hxy := h.1 y (by simp)
        rw [List.pairwise_cons] at ih
        rcases List.mem_cons.1 hz with e | hz
        · exact c e
        · have := ih.1 x hz
          rw [hxy] at this
          cases this
      · rfl
theorem cpt_nodup {lt : α → α → Bool} (tot : ∀ a b, lt a b = false → lt b a = false → a = b) (ir : ∀ a, lt a a = false) {L : List α} (h : L.Pairwise (fun a b => lt b a = false)) : (cpt L).Nodup := by
  cases L with
  | nil => simp [cpt]
  | cons x L =>
    refine (ddA_strict tot L x h ir).imp fun {a b} hab e => ?_
    subst e
    rw [ir] at hab
    cases hab
/-- Each once, where it is first. -/
def uq (l : List α) : List α := l.foldl (fun U x => if x ∈ U then U else U ++ [x]) []
theorem uq_snoc (l : List α) (x : α) : uq (l ++ [x]) = if x ∈ uq l then uq l else uq l ++ [x] := by unfold uq; rw [List.foldl_append]; rfl
omit [DecidableEq α] in
theorem snoc_ind {p : List α → Prop} (h0 : p []) (h1 : ∀ l x, p l → p (l ++ [x])) : ∀ l, p l := by
  intro l
  have : ∀ n, ∀ l : List α, l.length = n → p l := by
    intro n
    induction n with
    | zero => intro l hl; rw [List.eq_nil_of_length_eq_zero hl]; exact h0
    | succ n ih =>
      intro l hl
      have hne : l ≠ [] := by intro e; subst e; cases hl
      rw [← List.dropLast_concat_getLast hne]
      exact h1 _ _ (ih _ (by rw [List.length_dropLast]; omega))
  exact this _ l rfl
theorem uq_mem (l : List α) : ∀ z, z ∈ uq l ↔ z ∈ l := by
  refine snoc_ind (p := fun l => ∀ z, z ∈ uq l ↔ z ∈ l) (by simp [uq]) (fun l x ih z => ?_) l
  rw [uq_snoc]
  split
  · rename_i h
    rw [ih, List.mem_append, List.mem_singleton]
    exact ⟨.inl, fun h' => h'.elim id fun e => e ▸ (ih x).1 h⟩
  · rw [List.mem_append, List.mem_append, ih]
theorem uq_nodup (l : List α) : (uq l).Nodup := by
  refine snoc_ind (p := fun l => (uq l).Nodup) (by simp [uq]) (fun l x ih => ?_) l
  rw [uq_snoc]
  split
  · exact ih
  · rename_i h
    rw [List.nodup_append]
    refine ⟨ih, by simp, fun a ha b hb => ?_⟩
    rw [List.mem_singleton] at hb
    rintro rfl
    subst hb
    exact h ha
theorem uq_len (l : List α) : (uq l).length ≤ l.length := by
  refine snoc_ind (p := fun l => (uq l).length ≤ l.length) (by simp [uq]) (fun l x ih => ?_) l
  rw [uq_snoc]
  split
  · simp; omega
  · simp; omega
theorem sum_uq {U l : List α} (hn : U.Nodup) (hm : ∀ z, z ∈ U ↔ z ∈ l) (f : α → Nat) : (U.map f).sum = ((uq l).map f).sum :=
  (((List.perm_ext_iff_of_nodup hn (uq_nodup l)).2 fun z => (hm z).trans (uq_mem l z).symm).map f).sum_nat
end
end Go.Proofs.YtgahbkbmolfpnaaGreat.Uq
