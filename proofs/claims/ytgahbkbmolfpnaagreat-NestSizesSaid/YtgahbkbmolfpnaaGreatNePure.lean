/- Levels of spans (plain laws, no program in sight). -/
import Derived.Test.YtgahbkbmolfpnaaGreatSpPure
namespace Go.Proofs.YtgahbkbmolfpnaaGreat.Ne
open Go Go.Proofs.YtgahbkbmolfpnaaGreat.Sp
set_option linter.unusedVariables false
set_option linter.unusedSimpArgs false
abbrev Lv := List (Sp × Nat)
def aheadB (a b : Sp) : Bool := decide (a.lo < b.lo ∨ a.lo = b.lo ∧ b.hi < a.hi)
def meetB (a b : Sp) : Bool := decide (a.lo ≤ b.hi ∧ b.lo ≤ a.hi)
def freeB (D : Lv) (s : Sp) (lv : Nat) : Bool := D.all fun x => !(x.2 == lv && meetB x.1 s)
theorem freeB_iff {D : Lv} {s : Sp} {lv : Nat} : freeB D s lv = true ↔ ∀ x ∈ D, x.2 = lv → ¬ meetB x.1 s = true := by
  rw [freeB, List.all_eq_true]
  constructor
  · intro h x hx he hm
    have := h x hx
    simp [he, hm] at this
  · intro h x hx
    cases hm : meetB x.1 s
    · simp
    · by_cases he : x.2 = lv
      · exact absurd hm (h x hx he)
      · simp [he]
theorem freeB_not {D : Lv} {s : Sp} {lv : Nat} : freeB D s lv = false ↔ ∃ x ∈ D, x.2 = lv ∧ meetB x.1 s = true := by
  rw [← Bool.not_eq_true, freeB_iff]
  constructor
  · intro h
    refine Classical.byContradiction fun hn => h fun x hx he hm => hn ⟨x, hx, he, hm⟩
  · rintro ⟨x, hx, he, hm⟩ h
    exact h x hx he hm
def top : Lv → Nat
  | [] => 0
  | x :: D => max (x.2 + 1) (top D)
theorem lt_top : ∀ {D : Lv} {x : Sp × Nat}, x ∈ D → x.2 < top D
  | y :: D, x, h => by
    unfold top
    rcases List.mem_cons.1 h with rfl | h
    · omega
    · have := lt_top h; omega
theorem top_append : ∀ (D E : Lv), top (D ++ E) = max (top D) (top E)
  | [], E => by simp [top]
  | x :: D, E => by simp only [List.cons_append, top, top_append D E]; omega
def lf (D : Lv) (s : Sp) : Nat → Nat → Nat
  | 0, lv => lv
  | f + 1, lv => if freeB D s lv = true then lv else lf D s f (lv + 1)
def least (D : Lv) (s : Sp) : Nat := lf D s (top D) 0
theorem lf_spec (D : Lv) (s : Sp) : ∀ (f lv : Nat), lv ≤ lf D s f lv ∧ lf D s f lv ≤ lv + f ∧ (∀ k, lv ≤ k → k < lf D s f lv → freeB D s k = false) ∧ (freeB D s (lf D s f lv) = true ∨ lf D s f lv = lv + f)
  | 0, lv => ⟨Nat.le_refl _, Nat.le_refl _, fun k h1 h2 => by unfold lf at h2; omega, .inr rfl⟩
  | f + 1, lv => by
    unfold lf
    by_cases c : freeB D s lv = true
    · rw [if_pos c]
      exact ⟨Nat.le_refl _, by omega, fun k h1 h2 => by omega, .inl c⟩
    · rw [if_neg c]
      obtain ⟨h1, h2, h3, h4⟩ := lf_spec D s f (lv + 1)
      refine ⟨by omega, by omega, fun k k1 k2 => ?_, h4.imp id fun h => by omega⟩
      rcases Nat.eq_or_lt_of_le k1 with e | e
      · subst e; simpa using c
      · exact h3 k e k2
theorem top_free (D : Lv) (s : Sp) : freeB D s (top D) = true := freeB_iff.2 fun x hx he => by have := lt_top hx; omega
theorem least_free (D : Lv) (s : Sp) : freeB D s (least D s) = true := by
  obtain ⟨h1, h2, h3, h4⟩ := lf_spec D s (top D) 0
  rcases h4 with h | h
  · exact h
  · unfold least; rw [h, Nat.zero_add]; exact top_free D s
theorem least_min (D : Lv) (s : Sp) {k : Nat} (h : k < least D s) : freeB D s k = false := (lf_spec D s (top D) 0).2.2.1 k (Nat.zero_le _) h
theorem least_top (D : Lv) (s : Sp) : least D s ≤ top D := by have := (lf_spec D s (top D) 0).2.1; unfold least; omega
theorem least_uniq {D : Lv} {s : Sp} {r : Nat} (h1 : freeB D s r = true) (h2 : ∀ k, k < r → freeB D s k = false) : least D s = r := by
  rcases Nat.lt_trichotomy (least D s) r with c | c | c
  · have := h2 _ c; rw [least_free] at this; cases this
  · exact c
  · have := least_min D s c; rw [h1] at this; cases this
/-- The levels of spans that stand in their order, one more. -/
def grow (D : Lv) (s : Sp) : Lv := match D.getLast? with
  | some x => if x.1 = s then D else D ++ [(s, least D s)]
  | none => D ++ [(s, least D s)]
def runL (D : Lv) (l : List Sp) : Lv := l.foldl grow D
/-- A span's level. -/
def lk (D : Lv) (s : Sp) : Nat := match D.find? (fun x => x.1 == s) with
  | some x => x.2
  | none => 0
/-! ### the ends of the levels -/
structure Ends (D : Lv) (ends : List Int) (lo : Int) : Prop where
  len : ends.length = top D
  all : ∀ k e, ends[k]? = some e → (∃ x ∈ D, x.2 = k ∧ x.1.hi = e) ∧ ∀ x ∈ D, x.2 = k → x.1.hi ≤ e
  low : ∀ x ∈ D, x.1.lo ≤ lo
theorem ends_meet {D : Lv} {ends : List Int} {s : Sp} (q : Ends D ends s.lo) (hs : s.lo ≤ s.hi) {k : Nat} {e : Int} (hk : ends[k]? = some e) : freeB D s k = decide (e < s.lo) := by
  obtain ⟨⟨x, hx, hxk, hxe⟩, h2⟩ := q.all k e hk
  by_cases c : e < s.lo
  · rw [decide_eq_true c]
    refine freeB_iff.2 fun y hy hyk hm => ?_
    have := h2 y hy hyk
    simp only [meetB, decide_eq_true_eq] at hm
    omega
  · rw [decide_eq_false c]
    refine freeB_not.2 ⟨x, hx, hxk, ?_⟩
    have := q.low x hx
    simp only [meetB, decide_eq_true_eq]
    omega
def gLevel (ends : List Int) (s : Sp) : Nat := ends.findIdx fun e => decide (e < s.lo)
theorem gLevel_least {D : Lv} {ends : List Int} {s : Sp} (q : Ends D ends s.lo) (hs : s.lo ≤ s.hi) : least D s = gLevel ends s := by
  refine least_uniq ?_ fun k hk => ?_
  · rcases Nat.lt_or_ge (gLevel ends s) ends.length with c | c
    · rw [ends_meet q hs (List.getElem?_eq_getElem c)]
      have := List.findIdx_getElem (w := c)
      exact this
    · have e : gLevel ends s = top D := by
        have : gLevel ends s ≤ ends.length := List.findIdx_le_length
        rw [← q.len]; omega
      rw [e]; exact top_free D s
  · have hlt : k < ends.length := Nat.lt_of_lt_of_le hk List.findIdx_le_length
    rw [ends_meet q hs (List.getElem?_eq_getElem hlt)]
    have := List.not_of_lt_findIdx hk
    simpa using this
def setE (ends : List Int) (k : Nat) (v : Int) : List Int := if k < ends.length then ends.set k v else ends ++ [v]
theorem ends_step {D : Lv} {ends : List Int} {s : Sp} (q : Ends D ends s.lo) (hs : s.lo ≤ s.hi) {lo' : Int} (hlo : s.lo ≤ lo') : Ends (D ++ [(s, least D s)]) (setE ends (gLevel ends s) s.hi) lo' := by
  have hg := gLevel_least q hs
  have hfree := least_free D s
  rw [hg] at hfree ⊢
  have hle : gLevel ends s ≤ ends.length := List.findIdx_le_length
  have hold : ∀ x ∈ D, x.2 = gLevel ends s → x.1.hi < s.lo := fun x hx hk => by
    have h1 := freeB_iff.1 hfree x hx hk
    have h2 := q.low x hx
    simp only [meetB, decide_eq_true_eq] at h1
    omega
  refine ⟨?_, fun k e hk => ?_, fun x hx => ?_⟩
  · rw [top_append, ← q.len]
    unfold setE
    simp only [top]
    split
    · rw [List.length_set]; omega
    · rw [List.length_append, List.length_singleton]; omega
  · unfold setE at hk
    by_cases c : k = gLevel ends s
    · subst c
      have he : e = s.hi := by
        split at hk
        · rename_i hlt
          rw [List.getElem?_set_self hlt] at hk
          exact (Option.some.inj hk).symm
        · rename_i hlt
          have : gLevel ends s = ends.length := by omega
          rw [List.getElem?_append_right (by omega), this, Nat.sub_self] at hk
          exact (Option.some.inj hk).symm
      subst he
      refine ⟨⟨(s, gLevel ends s), by simp, rfl, rfl⟩, fun x hx hxk => ?_⟩
      rcases List.mem_append.1 hx with hx | hx
      · have := hold x hx hxk; omega
      · simp at hx; subst hx; exact Int.le_refl _
    · have hk' : ends[k]? = some e := by
        split at hk
        · rwa [List.getElem?_set_ne (fun h => c h.symm)] at hk
        · rename_i hlt
          rcases Nat.lt_or_ge k ends.length with d | d
          · rwa [List.getElem?_append_left d] at hk
          · rw [List.getElem?_append_right d] at hk
            have : k - ends.length ≠ 0 := by omega
            rw [List.getElem?_eq_none (by simp; omega)] at hk
            cases hk
      obtain ⟨⟨x, hx, h1, h2⟩, h3⟩ := q.all k e hk'
      refine ⟨⟨x, List.mem_append_left _ hx, h1, h2⟩, fun y hy hyk => ?_⟩
      rcases List.mem_append.1 hy with hy | hy
      · exact h3 y hy hyk
      · simp at hy; subst hy; exact absurd hyk.symm c
  · rcases List.mem_append.1 hx with hx | hx
    · have := q.low x hx; omega
    · simp at hx; subst hx; exact hlo
end Go.Proofs.YtgahbkbmolfpnaaGreat.Ne
