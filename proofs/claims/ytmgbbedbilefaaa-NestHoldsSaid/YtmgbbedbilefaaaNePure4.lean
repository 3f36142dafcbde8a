/- Levels keep spans apart, and none is wasted (plain laws, no program in sight). -/
import Derived.Test.YtmgbbedbilefaaaNePure3
namespace Go.Proofs.Ytmgbbedbilefaaa.Ne
open Go Go.Proofs.Ytmgbbedbilefaaa.Sp
set_option linter.unusedVariables false
set_option linter.unusedSimpArgs false
theorem meet_comm (a b : Sp) : meetB a b = meetB b a := by
  unfold meetB
  rw [decide_eq_decide]
  exact ⟨fun h => ⟨h.2, h.1⟩, fun h => ⟨h.2, h.1⟩⟩
structure Good (D : Lv) : Prop where
  sep : D.Pairwise (fun x y => x.2 = y.2 → ¬ meetB x.1 y.1 = true)
  need : ∀ y ∈ D, ∀ k, k < y.2 → ∃ x ∈ D, x.2 = k ∧ meetB x.1 y.1 = true
theorem Good.app {D : Lv} (g : Good D) (s : Sp) : Good (app D s) := by
  unfold Ne.app
  refine ⟨?_, fun y hy k hk => ?_⟩
  · rw [List.pairwise_append]
    refine ⟨g.sep, by simp, fun x hx y hy he hm => ?_⟩
    rw [List.mem_singleton] at hy
    subst hy
    exact freeB_iff.1 (least_free D s) x hx he hm
  · rcases List.mem_append.1 hy with hy | hy
    · obtain ⟨x, hx, h1, h2⟩ := g.need y hy k hk
      exact ⟨x, List.mem_append_left _ hx, h1, h2⟩
    · rw [List.mem_singleton] at hy
      subst hy
      obtain ⟨x, hx, h1, h2⟩ := freeB_not.1 (least_min D s hk)
      exact ⟨x, List.mem_append_left _ hx, h1, h2⟩
theorem Good.fold : ∀ (U : List Sp) (D : Lv), Good D → Good (U.foldl Ne.app D)
  | [], D, g => g
  | u :: U, D, g => Good.fold U (Ne.app D u) (g.app u)
theorem good_DL (l : List Sp) : Good (DL l) := Good.fold _ _ ⟨List.Pairwise.nil, by simp⟩
theorem DL_mem {l : List Sp} {x : Sp × Nat} (h : x ∈ DL l) : x.1 ∈ l ∧ lk (DL l) x.1 = x.2 := by
  refine ⟨?_, lk_mem (by rw [keys_DL]; exact unl_strict l) h⟩
  have : x.1 ∈ keys (DL l) := List.mem_map.2 ⟨x, h, rfl⟩
  rw [keys_DL] at this
  exact (unl_mem l _).1 this
theorem DL_in {l : List Sp} {s : Sp} (h : s ∈ l) : (s, lk (DL l) s) ∈ DL l := by
  have hk : s ∈ keys (DL l) := by rw [keys_DL]; exact (unl_mem l s).2 h
  obtain ⟨y, hy, rfl⟩ := List.mem_map.1 hk
  have := (DL_mem hy).2
  rw [this]
  exact hy
/-- Of one level, and a port in common: alike. -/
theorem apart {l : List Sp} {s t : Sp} (hs : s ∈ l) (ht : t ∈ l) (he : lk (DL l) s = lk (DL l) t) (hm : meetB s t = true) : s = t := by
  obtain ⟨i, hi, ei⟩ := List.mem_iff_getElem.1 (DL_in hs)
  obtain ⟨j, hj, ej⟩ := List.mem_iff_getElem.1 (DL_in ht)
  have g := List.pairwise_iff_getElem.1 (good_DL l).sep
  rcases Nat.lt_trichotomy i j with c | c | c
  · have := g i j hi hj c
    rw [ei, ej] at this
    exact absurd hm (this he)
  · subst c
    rw [ei] at ej
    exact congrArg Prod.fst ej
  · have := g j i hj hi c
    rw [ei, ej] at this
    rw [meet_comm] at hm
    exact absurd hm (this he.symm)
/-- Each level below has one with a port in common. -/
theorem below {l : List Sp} {s : Sp} (hs : s ∈ l) {k : Nat} (hk : k < lk (DL l) s) : ∃ t ∈ l, lk (DL l) t = k ∧ meetB t s = true := by
  obtain ⟨x, hx, h1, h2⟩ := (good_DL l).need _ (DL_in hs) k hk
  obtain ⟨h3, h4⟩ := DL_mem hx
  exact ⟨x.1, h3, h4.trans h1, h2⟩
end Go.Proofs.Ytmgbbedbilefaaa.Ne
