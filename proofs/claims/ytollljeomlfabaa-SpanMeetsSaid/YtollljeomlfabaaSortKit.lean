/- A row of one's own sorted by the library's slices.SortFunc: the row's word (Kd.R) and the sort's words (HoldsK, sortWorldK). -/
import Derived.Test.YtollljeomlfabaaKit
import Derived.Shelf.SlSortCmp.NoneTotal
namespace Go.Proofs.Ytollljeomlfabaa.Kit
open Go.RowKit Go.Sort Go.Proofs.YtollljeomlfabaaW.PrintWords Go.Proofs.YtollljeomlfabaaW.PrintLast Go.Proofs.YtollljeomlfabaaW.PrintMore
set_option linter.unusedVariables false
section
variable {α : Type} {d : Kd α} {c : α → List Value}
theorem flat_get (hf : Flat d c) (hs : 0 < d.sz) (ys : List α) (t : Nat) (ht : t < ys.length * d.sz) : ∃ h : t / d.sz < ys.length, (ys.flatMap c)[t]? = (c ys[t / d.sz])[t % d.sz]? := by
  have h : t / d.sz < ys.length := Nat.div_lt_of_lt_mul (by rw [Nat.mul_comm]; exact ht)
  refine ⟨h, ?_⟩
  have e : t = t / d.sz * d.sz + t % d.sz := by have := Nat.div_add_mod t d.sz; rw [Nat.mul_comm] at this; exact this.symm
  have hm : t % d.sz < d.sz := Nat.mod_lt _ hs
  conv => lhs; rw [e]
  rw [← List.getElem?_drop, flat_drop hf, List.drop_eq_getElem_cons h, List.flatMap_cons, List.getElem?_append_left (by rw [hf.len]; exact hm)]
theorem flatK_get [Inhabited α] (hf : Flat d c) (hs : 0 < d.sz) (ys : List α) (t : Nat) (ht : t < ys.length * d.sz) : some (flatK c d.sz ys.toArray)[t]! = (ys.flatMap c)[t]? := by
  obtain ⟨h, e⟩ := flat_get hf hs ys t ht
  have hm : t % d.sz < (c ys[t / d.sz]).length := by rw [hf.len]; exact Nat.mod_lt _ hs
  rw [get_flatK _ _ _ _ (by simpa using ht), e, List.getElem?_eq_getElem hm]
  simp [h, hm]
theorem R_holds [Inhabited α] (hf : Flat d c) (hs : 0 < d.sz) {e base g n cap : Nat} {W : World} {ok : Nat → Prop} {xs : List α} (h : d.R e W base ok (.slice (some ⟨g, 0, none⟩) n cap) xs) :
    n = xs.length ∧ g < W.heap.size ∧ HoldsK c d.sz W g 0 xs.toArray := by
  rcases R_open hf h with ⟨h0, _⟩ | ⟨g', cap', rest, he, hb, hok, hh, h1, h2, h3⟩
  · cases h0
  injection he with he1 he2 he3
  injection he1 with he1
  injection he1 with he1
  subst he1 he2 he3
  refine ⟨rfl, (Array.getElem?_eq_some_iff.1 hh).1, fun j hj => ?_⟩
  have hj' : j < xs.length * d.sz := by simpa using hj
  have hfl := flat_len hf xs
  refine ⟨?_, by simp [World.frozen?, hh]⟩
  have e := flatK_get hf hs xs j hj'
  simp only [World.cell?, hh, Nat.zero_add, id]
  simp
  rw [List.getElem?_append_left (by omega)]
  exact e.symm
theorem R_sorted [Inhabited α] (hf : Flat d c) (hs : 0 < d.sz) {e base g n cap : Nat} {W : World} {ok : Nat → Prop} {xs ys : List α} (h : d.R e W base ok (.slice (some ⟨g, 0, none⟩) n cap) xs) (hy : ys.length = xs.length) (m : Nat) (os : Array Obj) :
    d.R e (sortWorldK c d.sz W g 0 m ys.toArray os) base ok (.slice (some ⟨g, 0, none⟩) n cap) ys ∧ W.grownBy (sortWorldK c d.sz W g 0 m ys.toArray os) (some g) := by
  rcases R_open hf h with ⟨h0, _⟩ | ⟨g', cap', rest, he, hb, hok, hh, h1, h2, h3⟩
  · cases h0
  injection he with he1 he2 he3
  injection he1 with he1
  injection he1 with he1
  subst he1 he2 he3
  have hlt := (Array.getElem?_eq_some_iff.1 hh).1
  have hfx := flat_len hf xs
  have hfy := flat_len hf ys
  have hnew : (sortWorldK c d.sz W g 0 m ys.toArray os).heap[g]? = some (.cells (ys.flatMap c ++ rest).toArray e (0, 0)) := by
    have e1 : (putRowK c d.sz (Sort.ahead W m) g 0 ys.toArray).heap[g]? = some (.cells (putCells id 0 (flatK c d.sz ys.toArray) (xs.flatMap c ++ rest).toArray) e (0, 0)) := by
      simp only [putRowK, putRow, mapBlock, Sort.ahead, Array.getElem?_modify, if_true, hh, Option.map_some]
      rfl
    have e2 : putCells id 0 (flatK c d.sz ys.toArray) (xs.flatMap c ++ rest).toArray = (ys.flatMap c ++ rest).toArray := by
      apply Array.ext_getElem?
      intro t
      simp only [putCells, Array.getElem?_mapIdx, Nat.zero_le, true_and, Nat.zero_add, size_flatK, List.size_toArray, Nat.sub_zero, id, List.getElem?_toArray]
      by_cases ht : t < ys.length * d.sz
      · have e := flatK_get hf hs ys t ht
        rw [List.getElem?_append_left (by rw [hfx, ← hy]; exact ht), List.getElem?_append_left (by rw [hfy]; exact ht), ← e]
        have hx : t < (xs.flatMap c).length := by rw [hfx, ← hy]; exact ht
        rw [List.getElem?_eq_getElem hx]
        simp [ht]
      · rw [List.getElem?_append_right (by rw [hfx, ← hy]; omega), List.getElem?_append_right (by rw [hfy]; omega), hfx, hfy, hy]
        have ht' : ¬ t < xs.length * d.sz := by rw [← hy]; exact ht
        cases rest[t - xs.length * d.sz]? <;> simp [ht']
    show (grow _ os).heap[g]? = _
    rw [heap_grow_old _ _ (by simpa [putRowK, putRow, mapBlock, Sort.ahead] using hlt), e1, e2]
  refine ⟨?_, ⟨rfl, rfl, rfl, by simp [sortWorldK, grow, putRowK, putRow, mapBlock, Sort.ahead], fun k hk hne => ?_⟩⟩
  · have hz := R_shut hf (base := base) (ok := ok) (cap := cap) (xs := ys) (rest := rest) hb hok hnew (by omega) h2 (by rw [List.length_append, hfy, hy, ← hfx, ← List.length_append]; exact h3)
    rw [hy] at hz
    exact hz
  · have hkg : g ≠ k := fun e => hne (by rw [e])
    show (grow _ os).heap[k]? = _
    rw [heap_grow_old _ _ (by simpa [putRowK, putRow, mapBlock, Sort.ahead] using hk)]
    simp [putRowK, putRow, mapBlock, Sort.ahead, Array.getElem?_modify, hkg]
end
end Go.Proofs.Ytollljeomlfabaa.Kit
