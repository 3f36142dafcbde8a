/- The library's sort over the heap alone: rows of the call's own. -/
import Derived.Test.YtgahbkbmolfpnaaGreatSxRow
import Derived.Shelf.SlSortCmp.NoneTotal
namespace Go.Proofs.YtgahbkbmolfpnaaGreat.Sx
open Go Go.RowKit Go.Sort
set_option linter.unusedVariables false
set_option linter.unusedSimpArgs false
theorem world_grow {w w' : World} (s : Same w w') (e : Ext w.heap w'.heap) : ∃ q os, w' = grow (w.drewN q) os := by
  refine ⟨w'.drawn - w.drawn, w'.heap.extract w.heap.size w'.heap.size, ?_⟩
  obtain ⟨s1, s2, s3, s4⟩ := s
  obtain ⟨h', t', d', o', u'⟩ := w'
  obtain ⟨h, t, d, o, u⟩ := w
  simp only at s1 s2 s3 s4 e
  subst s1 s2 s3
  have hh : h' = h ++ h'.extract h.size h'.size := by
    apply Array.ext_getElem?
    intro i
    rw [Array.getElem?_append]
    have hz := e.size
    by_cases hi : i < h.size
    · rw [if_pos hi]; exact e.old i hi
    · rw [if_neg hi]
      by_cases hj : i < h'.size
      · rw [Array.getElem?_extract]
        have : h.size + (i - h.size) = i := by omega
        simp only [this]
        rw [if_pos (by omega)]
      · rw [Array.getElem?_eq_none (by omega), Array.getElem?_eq_none (by simp; omega)]
  show ({ heap := h', tape := t', drawn := d', os := o', output := u' } : World) = { heap := h ++ h'.extract h.size h'.size, tape := t', drawn := d + (d' - d), os := o', output := u' }
  rw [← hh]
  congr 1
  omega
section
variable {α : Type} {enc : α → List Value} {sz : Nat}
theorem flat_get2 (he : ∀ x, (enc x).length = sz) (hs : 0 < sz) (ys : List α) (t : Nat) (ht : t < ys.length * sz) : ∃ h : t / sz < ys.length, (ys.flatMap enc)[t]? = (enc ys[t / sz])[t % sz]? := by
  have h : t / sz < ys.length := Nat.div_lt_of_lt_mul (by rw [Nat.mul_comm]; exact ht)
  refine ⟨h, ?_⟩
  have hm : t % sz < sz := Nat.mod_lt _ hs
  rw [← flat_get he ys (t / sz) (t % sz) _ (List.getElem?_eq_getElem h) hm]
  congr 1
  have := Nat.div_add_mod t sz; rw [Nat.mul_comm] at this; exact this.symm
variable [Inhabited α]
theorem sw_fr (w : World) (blk off m : Nat) (dk : Array α) (os : Array Obj) : Fr (fun k => k = blk) w.heap (sortWorldK enc sz w blk off m dk os).heap := by
  refine ⟨by simp [sortWorldK, grow, putRowK, putRow, mapBlock, Sort.ahead], fun k hk hne => ?_⟩
  have hkg : blk ≠ k := fun e => hne e.symm
  show (grow _ os).heap[k]? = _
  rw [heap_grow_old _ _ (by simpa [putRowK, putRow, mapBlock, Sort.ahead] using hk)]
  simp [putRowK, putRow, mapBlock, Sort.ahead, Array.getElem?_modify, hkg]
theorem sw_same (w : World) (blk off m : Nat) (dk : Array α) (os : Array Obj) : Same w (sortWorldK enc sz w blk off m dk os) := ⟨rfl, rfl, rfl, Nat.le_add_right _ _⟩
theorem flatK_get (he : ∀ x, (enc x).length = sz) (hs : 0 < sz) (ys : List α) (t : Nat) (ht : t < ys.length * sz) : some (flatK enc sz ys.toArray)[t]! = (ys.flatMap enc)[t]? := by
  obtain ⟨h, e⟩ := flat_get2 he hs ys t ht
  have hm : t % sz < (enc ys[t / sz]).length := by rw [he]; exact Nat.mod_lt _ hs
  rw [get_flatK _ _ _ _ (by simpa using ht), e, List.getElem?_eq_getElem hm]
  simp [h, hm]
theorem row_holds (he : ∀ x, (enc x).length = sz) (hs : 0 < sz) {w : World} {E g c : Nat} {xs : List α} (r : Row w.heap E enc sz (some ⟨g, 0, none⟩) c xs) : g < w.heap.size ∧ HoldsK enc sz w g 0 xs.toArray := by
  rcases r with ⟨h0, _⟩ | ⟨g', rest, hA, hb, h1, h2, h3⟩
  · cases h0
  injection hA with hA
  injection hA with hA _ _
  subst hA
  refine ⟨lt_of_get hb, fun j hj => ?_⟩
  have hj' : j < xs.length * sz := by simpa using hj
  have hfl := flat_len he xs
  refine ⟨?_, by simp [World.frozen?, hb]⟩
  have e := flatK_get he hs xs j hj'
  simp only [World.cell?, hb, Nat.zero_add, id]
  simp
  rw [List.getElem?_append_left (by omega)]
  exact e.symm
theorem sw_row (he : ∀ x, (enc x).length = sz) (hs : 0 < sz) {w : World} {E g c : Nat} {xs ys : List α} (r : Row w.heap E enc sz (some ⟨g, 0, none⟩) c xs) (hy : ys.length = xs.length) (m : Nat) (os : Array Obj) : Row (sortWorldK enc sz w g 0 m ys.toArray os).heap E enc sz (some ⟨g, 0, none⟩) c ys := by
  rcases r with ⟨h0, _⟩ | ⟨g', rest, hA, hb, h1, h2, h3⟩
  · cases h0
  injection hA with hA
  injection hA with hA _ _
  subst hA
  have hlt := lt_of_get hb
  have hfx := flat_len he xs
  have hfy := flat_len he ys
  refine .inr ⟨g, rest, rfl, ?_, hfy, by rw [List.length_append, hfy, hy, ← hfx, ← List.length_append]; exact h2, by omega⟩
  have e1 : (putRowK enc sz (Sort.ahead w m) g 0 ys.toArray).heap[g]? = some (.cells (putCells id 0 (flatK enc sz ys.toArray) (xs.flatMap enc ++ rest).toArray) E (0, 0)) := by
    simp only [putRowK, putRow, mapBlock, Sort.ahead, Array.getElem?_modify, if_true, hb, Option.map_some]
    rfl
  have e2 : putCells id 0 (flatK enc sz ys.toArray) (xs.flatMap enc ++ rest).toArray = (ys.flatMap enc ++ rest).toArray := by
    apply Array.ext_getElem?
    intro t
    simp only [putCells, Array.getElem?_mapIdx, Nat.zero_le, true_and, Nat.zero_add, size_flatK, List.size_toArray, Nat.sub_zero, id, List.getElem?_toArray]
    by_cases ht : t < ys.length * sz
    · have e := flatK_get he hs ys t ht
      rw [List.getElem?_append_left (by rw [hfx, ← hy]; exact ht), List.getElem?_append_left (by rw [hfy]; exact ht), ← e]
      have hx : t < (xs.flatMap enc).length := by rw [hfx, ← hy]; exact ht
      rw [List.getElem?_eq_getElem hx]
      simp [ht]
    · rw [List.getElem?_append_right (by rw [hfx, ← hy]; omega), List.getElem?_append_right (by rw [hfy]; omega), hfx, hfy, hy]
      have ht' : ¬ t < xs.length * sz := by rw [← hy]; exact ht
      cases rest[t - xs.length * sz]? <;> simp [ht']
  show (grow _ os).heap[g]? = _
  rw [heap_grow_old _ _ (by simpa [putRowK, putRow, mapBlock, Sort.ahead] using hlt), e1, e2]
theorem cmp_lays {P : Program} {g : Nat} {cb : Array Value} {cf : α → α → Int} {blk size : Nat} {w : World}
    (hf : ∀ h', Fr (fun k => k = blk) w.heap h' → ∀ x y, CallsH P g (#[.agg (enc x).toArray, .agg (enc y).toArray] ++ cb) h' fun v h'' => v = .int .i64 (cf x y) ∧ Ext h' h'') : CmpLays P g cb enc sz cf blk 0 size w := by
  intro m os dk _ x y
  refine (hf _ (sw_fr w blk 0 m dk os) x y _ rfl).mono ?_
  rintro e w' ⟨v, rfl, hs, rfl, hx⟩
  exact ⟨rfl, world_grow hs hx⟩
theorem sort_row {P : Program} {f g : Nat} {cb : Array Value} (he : ∀ x, (enc x).length = sz) (hs : 0 < sz) {h : Hp} {E gb c : Nat} {xs ys : List α} (hy : ys.length = xs.length) (r : Row h E enc sz (some ⟨gb, 0, none⟩) c xs) {K : Value → Hp → Prop}
    (hT : ∀ w : World, w.heap = h → gb < w.heap.size → HoldsK enc sz w gb 0 xs.toArray → Calls P f #[.slice (some ⟨gb, 0, none⟩) xs.length c, .func (.func g) #[] cb] w fun e w' => e = .returned (.tuple #[]) ∧ ∃ n os, w' = sortWorldK enc sz w gb 0 n ys.toArray os)
    (H : ∀ h', Row h' E enc sz (some ⟨gb, 0, none⟩) c ys → Fr (fun k => k = gb) h h' → K (.tuple #[]) h') : CallsH P f #[.slice (some ⟨gb, 0, none⟩) xs.length c, .func (.func g) #[] cb] h K := by
  intro w hw
  subst hw
  obtain ⟨hlt, hH⟩ := row_holds he hs r
  refine (hT w rfl hlt hH).mono ?_
  rintro e w' ⟨rfl, n, os, rfl⟩
  exact ⟨_, rfl, sw_same .., H _ (sw_row he hs r hy n os) (sw_fr ..)⟩
end
end Go.Proofs.YtgahbkbmolfpnaaGreat.Sx
