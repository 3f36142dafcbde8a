/- clear of the end of a row. -/
import Derived.Test.YtgahbkbmolfpnaaGreatSxPart
namespace Go.Proofs.YtgahbkbmolfpnaaGreat.Sx
open Go Go.RowKit
set_option linter.unusedVariables false
set_option linter.unusedSimpArgs false
set_option maxRecDepth 10000
section
variable {α : Type} {enc : α → List Value} {sz : Nat}
theorem HW_clearRow {P : Program} {T E ty : TypeId} {i : TypeInfo} {z : Value} (he : ∀ x, (enc x).length = sz) {h : Hp} {g c dc k : Nat} {xs : List α} {K : Value → Hp → Prop}
    (hu : P.underlying T = some (.slice E)) (hi : P.info? E = some i) (hz : i.zero = some z) (hzl : z.cells.size = sz) (hzf : z.cells.toList.all flatV = true) (hz0 : 0 < sz) (r : Row h E enc sz (some ⟨g, 0, none⟩) c xs) (hk : k ≤ xs.length)
    (H : ∀ h', Row h' E enc sz (some ⟨g, 0, none⟩) c (xs.take k) → Fr (fun q => q = g) h h' → K (.tuple #[]) h') :
    HW P (Builtin.clear_ #[T] ty #[.slice (some ⟨g, k * sz, none⟩) (xs.length - k) dc]) h K := by
  unfold HW
  rcases Nat.eq_zero_or_pos (xs.length - k) with h0 | h0
  · rw [h0]
    have : k = xs.length := by omega
    subst this
    rw [List.take_length] at H
    simp [Builtin.clear_, semWp_bind_eq, semWp_map_eq, underlying_eq hu, semWp_pure_eq]
    exact H h r (Fr.refl _ _)
  · obtain ⟨g', rest, hA, hb, hl, hc⟩ := r.open he (by omega)
    cases hA
    obtain ⟨m, hm⟩ : ∃ m, xs.length - k = m + 1 := ⟨xs.length - k - 1, by omega⟩
    rw [hm]
    have hzl' : z.cells.toList.length = sz := by simpa using hzl
    have hlen : (Builtin.zeroCells z.cells (m + 1)).toList.length = (m + 1) * sz := by simp [Builtin.zeroCells, hzl]
    have hall : ∀ u ∈ (Builtin.zeroCells z.cells (m + 1)).toList, flatV u = true := by
      intro u hu
      simp only [Builtin.zeroCells, Array.toList_map, Array.toList_range, List.mem_map, List.mem_range] at hu
      obtain ⟨j, _, rfl⟩ := hu
      have hlt : j % z.cells.size < z.cells.size := Nat.mod_lt _ (by omega)
      simp only [hlt, getElem!_pos]
      exact List.all_eq_true.1 hzf _ (by simp)
    have hfl := flat_len he xs
    have hmul : k * sz + (m + 1) * sz = xs.length * sz := by rw [← Nat.add_mul]; congr 1; omega
    have hmul2 : k * sz ≤ xs.length * sz := Nat.mul_le_mul_right _ hk
    have fin : K (.tuple #[]) (setB h g ((xs.flatMap enc ++ rest).take (k * sz + 0) ++ (Builtin.zeroCells z.cells (m + 1)).toList ++ (xs.flatMap enc ++ rest).drop (k * sz + 0 + (Builtin.zeroCells z.cells (m + 1)).toList.length)) E) := by
      rw [Nat.add_zero, List.take_append_of_le_length (by rw [hfl]; exact hmul2), flat_take he, List.append_assoc]
      refine H _ (Row.shut he (setB_get (lt_of_get hb)) ?_ (by rw [List.length_take]; omega)) (setB_fr rfl)
      rw [← hl, List.length_append, List.length_append, List.length_append, List.length_drop, List.length_append, hlen, flat_len he, hfl, List.length_take, Nat.min_eq_left hk]
      omega
    simp [Builtin.clear_, semWp_bind_eq, semWp_map_eq, underlying_eq hu, zero_eq hi hz]
    refine wp_storeCells P _ 0 _ h hb ?_ hall ?_
    · rw [hlen, List.length_append, hfl]; omega
    · exact fin
end
end Go.Proofs.YtgahbkbmolfpnaaGreat.Sx
