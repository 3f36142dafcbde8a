/- Parts of rows: cuts, append of a part to a fresh row. -/
import Derived.Test.YtgahbkbmolfpnaaGreatSxFunc
namespace Go.Proofs.YtgahbkbmolfpnaaGreat.Sx
open Go Go.RowKit
set_option linter.unusedVariables false
set_option linter.unusedSimpArgs false
set_option maxRecDepth 10000
section
variable {α : Type} {enc : α → List Value} {sz : Nat}
theorem rslTake (he : ∀ x, (enc x).length = sz) {h : Hp} {A : Option Addr} {l : Nat} {xs : List α} (hr : RSl h A l sz (xs.flatMap enc)) (hl : xs.length = l) {n : Nat} (hn : n ≤ l) : RSl h A n sz ((xs.take n).flatMap enc) := by
  rcases Nat.eq_zero_or_pos n with h0 | h0
  · subst h0; exact ⟨by simp, .inl rfl⟩
  obtain ⟨a', hA', hcl'⟩ := hr.some (by omega)
  refine ⟨by rw [flat_len he, List.length_take, Nat.min_eq_left (by omega)], .inr ⟨a', hA', hcl'.spot, fun j v hj => hcl'.at_ j v ?_⟩⟩
  rw [← flat_take he, List.getElem?_take] at hj
  split at hj
  · exact hj
  · cases hj
theorem rslDrop (he : ∀ x, (enc x).length = sz) {h : Hp} {A : Option Addr} {l : Nat} {xs : List α} (hr : RSl h A l sz (xs.flatMap enc)) (hl : xs.length = l) {n : Nat} (hn : n ≤ l) : RSl h (A.map (·.add (n * sz))) (l - n) sz ((xs.drop n).flatMap enc) := by
  rcases Nat.eq_zero_or_pos (l - n) with h0 | h0
  · rw [List.drop_of_length_le (by omega), h0]; exact ⟨by simp, .inl rfl⟩
  obtain ⟨a', hA', hcl'⟩ := hr.some (by omega)
  subst hA'
  refine ⟨by rw [flat_len he, List.length_drop, hl], .inr ⟨_, rfl, hcl'.sub (n * sz) fun j v hj => ?_⟩⟩
  rw [← flat_drop he, List.getElem?_drop] at hj
  exact hj
theorem rslLo (he : ∀ x, (enc x).length = sz) {h : Hp} {A : Option Addr} {l c : Nat} {xs : List α} (hr : RSl h A l sz (xs.flatMap enc)) (hl : xs.length = l) (hc : l ≤ c) {n : Nat} (hn : n ≤ l) : RSl h (if c = n then A else A.map (·.add (n * sz))) (l - n) sz ((xs.drop n).flatMap enc) := by
  split
  · rename_i e
    have : l - n = 0 := by omega
    rw [List.drop_of_length_le (by omega), this]
    exact ⟨by simp, .inl rfl⟩
  · exact rslDrop he hr hl hn
theorem cutLo {P : Program} {T E : TypeId} {i : TypeInfo} {A : Option Addr} {l c n : Nat} (hu : P.underlying T = some (.slice E)) (hi : P.info? E = some i) (hsz : i.size = sz) (hn : n ≤ l) : PV P (Instr.sliceAt T (.slice A l c) (some (.int .i64 (n : Int))) none none) (.slice (if c = n then A else A.map (·.add (n * sz))) (l - n) (c - n)) := by
  have := slLo (P := P) (A := A) (l := l) (c := c) (x := (n : Int)) hu hi (by omega) (by omega)
  rw [Int.toNat_natCast, hsz] at this
  exact this
theorem cutHi {P : Program} {T E : TypeId} {i : TypeInfo} {A : Option Addr} {l c n : Nat} (hu : P.underlying T = some (.slice E)) (hi : P.info? E = some i) (hn : n ≤ c) : PV P (Instr.sliceAt T (.slice A l c) none (some (.int .i64 (n : Int))) none) (.slice A n c) := by
  have := slHi (P := P) (A := A) (l := l) (c := c) (x := (n : Int)) hu hi (by omega) (by omega)
  rw [Int.toNat_natCast] at this
  exact this
theorem HW_app00 {P : Program} {T E : TypeId} {i : TypeInfo} {h : Hp} {A B : Option Addr} {n c cx : Nat} {K : Value → Hp → Prop}
    (hu : P.underlying T = some (.slice E)) (hi : P.info? E = some i) (hnc : n ≤ c) (hA : A = none → n = 0 ∧ c = 0) (H : K (.slice A n c) h) :
    HW P (Builtin.append_ #[T, T] T #[.slice A n c, .slice B 0 cx]) h K := by
  unfold HW
  simp [Builtin.append_, semWp_bind_eq, underlying_eq hu, size_eq hi, Builtin.lenOf, semWp_pure_eq]
  rw [if_pos hnc, semWp_bind_eq]
  have hf : ∀ (K : Array Value → Hp → Prop), K #[] h → semWp P (Builtin.firstCells i.size 0 (.slice B 0 cx)) h K := fun K hk => by
    unfold Builtin.firstCells
    cases B with
    | none => exact hk
    | some a => show semWp P (loadCells a (0 * i.size)) h K; rw [Nat.zero_mul]; exact hk
  refine hf _ ?_
  cases A with
  | none => exact H
  | some a => simp only [semWp_map_eq]; exact H
/-- More elements, of a fresh row: out of a part of another. -/
theorem appCut {P : Program} {T E : TypeId} {i : TypeInfo} {z : Value} (he : ∀ x, (enc x).length = sz) (hf : ∀ x, (enc x).all flatV = true) {h0 h : Hp} {A B : Option Addr} {c cx m : Nat} {xs ys : List α} {K : Value → Hp → Prop}
    (hu : P.underlying T = some (.slice E)) (hi : P.info? E = some i) (hz : i.zero = some z) (hzl : z.cells.size = sz) (hsz : i.size = sz) (hb0 : 0 < i.bytes) (hb1 : i.bytes ≤ 1000)
    (e : Ext h0 h) (r : RowC h E enc sz A c xs) (hF : Fresh h0 A) (hm : ys.length = m) (rB : RSl h B m sz (ys.flatMap enc)) (hl : xs.length + m ≤ 1000000000)
    (H : ∀ h' A' c', Ext h0 h' → RowC h' E enc sz A' c' (xs ++ ys) → Fresh h0 A' → Fr (blk A) h h' → K (.slice A' (xs ++ ys).length c') h') :
    HW P (Builtin.append_ #[T, T] T #[.slice A xs.length c, .slice B m cx]) h K := by
  rcases Nat.eq_zero_or_pos m with h00 | h00
  · have hy : ys = [] := List.eq_nil_of_length_eq_zero (by omega)
    subst hy h00
    rw [List.append_nil] at H
    exact HW_app00 hu hi r.le (fun hA => by subst hA; have := r.none0; exact ⟨by rw [this.1]; rfl, this.2⟩) (H h A c e r hF (Fr.refl _ _))
  · obtain ⟨ax, rfl, hcl⟩ := rB.some h00
    have hb : (2 * (xs.length + m) + 768) * i.bytes ≤ 2 ^ 48 := by
      have h1 := Nat.mul_le_mul_left (2 * (xs.length + m) + 768) hb1
      have h2 : (2 * (xs.length + m) + 768) * 1000 ≤ 2 ^ 48 := by
        have : (2 * (xs.length + m) + 768) ≤ 2000000770 := by omega
        exact Nat.le_trans (Nat.mul_le_mul_right 1000 this) (by decide)
      exact Nat.le_trans h1 h2
    refine HW_appendC (ns := ys.flatMap enc) hu hi hz (by rw [hzl, hsz]) hb0 (by rw [hsz]; exact r.row) hcl (by rw [flat_len he, hsz, hm]) h00 ?_ hb ?_
    · rw [List.all_eq_true]
      intro u hu
      obtain ⟨y, _, hy⟩ := List.mem_flatMap.1 hu
      exact List.all_eq_true.1 (hf y) u hy
    · intro h' A' c' hO hA' hsome hfr hc
      rw [hsz, ← hm] at hO
      have := H h' A' c' (extOwn e hfr hF) ⟨by unfold Row; rw [List.length_append, List.flatMap_append]; exact hO, hc.elim (fun e => e ▸ r.cap) id⟩ (by
        rcases hA' with rfl | hA'
        · exact hF
        · intro k hk; have := hA' k hk; have := e.size; omega) hfr
      rw [List.length_append, hm] at this
      exact this
end
end Go.Proofs.YtgahbkbmolfpnaaGreat.Sx
