/- The document's list of rules: what its calls make. -/
import Derived.Test.YtgecabgcjfpenaaTRuns2
namespace Go.Proofs.Ytgecabgcjfpenaa.Fs
open Go Go.RowKit Go.Proofs.Ytgecabgcjfpenaa.Sx
set_option linter.unusedVariables false
set_option linter.unusedSimpArgs false
set_option maxRecDepth 10000
theorem HW_append0 {P : Program} {T E : TypeId} {i : TypeInfo} {h : Hp} {A sA : Option Addr} {n c cx : Nat} {K : Value → Hp → Prop} (hu : P.underlying T = some (.slice E)) (hi : P.info? E = some i) (hn : n ≤ c) (H : K (.slice A n c) h) :
    HW P (Builtin.append_ #[T, T] T #[.slice A n c, .slice sA 0 cx]) h K := by
  unfold HW
  simp [Builtin.append_, semWp_bind_eq, underlying_eq hu, size_eq hi, Builtin.lenOf, semWp_pure_eq]
  have hf : ∀ (K : Array Value → Hp → Prop), K #[] h → semWp P (Builtin.firstCells i.size 0 (.slice sA 0 cx)) h K := by
    intro K hk
    cases sA with
    | none => exact hk
    | some a => show semWp P (loadCells a (0 * i.size)) h K; rw [Nat.zero_mul]; exact hk
  rw [if_pos hn, semWp_bind_eq]
  refine hf _ ?_
  cases A with
  | none => exact H
  | some a => simp only [semWp_map_eq]; exact H
/-- Rows behind a row of one's own. -/
theorem app_s {h : Hp} {A sA : Option Addr} {c m cx : Nat} {zs ns : List Rul} {K : Value → Hp → Prop} (r : RowR h A c zs) (hm : ns.length = m) (rs : RSl h sA m 12 (ns.flatMap Rul.enc)) (hb : zs.length + m ≤ 1000000)
    (H : ∀ h' A' c', RowR h' A' c' (zs ++ ns) → (A' = A ∨ ∀ k, blk A' k → h.size ≤ k) → Fr (blk A) h h' → K (.slice A' (zs.length + m) c') h') :
    HW Try.prog (Builtin.append_ #[32, 32] 32 #[.slice A zs.length c, .slice sA m cx]) h K := by
  obtain ⟨i, z, hi, hisz, hiby, hiz, hzc⟩ := info55
  rcases Nat.eq_zero_or_pos m with h0 | h0
  · subst h0
    have hns : ns = [] := List.eq_nil_of_length_eq_zero hm
    subst hns
    have hlc : zs.length ≤ c := by
      rcases r with ⟨_, h1, h2, _⟩ | ⟨_, _, _, _, _, _, h3⟩ <;> omega
    refine HW_append0 und32 hi hlc ?_
    have := H h A c (by simpa using r) (.inl rfl) (Fr.refl _ _)
    simpa using this
  · obtain ⟨a, rfl, hcl⟩ := rs.some h0
    refine HW_append (ns := ns.flatMap Rul.enc) und32 hi hiz (by rw [hisz, hzc]; rfl) (by omega) (by rw [hisz]; exact r) hcl (by rw [flat_len Rul.enc_len, hm, hisz]) h0 ?_ (by rw [hiby]; omega) ?_
    · rw [List.all_eq_true]
      intro u hu
      obtain ⟨y, _, hy⟩ := List.mem_flatMap.1 hu
      exact List.all_eq_true.1 (Rul.flat y) u hy
    · intro h' A' c' hO hA' _ hfr
      rw [hisz] at hO
      refine H h' A' c' ?_ hA' hfr
      show OSl h' 55 12 A' (zs ++ ns).length c' ((zs ++ ns).flatMap Rul.enc)
      rw [List.length_append, hm, List.flatMap_append]
      exact hO
/-- A cut at its end, and at its head. -/
theorem rsl_take {h : Hp} {A : Option Addr} {l : Nat} {xs : List Rul} (hr : RSl h A l 12 (xs.flatMap Rul.enc)) (hl : xs.length = l) {n : Nat} (hn : n ≤ l) : RSl h A n 12 ((xs.take n).flatMap Rul.enc) := by
  rcases Nat.eq_zero_or_pos n with h0 | h0
  · subst h0; exact ⟨by simp, .inl rfl⟩
  obtain ⟨a', hA', hcl'⟩ := hr.some (by omega)
  refine ⟨by rw [flat_len Rul.enc_len]; simp; omega, .inr ⟨a', hA', hcl'.spot, fun j v hj => hcl'.at_ j v ?_⟩⟩
  rw [← flat_take Rul.enc_len, List.getElem?_take] at hj
  split at hj
  · exact hj
  · cases hj
theorem rsl_drop {h : Hp} {A : Option Addr} {l : Nat} {xs : List Rul} (hr : RSl h A l 12 (xs.flatMap Rul.enc)) (hl : xs.length = l) {n : Nat} (hn : n ≤ l) : RSl h (A.map (·.add (n * 12))) (l - n) 12 ((xs.drop n).flatMap Rul.enc) := by
  rcases Nat.eq_zero_or_pos (l - n) with h0 | h0
  · rw [List.drop_of_length_le (by omega), h0]; exact ⟨by simp, .inl rfl⟩
  obtain ⟨a', hA', hcl'⟩ := hr.some (by omega)
  subst hA'
  refine ⟨by rw [flat_len Rul.enc_len]; simp; omega, .inr ⟨_, rfl, hcl'.sub (n * 12) fun j v hj => ?_⟩⟩
  rw [← flat_drop Rul.enc_len, List.getElem?_drop] at hj
  exact hj
end Go.Proofs.Ytgecabgcjfpenaa.Fs
