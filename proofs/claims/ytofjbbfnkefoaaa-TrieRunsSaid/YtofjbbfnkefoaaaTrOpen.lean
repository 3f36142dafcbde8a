/- The calls of a script, as the heap tells them. -/
import Derived.Test.YtofjbbfnkefoaaaTrLong
import Derived.Test.YtofjbbfnkefoaaaSxOpen4
namespace Go.Proofs.Ytofjbbfnkefoaaa.Fs
open Go Go.RowKit Go.Proofs.Ytofjbbfnkefoaaa.Sx Go.Proofs.Ytofjbbfnkefoaaa.Tp
set_option linter.unusedVariables false
def opK : List (Option IntKind ⊕ List IntKind) := [.inl (some .i64), .inl none, .inl (some .u32), .inl (some .i64), .inl (some .i64)]
theorem opr_of2 {h : Hp} {cs : List Value} (q : Fits3 h opK cs) : ∃ o : OpR, cs = o.enc ∧ o.key < 4294967296 ∧ -9223372036854775808 ≤ o.v ∧ o.v ≤ 9223372036854775807 := by
  unfold opK at q
  obtain ⟨a0, cs, rfl, w0, q1⟩ := q.int_inv
  obtain ⟨b, cs, rfl, q2⟩ := q1.bool_inv
  obtain ⟨k, cs, rfl, wk, q3⟩ := q2.int_inv
  obtain ⟨n, cs, rfl, wn, q4⟩ := q3.int_inv
  obtain ⟨v, cs, rfl, wv, q5⟩ := q4.int_inv
  obtain rfl := q5.nil_inv
  have : 0 ≤ k ∧ k ≤ 4294967295 := by simpa [Lit.wf, IntKind.min, IntKind.max, IntKind.bits, IntKind.signed] using wk
  have hv : -9223372036854775808 ≤ v ∧ v ≤ 9223372036854775807 := by simpa [Lit.wf, IntKind.min, IntKind.max, IntKind.bits, IntKind.signed] using wv
  refine ⟨⟨a0, b, k.toNat, n, v⟩, ?_, by show k.toNat < _; omega, hv.1, hv.2⟩
  show [Value.int .i64 a0, .bool b, .int .u32 k, .int .i64 n, .int .i64 v] = [Value.int .i64 a0, .bool b, .int .u32 (k.toNat : Int), .int .i64 n, .int .i64 v]
  rw [Int.toNat_of_nonneg this.1]
theorem ops_of2 {h : Hp} {A : Option Addr} (L : List {cs : List Value // Fits3 h opK cs}) (hr : RSl h A L.length 5 (L.flatMap (·.1))) : ∃ os : List OpR, os.length = L.length ∧ RSl h A os.length 5 (os.flatMap OpR.enc) ∧ ∀ o, o ∈ os → o.key < 4294967296 ∧ -9223372036854775808 ≤ o.v ∧ o.v ≤ 9223372036854775807 := by
  let f : {cs : List Value // Fits3 h opK cs} → OpR := fun x => Classical.choose (opr_of2 x.2)
  have hf : ∀ x : {cs : List Value // Fits3 h opK cs}, x.1 = (f x).enc ∧ (f x).key < 4294967296 ∧ -9223372036854775808 ≤ (f x).v ∧ (f x).v ≤ 9223372036854775807 := fun x => Classical.choose_spec (opr_of2 x.2)
  have he : L.flatMap (·.1) = (L.map f).flatMap OpR.enc := by
    rw [List.flatMap_map]
    congr 1
    funext x
    exact (hf x).1
  rw [he] at hr
  refine ⟨L.map f, by simp, by simpa using hr, fun o ho => ?_⟩
  obtain ⟨x, _, rfl⟩ := List.mem_map.1 ho
  exact (hf x).2
theorem ops_of {h : Hp} {A : Option Addr} (L : List {cs : List Value // Fits3 h opK cs}) (hr : RSl h A L.length 5 (L.flatMap (·.1))) : ∃ os : List OpR, os.length = L.length ∧ RSl h A os.length 5 (os.flatMap OpR.enc) ∧ ∀ o, o ∈ os → o.key < 4294967296 := by
  obtain ⟨os, h1, h2, h3⟩ := ops_of2 L hr
  exact ⟨os, h1, h2, fun o ho => (h3 o ho).1⟩
end Go.Proofs.Ytofjbbfnkefoaaa.Fs
