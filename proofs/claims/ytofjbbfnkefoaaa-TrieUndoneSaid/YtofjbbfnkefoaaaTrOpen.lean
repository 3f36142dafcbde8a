/- The calls of a script, as the heap tells them. -/
import Derived.Test.YtofjbbfnkefoaaaTrLong
import Derived.Test.YtofjbbfnkefoaaaSxOpen4
namespace Go.Proofs.Ytofjbbfnkefoaaa.Fs
open Go Go.RowKit Go.Proofs.Ytofjbbfnkefoaaa.Sx Go.Proofs.Ytofjbbfnkefoaaa.Tp
set_option linter.unusedVariables false
def opK : List (Option IntKind ⊕ List IntKind) := [.inl (some .i64), .inl none, .inl (some .u32), .inl (some .i64), .inl (some .i64)]
theorem opr_of {h : Hp} {cs : List Value} (q : Fits3 h opK cs) : ∃ o : OpR, cs = o.enc ∧ o.key < 4294967296 := by
  unfold opK at q
  obtain ⟨a0, cs, rfl, w0, q1⟩ := q.int_inv
  obtain ⟨b, cs, rfl, q2⟩ := q1.bool_inv
  obtain ⟨k, cs, rfl, wk, q3⟩ := q2.int_inv
  obtain ⟨n, cs, rfl, wn, q4⟩ := q3.int_inv
  obtain ⟨v, cs, rfl, wv, q5⟩ := q4.int_inv
  obtain rfl := q5.nil_inv
  have : 0 ≤ k ∧ k ≤ 4294967295 := by simpa [Lit.wf, IntKind.min, IntKind.max, IntKind.bits, IntKind.signed] using wk
  refine ⟨⟨a0, b, k.toNat, n, v⟩, ?_, by show k.toNat < _; omega⟩
  show [Value.int .i64 a0, .bool b, .int .u32 k, .int .i64 n, .int .i64 v] = [Value.int .i64 a0, .bool b, .int .u32 (k.toNat : Int), .int .i64 n, .int .i64 v]
  rw [Int.toNat_of_nonneg this.1]
theorem ops_of {h : Hp} {A : Option Addr} (L : List {cs : List Value // Fits3 h opK cs}) (hr : RSl h A L.length 5 (L.flatMap (·.1))) : ∃ os : List OpR, os.length = L.length ∧ RSl h A os.length 5 (os.flatMap OpR.enc) ∧ ∀ o, o ∈ os → o.key < 4294967296 := by
  let f : {cs : List Value // Fits3 h opK cs} → OpR := fun x => Classical.choose (opr_of x.2)
  have hf : ∀ x : {cs : List Value // Fits3 h opK cs}, x.1 = (f x).enc ∧ (f x).key < 4294967296 := fun x => Classical.choose_spec (opr_of x.2)
  have he : L.flatMap (·.1) = (L.map f).flatMap OpR.enc := by
    rw [List.flatMap_map]
    congr 1
    funext x
    exact (hf x).1
  rw [he] at hr
  refine ⟨L.map f, by simp, by simpa using hr, fun o ho => ?_⟩
  obtain ⟨x, _, rfl⟩ := List.mem_map.1 ho
  exact (hf x).2
end Go.Proofs.Ytofjbbfnkefoaaa.Fs
