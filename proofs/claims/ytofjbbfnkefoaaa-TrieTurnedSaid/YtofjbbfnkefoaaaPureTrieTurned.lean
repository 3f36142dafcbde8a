/-
TrieTurned: what a trie holds, and how many nodes it has, does not hang on the order of the puts.
Conditions: none beyond the statement's own.
-/
import Derived.Test.YtofjbbfnkefoaaaTrTurn3
import Derived.Test.YtofjbbfnkefoaaaSxOpen
namespace Go.Proofs.Ytofjbbfnkefoaaa.PureTrieTurned
open Go Go.RowKit Go.Proofs.Ytofjbbfnkefoaaa.Sx Go.Proofs.Ytofjbbfnkefoaaa.Fs
set_option linter.unusedVariables false
def toO : List Int → OpR
  | [k, n, v] => ⟨0, false, k.toNat, n, v⟩
  | _ => ⟨0, false, 0, 0, 0⟩
theorem toO_0 (ns : List Int) : (toO ns).kind = 0 ∧ (toO ns).second = false := by
  unfold toO
  split <;> exact ⟨rfl, rfl⟩
theorem toO_enc (ns : List Int) (hl : ns.length = [IntKind.u32, IntKind.i64, IntKind.i64].length) (wf : ∀ p ∈ [IntKind.u32, IntKind.i64, IntKind.i64].zip ns, (Lit.int p.1 p.2).wf = true) : List.zipWith Value.int [.u32, .i64, .i64] ns = (eE (toO ns)).enc ∧ (toO ns).key < 4294967296 := by
  match ns, hl with
  | [k, n, v], _ =>
    have wk := wf (.u32, k) (by simp)
    have h0 : 0 ≤ k ∧ k ≤ 4294967295 := by simpa [Lit.wf, IntKind.min, IntKind.max, IntKind.bits, IntKind.signed] using wk
    refine ⟨?_, by show k.toNat < _; omega⟩
    show [Value.int .u32 k, .int .i64 n, .int .i64 v] = [.int .u32 (k.toNat : Int), .int .i64 n, .int .i64 v]
    rw [Int.toNat_of_nonneg h0.1]
theorem walk {W : World} (w : Int) (ww : (Lit.int .i64 w).wf = true) (A : Option Addr) (l : List (List Int)) (c : Nat) (hr : RSl W.heap A l.length 3 (l.flatMap (List.zipWith Value.int [.u32, .i64, .i64]))) (hc : l.length ≤ c) (hm : c ≤ maxLen) (wf : ∀ ns ∈ l, ns.length = [IntKind.u32, IntKind.i64, IntKind.i64].length ∧ ∀ p ∈ [IntKind.u32, IntKind.i64, IntKind.i64].zip ns, (Lit.int p.1 p.2).wf = true) :
    Calls Try.prog 10 #[.int .i64 w, .slice A l.length c] W fun e w' => e = .returned (.bool true) ∧ Below W.heap.size W w' := by
  have he : l.flatMap (List.zipWith Value.int [.u32, .i64, .i64]) = ((l.map toO).map eE).flatMap En.enc := by
    clear hr hc
    induction l with
    | nil => rfl
    | cons x l ih =>
      rw [List.flatMap_cons, List.map_cons, List.map_cons, List.flatMap_cons, ih (fun ns hn => wf ns (by simp [hn])), (toO_enc x (wf x (by simp)).1 (wf x (by simp)).2).1]
  rw [he] at hr
  have := walk_of (TrieTurned_s w A c (l.map toO) (fun o ho => by
    obtain ⟨ns, _, rfl⟩ := List.mem_map.1 ho
    exact toO_0 ns) (fun o ho => by
    obtain ⟨ns, hn, rfl⟩ := List.mem_map.1 ho
    exact (toO_enc ns (wf ns hn).1 (wf ns hn).2).2) (by rw [List.length_map]; exact hr) fun h' e => ⟨rfl, e⟩)
  rwa [List.length_map] at this
end Go.Proofs.Ytofjbbfnkefoaaa.PureTrieTurned
