/-
TrieUndone: behind any puts and cuts a key that was not held, put and cut again, leaves all as it was; when all is cut there are no nodes.
Conditions: none beyond the statement's own.
-/
import Derived.Test.YtofjbbfnkefoaaaTrUndo2
import Derived.Test.YtofjbbfnkefoaaaTrOpen
namespace Go.Proofs.Ytofjbbfnkefoaaa.PureTrieUndone
open Go Go.RowKit Go.Proofs.Ytofjbbfnkefoaaa.Sx Go.Proofs.Ytofjbbfnkefoaaa.Fs
set_option linter.unusedVariables false
theorem walk {W : World} (w : Int) (ww : (Lit.int .i64 w).wf = true) (A : Option Addr) (L : List {cs : List Value // Fits3 W.heap opK cs}) (c : Nat) (hr : RSl W.heap A L.length 5 (L.flatMap (·.1))) (k : Int) (wk : (Lit.int .u32 k).wf = true) (n : Int) (wn : (Lit.int .i64 n).wf = true) :
    Calls Try.prog 11 #[.int .i64 w, .slice A L.length c, .int .u32 k, .int .i64 n] W fun e w' => e = .returned (.bool true) ∧ Below W.heap.size W w' := by
  obtain ⟨os, hl, ho, hk⟩ := ops_of L hr
  have h0 : 0 ≤ k ∧ k ≤ 4294967295 := by simpa [Lit.wf, IntKind.min, IntKind.max, IntKind.bits, IntKind.signed] using wk
  obtain ⟨k, rfl⟩ := Int.eq_ofNat_of_zero_le h0.1
  have := walk_of (TrieUndone_s w A c os hk k (by omega) n ho fun h' e => ⟨rfl, e⟩)
  rwa [hl] at this
end Go.Proofs.Ytofjbbfnkefoaaa.PureTrieUndone
