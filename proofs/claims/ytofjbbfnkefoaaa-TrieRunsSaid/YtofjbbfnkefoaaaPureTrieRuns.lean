/-
TrieRuns: any calls on two tries are each answered as the document's list of keys would have it.
Conditions: none beyond the statement's own.
-/
import Derived.Test.YtofjbbfnkefoaaaTrRuns2
import Derived.Test.YtofjbbfnkefoaaaTrOpen
namespace Go.Proofs.Ytofjbbfnkefoaaa.PureTrieRuns
open Go Go.RowKit Go.Proofs.Ytofjbbfnkefoaaa.Sx Go.Proofs.Ytofjbbfnkefoaaa.Fs
set_option linter.unusedVariables false
theorem walk {W : World} (w : Int) (ww : (Lit.int .i64 w).wf = true) (most : Int) (wm : (Lit.int .i64 most).wf = true) (A : Option Addr) (L : List {cs : List Value // Fits3 W.heap opK cs}) (c : Nat) (hr : RSl W.heap A L.length 5 (L.flatMap (·.1))) :
    Calls Try.prog 8 #[.int .i64 w, .int .i64 most, .slice A L.length c] W fun e w' => e = .returned (.bool true) ∧ Below W.heap.size W w' := by
  obtain ⟨os, hl, ho, hk⟩ := ops_of2 L hr
  have := walk_of (TrieRuns_s w most A c os hk ho fun h' e => ⟨rfl, e⟩)
  rwa [hl] at this
end Go.Proofs.Ytofjbbfnkefoaaa.PureTrieRuns
