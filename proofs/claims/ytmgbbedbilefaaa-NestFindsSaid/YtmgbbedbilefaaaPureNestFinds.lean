/-
NestFinds: of any spans and port nest.Find tells what the document tells, twice; what is handed in stays, what is told is its caller's.
Conditions: none beyond the statement's own.
-/
import Derived.Test.YtmgbbedbilefaaaNeLaw1
import Derived.Test.YtmgbbedbilefaaaNeOpen
namespace Go.Proofs.Ytmgbbedbilefaaa.PureNestFinds
open Go Go.RowKit Go.Proofs.Ytmgbbedbilefaaa.Sx Go.Proofs.Ytmgbbedbilefaaa.Fs Go.Proofs.Ytmgbbedbilefaaa.Sp
set_option linter.unusedVariables false
theorem walk {W : World} (A : Option Addr) (l : List (List Int)) (c : Nat) (hr : RSl W.heap A l.length 2 (l.flatMap (List.zipWith Value.int [.u16, .u16]))) (hc : l.length ≤ c) (hm : c ≤ maxLen) (wf : ∀ ns ∈ l, ns.length = [IntKind.u16, IntKind.u16].length ∧ ∀ p ∈ [IntKind.u16, IntKind.u16].zip ns, (Lit.int p.1 p.2).wf = true) (a0 : Int) (w0 : (Lit.int .u16 a0).wf = true) :
    Calls Try.prog 4 #[.slice A l.length c, .int .u16 a0] W fun e w' => e = .returned (.bool true) ∧ Below W.heap.size W w' := by
  obtain ⟨rs, ok⟩ := spRows hr wf
  have := walk_of (NestFinds_s (c := c) (p := a0) rs fun h' e => ⟨rfl, e⟩)
  rwa [List.length_map] at this
end Go.Proofs.Ytmgbbedbilefaaa.PureNestFinds
