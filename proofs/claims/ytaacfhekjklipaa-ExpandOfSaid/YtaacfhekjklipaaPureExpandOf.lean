/-
ExpandOf: of any span expand.Of and Count tell the document's stems; again, when the first answer has been written over.
Conditions: none beyond the statement's own.
-/
import Derived.Test.YtaacfhekjklipaaExOpen
namespace Go.Proofs.Ytaacfhekjklipaa.PureExpandOf
open Go Go.RowKit Go.Proofs.Ytaacfhekjklipaa.Sx Go.Proofs.Ytaacfhekjklipaa.Fs Go.Proofs.Ytaacfhekjklipaa.Sp
set_option linter.unusedVariables false
theorem walk (a0 a1 : Int) (w0 : (Lit.int .u16 a0).wf = true) (w1 : (Lit.int .u16 a1).wf = true) (W : World) :
    Calls Try.prog 6 #[.agg #[.int .u16 a0, .int .u16 a1]] W fun e w' => e = .returned (.bool true) ∧ Below W.heap.size W w' :=
  walk_of (ExpandOf_s ⟨a0, a1⟩ (ok_of w0 w1) fun h' e => ⟨rfl, e⟩)
end Go.Proofs.Ytaacfhekjklipaa.PureExpandOf
