/-
SpanLess: of any two spans what span.Less tells is what the document tells, port by port; and again, when its first answer has been written over.
Conditions: none beyond the statement's own.
-/
import Derived.Test.YtaacfhekjklipaaSpOpen
namespace Go.Proofs.Ytaacfhekjklipaa.PureSpanLess
open Go Go.RowKit Go.Proofs.Ytaacfhekjklipaa.Sx Go.Proofs.Ytaacfhekjklipaa.Fs Go.Proofs.Ytaacfhekjklipaa.Sp
set_option linter.unusedVariables false
theorem walk (a0 a1 : Int) (w0 : (Lit.int .u16 a0).wf = true) (w1 : (Lit.int .u16 a1).wf = true) (b0 b1 : Int) (x0 : (Lit.int .u16 b0).wf = true) (x1 : (Lit.int .u16 b1).wf = true) (W : World) :
    Calls Try.prog 3 #[.agg #[.int .u16 a0, .int .u16 a1], .agg #[.int .u16 b0, .int .u16 b1]] W fun e w' => e = .returned (.bool true) ∧ Below W.heap.size W w' :=
  walk_of (SpanLess_s ⟨a0, a1⟩ ⟨b0, b1⟩ (ok_of w0 w1) (ok_of x0 x1) fun h' e => ⟨rfl, e⟩)
end Go.Proofs.Ytaacfhekjklipaa.PureSpanLess
