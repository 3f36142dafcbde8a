/-
ExpandChecks: of any stem and port expand's Check, Has and Span answer as the document does, bit by bit.
Conditions: none beyond the statement's own.
-/
import Derived.Test.YtaacfhekjklipaaExOpen
namespace Go.Proofs.Ytaacfhekjklipaa.PureExpandChecks
open Go Go.RowKit Go.Proofs.Ytaacfhekjklipaa.Sx Go.Proofs.Ytaacfhekjklipaa.Fs Go.Proofs.Ytaacfhekjklipaa.Sp
set_option linter.unusedVariables false
theorem walk (a0 a1 : Int) (w0 : (Lit.int .u16 a0).wf = true) (w1 : (Lit.int .i64 a1).wf = true) (p : Int) (wp : (Lit.int .u16 p).wf = true) (W : World) :
    Calls Try.prog 9 #[.agg #[.int .u16 a0, .int .i64 a1], .int .u16 p] W fun e w' => e = .returned (.bool true) ∧ Below W.heap.size W w' :=
  walk_of (ExpandChecks_s ⟨a0, a1⟩ (okT_of w0) (wf_u16 wp) fun h' e => ⟨rfl, e⟩)
end Go.Proofs.Ytaacfhekjklipaa.PureExpandChecks
