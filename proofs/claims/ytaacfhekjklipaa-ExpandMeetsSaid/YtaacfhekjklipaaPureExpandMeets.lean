/-
ExpandMeets: of two stems one holds all of the other one, or they share no port.
Conditions: none beyond the statement's own.
-/
import Derived.Test.YtaacfhekjklipaaExOpen
namespace Go.Proofs.Ytaacfhekjklipaa.PureExpandMeets
open Go Go.RowKit Go.Proofs.Ytaacfhekjklipaa.Sx Go.Proofs.Ytaacfhekjklipaa.Fs Go.Proofs.Ytaacfhekjklipaa.Sp
set_option linter.unusedVariables false
theorem walk (a0 a1 : Int) (w0 : (Lit.int .u16 a0).wf = true) (w1 : (Lit.int .i64 a1).wf = true) (b0 b1 : Int) (x0 : (Lit.int .u16 b0).wf = true) (x1 : (Lit.int .i64 b1).wf = true) (p : Int) (wp : (Lit.int .u16 p).wf = true) (W : World) :
    Calls Try.prog 11 #[.agg #[.int .u16 a0, .int .i64 a1], .agg #[.int .u16 b0, .int .i64 b1], .int .u16 p] W fun e w' => e = .returned (.bool true) ∧ Below W.heap.size W w' :=
  walk_of (ExpandMeets_s ⟨a0, a1⟩ ⟨b0, b1⟩ (okT_of w0) (okT_of x0) p fun h' e => ⟨rfl, e⟩)
end Go.Proofs.Ytaacfhekjklipaa.PureExpandMeets
