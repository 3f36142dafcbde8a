/-
ExpandRound: a span's stems give it back, hold a port just if it does, no two of them; are least already, and are 1 to 30.
Conditions: none beyond the statement's own.
-/
import Derived.Test.YtaacfhekjklipaaExOpen
namespace Go.Proofs.Ytaacfhekjklipaa.PureExpandRound
open Go Go.RowKit Go.Proofs.Ytaacfhekjklipaa.Sx Go.Proofs.Ytaacfhekjklipaa.Fs Go.Proofs.Ytaacfhekjklipaa.Sp
set_option linter.unusedVariables false
theorem walk (a0 a1 : Int) (w0 : (Lit.int .u16 a0).wf = true) (w1 : (Lit.int .u16 a1).wf = true) (p : Int) (wp : (Lit.int .u16 p).wf = true) (W : World) :
    Calls Try.prog 10 #[.agg #[.int .u16 a0, .int .u16 a1], .int .u16 p] W fun e w' => e = .returned (.bool true) ∧ Below W.heap.size W w' :=
  walk_of (ExpandRound_s ⟨a0, a1⟩ (ok_of w0 w1) (wf_u16 wp) fun h' e => ⟨rfl, e⟩)
end Go.Proofs.Ytaacfhekjklipaa.PureExpandRound
