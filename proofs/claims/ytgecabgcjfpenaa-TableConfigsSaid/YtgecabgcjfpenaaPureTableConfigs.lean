/-
TableConfigs: for every configuration the table's Check and New answer as the document's definition does (a table is made just when the configuration may be), and the document's examples hold.
Conditions: none beyond the statement's own.
-/
import Derived.Test.YtgecabgcjfpenaaTLaw1
import Derived.Test.YtgecabgcjfpenaaSxOpen
namespace Go.Proofs.Ytgecabgcjfpenaa.PureTableConfigs
open Go Go.RowKit Go.Proofs.Ytgecabgcjfpenaa.Sx Go.Proofs.Ytgecabgcjfpenaa.Fs
set_option linter.unusedVariables false
theorem walk (a0 a1 a2 a3 a4 a5 a6 : Int) (w0 : (Lit.int .i64 a0).wf = true) (w1 : (Lit.int .i64 a1).wf = true) (w2 : (Lit.int .i64 a2).wf = true) (w3 : (Lit.int .i64 a3).wf = true) (w4 : (Lit.int .i64 a4).wf = true) (w5 : (Lit.int .i64 a5).wf = true) (w6 : (Lit.int .i64 a6).wf = true) (W : World) :
    Calls Try.prog 3 #[.agg #[.int .i64 a0, .int .i64 a1, .int .i64 a2, .int .i64 a3, .int .i64 a4, .int .i64 a5, .int .i64 a6]] W fun e w' => e = .returned (.bool true) ∧ Below W.heap.size W w' :=
  walk_of (TableConfigs_s ⟨a0, a1, a2, a3, a4, a5, a6⟩ fun h' e => ⟨rfl, e⟩)
end Go.Proofs.Ytgecabgcjfpenaa.PureTableConfigs
