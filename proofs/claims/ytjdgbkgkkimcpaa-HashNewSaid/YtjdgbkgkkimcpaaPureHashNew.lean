/-
HashNew: for any number a table is made just when the number may be, and the document's examples hold.
Conditions: none beyond the statement's own.
-/
import Derived.Test.YtjdgbkgkkimcpaaHSpec2
import Derived.Test.YtjdgbkgkkimcpaaSxOpen
namespace Go.Proofs.Ytjdgbkgkkimcpaa.PureHashNew
open Go Go.RowKit Go.Proofs.Ytjdgbkgkkimcpaa.Sx Go.Proofs.Ytjdgbkgkkimcpaa.Fs
set_option linter.unusedVariables false
theorem walk (a0 : Int) (w0 : (Lit.int .i64 a0).wf = true) (W : World) :
    Calls Try.prog 3 #[.int .i64 a0] W fun e w' => e = .returned (.bool true) ∧ Below W.heap.size W w' :=
  walk_of (HashNew_s a0 fun h' e => ⟨rfl, e⟩)
end Go.Proofs.Ytjdgbkgkkimcpaa.PureHashNew
