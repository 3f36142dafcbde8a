/-
HashNil: no table answers each call as the document says, and gives no entry.
Conditions: none beyond the statement's own.
-/
import Derived.Test.YtjdgbkgkkimcpaaHNil
import Derived.Test.YtjdgbkgkkimcpaaSxOpen
namespace Go.Proofs.Ytjdgbkgkkimcpaa.PureHashNil
open Go Go.RowKit Go.Proofs.Ytjdgbkgkkimcpaa.Sx Go.Proofs.Ytjdgbkgkkimcpaa.Fs
set_option linter.unusedVariables false
theorem walk (a0 a1 a2 a3 a4 : Int) (w0 : (Lit.int .u32 a0).wf = true) (w1 : (Lit.int .u32 a1).wf = true) (w2 : (Lit.int .u16 a2).wf = true) (w3 : (Lit.int .u16 a3).wf = true) (w4 : (Lit.int .u8 a4).wf = true) (n : Int) (wn : (Lit.int .i64 n).wf = true) (W : World) :
    Calls Try.prog 11 #[.agg #[.int .u32 a0, .int .u32 a1, .int .u16 a2, .int .u16 a3, .int .u8 a4], .int .i64 n] W fun e w' => e = .returned (.bool true) ∧ Below W.heap.size W w' :=
  walk_of (HashNil_s ⟨a0, a1, a2, a3, a4⟩ n fun h' e => ⟨rfl, e⟩)
end Go.Proofs.Ytjdgbkgkkimcpaa.PureHashNil
