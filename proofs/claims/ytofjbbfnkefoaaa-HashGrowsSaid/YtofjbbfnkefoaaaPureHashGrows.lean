/-
HashGrows: of so many headers all are there; when all but one are gone that one is there, and no other.
Conditions: none beyond the statement's own.
-/
import Derived.Test.YtofjbbfnkefoaaaHaGrow
import Derived.Test.YtofjbbfnkefoaaaSxOpen
namespace Go.Proofs.Ytofjbbfnkefoaaa.PureHashGrows
open Go Go.RowKit Go.Proofs.Ytofjbbfnkefoaaa.Sx Go.Proofs.Ytofjbbfnkefoaaa.Fs
set_option linter.unusedVariables false
theorem walk (a b c d e : Int) (wa : (Lit.int .u32 a).wf = true) (wb : (Lit.int .u32 b).wf = true) (wc : (Lit.int .u16 c).wf = true) (wd : (Lit.int .u16 d).wf = true) (we : (Lit.int .u8 e).wf = true) (n : Int) (wn : (Lit.int .i64 n).wf = true) (step : Int) (ws : (Lit.int .u32 step).wf = true) (stays : Int) (wst : (Lit.int .i64 stays).wf = true) (W : World) :
    Calls Try.prog 5 #[.agg #[.int .u32 a, .int .u32 b, .int .u16 c, .int .u16 d, .int .u8 e], .int .i64 n, .int .u32 step, .int .i64 stays] W fun e w' => e = .returned (.bool true) ∧ Below W.heap.size W w' := by
  simp [Lit.wf, IntKind.min, IntKind.max, IntKind.bits, IntKind.signed] at wa wb wc wd we wn wst
  refine walk_of (HashGrows_s ⟨a, b, c, d, e⟩ ?_ n step stays (by omega) (by omega) fun h' e => ⟨rfl, e⟩)
  show 0 ≤ a ∧ a < 4294967296 ∧ 0 ≤ b ∧ b < 4294967296 ∧ 0 ≤ c ∧ c < 65536 ∧ 0 ≤ d ∧ d < 65536 ∧ 0 ≤ e ∧ e < 256
  omega
end Go.Proofs.Ytofjbbfnkefoaaa.PureHashGrows
