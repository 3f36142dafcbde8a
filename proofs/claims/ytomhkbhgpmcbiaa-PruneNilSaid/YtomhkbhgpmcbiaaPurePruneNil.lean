/-
PruneNil: no engine refuses all calls, and answers nothing.
Conditions: none beyond the statement's own.
-/
import Derived.Test.YtomhkbhgpmcbiaaPnNil
import Derived.Test.YtomhkbhgpmcbiaaSxOpen
namespace Go.Proofs.Ytomhkbhgpmcbiaa.PurePruneNil
open Go Go.RowKit Go.Proofs.Ytomhkbhgpmcbiaa.Sx Go.Proofs.Ytomhkbhgpmcbiaa.Fs
set_option linter.unusedVariables false
theorem walk (a0 a1 a2 a3 a4 a5 a6 a7 a8 a9 a10 a11 : Int) (w0 : (Lit.int .i64 a0).wf = true) (w1 : (Lit.int .u32 a1).wf = true) (w2 : (Lit.int .i64 a2).wf = true) (w3 : (Lit.int .u32 a3).wf = true) (w4 : (Lit.int .i64 a4).wf = true) (w5 : (Lit.int .u16 a5).wf = true) (w6 : (Lit.int .u16 a6).wf = true) (w7 : (Lit.int .u16 a7).wf = true) (w8 : (Lit.int .u16 a8).wf = true) (w9 : (Lit.int .u8 a9).wf = true) (w10 : (Lit.int .u8 a10).wf = true) (w11 : (Lit.int .i64 a11).wf = true) (b0 b1 b2 b3 b4 : Int) (v0 : (Lit.int .u32 b0).wf = true) (v1 : (Lit.int .u32 b1).wf = true) (v2 : (Lit.int .u16 b2).wf = true) (v3 : (Lit.int .u16 b3).wf = true) (v4 : (Lit.int .u8 b4).wf = true) (W : World) :
    Calls Try.prog 6 #[.agg #[.int .i64 a0, .int .u32 a1, .int .i64 a2, .int .u32 a3, .int .i64 a4, .int .u16 a5, .int .u16 a6, .int .u16 a7, .int .u16 a8, .int .u8 a9, .int .u8 a10, .int .i64 a11], .agg #[.int .u32 b0, .int .u32 b1, .int .u16 b2, .int .u16 b3, .int .u8 b4]] W fun e w' => e = .returned (.bool true) ∧ Below W.heap.size W w' :=
  walk_of (PruneNil_s ⟨a0, a1, a2, a3, a4, a5, a6, a7, a8, a9, a10, a11⟩ ⟨b0, b1, b2, b3, b4⟩ fun h' e => ⟨rfl, e⟩)
end Go.Proofs.Ytomhkbhgpmcbiaa.PurePruneNil
