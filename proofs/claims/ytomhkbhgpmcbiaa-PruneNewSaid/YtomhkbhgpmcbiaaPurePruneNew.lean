/-
PruneNew: of any configuration an engine is told, or the document's error; an engine without rules answers by default, with steps and sizes that may be.
Conditions: none beyond the statement's own.
-/
import Derived.Test.YtomhkbhgpmcbiaaPnLaw
import Derived.Test.YtomhkbhgpmcbiaaSxOpen
namespace Go.Proofs.Ytomhkbhgpmcbiaa.PurePruneNew
open Go Go.RowKit Go.Proofs.Ytomhkbhgpmcbiaa.Sx Go.Proofs.Ytomhkbhgpmcbiaa.Fs
set_option linter.unusedVariables false
theorem walk (a0 a1 a2 a3 a4 a5 a6 : Int) (w0 : (Lit.int .i64 a0).wf = true) (w1 : (Lit.int .i64 a1).wf = true) (w2 : (Lit.int .i64 a2).wf = true) (w3 : (Lit.int .i64 a3).wf = true) (w4 : (Lit.int .i64 a4).wf = true) (w5 : (Lit.int .i64 a5).wf = true) (w6 : (Lit.int .i64 a6).wf = true) (b0 b1 b2 b3 b4 : Int) (v0 : (Lit.int .u32 b0).wf = true) (v1 : (Lit.int .u32 b1).wf = true) (v2 : (Lit.int .u16 b2).wf = true) (v3 : (Lit.int .u16 b3).wf = true) (v4 : (Lit.int .u8 b4).wf = true) (W : World) :
    Calls Try.prog 3 #[.agg #[.int .i64 a0, .int .i64 a1, .int .i64 a2, .int .i64 a3, .int .i64 a4, .int .i64 a5, .int .i64 a6], .agg #[.int .u32 b0, .int .u32 b1, .int .u16 b2, .int .u16 b3, .int .u8 b4]] W fun e w' => e = .returned (.bool true) ∧ Below W.heap.size W w' :=
  walk_of (PruneNew_s ⟨a0, a1, a2, a3, a4, a5, a6⟩ ⟨b0, b1, b2, b3, b4⟩ fun h' e => ⟨rfl, e⟩)
end Go.Proofs.Ytomhkbhgpmcbiaa.PurePruneNew
