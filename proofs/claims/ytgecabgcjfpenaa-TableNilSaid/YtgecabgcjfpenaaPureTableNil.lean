/-
TableNil: no table answers each call as the document says, and gives no rule.
Conditions: none beyond the statement's own.
-/
import Derived.Test.YtgecabgcjfpenaaTNil
import Derived.Test.YtgecabgcjfpenaaSxOpen2
namespace Go.Proofs.Ytgecabgcjfpenaa.PureTableNil
open Go Go.RowKit Go.Proofs.Ytgecabgcjfpenaa.Sx Go.Proofs.Ytgecabgcjfpenaa.Fs
set_option linter.unusedVariables false
theorem walk (a0 : Int) (w0 : (Lit.int .i64 a0).wf = true) (a1 : Int) (w1 : (Lit.int .i64 a1).wf = true) (a2 : Int) (w2 : (Lit.int .i64 a2).wf = true)
    (r0 : Int) (x0 : (Lit.int .i64 r0).wf = true) (r1 : Int) (x1 : (Lit.int .u32 r1).wf = true) (r2 : Int) (x2 : (Lit.int .i64 r2).wf = true) (r3 : Int) (x3 : (Lit.int .u32 r3).wf = true) (r4 : Int) (x4 : (Lit.int .i64 r4).wf = true) (r5 : Int) (x5 : (Lit.int .u16 r5).wf = true) (r6 : Int) (x6 : (Lit.int .u16 r6).wf = true) (r7 : Int) (x7 : (Lit.int .u16 r7).wf = true) (r8 : Int) (x8 : (Lit.int .u16 r8).wf = true) (r9 : Int) (x9 : (Lit.int .u8 r9).wf = true) (r10 : Int) (x10 : (Lit.int .u8 r10).wf = true) (r11 : Int) (x11 : (Lit.int .i64 r11).wf = true)
    (b0 : Int) (y0 : (Lit.int .u32 b0).wf = true) (b1 : Int) (y1 : (Lit.int .u32 b1).wf = true) (b2 : Int) (y2 : (Lit.int .u16 b2).wf = true) (b3 : Int) (y3 : (Lit.int .u16 b3).wf = true) (b4 : Int) (y4 : (Lit.int .u8 b4).wf = true)
    (A : Option Addr) (l c : Nat) (W : World) :
    Calls Try.prog 8 #[.agg #[.int .i64 a0, .int .i64 a1, .int .i64 a2, .int .i64 r0, .int .u32 r1, .int .i64 r2, .int .u32 r3, .int .i64 r4, .int .u16 r5, .int .u16 r6, .int .u16 r7, .int .u16 r8, .int .u8 r9, .int .u8 r10, .int .i64 r11, .int .u32 b0, .int .u32 b1, .int .u16 b2, .int .u16 b3, .int .u8 b4, .slice A l c]] W fun e w' => e = .returned (.bool true) ∧ Below W.heap.size W w' :=
  walk_of (TableNil_s ⟨a0, a1, a2, ⟨r0, r1, r2, r3, r4, r5, r6, r7, r8, r9, r10, r11⟩, ⟨b0, b1, b2, b3, b4⟩, A, l, c⟩ fun h' e => ⟨rfl, e⟩)
end Go.Proofs.Ytgecabgcjfpenaa.PureTableNil
