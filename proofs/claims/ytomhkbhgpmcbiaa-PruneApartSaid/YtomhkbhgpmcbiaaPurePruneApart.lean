/-
PruneApart: what is done to one engine is not seen by another one with the same rules.
Conditions: none beyond the statement's own.
-/
import Derived.Test.YtomhkbhgpmcbiaaPnTwo
import Derived.Test.YtomhkbhgpmcbiaaRuRows
import Derived.Test.YtomhkbhgpmcbiaaSxOpen
namespace Go.Proofs.Ytomhkbhgpmcbiaa.PurePruneApart
open Go Go.RowKit Go.Proofs.Ytomhkbhgpmcbiaa.Sx Go.Proofs.Ytomhkbhgpmcbiaa.Fs
set_option linter.unusedVariables false
theorem walk {W : World} (A : Option Addr) (l : List (List Int)) (c : Nat) (hr : RSl W.heap A l.length 12 (l.flatMap (List.zipWith Value.int rulK))) (hc : l.length ≤ c) (hm : c ≤ maxLen) (wf : ∀ ns ∈ l, ns.length = rulK.length ∧ ∀ p ∈ rulK.zip ns, (Lit.int p.1 p.2).wf = true) (a0 a1 a2 a3 a4 a5 a6 a7 a8 a9 a10 a11 : Int) (w0 : (Lit.int .i64 a0).wf = true) (w1 : (Lit.int .u32 a1).wf = true) (w2 : (Lit.int .i64 a2).wf = true) (w3 : (Lit.int .u32 a3).wf = true) (w4 : (Lit.int .i64 a4).wf = true) (w5 : (Lit.int .u16 a5).wf = true) (w6 : (Lit.int .u16 a6).wf = true) (w7 : (Lit.int .u16 a7).wf = true) (w8 : (Lit.int .u16 a8).wf = true) (w9 : (Lit.int .u8 a9).wf = true) (w10 : (Lit.int .u8 a10).wf = true) (w11 : (Lit.int .i64 a11).wf = true) (id : Int) (wid : (Lit.int .i64 id).wf = true) (b0 b1 b2 b3 b4 : Int) (v0 : (Lit.int .u32 b0).wf = true) (v1 : (Lit.int .u32 b1).wf = true) (v2 : (Lit.int .u16 b2).wf = true) (v3 : (Lit.int .u16 b3).wf = true) (v4 : (Lit.int .u8 b4).wf = true) :
    Calls Try.prog 5 #[.slice A l.length c, .agg #[.int .i64 a0, .int .u32 a1, .int .i64 a2, .int .u32 a3, .int .i64 a4, .int .u16 a5, .int .u16 a6, .int .u16 a7, .int .u16 a8, .int .u8 a9, .int .u8 a10, .int .i64 a11], .int .i64 id, .agg #[.int .u32 b0, .int .u32 b1, .int .u16 b2, .int .u16 b3, .int .u8 b4]] W fun e w' => e = .returned (.bool true) ∧ Below W.heap.size W w' := by
  have rs : RSl W.heap A (l.map toRul).length 12 ((l.map toRul).flatMap Rul.enc) := by rw [List.length_map]; exact rows_of hr wf
  have := walk_of (Apart_s (c := c) (by rw [List.length_map]; exact hc) ⟨a0, a1, a2, a3, a4, a5, a6, a7, a8, a9, a10, a11⟩ id ⟨b0, b1, b2, b3, b4⟩ rs fun h' e => ⟨rfl, e⟩)
  rwa [List.length_map] at this
end Go.Proofs.Ytomhkbhgpmcbiaa.PurePruneApart
