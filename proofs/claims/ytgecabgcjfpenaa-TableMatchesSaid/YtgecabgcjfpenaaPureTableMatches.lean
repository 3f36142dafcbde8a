/-
TableMatches: for any configuration, any rules that may be and any header the table tells the first rule that matches, by the document's definition; and tells it again, whatever was asked between.
Conditions: none beyond the statement's own.
-/
import Derived.Test.YtgecabgcjfpenaaTRef2
import Derived.Test.YtgecabgcjfpenaaSxOpen
namespace Go.Proofs.Ytgecabgcjfpenaa.PureTableMatches
open Go Go.RowKit Go.Proofs.Ytgecabgcjfpenaa.Sx Go.Proofs.Ytgecabgcjfpenaa.Fs
set_option linter.unusedVariables false
theorem toRul_wf : ∀ (ns : List Int), ns.length = 12 → (∀ p ∈ rulK.zip ns, (Lit.int p.1 p.2).wf = true) → (toRul ns).wf
  | [n0, n1, n2, n3, n4, n5, n6, n7, n8, n9, n10, n11], _, h => ⟨wf_u32 (h (.u32, n1) (by simp [rulK])), wf_u32 (h (.u32, n3) (by simp [rulK])), wf_u8 (h (.u8, n9) (by simp [rulK])), wf_u8 (h (.u8, n10) (by simp [rulK]))⟩
theorem walk {W : World} (a0 a1 a2 a3 a4 a5 a6 : Int) (w0 : (Lit.int .i64 a0).wf = true) (w1 : (Lit.int .i64 a1).wf = true) (w2 : (Lit.int .i64 a2).wf = true) (w3 : (Lit.int .i64 a3).wf = true) (w4 : (Lit.int .i64 a4).wf = true) (w5 : (Lit.int .i64 a5).wf = true) (w6 : (Lit.int .i64 a6).wf = true)
    (A : Option Addr) (l : List (List Int)) (c : Nat) (hr : RSl W.heap A l.length 12 (l.flatMap (List.zipWith Value.int rulK))) (hc : l.length ≤ c) (hm : c ≤ maxLen) (wf : ∀ ns ∈ l, ns.length = rulK.length ∧ ∀ p ∈ rulK.zip ns, (Lit.int p.1 p.2).wf = true)
    (b0 b1 b2 b3 b4 : Int) (x0 : (Lit.int .u32 b0).wf = true) (x1 : (Lit.int .u32 b1).wf = true) (x2 : (Lit.int .u16 b2).wf = true) (x3 : (Lit.int .u16 b3).wf = true) (x4 : (Lit.int .u8 b4).wf = true)
    (d0 d1 d2 d3 d4 : Int) (y0 : (Lit.int .u32 d0).wf = true) (y1 : (Lit.int .u32 d1).wf = true) (y2 : (Lit.int .u16 d2).wf = true) (y3 : (Lit.int .u16 d3).wf = true) (y4 : (Lit.int .u8 d4).wf = true) :
    Calls Try.prog 4 #[.agg #[.int .i64 a0, .int .i64 a1, .int .i64 a2, .int .i64 a3, .int .i64 a4, .int .i64 a5, .int .i64 a6], .slice A l.length c, .agg #[.int .u32 b0, .int .u32 b1, .int .u16 b2, .int .u16 b3, .int .u8 b4], .agg #[.int .u32 d0, .int .u32 d1, .int .u16 d2, .int .u16 d3, .int .u8 d4]] W fun e w' => e = .returned (.bool true) ∧ Below W.heap.size W w' :=
  walk_of (TableMatches_s ⟨a0, a1, a2, a3, a4, a5, a6⟩ (l.map toRul) (fun x hx => by obtain ⟨ns, hn, rfl⟩ := List.mem_map.1 hx; exact toRul_wf ns (wf ns hn).1 (wf ns hn).2) ⟨b0, b1, b2, b3, b4⟩ ⟨d0, d1, d2, d3, d4⟩ ⟨wf_u32 x0, wf_u32 x1, wf_u16 x2, wf_u16 x3, wf_u8 x4⟩ ⟨wf_u32 y0, wf_u32 y1, wf_u16 y2, wf_u16 y3, wf_u8 y4⟩ (by simp) hc (rows_of hr wf) fun h' e => ⟨rfl, e⟩)
end Go.Proofs.Ytgecabgcjfpenaa.PureTableMatches
