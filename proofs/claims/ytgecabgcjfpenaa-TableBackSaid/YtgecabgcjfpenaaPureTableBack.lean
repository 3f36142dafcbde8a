/-
TableBack: a rule that is taken out of a table, and put in again where it stood, is as if it had stayed.
Conditions: none beyond the statement's own.
-/
import Derived.Test.YtgecabgcjfpenaaTLaw2
import Derived.Test.YtgecabgcjfpenaaTRows
import Derived.Test.YtgecabgcjfpenaaSxOpen
namespace Go.Proofs.Ytgecabgcjfpenaa.PureTableBack
open Go Go.RowKit Go.Proofs.Ytgecabgcjfpenaa.Sx Go.Proofs.Ytgecabgcjfpenaa.Fs
set_option linter.unusedVariables false
theorem walk {W : World} (A : Option Addr) (l : List (List Int)) (c : Nat) (hr : RSl W.heap A l.length 12 (l.flatMap (List.zipWith Value.int rulK))) (hc : l.length ≤ c) (hm : c ≤ maxLen) (wf : ∀ ns ∈ l, ns.length = rulK.length ∧ ∀ p ∈ rulK.zip ns, (Lit.int p.1 p.2).wf = true)
    (p : Int) (wp : (Lit.int .i64 p).wf = true) (a0 a1 a2 a3 a4 : Int) (w0 : (Lit.int .u32 a0).wf = true) (w1 : (Lit.int .u32 a1).wf = true) (w2 : (Lit.int .u16 a2).wf = true) (w3 : (Lit.int .u16 a3).wf = true) (w4 : (Lit.int .u8 a4).wf = true) :
    Calls Try.prog 6 #[.slice A l.length c, .int .i64 p, .agg #[.int .u32 a0, .int .u32 a1, .int .u16 a2, .int .u16 a3, .int .u8 a4]] W fun e w' => e = .returned (.bool true) ∧ Below W.heap.size W w' :=
  walk_of (TableBack_s (l.map toRul) p ⟨a0, a1, a2, a3, a4⟩ (by simp) hc (rows_of hr wf) fun h' e => ⟨rfl, e⟩)
end Go.Proofs.Ytgecabgcjfpenaa.PureTableBack
