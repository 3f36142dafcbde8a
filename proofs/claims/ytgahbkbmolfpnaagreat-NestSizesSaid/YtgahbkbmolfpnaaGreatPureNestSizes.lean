/-
NestSizes: of any list of rules the sizes and the count of pairs are the document's, or its error; what was handed in stays.
Conditions: none beyond the statement's own.
-/
import Derived.Test.YtgahbkbmolfpnaaGreatNeLaw6
import Derived.Test.YtgahbkbmolfpnaaGreatNeOpen
namespace Go.Proofs.YtgahbkbmolfpnaaGreat.PureNestSizes
open Go Go.RowKit Go.Proofs.YtgahbkbmolfpnaaGreat.Sx Go.Proofs.YtgahbkbmolfpnaaGreat.Fs Go.Proofs.YtgahbkbmolfpnaaGreat.Sp
set_option linter.unusedVariables false
theorem walk {W : World} (A : Option Addr) (l : List (List Int)) (c : Nat) (hr : RSl W.heap A l.length 12 (l.flatMap (List.zipWith Value.int rulK))) (hc : l.length ≤ c) (hm : c ≤ maxLen) (wf : ∀ ns ∈ l, ns.length = rulK.length ∧ ∀ p ∈ rulK.zip ns, (Lit.int p.1 p.2).wf = true) (b0 b1 b2 b3 b4 : Int) (x0 : (Lit.int .u32 b0).wf = true) (x1 : (Lit.int .u32 b1).wf = true) (x2 : (Lit.int .u16 b2).wf = true) (x3 : (Lit.int .u16 b3).wf = true) (x4 : (Lit.int .u8 b4).wf = true) :
    Calls Tryz.prog 3 #[.slice A l.length c, .agg #[.int .u32 b0, .int .u32 b1, .int .u16 b2, .int .u16 b3, .int .u8 b4]] W fun e w' => e = .returned (.bool true) ∧ Below W.heap.size W w' := by
  obtain ⟨rs, ok⟩ := ruRows hr wf
  have := walk_of (NestSizes_s (c := c) rs (by rw [List.length_map]; exact hc) (fun x hx => (ok x hx).1) (fun x hx => (ok x hx).2) ⟨b0, b1, b2, b3, b4⟩ ⟨wf_u32 x0, wf_u32 x1⟩ fun h' e => ⟨rfl, e⟩)
  rwa [List.length_map] at this
end Go.Proofs.YtgahbkbmolfpnaaGreat.PureNestSizes
