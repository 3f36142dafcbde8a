/-
NestPairs: of a header no more rules match than nest.Pairs tells, and these are no more than there are.
Conditions: none beyond the statement's own.
-/
import Derived.Test.YtmgbbedbilefaaaNeLaw1
import Derived.Test.YtmgbbedbilefaaaNeOpen
namespace Go.Proofs.Ytmgbbedbilefaaa.PureNestPairs
open Go Go.RowKit Go.Proofs.Ytmgbbedbilefaaa.Sx Go.Proofs.Ytmgbbedbilefaaa.Fs Go.Proofs.Ytmgbbedbilefaaa.Sp
set_option linter.unusedVariables false
theorem walk {W : World} (A : Option Addr) (l : List (List Int)) (c : Nat) (hr : RSl W.heap A l.length 12 (l.flatMap (List.zipWith Value.int rulK))) (hc : l.length ≤ c) (hm : c ≤ maxLen) (wf : ∀ ns ∈ l, ns.length = rulK.length ∧ ∀ p ∈ rulK.zip ns, (Lit.int p.1 p.2).wf = true) (b0 b1 b2 b3 b4 : Int) (x0 : (Lit.int .u32 b0).wf = true) (x1 : (Lit.int .u32 b1).wf = true) (x2 : (Lit.int .u16 b2).wf = true) (x3 : (Lit.int .u16 b3).wf = true) (x4 : (Lit.int .u8 b4).wf = true) :
    Calls Try.prog 8 #[.slice A l.length c, .agg #[.int .u32 b0, .int .u32 b1, .int .u16 b2, .int .u16 b3, .int .u8 b4]] W fun e w' => e = .returned (.bool true) ∧ Below W.heap.size W w' := by
  obtain ⟨rs, ok⟩ := ruRows hr wf
  have := walk_of (NestPairs_s (c := c) ⟨b0, b1, b2, b3, b4⟩ rs fun h' e => ⟨rfl, e⟩)
  rwa [List.length_map] at this
end Go.Proofs.Ytmgbbedbilefaaa.PureNestPairs
