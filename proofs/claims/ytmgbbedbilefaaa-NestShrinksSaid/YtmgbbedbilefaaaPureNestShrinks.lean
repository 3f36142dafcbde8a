/-
NestShrinks: a list without one of its rules has no size that is greater; how the rules stand, and what Ids and actions they have, does not matter.
Conditions: none beyond the statement's own.
-/
import Derived.Test.YtmgbbedbilefaaaNeLaw5
import Derived.Test.YtmgbbedbilefaaaNeOpen
namespace Go.Proofs.Ytmgbbedbilefaaa.PureNestShrinks
open Go Go.RowKit Go.Proofs.Ytmgbbedbilefaaa.Sx Go.Proofs.Ytmgbbedbilefaaa.Fs Go.Proofs.Ytmgbbedbilefaaa.Sp
set_option linter.unusedVariables false
theorem walk {W : World} (A : Option Addr) (l : List (List Int)) (c : Nat) (hr : RSl W.heap A l.length 12 (l.flatMap (List.zipWith Value.int rulK))) (hc : l.length ≤ c) (hm : c ≤ maxLen) (wf : ∀ ns ∈ l, ns.length = rulK.length ∧ ∀ p ∈ rulK.zip ns, (Lit.int p.1 p.2).wf = true) (a0 : Int) (w0 : (Lit.int .i64 a0).wf = true) :
    Calls Try.prog 7 #[.slice A l.length c, .int .i64 a0] W fun e w' => e = .returned (.bool true) ∧ Below W.heap.size W w' := by
  obtain ⟨rs, ok⟩ := ruRows hr wf
  have := walk_of (NestShrinks_s (c := c) (wf_i64 w0) (by rw [List.length_map]; exact hc) (fun x hx => (ok x hx).1) (fun x hx => (ok x hx).2) rs fun h' e => ⟨rfl, e⟩)
  rwa [List.length_map] at this
end Go.Proofs.Ytmgbbedbilefaaa.PureNestShrinks
