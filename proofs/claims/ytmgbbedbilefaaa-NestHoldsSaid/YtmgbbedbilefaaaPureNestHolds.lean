/-
NestHolds: what nest.Find tells holds the port, at its level, ahead of all that are alike; and each span that holds the port is alike to one that it tells.
Conditions: none beyond the statement's own.
-/
import Derived.Test.YtmgbbedbilefaaaNeLaw3
import Derived.Test.YtmgbbedbilefaaaNeOpen
namespace Go.Proofs.Ytmgbbedbilefaaa.PureNestHolds
open Go Go.RowKit Go.Proofs.Ytmgbbedbilefaaa.Sx Go.Proofs.Ytmgbbedbilefaaa.Fs Go.Proofs.Ytmgbbedbilefaaa.Sp
set_option linter.unusedVariables false
theorem walk {W : World} (A : Option Addr) (l : List (List Int)) (c : Nat) (hr : RSl W.heap A l.length 2 (l.flatMap (List.zipWith Value.int [.u16, .u16]))) (hc : l.length ≤ c) (hm : c ≤ maxLen) (wf : ∀ ns ∈ l, ns.length = [IntKind.u16, IntKind.u16].length ∧ ∀ p ∈ [IntKind.u16, IntKind.u16].zip ns, (Lit.int p.1 p.2).wf = true) (a0 : Int) (w0 : (Lit.int .u16 a0).wf = true) :
    Calls Try.prog 6 #[.slice A l.length c, .int .u16 a0] W fun e w' => e = .returned (.bool true) ∧ Below W.heap.size W w' := by
  obtain ⟨rs, ok⟩ := spRows hr wf
  have := walk_of (NestHolds_s (c := c) (p := a0) (by rw [List.length_map]; exact Nat.le_trans hc (Nat.le_trans hm (by decide))) rs fun h' e => ⟨rfl, e⟩)
  rwa [List.length_map] at this
end Go.Proofs.Ytmgbbedbilefaaa.PureNestHolds
