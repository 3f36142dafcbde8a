/-
ExpandLeasts: of any stems expand.Least tells what the document tells; what is handed in stays.
Conditions: none beyond the statement's own.
-/
import Derived.Test.YtaacfhekjklipaaExOpen
namespace Go.Proofs.Ytaacfhekjklipaa.PureExpandLeasts
open Go Go.RowKit Go.Proofs.Ytaacfhekjklipaa.Sx Go.Proofs.Ytaacfhekjklipaa.Fs Go.Proofs.Ytaacfhekjklipaa.Sp
set_option linter.unusedVariables false
theorem walk {W : World} (A : Option Addr) (l : List (List Int)) (c : Nat) (hr : RSl W.heap A l.length 2 (l.flatMap (List.zipWith Value.int [.u16, .i64]))) (hc : l.length ≤ c) (hm : c ≤ maxLen) (wf : ∀ ns ∈ l, ns.length = [IntKind.u16, IntKind.i64].length ∧ ∀ p ∈ [IntKind.u16, IntKind.i64].zip ns, (Lit.int p.1 p.2).wf = true) :
    Calls Try.prog 8 #[.slice A l.length c] W fun e w' => e = .returned (.bool true) ∧ Below W.heap.size W w' := by
  obtain ⟨rs, ok⟩ := stRows hr wf
  have := walk_of (ExpandLeasts_s (c := c) rs ok fun h' e => ⟨rfl, e⟩)
  rwa [List.length_map] at this
end Go.Proofs.Ytaacfhekjklipaa.PureExpandLeasts
