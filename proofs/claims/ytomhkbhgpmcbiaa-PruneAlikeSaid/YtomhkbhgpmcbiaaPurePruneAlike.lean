/-
PruneAlike: an engine that came to its rules by insertion in some order, with others that went again, answers as one that was set with them.
Conditions: none beyond the statement's own.
-/
import Derived.Test.YtomhkbhgpmcbiaaPnAlike
import Derived.Test.YtomhkbhgpmcbiaaPnRows
import Derived.Test.YtomhkbhgpmcbiaaSxOpen
namespace Go.Proofs.Ytomhkbhgpmcbiaa.PurePruneAlike
open Go Go.RowKit Go.Proofs.Ytomhkbhgpmcbiaa.Sx Go.Proofs.Ytomhkbhgpmcbiaa.Fs
set_option linter.unusedVariables false
theorem walk {W : World} (A0 : Option Addr) (l0 : List (List Int)) (c0 : Nat) (hr0 : RSl W.heap A0 l0.length 12 (l0.flatMap (List.zipWith Value.int rulK))) (hc0 : l0.length ≤ c0) (hm0 : c0 ≤ maxLen) (wf0 : ∀ ns ∈ l0, ns.length = rulK.length ∧ ∀ p ∈ rulK.zip ns, (Lit.int p.1 p.2).wf = true) (A1 : Option Addr) (l1 : List (List Int)) (c1 : Nat) (hr1 : RSl W.heap A1 l1.length 1 (l1.flatMap (List.zipWith Value.int [IntKind.i64]))) (hc1 : l1.length ≤ c1) (hm1 : c1 ≤ maxLen) (wf1 : ∀ ns ∈ l1, ns.length = [IntKind.i64].length ∧ ∀ p ∈ [IntKind.i64].zip ns, (Lit.int p.1 p.2).wf = true) (A2 : Option Addr) (l2 : List (List Int)) (c2 : Nat) (hr2 : RSl W.heap A2 l2.length 12 (l2.flatMap (List.zipWith Value.int rulK))) (hc2 : l2.length ≤ c2) (hm2 : c2 ≤ maxLen) (wf2 : ∀ ns ∈ l2, ns.length = rulK.length ∧ ∀ p ∈ rulK.zip ns, (Lit.int p.1 p.2).wf = true) (A3 : Option Addr) (l3 : List (List Int)) (c3 : Nat) (hr3 : RSl W.heap A3 l3.length 5 (l3.flatMap (List.zipWith Value.int hdrK))) (hc3 : l3.length ≤ c3) (hm3 : c3 ≤ maxLen) (wf3 : ∀ ns ∈ l3, ns.length = hdrK.length ∧ ∀ p ∈ hdrK.zip ns, (Lit.int p.1 p.2).wf = true) :
    Calls Try.prog 4 #[.slice A0 l0.length c0, .slice A1 l1.length c1, .slice A2 l2.length c2, .slice A3 l3.length c3] W fun e w' => e = .returned (.bool true) ∧ Below W.heap.size W w' := by
  have r0 : RSl W.heap A0 (l0.map toRul).length 12 ((l0.map toRul).flatMap Rul.enc) := by rw [List.length_map]; exact rows_of hr0 wf0
  have r2 : RSl W.heap A2 (l2.map toRul).length 12 ((l2.map toRul).flatMap Rul.enc) := by rw [List.length_map]; exact rows_of hr2 wf2
  obtain ⟨r1, w1⟩ := intRows hr1 wf1
  have r3 := (hdrRows hr3 wf3).1
  have := walk_of (Alike_s (c1 := c0) (c2 := c1) (c3 := c2) (c4 := c3) (by rw [List.length_map]; exact hc0) r0 r1 w1 r2 r3 fun h' e => ⟨rfl, e⟩)
  simpa only [List.length_map] using this
end Go.Proofs.Ytomhkbhgpmcbiaa.PurePruneAlike
