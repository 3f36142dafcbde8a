/-
PruneSets: of any configuration any rules at once are refused or taken as the list of rules would have it, and each header is answered as the first match.
Conditions: none beyond the statement's own.
-/
import Derived.Test.YtomhkbhgpmcbiaaGreatPnRowsZ
namespace Go.Proofs.YtomhkbhgpmcbiaaGreat.PurePruneSets
open Go Go.RowKit Go.Proofs.YtomhkbhgpmcbiaaGreat.Sx Go.Proofs.YtomhkbhgpmcbiaaGreat.Fs
set_option linter.unusedVariables false
theorem walk {W : World} (a0 : Int) (a1 : Int) (a2 : Int) (a3 : Int) (a4 : Int) (a5 : Int) (a6 : Int) (w0 : (Lit.int .i64 a0).wf = true) (w1 : (Lit.int .i64 a1).wf = true) (w2 : (Lit.int .i64 a2).wf = true) (w3 : (Lit.int .i64 a3).wf = true) (w4 : (Lit.int .i64 a4).wf = true) (w5 : (Lit.int .i64 a5).wf = true) (w6 : (Lit.int .i64 a6).wf = true) (A0 : Option Addr) (l0 : List (List Int)) (c0 : Nat) (hr0 : RSl W.heap A0 l0.length 12 (l0.flatMap (List.zipWith Value.int rulK))) (hc0 : l0.length ≤ c0) (hm0 : c0 ≤ maxLen) (wf0 : ∀ ns ∈ l0, ns.length = rulK.length ∧ ∀ p ∈ rulK.zip ns, (Lit.int p.1 p.2).wf = true) (A1 : Option Addr) (l1 : List (List Int)) (c1 : Nat) (hr1 : RSl W.heap A1 l1.length 5 (l1.flatMap (List.zipWith Value.int hdrK))) (hc1 : l1.length ≤ c1) (hm1 : c1 ≤ maxLen) (wf1 : ∀ ns ∈ l1, ns.length = hdrK.length ∧ ∀ p ∈ hdrK.zip ns, (Lit.int p.1 p.2).wf = true) :
    Calls Tryz.prog 4 #[.agg #[.int .i64 a0, .int .i64 a1, .int .i64 a2, .int .i64 a3, .int .i64 a4, .int .i64 a5, .int .i64 a6], .slice A0 l0.length c0, .slice A1 l1.length c1] W fun e w' => e = .returned (.bool true) ∧ Below W.heap.size W w' := by
  obtain ⟨rz, hz⟩ := ruRows hr0 wf0
  obtain ⟨rg, hg⟩ := hdrRows hr1 wf1
  have := walk_of (PruneSets_s ⟨a0, a1, a2, a3, a4, a5, a6⟩ (c := c0) (d := c1) (by rw [List.length_map]; exact hc0) hz rz rg hg fun h' e => ⟨rfl, e⟩)
  simp only [List.length_map] at this
  exact this
end Go.Proofs.YtomhkbhgpmcbiaaGreat.PurePruneSets
