/-
PrunePlays: of any configuration, any calls on an engine are answered, refused or done as the list of rules would have it, and whatever is asked is the first match, within the document's bounds.
Conditions: none beyond the statement's own.
-/
import Derived.Test.YtomhkbhgpmcbiaaGreatPnRowsZ
namespace Go.Proofs.YtomhkbhgpmcbiaaGreat.PurePrunePlays
open Go Go.RowKit Go.Proofs.YtomhkbhgpmcbiaaGreat.Sx Go.Proofs.YtomhkbhgpmcbiaaGreat.Fs
set_option linter.unusedVariables false
theorem walk {W : World} (a0 : Int) (a1 : Int) (a2 : Int) (a3 : Int) (a4 : Int) (a5 : Int) (a6 : Int) (w0 : (Lit.int .i64 a0).wf = true) (w1 : (Lit.int .i64 a1).wf = true) (w2 : (Lit.int .i64 a2).wf = true) (w3 : (Lit.int .i64 a3).wf = true) (w4 : (Lit.int .i64 a4).wf = true) (w5 : (Lit.int .i64 a5).wf = true) (w6 : (Lit.int .i64 a6).wf = true) (A : Option Addr) (L : List {cs : List Value // Fits2 W.heap opK cs}) (c : Nat) (hr : RSl W.heap A L.length 21 (L.flatMap (·.1))) (A1 : Option Addr) (l1 : List (List Int)) (c1 : Nat) (hr1 : RSl W.heap A1 l1.length 5 (l1.flatMap (List.zipWith Value.int hdrK))) (hc1 : l1.length ≤ c1) (hm1 : c1 ≤ maxLen) (wf1 : ∀ ns ∈ l1, ns.length = hdrK.length ∧ ∀ p ∈ hdrK.zip ns, (Lit.int p.1 p.2).wf = true) :
    Calls Tryz.prog 3 #[.agg #[.int .i64 a0, .int .i64 a1, .int .i64 a2, .int .i64 a3, .int .i64 a4, .int .i64 a5, .int .i64 a6], .slice A L.length c, .slice A1 l1.length c1] W fun e w' => e = .returned (.bool true) ∧ Below W.heap.size W w' := by
  let f : {cs : List Value // Fits2 W.heap opK cs} → Opr := fun x => Classical.choose (opr_of x.2)
  have hf : ∀ x : {cs : List Value // Fits2 W.heap opK cs}, ∃ zs, x.1 = (f x).enc ∧ OpOK W.heap (f x) zs := fun x => Classical.choose_spec (opr_of x.2)
  have he : L.flatMap (·.1) = (L.map f).flatMap Opr.enc := by
    rw [List.flatMap_map]
    congr 1
    funext x
    exact (hf x).choose_spec.1
  rw [he] at hr
  have hr' : RSl W.heap A (L.map f).length 21 ((L.map f).flatMap Opr.enc) := by rw [List.length_map]; exact hr
  obtain ⟨rg, hg⟩ := hdrRows hr1 wf1
  have := walk_of (PrunePlays_s ⟨a0, a1, a2, a3, a4, a5, a6⟩ (c := c) (d := c1) hr' (fun o ho => ?_) rg hg fun h' e => ⟨rfl, e⟩)
  · simp only [List.length_map] at this; exact this
  · obtain ⟨x, _, rfl⟩ := List.mem_map.1 ho
    obtain ⟨zs, _, ok⟩ := hf x
    exact ⟨zs, ok⟩
end Go.Proofs.YtomhkbhgpmcbiaaGreat.PurePrunePlays
