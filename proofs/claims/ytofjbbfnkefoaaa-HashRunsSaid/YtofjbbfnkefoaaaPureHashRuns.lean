/-
HashRuns: for any most and any calls a hash table answers each as the document's list of entries would have it; slots and probes are as they may be.
Conditions: none beyond the statement's own.
-/
import Derived.Test.YtofjbbfnkefoaaaHaRuns
import Derived.Test.YtofjbbfnkefoaaaSxOpen
namespace Go.Proofs.Ytofjbbfnkefoaaa.PureHashRuns
open Go Go.RowKit Go.Proofs.Ytofjbbfnkefoaaa.Sx Go.Proofs.Ytofjbbfnkefoaaa.Fs
set_option linter.unusedVariables false
abbrev opK : List IntKind := [.i64, .u32, .u32, .u16, .u16, .u8, .i64]
def toOp : List Int → OpH
  | [a, b, c, d, e, f, g] => ⟨a, ⟨b, c, d, e, f⟩, g⟩
  | _ => ⟨0, h0, 0⟩
theorem opRows {h : Hp} {A : Option Addr} {l : List (List Int)} (hr : RSl h A l.length 7 (l.flatMap (List.zipWith Value.int [.i64, .u32, .u32, .u16, .u16, .u8, .i64]))) (wf : ∀ ns ∈ l, ns.length = [IntKind.i64, IntKind.u32, IntKind.u32, IntKind.u16, IntKind.u16, IntKind.u8, IntKind.i64].length ∧ ∀ p ∈ [IntKind.i64, IntKind.u32, IntKind.u32, IntKind.u16, IntKind.u16, IntKind.u8, IntKind.i64].zip ns, (Lit.int p.1 p.2).wf = true) :
    RSl h A (l.map toOp).length 7 ((l.map toOp).flatMap OpH.enc) ∧ ∀ o ∈ l.map toOp, o.k.wf := by
  constructor
  · rw [List.length_map]
    have e : (l.map toOp).flatMap OpH.enc = l.flatMap (List.zipWith Value.int [.i64, .u32, .u32, .u16, .u16, .u8, .i64]) := by
      rw [List.flatMap_map]
      clear hr
      induction l with
      | nil => rfl
      | cons ns l ih =>
        rw [List.flatMap_cons, List.flatMap_cons, ih fun x hx => wf x (List.mem_cons_of_mem _ hx)]
        congr 1
        have := (wf ns (List.mem_cons_self ..)).1
        match ns, this with
        | [a, b, c, d, e, f, g], _ => rfl
    rw [e]; exact hr
  · intro s hs
    obtain ⟨ns, hn, rfl⟩ := List.mem_map.1 hs
    have h1 := (wf ns hn).1
    have h2 := (wf ns hn).2
    match ns, h1, h2 with
    | [a, b, c, d, e, f, g], _, h2 =>
      have q1 := h2 (.u32, b) (by simp)
      have q2 := h2 (.u32, c) (by simp)
      have q3 := h2 (.u16, d) (by simp)
      have q4 := h2 (.u16, e) (by simp)
      have q5 := h2 (.u8, f) (by simp)
      simp [Lit.wf, IntKind.min, IntKind.max, IntKind.bits, IntKind.signed] at q1 q2 q3 q4 q5
      show 0 ≤ b ∧ b < 4294967296 ∧ 0 ≤ c ∧ c < 4294967296 ∧ 0 ≤ d ∧ d < 65536 ∧ 0 ≤ e ∧ e < 65536 ∧ 0 ≤ f ∧ f < 256
      omega
theorem walk {W : World} (n : Int) (wn : (Lit.int .i64 n).wf = true) (A : Option Addr) (l : List (List Int)) (c : Nat) (hr : RSl W.heap A l.length 7 (l.flatMap (List.zipWith Value.int [.i64, .u32, .u32, .u16, .u16, .u8, .i64]))) (hc : l.length ≤ c) (hm : c ≤ maxLen) (wf : ∀ ns ∈ l, ns.length = [IntKind.i64, IntKind.u32, IntKind.u32, IntKind.u16, IntKind.u16, IntKind.u8, IntKind.i64].length ∧ ∀ p ∈ [IntKind.i64, IntKind.u32, IntKind.u32, IntKind.u16, IntKind.u16, IntKind.u8, IntKind.i64].zip ns, (Lit.int p.1 p.2).wf = true) :
    Calls Try.prog 4 #[.int .i64 n, .slice A l.length c] W fun e w' => e = .returned (.bool true) ∧ Below W.heap.size W w' := by
  obtain ⟨rs, hw⟩ := opRows hr wf
  have := walk_of (HashRuns_s n A c (l.map toOp) rs hw fun h' e => ⟨rfl, e⟩)
  rwa [List.length_map] at this
end Go.Proofs.Ytofjbbfnkefoaaa.PureHashRuns
