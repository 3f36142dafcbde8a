/-
SpanCompares: for any two spans (four words of 16 bits) the program's Compare answers as the reference's, both ways round, and the document's examples hold: the statement is true for every input.
Conditions: none beyond the statement's own.
-/
import Derived.Test.YtollljeomlfabaaPSpCompares
import Derived.Test.YtollljeomlfabaaOpenKit
namespace Go.Proofs.Ytollljeomlfabaa.PureSpanCompares
set_option linter.unusedSimpArgs false
set_option linter.unusedVariables false
open Go.RowKit Go.Proofs.Ytollljeomlfabaa.PSp Go.Proofs.YtollljeomlfabaaW.PrintWords Go.Proofs.YtollljeomlfabaaW.PrintLast Go.Proofs.YtollljeomlfabaaW.PrintMore
theorem aw : quintetlaw03_awake.f 40 = some true := by decide +kernel
theorem same (x y : S24) : span_Compare.c x y = quintetref03_Compare.c x y := rfl
theorem turn (x y : S24) : span_Compare.c y x = wrap64 (-(span_Compare.c x y)) := by
  obtain ⟨a, b⟩ := x
  obtain ⟨p, q⟩ := y
  unfold span_Compare.c
  dsimp only
  rcases Int.lt_trichotomy a p with h | h | h
  · have h1 : ¬ p = a := by omega
    have h2 : ¬ a = p := by omega
    have h3 : ¬ p < a := by omega
    simp [h, h1, h2, h3]; decide +kernel
  · subst h
    rcases Int.lt_trichotomy b q with h | h | h
    · have h1 : ¬ q = b := by omega
      have h2 : ¬ b = q := by omega
      have h3 : ¬ q < b := by omega
      simp [h, h1, h2, h3]; decide +kernel
    · subst h
      simp; decide +kernel
    · have h1 : ¬ q = b := by omega
      have h2 : ¬ b = q := by omega
      have h3 : ¬ b < q := by omega
      simp [h, h1, h2, h3]; decide +kernel
  · have h1 : ¬ p = a := by omega
    have h2 : ¬ a = p := by omega
    have h3 : ¬ a < p := by omega
    simp [h, h1, h2, h3]; decide +kernel
theorem pure_ (a b p q : Int) : quintetlaw03_SpanCompares.f 40 a b p q = some true := by
  have e1 : quintetref03_Compare.f a b p q = some (span_Compare.c ⟨a, b⟩ ⟨p, q⟩) := rfl
  have e2 : span_Compare.f a b p q = some (span_Compare.c ⟨a, b⟩ ⟨p, q⟩) := rfl
  have e3 : span_Compare.f p q a b = some (span_Compare.c ⟨p, q⟩ ⟨a, b⟩) := rfl
  unfold quintetlaw03_SpanCompares.f
  rw [aw, e1, e2, e3, turn ⟨a, b⟩ ⟨p, q⟩]
  simp
theorem walk (a b : Int) (wa : (Lit.int .u16 a).wf = true) (wb : (Lit.int .u16 b).wf = true) (p q : Int) (wp : (Lit.int .u16 p).wf = true) (wq : (Lit.int .u16 q).wf = true) (W : World) :
    Calls Try.prog 5 #[.agg #[.int .u16 a, .int .u16 b], .agg #[.int .u16 p, .int .u16 q]] W fun e w' => e = .returned (.bool true) ∧ Below W.heap.size W w' :=
  quintetlaw03_SpanCompares.calls 40 a b p q true W (pure_ a b p q)
end Go.Proofs.Ytollljeomlfabaa.PureSpanCompares
