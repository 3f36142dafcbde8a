/-
SpanChecks: for every span and port (any two words of 16 bits, any word of 16 bits) the program's Check, Has and Count of package span answer as the reference does, and the document's examples hold: the statement is true for every input.
Conditions: none beyond the statement's own.
-/
import Derived.Test.YtollljeomlfabaaPSpx7
import Derived.Test.YtollljeomlfabaaOpenKit
namespace Go.Proofs.Ytollljeomlfabaa.PureSpanChecks
set_option linter.unusedSimpArgs false
set_option linter.unusedVariables false
open Go.RowKit Go.Proofs.Ytollljeomlfabaa.PSp Go.Proofs.YtollljeomlfabaaW.PrintWords Go.Proofs.YtollljeomlfabaaW.PrintLast Go.Proofs.YtollljeomlfabaaW.PrintMore
theorem aw : quintetlaw03_awake.f 40 = some true := by decide +kernel
theorem pure_ (a b p : Int) (h0 : 0 ≤ a) (h1 : a ≤ 65535) (h2 : 0 ≤ b) (h3 : b ≤ 65535) : quintetlaw03_SpanChecks.f 40 a b p = some true := by
  unfold quintetlaw03_SpanChecks.f
  rw [aw]
  simp only [Option.bind_some, if_true]
  unfold span_Check.f quintetref03_Check.f span_Has.f quintetref03_Has.f span_Count.f quintetref03_Count.f
  by_cases hab : a > b
  · have e1 : ¬ (a ≤ p ∧ p ≤ b) := by omega
    simp only [hab, if_true, Option.bind_some]
    by_cases hp : a ≤ p
    · have : p ≥ a := hp
      simp only [hp, this, if_true, Option.bind_some, beq_self_eq_true]
      simp only [wrap64, mx, Option.some.injEq, beq_iff_eq]
      split <;> omega
    · have : ¬ p ≥ a := by omega
      simp only [hp, this, if_false, Option.bind_some, beq_self_eq_true, if_true]
      simp only [wrap64, mx, Option.some.injEq, beq_iff_eq]
      split <;> omega
  · simp only [hab, if_false, Option.bind_some, if_true]
    by_cases hp : a ≤ p
    · have : p ≥ a := hp
      simp only [hp, this, if_true, Option.bind_some, beq_self_eq_true]
      simp only [wrap64, mx, Option.some.injEq, beq_iff_eq]
      split <;> omega
    · have : ¬ p ≥ a := by omega
      simp only [hp, this, if_false, Option.bind_some, beq_self_eq_true, if_true]
      simp only [wrap64, mx, Option.some.injEq, beq_iff_eq]
      split <;> omega
theorem walk (a b : Int) (wa : (Lit.int .u16 a).wf = true) (wb : (Lit.int .u16 b).wf = true) (p : Int) (wp : (Lit.int .u16 p).wf = true) (W : World) :
    Calls Try.prog 3 #[.agg #[.int .u16 a, .int .u16 b], .int .u16 p] W fun e w' => e = .returned (.bool true) ∧ Below W.heap.size W w' :=
  quintetlaw03_SpanChecks.calls 40 a b p true W (pure_ a b p (Kit.wf_u16 wa).1 (Kit.wf_u16 wa).2 (Kit.wf_u16 wb).1 (Kit.wf_u16 wb).2)
end Go.Proofs.Ytollljeomlfabaa.PureSpanChecks
