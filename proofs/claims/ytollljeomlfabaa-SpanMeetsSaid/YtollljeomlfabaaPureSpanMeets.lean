/-
SpanMeets: for any two spans (four words of 16 bits): what they share is the document's, both ways round, and so is whether one lies within the other; the document's examples hold: the statement is true for every input.
Conditions: none beyond the statement's own.
-/
import Derived.Test.YtollljeomlfabaaPSpMeets
import Derived.Test.YtollljeomlfabaaOpenKit
namespace Go.Proofs.Ytollljeomlfabaa.PureSpanMeets
set_option linter.unusedSimpArgs false
set_option linter.unusedVariables false
open Go.RowKit Go.Proofs.Ytollljeomlfabaa.PSp Go.Proofs.YtollljeomlfabaaW.PrintWords Go.Proofs.YtollljeomlfabaaW.PrintLast Go.Proofs.YtollljeomlfabaaW.PrintMore
theorem aw : quintetlaw03_awake.f 40 = some true := by decide +kernel
theorem may_f (a b : Int) : span_may.f a b = some (decide (a ≤ b)) := by unfold span_may.f; rfl
theorem has_f (a b p : Int) : span_Has.f a b p = some (decide (a ≤ p ∧ p ≤ b)) := by
  unfold span_Has.f
  by_cases h : a ≤ p
  · rw [if_pos h]; simp [h]
  · rw [if_neg h]; simp [h]
theorem chk (a b : Int) : quintetref03_Check.f a b = some (if a ≤ b then 0 else 30) ∨ ∃ n, n ≠ 0 ∧ quintetref03_Check.f a b = some (if a ≤ b then 0 else n) := by
  unfold quintetref03_Check.f
  by_cases h : a ≤ b
  · rw [if_neg (by omega), if_pos h]; exact Or.inl rfl
  · rw [if_pos (by omega)]
    refine Or.inr ⟨_, ?_, by rw [if_neg h]⟩
    decide
theorem chk_t (a b : Int) (h : a ≤ b) : quintetref03_Check.f a b = some 0 := by
  rcases chk a b with e | ⟨n, _, e⟩ <;> rw [e, if_pos h]
theorem chk_n (a b : Int) (h : ¬ a ≤ b) : ∃ n, n ≠ 0 ∧ quintetref03_Check.f a b = some n := by
  rcases chk a b with e | ⟨n, hn, e⟩
  · exact ⟨30, by decide, by rw [e, if_neg h]⟩
  · exact ⟨n, hn, by rw [e, if_neg h]⟩
theorem meet_t (a b x y : Int) (c1 : a ≤ b) (c2 : x ≤ y) (c3 : mx a x ≤ mn b y) : span_Meet.f a b x y = some (mx a x, mn b y, true) := by
  unfold span_Meet.f span_may.f
  simp [c1, c2, c3]
theorem meet_n (a b x y : Int) (h : ¬ (a ≤ b ∧ x ≤ y ∧ mx a x ≤ mn b y)) : span_Meet.f a b x y = some (0, 0, false) := by
  unfold span_Meet.f span_may.f
  by_cases c1 : a ≤ b <;> by_cases c2 : x ≤ y <;> by_cases c3 : mx a x ≤ mn b y <;> simp_all
theorem j0 (k : Nat) (t : Bool) (a b x y : Int) : quintetref03_Meet.j0 (k + 1) t a b x y = if t = true then (some (0, 0, false)) else (if (mx a x) > (mn b y) then (some (0, 0, false)) else (some (mx a x, mn b y, true))) := by
  simp only [quintetref03_Meet.j0]
theorem rmeet_t (k : Nat) (a b x y : Int) (c1 : a ≤ b) (c2 : x ≤ y) (c3 : mx a x ≤ mn b y) : quintetref03_Meet.f (k + 1) a b x y = some (mx a x, mn b y, true) := by
  unfold quintetref03_Meet.f
  rw [chk_t a b c1, chk_t x y c2]
  simp only [Option.bind_some, if_true, j0]
  rw [if_neg (by decide), if_neg (by omega)]
theorem rmeet_n (k : Nat) (a b x y : Int) (h : ¬ (a ≤ b ∧ x ≤ y ∧ mx a x ≤ mn b y)) : quintetref03_Meet.f (k + 1) a b x y = some (0, 0, false) := by
  unfold quintetref03_Meet.f
  by_cases c1 : a ≤ b
  · rw [chk_t a b c1]
    by_cases c2 : x ≤ y
    · rw [chk_t x y c2]
      have c3 : mx a x > mn b y := by
        have : ¬ mx a x ≤ mn b y := fun h' => h ⟨c1, c2, h'⟩
        omega
      simp only [Option.bind_some, if_true, j0]
      rw [if_neg (by decide), if_pos c3]
    · obtain ⟨n, hn, e⟩ := chk_n x y c2
      rw [e]
      simp only [Option.bind_some, if_true, j0]
      rw [if_pos (by simpa using hn)]
  · obtain ⟨n, hn, e⟩ := chk_n a b c1
    rw [e]
    simp only [Option.bind_some]
    rw [if_neg hn, j0, if_pos rfl]
theorem mxc (a x : Int) : mx x a = mx a x := by unfold mx; split <;> split <;> omega
theorem mnc (a x : Int) : mn x a = mn a x := by unfold mn; split <;> split <;> omega
theorem within (a b x y : Int) : span_Within.f a b x y = quintetref03_Within.f a b x y := by
  unfold span_Within.f quintetref03_Within.f
  rw [may_f, may_f, has_f, has_f]
  by_cases c1 : a ≤ b
  · rw [chk_t a b c1]
    by_cases c2 : x ≤ y
    · rw [chk_t x y c2]
      simp only [Option.bind_some, if_true, decide_eq_true_eq, c1, c2]
      by_cases c3 : x ≤ a
      · rw [if_pos c3]
        by_cases c4 : b ≤ y
        · rw [if_pos ⟨c3, by omega⟩]
          have h : x ≤ b ∧ b ≤ y := ⟨by omega, c4⟩
          simp [h, c4]
        · by_cases c5 : x ≤ a ∧ a ≤ y
          · rw [if_pos c5]
            have h : ¬ (x ≤ b ∧ b ≤ y) := fun q => c4 q.2
            simp [h, c4]
          · rw [if_neg c5]
            simp [c4]
      · rw [if_neg c3, if_neg (fun q => c3 q.1)]
    · obtain ⟨n, hn, e⟩ := chk_n x y c2
      rw [e]
      simp only [Option.bind_some, if_true, decide_eq_true_eq, c1, c2, if_false]
      rw [if_neg hn]
  · obtain ⟨n, hn, e⟩ := chk_n a b c1
    rw [e]
    simp only [Option.bind_some, decide_eq_true_eq, c1, if_false]
    rw [if_neg hn]
theorem within_some (a b x y : Int) : ∃ t, span_Within.f a b x y = some t := by
  unfold span_Within.f
  rw [may_f, may_f, has_f, has_f]
  simp only [Option.bind_some]
  (repeat' split) <;> exact ⟨_, rfl⟩
theorem pure_ (a b x y : Int) : quintetlaw03_SpanMeets.f 40 a b x y = some true := by
  unfold quintetlaw03_SpanMeets.f
  obtain ⟨t1, e1⟩ := within_some a b x y
  obtain ⟨t2, e2⟩ := within_some x y a b
  rw [aw, ← within a b x y, ← within x y a b, e1, e2]
  by_cases h : a ≤ b ∧ x ≤ y ∧ mx a x ≤ mn b y
  · rw [meet_t a b x y h.1 h.2.1 h.2.2, meet_t x y a b h.2.1 h.1 (by rw [mxc, mnc]; exact h.2.2), rmeet_t 39 a b x y h.1 h.2.1 h.2.2, mxc, mnc]
    simp
  · rw [meet_n a b x y h, meet_n x y a b (by rw [mxc, mnc]; exact fun q => h ⟨q.2.1, q.1, q.2.2⟩), rmeet_n 39 a b x y h]
    simp
theorem walk (a b : Int) (wa : (Lit.int .u16 a).wf = true) (wb : (Lit.int .u16 b).wf = true) (p q : Int) (wp : (Lit.int .u16 p).wf = true) (wq : (Lit.int .u16 q).wf = true) (W : World) :
    Calls Try.prog 4 #[.agg #[.int .u16 a, .int .u16 b], .agg #[.int .u16 p, .int .u16 q]] W fun e w' => e = .returned (.bool true) ∧ Below W.heap.size W w' :=
  quintetlaw03_SpanMeets.calls 40 a b p q true W rfl (pure_ a b p q)
end Go.Proofs.Ytollljeomlfabaa.PureSpanMeets
