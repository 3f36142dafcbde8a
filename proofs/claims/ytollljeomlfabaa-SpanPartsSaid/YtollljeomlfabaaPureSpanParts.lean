/-
SpanParts: for any two spans and a port: what is left of the first one and what it shares with the second have as many ports as it, and each of its ports is in just one of them; the document's examples hold: the statement is true for every input.
Conditions: none beyond the statement's own.
-/
import Derived.Test.YtollljeomlfabaaPSpParts
import Derived.Test.YtollljeomlfabaaOpenKit
namespace Go.Proofs.Ytollljeomlfabaa.PureSpanParts
set_option linter.unusedSimpArgs false
set_option linter.unusedVariables false
open Go.RowKit Go.Proofs.Ytollljeomlfabaa.PSp Go.Proofs.YtollljeomlfabaaW.PrintWords Go.Proofs.YtollljeomlfabaaW.PrintLast Go.Proofs.YtollljeomlfabaaW.PrintMore
theorem aw : quintetlaw03_awake.f 40 = some true := by decide +kernel
theorem aw_ge (k : Nat) (h : 40 ≤ k) : quintetlaw03_awake.f k = some true := by
  obtain ⟨d, rfl⟩ : ∃ d, k = 40 + d := ⟨k - 40, by omega⟩
  clear h
  induction d with
  | zero => exact aw
  | succ d ih => exact quintetlaw03_awake.mono (40 + d) _ ih
def cnt (s : S24) : Int := if s.f0 ≤ s.f1 then s.f1 - s.f0 + 1 else 0
def has (s : S24) (p : Int) : Bool := decide (s.f0 ≤ p ∧ p ≤ s.f1)
def one (b : Bool) : Int := if b = true then 1 else 0
def Ok (s : S24) : Prop := 0 ≤ s.f0 ∧ s.f0 ≤ 65535 ∧ 0 ≤ s.f1 ∧ s.f1 ≤ 65535
theorem count_f (a b : Int) (h : Ok ⟨a, b⟩) : span_Count.f a b = some (cnt ⟨a, b⟩) := by
  obtain ⟨h0, h1, h2, h3⟩ := h
  dsimp only at *
  unfold span_Count.f cnt mx wrap64
  dsimp only
  congr 1
  split <;> split <;> omega
theorem has_f (a b p : Int) : span_Has.f a b p = some (has ⟨a, b⟩ p) := by
  unfold span_Has.f has
  dsimp only
  by_cases h : a ≤ p
  · rw [if_pos h]; simp [h]
  · rw [if_neg h]; simp [h]
theorem cnt_le (s : S24) (h : Ok s) : 0 ≤ cnt s ∧ cnt s ≤ 65536 := by
  obtain ⟨h0, h1, h2, h3⟩ := h
  unfold cnt
  split <;> omega
def sumc : List S24 → Int
  | [] => 0
  | s :: l => cnt s + sumc l
def sumh (p : Int) : List S24 → Int
  | [] => 0
  | s :: l => one (has s p) + sumh p l
def fin (N C a b p : Int) : Option Bool := if N = cnt ⟨a, b⟩ then (if ((C == 1) == has ⟨a, b⟩ p) = true then some (decide (C ≤ 1)) else some false) else some false
theorem j0_eq (k : Nat) (p : Int) (xs : List S24) (n c a b : Int) : quintetlaw03_SpanParts.j0 (k + 1) p xs n c a b = quintetlaw03_SpanParts.l0 k p xs n c 0 a b := by
  simp only [quintetlaw03_SpanParts.j0]
theorem l0_eq (k : Nat) (x2 : Int) (x7 : List S24) (x10 x11 x12 x277000 x277001 : Int) : quintetlaw03_SpanParts.l0 (k + 1) x2 x7 x10 x11 x12 x277000 x277001 = if x12 < (x7.length : Int) then (if 0 ≤ x12 then ((span_Count.f ((rd_T24 x7 x12).f0) ((rd_T24 x7 x12).f1)).bind fun t291 => ((span_Has.f ((rd_T24 x7 x12).f0) ((rd_T24 x7 x12).f1) x2).bind fun t293 => (if t293 = true then (quintetlaw03_SpanParts.l0 k x2 x7 (wrap64 (x10 + t291)) (wrap64 (x11 + 1)) (wrap64 (x12 + 1)) x277000 x277001) else (quintetlaw03_SpanParts.l0 k x2 x7 (wrap64 (x10 + t291)) x11 (wrap64 (x12 + 1)) x277000 x277001)))) else (none)) else ((quintetlaw03_awake.f k).bind fun t287 => (if t287 = true then ((span_Count.f x277000 x277001).bind fun t288 => (if x10 = t288 then ((span_Has.f x277000 x277001 x2).bind fun t289 => (if ((x11 == 1) == t289) = true then (some (decide (x11 ≤ 1))) else (some false))) else (some false))) else (some false))) := by
  simp only [quintetlaw03_SpanParts.l0]
theorem loop (p a b : Int) (hab : Ok ⟨a, b⟩) (xs : List S24) (hx : ∀ s ∈ xs, Ok s) (hl : xs.length ≤ 3) : ∀ (d : Nat) (i : Nat) (k : Nat) (n c : Int), xs.length - i = d → i ≤ xs.length → 0 ≤ n → n ≤ 65536 * (i + 1) → 0 ≤ c → c ≤ i + 1 → d + 41 ≤ k →
    quintetlaw03_SpanParts.l0 k p xs n c i a b = fin (n + sumc (xs.drop i)) (c + sumh p (xs.drop i)) a b p := by
  intro d
  induction d with
  | zero =>
    intro i k n c hd hi h0 h1 h2 h3 hk
    obtain ⟨k, rfl⟩ : ∃ m, k = m + 1 := ⟨k - 1, by omega⟩
    have hi' : i = xs.length := by omega
    rw [l0_eq]
    rw [if_neg (by omega), aw_ge k (by omega), count_f a b hab, has_f, hi', List.drop_length]
    simp [sumc, sumh, fin]
  | succ d ih =>
    intro i k n c hd hi h0 h1 h2 h3 hk
    obtain ⟨k, rfl⟩ : ∃ m, k = m + 1 := ⟨k - 1, by omega⟩
    have hlt : i < xs.length := by omega
    obtain ⟨s, hs⟩ : ∃ s, s = xs[i] := ⟨_, rfl⟩
    have hrd : rd_T24 xs (i : Int) = s := by simp [rd_T24, hlt, hs]
    have hok : Ok s := by rw [hs]; exact hx xs[i] (List.getElem_mem hlt)
    have hok' : Ok ⟨s.f0, s.f1⟩ := hok
    have hc := cnt_le _ hok
    rw [l0_eq]
    rw [if_pos (by omega), if_pos (by omega), hrd, count_f _ _ hok', has_f]
    simp only [Option.bind_some]
    have e1 : wrap64 (n + cnt s) = n + cnt s := by unfold wrap64; omega
    have e2 : wrap64 (c + 1) = c + 1 := by unfold wrap64; omega
    have e3 : wrap64 ((i : Int) + 1) = ((i + 1 : Nat) : Int) := by unfold wrap64; omega
    have e4 : (⟨s.f0, s.f1⟩ : S24) = s := rfl
    rw [e4, e1, e2, e3, List.drop_eq_getElem_cons hlt, ← hs]
    clear e1 e2 e3 e4 hrd
    simp only [sumc, sumh]
    by_cases hb : has s p = true
    · rw [if_pos hb, ih (i + 1) k (n + cnt s) (c + 1) (by omega) (by omega) (by omega) (by omega) (by omega) (by omega) (by omega), hb]
      simp only [one, if_true]
      congr 1 <;> omega
    · rw [if_neg hb, ih (i + 1) k (n + cnt s) c (by omega) (by omega) (by omega) (by omega) (by omega) (by omega) (by omega)]
      have hb' : has s p = false := by simpa using hb
      rw [hb']
      simp only [one, Bool.false_eq_true, if_false]
      congr 1 <;> omega
theorem loop0 (p a b : Int) (hab : Ok ⟨a, b⟩) (xs : List S24) (hx : ∀ s ∈ xs, Ok s) (hl : xs.length ≤ 3) (n c : Int) (h0 : 0 ≤ n) (h1 : n ≤ 65536) (h2 : 0 ≤ c) (h3 : c ≤ 1) :
    quintetlaw03_SpanParts.j0 60 p xs n c a b = fin (n + sumc xs) (c + sumh p xs) a b p := by
  have h := loop p a b hab xs hx hl xs.length 0 59 n c (by omega) (by omega) h0 (by omega) h2 (by omega) (by omega)
  rw [j0_eq]
  simpa using h
theorem less_f (a b x y : Int) (ha : Ok ⟨a, b⟩) (hx : Ok ⟨x, y⟩) : span_Less.f a b x y = some (if a ≤ b then (if x ≤ y ∧ mx a x ≤ mn b y then
      (if a < mx a x then (if mn b y < b then [⟨a, mx a x - 1⟩, ⟨mn b y + 1, b⟩] else [⟨a, mx a x - 1⟩]) else (if mn b y < b then [⟨mn b y + 1, b⟩] else [])) else [⟨a, b⟩]) else []) := by
  obtain ⟨h0, h1, h2, h3⟩ := ha
  obtain ⟨g0, g1, g2, g3⟩ := hx
  dsimp only at *
  unfold span_Less.f span_Meet.f span_may.f
  simp only [Option.bind_some, decide_eq_true_eq]
  by_cases c1 : a ≤ b
  · rw [if_pos c1, if_pos c1]
    by_cases c2 : x ≤ y
    · rw [if_pos c1, if_pos c2]
      by_cases c3 : mx a x ≤ mn b y
      · have hm1 : 0 ≤ mx a x - 1 ∨ ¬ a < mx a x := by unfold mx; split <;> omega
        have hm2 : mn b y + 1 ≤ 65535 ∨ ¬ mn b y < b := by unfold mn; split <;> omega
        have hb1 : 0 ≤ mx a x ∧ mx a x ≤ 65535 := by unfold mx; split <;> omega
        have hb2 : 0 ≤ mn b y ∧ mn b y ≤ 65535 := by unfold mn; split <;> omega
        rw [if_pos c3, if_pos ⟨c2, c3⟩]
        simp only [Option.bind_some, if_true]
        by_cases c4 : a < mx a x
        · have e1 : IntKind.u16.wrap (mx a x - 1) = mx a x - 1 := by simp [IntKind.wrap, IntKind.bits, IntKind.signed]; omega
          rw [if_pos c4, if_pos c4, e1]
          by_cases c5 : mn b y < b
          · have e2 : IntKind.u16.wrap (mn b y + 1) = mn b y + 1 := by simp [IntKind.wrap, IntKind.bits, IntKind.signed]; omega
            rw [if_pos c5, e2]
            simp [c5]
          · rw [if_neg c5]
            simp [c5]
        · rw [if_neg c4, if_neg c4]
          by_cases c5 : mn b y < b
          · have e2 : IntKind.u16.wrap (mn b y + 1) = mn b y + 1 := by simp [IntKind.wrap, IntKind.bits, IntKind.signed]; omega
            rw [if_pos c5, if_pos c5, e2]
            simp
          · rw [if_neg c5, if_neg c5]
      · rw [if_neg c3, if_neg (fun h => c3 h.2)]
        simp
    · rw [if_pos c1, if_neg c2, if_neg (fun h => c2 h.1)]
      simp
  · rw [if_neg c1, if_neg c1]
theorem meet_t (a b x y : Int) (c1 : a ≤ b) (c2 : x ≤ y) (c3 : mx a x ≤ mn b y) : span_Meet.f a b x y = some (mx a x, mn b y, true) := by
  unfold span_Meet.f span_may.f
  simp [c1, c2, c3]
theorem meet_n (a b x y : Int) (h : ¬ (a ≤ b ∧ x ≤ y ∧ mx a x ≤ mn b y)) : span_Meet.f a b x y = some (0, 0, false) := by
  unfold span_Meet.f span_may.f
  by_cases c1 : a ≤ b <;> by_cases c2 : x ≤ y <;> by_cases c3 : mx a x ≤ mn b y <;> simp_all
theorem fin_true {N C a b p : Int} (h1 : N = cnt ⟨a, b⟩) (h2 : C = one (has ⟨a, b⟩ p)) : fin N C a b p = some true := by
  unfold fin
  rw [if_pos h1, h2]
  cases has ⟨a, b⟩ p <;> simp [one]
theorem pure_ (a b x y p : Int) (ha : Ok ⟨a, b⟩) (hx : Ok ⟨x, y⟩) : quintetlaw03_SpanParts.f 60 a b x y p = some true := by
  unfold quintetlaw03_SpanParts.f
  rw [less_f a b x y ha hx]
  simp only [Option.bind_some]
  obtain ⟨h0, h1, h2, h3⟩ := id ha
  obtain ⟨g0, g1, g2, g3⟩ := id hx
  dsimp only at h0 h1 h2 h3 g0 g1 g2 g3
  by_cases c1 : a ≤ b
  · by_cases c2 : x ≤ y ∧ mx a x ≤ mn b y
    · have hM : Ok ⟨mx a x, mn b y⟩ := by unfold Ok mx mn; dsimp only; (repeat' split) <;> omega
      have hmx : a ≤ mx a x := by unfold mx; split <;> omega
      have hmn : mn b y ≤ b := by unfold mn; split <;> omega
      have hcm := cnt_le _ hM
      have hcc : mx a x ≤ mn b y := c2.2
      rw [if_pos c1, if_pos c2, meet_t a b x y c1 c2.1 c2.2]
      simp only [Option.bind_some, if_true]
      rw [count_f _ _ hM, has_f]
      simp only [Option.bind_some]
      clear c2
      generalize mx a x = m at hM hmx hcm hcc ⊢
      generalize mn b y = q at hM hmn hcm hcc ⊢
      have go : ∀ xs : List S24, (∀ s ∈ xs, Ok s) → xs.length ≤ 3 → cnt ⟨m, q⟩ + sumc xs = cnt ⟨a, b⟩ → one (has ⟨m, q⟩ p) + sumh p xs = one (has ⟨a, b⟩ p) →
          (if has ⟨m, q⟩ p = true then quintetlaw03_SpanParts.j0 60 p xs (cnt ⟨m, q⟩) (0 + 1) a b else quintetlaw03_SpanParts.j0 60 p xs (cnt ⟨m, q⟩) 0 a b) = some true := by
        intro xs hok hl e1 e2
        by_cases hb : has ⟨m, q⟩ p = true
        · rw [if_pos hb, loop0 p a b ha xs hok hl _ _ hcm.1 hcm.2 (by omega) (by omega)]
          refine fin_true e1 ?_
          rw [← e2, hb]; rfl
        · rw [if_neg hb, loop0 p a b ha xs hok hl _ _ hcm.1 hcm.2 (by omega) (by omega)]
          refine fin_true e1 ?_
          rw [← e2]
          have hb' : has ⟨m, q⟩ p = false := by simpa using hb
          rw [hb']; rfl
      by_cases c4 : a < m <;> by_cases c5 : q < b <;> simp only [c4, c5, if_true, if_false]
      · refine go _ (by intro s hs; simp at hs; rcases hs with rfl | rfl <;> (unfold Ok; dsimp only; omega)) (by simp) ?_ ?_
        · simp only [sumc, cnt]; (repeat' split) <;> omega
        · simp only [sumh, has, one, decide_eq_true_eq]; (repeat' split) <;> omega
      · refine go _ (by intro s hs; simp at hs; subst hs; unfold Ok; dsimp only; omega) (by simp) ?_ ?_
        · simp only [sumc, cnt]; (repeat' split) <;> omega
        · simp only [sumh, has, one, decide_eq_true_eq]; (repeat' split) <;> omega
      · refine go _ (by intro s hs; simp at hs; subst hs; unfold Ok; dsimp only; omega) (by simp) ?_ ?_
        · simp only [sumc, cnt]; (repeat' split) <;> omega
        · simp only [sumh, has, one, decide_eq_true_eq]; (repeat' split) <;> omega
      · refine go _ (by simp) (by simp) ?_ ?_
        · simp only [sumc, cnt]; (repeat' split) <;> omega
        · simp only [sumh, has, one, decide_eq_true_eq]; (repeat' split) <;> omega
    · rw [if_pos c1, if_neg c2, meet_n a b x y (fun h => c2 h.2)]
      simp only [Option.bind_some, Bool.false_eq_true, if_false]
      rw [loop0 p a b ha _ (by intro s hs; simp at hs; subst hs; exact ha) (by simp) _ _ (by omega) (by omega) (by omega) (by omega)]
      exact fin_true (by simp [sumc]) (by simp [sumh])
  · rw [if_neg c1, meet_n a b x y (fun h => c1 h.1)]
    simp only [Option.bind_some, Bool.false_eq_true, if_false]
    rw [loop0 p a b ha _ (by simp) (by simp) _ _ (by omega) (by omega) (by omega) (by omega)]
    refine fin_true (by simp [sumc, cnt, c1]) ?_
    simp only [sumh, has, one, decide_eq_true_eq]
    split <;> omega
theorem walk (a b : Int) (wa : (Lit.int .u16 a).wf = true) (wb : (Lit.int .u16 b).wf = true) (x y : Int) (wx : (Lit.int .u16 x).wf = true) (wy : (Lit.int .u16 y).wf = true) (p : Int) (wp : (Lit.int .u16 p).wf = true) (W : World) :
    Calls Try.prog 6 #[.agg #[.int .u16 a, .int .u16 b], .agg #[.int .u16 x, .int .u16 y], .int .u16 p] W fun e w' => e = .returned (.bool true) ∧ Below W.heap.size W w' :=
  quintetlaw03_SpanParts.calls 60 a b x y p true W (pure_ a b x y p ⟨(Kit.wf_u16 wa).1, (Kit.wf_u16 wa).2, (Kit.wf_u16 wb).1, (Kit.wf_u16 wb).2⟩ ⟨(Kit.wf_u16 wx).1, (Kit.wf_u16 wx).2, (Kit.wf_u16 wy).1, (Kit.wf_u16 wy).2⟩)
end Go.Proofs.Ytollljeomlfabaa.PureSpanParts
