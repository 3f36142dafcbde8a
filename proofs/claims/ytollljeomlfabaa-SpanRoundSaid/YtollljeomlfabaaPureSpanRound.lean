/-
SpanRound: for any list of spans (of 16-bit words) and any port: the gaps of the gaps are the union, the union is its own union, each port is in just one of both, and they hold all ports together; the document's examples hold: the statement is true for every input.
Conditions: none beyond the statement's own.
-/
import Derived.Test.YtollljeomlfabaaPSpx9
import Derived.Test.YtollljeomlfabaaOpenKit
namespace Go.Proofs.Ytollljeomlfabaa.PureSpanRound
set_option linter.unusedSimpArgs false
set_option linter.unusedVariables false
open Go.RowKit Go.Proofs.Ytollljeomlfabaa.PSp Go.Proofs.YtollljeomlfabaaW.PrintWords Go.Proofs.YtollljeomlfabaaW.PrintLast Go.Proofs.YtollljeomlfabaaW.PrintMore
theorem aw : quintetlaw03_awake.f 40 = some true := by decide +kernel
theorem aw_ge (k : Nat) (h : 40 ≤ k) : quintetlaw03_awake.f k = some true := by
  obtain ⟨d, rfl⟩ : ∃ d, k = 40 + d := ⟨k - 40, by omega⟩
  clear h
  induction d with
  | zero => exact aw
  | succ d ih => exact quintetlaw03_awake.mono (40 + d) _ ih
def cnt (s : S24) : Int := if s.f0 ≤ s.f1 then s.f1 - s.f0 + 1 else 0
def has (s : S24) (p : Int) : Bool := decide (s.f0 ≤ p ∧ p ≤ s.f1)
def one (b : Bool) : Int := if b = true then 1 else 0
def Ok (s : S24) : Prop := 0 ≤ s.f0 ∧ s.f0 ≤ 65535 ∧ 0 ≤ s.f1 ∧ s.f1 ≤ 65535
theorem count_f (a b : Int) (h : Ok ⟨a, b⟩) : span_Count.f a b = some (cnt ⟨a, b⟩) := by
  obtain ⟨h0, h1, h2, h3⟩ := h
  dsimp only at *
  unfold span_Count.f cnt mx wrap64
  dsimp only
  congr 1
  split <;> split <;> omega
theorem has_f (a b p : Int) : span_Has.f a b p = some (has ⟨a, b⟩ p) := by
  unfold span_Has.f has
  dsimp only
  by_cases h : a ≤ p
  · rw [if_pos h]; simp [h]
  · rw [if_neg h]; simp [h]
theorem may_f (a b : Int) : span_may.f a b = some (decide (a ≤ b)) := by unfold span_may.f; rfl
theorem cnt_le (s : S24) (h : Ok s) : 0 ≤ cnt s ∧ cnt s ≤ 65536 := by
  obtain ⟨h0, h1, h2, h3⟩ := h
  unfold cnt
  split <;> omega
def sumc : List S24 → Int
  | [] => 0
  | s :: l => cnt s + sumc l
def sumh (p : Int) : List S24 → Int
  | [] => 0
  | s :: l => one (has s p) + sumh p l
theorem rd (xs : List S24) (i : Nat) (h : i < xs.length) : rd_T24 xs (i : Int) = xs[i] := by simp [rd_T24, h]
theorem wr (i : Nat) (h : i < 4611686018427387904) : wrap64 ((i : Int) + 1) = ((i + 1 : Nat) : Int) := by unfold wrap64; omega
theorem ws (x : Int) (h : -4611686018427387904 ≤ x) (h' : x < 4611686018427387904) : wrap64 x = x := by unfold wrap64; omega

/-! the union's loop -/
def un : S24 → List S24 → List S24
  | t, [] => [t]
  | t, s :: l => if s.f0 ≤ s.f1 then (if s.f0 ≤ t.f1 + 1 then un ⟨t.f0, mx t.f1 s.f1⟩ l else t :: un s l) else un t l
def un0 : List S24 → List S24
  | [] => []
  | s :: l => if s.f0 ≤ s.f1 then un s l else un0 l
theorem l0_eq (k : Nat) (x4 x16 : List S24) (x17 x18 : Int) : span_Union.l0 (k + 1) x4 x16 x17 x18 = if x18 < x17 then (if 0 ≤ x18 then (if x18 < (x16.length : Int) then ((span_may.f ((rd_T24 x16 x18).f0) ((rd_T24 x16 x18).f1)).bind fun t104 => (if t104 = true then (if (x4.length : Int) > 0 then (if 0 ≤ (wrap64 ((x4.length : Int) - 1)) then (if (wrap64 ((x4.length : Int) - 1)) < (x4.length : Int) then (if (wrap64 ((rd_T24 x16 x18).f0)) ≤ (wrap64 ((wrap64 ((rd_T24 x4 (wrap64 ((x4.length : Int) - 1))).f1)) + 1)) then (span_Union.l0 k (x4.set ((wrap64 ((x4.length : Int) - 1)) : Int).toNat (⟨(rd_T24 x4 (wrap64 ((x4.length : Int) - 1))).f0, mx ((rd_T24 x4 (wrap64 ((x4.length : Int) - 1))).f1) ((rd_T24 x16 x18).f1)⟩ : S24)) x16 x17 (wrap64 (x18 + 1))) else (if x4.length < 35184372088832 then (span_Union.l0 k (x4 ++ [(⟨(rd_T24 x16 x18).f0, (rd_T24 x16 x18).f1⟩ : S24)]) x16 x17 (wrap64 (x18 + 1))) else (none))) else (none)) else (none)) else (if x4.length < 35184372088832 then (span_Union.l0 k (x4 ++ [(⟨(rd_T24 x16 x18).f0, (rd_T24 x16 x18).f1⟩ : S24)]) x16 x17 (wrap64 (x18 + 1))) else (none))) else (span_Union.l0 k x4 x16 x17 (wrap64 (x18 + 1))))) else (none)) else (none)) else (some x4) := by
  simp only [span_Union.l0]
theorem loop1 (xs : List S24) (hx : ∀ s ∈ xs, Ok s) (hl : xs.length ≤ 4194304) : ∀ (d i k : Nat) (ini : List S24) (t : S24), xs.length - i = d → i ≤ xs.length → d + 1 ≤ k → ini.length ≤ i → Ok t →
    span_Union.l0 k (ini ++ [t]) xs (xs.length : Int) i = some (ini ++ un t (xs.drop i)) := by
  intro d
  induction d with
  | zero =>
    intro i k ini t hd hi hk hn ht
    obtain ⟨k, rfl⟩ : ∃ m, k = m + 1 := ⟨k - 1, by omega⟩
    have hi' : i = xs.length := by omega
    rw [l0_eq, if_neg (by omega), hi', List.drop_length]
    rfl
  | succ d ih =>
    intro i k ini t hd hi hk hn ht
    obtain ⟨k, rfl⟩ : ∃ m, k = m + 1 := ⟨k - 1, by omega⟩
    have hlt : i < xs.length := by omega
    obtain ⟨s, hs⟩ : ∃ s, s = xs[i] := ⟨_, rfl⟩
    have hrd : rd_T24 xs (i : Int) = s := by rw [rd xs i hlt, hs]
    have hok : Ok s := by rw [hs]; exact hx xs[i] (List.getElem_mem hlt)
    have e1 : wrap64 (((ini ++ [t]).length : Int) - 1) = (ini.length : Int) := by rw [ws _ (by rw [List.length_append, List.length_singleton]; omega) (by rw [List.length_append, List.length_singleton]; omega), List.length_append, List.length_singleton]; omega
    have e2 : rd_T24 (ini ++ [t]) (ini.length : Int) = t := by rw [rd _ _ (by simp)]; simp
    have e3 : ∀ y, (ini ++ [t]).set ((ini.length : Int)).toNat y = ini ++ [y] := by intro y; simp
    have hg : ((ini ++ [t]).length : Int) > 0 := by rw [List.length_append, List.length_singleton]; omega
    have hg2 : (ini.length : Int) < ((ini ++ [t]).length : Int) := by rw [List.length_append, List.length_singleton]; omega
    have hg3 : (ini ++ [t]).length < 35184372088832 := by rw [List.length_append, List.length_singleton]; omega
    obtain ⟨s0, s1, s2, s3⟩ := id hok
    obtain ⟨t0, t1, t2, t3⟩ := id ht
    rw [l0_eq, if_pos (by omega), if_pos (by omega), if_pos (by omega), hrd, may_f, List.drop_eq_getElem_cons hlt, ← hs, wr i (by omega), e1, e2, e3]
    clear hrd e1 e2 e3
    have e5 : (⟨s.f0, s.f1⟩ : S24) = s := rfl
    rw [e5, ws s.f0 (by omega) (by omega), ws t.f1 (by omega) (by omega), ws (t.f1 + 1) (by omega) (by omega)]
    simp only [Option.bind_some, decide_eq_true_eq, un]
    by_cases c1 : s.f0 ≤ s.f1
    · rw [if_pos c1, if_pos c1, if_pos hg, if_pos (by omega), if_pos hg2]
      by_cases c2 : s.f0 ≤ t.f1 + 1
      · rw [if_pos c2, if_pos c2]
        refine ih (i + 1) k ini _ (by omega) (by omega) (by omega) (by omega) ?_
        refine ⟨t0, t1, ?_, ?_⟩
        · show 0 ≤ mx t.f1 s.f1; unfold mx; split <;> omega
        · show mx t.f1 s.f1 ≤ 65535; unfold mx; split <;> omega
      · rw [if_neg c2, if_neg c2, if_pos hg3, ih (i + 1) k (ini ++ [t]) s (by omega) (by omega) (by omega) (by simp; omega) hok]
        simp
    · rw [if_neg c1, if_neg c1]
      exact ih (i + 1) k ini t (by omega) (by omega) (by omega) (by omega) ht
theorem loop0 (xs : List S24) (hx : ∀ s ∈ xs, Ok s) (hl : xs.length ≤ 4194304) : ∀ (d i k : Nat), xs.length - i = d → i ≤ xs.length → d + 1 ≤ k →
    span_Union.l0 k [] xs (xs.length : Int) i = some (un0 (xs.drop i)) := by
  intro d
  induction d with
  | zero =>
    intro i k hd hi hk
    obtain ⟨k, rfl⟩ : ∃ m, k = m + 1 := ⟨k - 1, by omega⟩
    have hi' : i = xs.length := by omega
    rw [l0_eq, if_neg (by omega), hi', List.drop_length]
    rfl
  | succ d ih =>
    intro i k hd hi hk
    obtain ⟨k, rfl⟩ : ∃ m, k = m + 1 := ⟨k - 1, by omega⟩
    have hlt : i < xs.length := by omega
    obtain ⟨s, hs⟩ : ∃ s, s = xs[i] := ⟨_, rfl⟩
    have hrd : rd_T24 xs (i : Int) = s := by rw [rd xs i hlt, hs]
    have hok : Ok s := by rw [hs]; exact hx xs[i] (List.getElem_mem hlt)
    rw [l0_eq, if_pos (by omega), if_pos (by omega), if_pos (by omega), hrd, may_f, List.drop_eq_getElem_cons hlt, ← hs, wr i (by omega)]
    clear hrd
    have e5 : (⟨s.f0, s.f1⟩ : S24) = s := rfl
    rw [e5]
    simp only [Option.bind_some, decide_eq_true_eq, un0]
    by_cases c1 : s.f0 ≤ s.f1
    · rw [if_pos c1, if_pos c1, if_neg (by simp), if_pos (by simp), loop1 xs hx hl d (i + 1) k [] s (by omega) (by omega) (by omega) (by simp) hok]
      simp
    · rw [if_neg c1, if_neg c1]
      exact ih (i + 1) k (by omega) (by omega) (by omega)
def Nm : Int → List S24 → Prop
  | _, [] => True
  | lo, s :: l => lo ≤ s.f0 ∧ s.f0 ≤ s.f1 ∧ s.f1 ≤ 65535 ∧ Nm (s.f1 + 2) l
theorem Nm.le {a b : Int} (h : b ≤ a) : ∀ {l}, Nm a l → Nm b l
  | [], _ => trivial
  | s :: l, ⟨h1, h2, h3, h4⟩ => ⟨by omega, h2, h3, h4⟩
theorem Nm.ok : ∀ {l} {a : Int}, 0 ≤ a → Nm a l → ∀ s ∈ l, Ok s
  | [], _, _, _ => by simp
  | s :: l, a, ha, ⟨h1, h2, h3, h4⟩ => by
    intro x hx
    rcases List.mem_cons.1 hx with rfl | hx
    · exact ⟨by omega, by omega, by omega, h3⟩
    · exact Nm.ok (by omega) h4 x hx
theorem un_nm : ∀ (l : List S24) (t : S24) (lo : Int), (∀ s ∈ l, Ok s) → lo ≤ t.f0 → t.f0 ≤ t.f1 → t.f1 ≤ 65535 → Nm lo (un t l)
  | [], t, lo, _, h1, h2, h3 => ⟨h1, h2, h3, trivial⟩
  | s :: l, t, lo, h, h1, h2, h3 => by
    have hs := h s (by simp)
    have hl := fun x hx => h x (List.mem_cons_of_mem _ hx)
    obtain ⟨s0, s1, s2, s3⟩ := hs
    unfold un
    by_cases c1 : s.f0 ≤ s.f1
    · rw [if_pos c1]
      by_cases c2 : s.f0 ≤ t.f1 + 1
      · rw [if_pos c2]
        refine un_nm l _ lo hl h1 ?_ ?_
        · show t.f0 ≤ mx t.f1 s.f1; unfold mx; split <;> omega
        · show mx t.f1 s.f1 ≤ 65535; unfold mx; split <;> omega
      · rw [if_neg c2]
        exact ⟨h1, h2, h3, un_nm l s _ hl (by omega) c1 s3⟩
    · rw [if_neg c1]
      exact un_nm l t lo hl h1 h2 h3
theorem un0_nm : ∀ (l : List S24), (∀ s ∈ l, Ok s) → Nm 0 (un0 l)
  | [], _ => trivial
  | s :: l, h => by
    have hs := h s (by simp)
    have hl := fun x hx => h x (List.mem_cons_of_mem _ hx)
    obtain ⟨s0, s1, s2, s3⟩ := hs
    unfold un0
    by_cases c1 : s.f0 ≤ s.f1
    · rw [if_pos c1]; exact un_nm l s 0 hl s0 c1 s3
    · rw [if_neg c1]; exact un0_nm l hl
theorem un_self : ∀ (l : List S24) (t : S24), Nm (t.f1 + 2) l → un t l = t :: l
  | [], t, _ => rfl
  | s :: l, t, ⟨h1, h2, h3, h4⟩ => by
    unfold un
    rw [if_pos h2, if_neg (by omega), un_self l s h4]
theorem un0_self : ∀ (l : List S24) (lo : Int), Nm lo l → un0 l = l
  | [], _, _ => rfl
  | s :: l, _, ⟨h1, h2, h3, h4⟩ => by
    unfold un0
    rw [if_pos h2, un_self l s h4]
theorem un_len : ∀ (l : List S24) (t : S24), (un t l).length ≤ l.length + 1
  | [], t => by simp [un]
  | s :: l, t => by
    unfold un
    have a := un_len l ⟨t.f0, mx t.f1 s.f1⟩
    have b := un_len l s
    have c := un_len l t
    (repeat' split) <;> simp <;> omega
theorem un0_len : ∀ (l : List S24), (un0 l).length ≤ l.length
  | [] => by simp [un0]
  | s :: l => by
    unfold un0
    have b := un_len l s
    have c := un0_len l
    split <;> simp <;> omega
theorem sort_self : ∀ (l : List S24) (lo : Int), Nm lo l → span_Union.sort l = l
  | [], _, _ => rfl
  | s :: l, _, ⟨h1, h2, h3, h4⟩ => by
    unfold span_Union.sort
    rw [sort_self l _ h4]
    cases l with
    | nil => rfl
    | cons y l =>
      unfold span_Union.ins
      have e := (span_Union.nlt (x := y) (y := s)).mpr (Or.inl (by have := h4.1; omega))
      rw [if_neg (by rw [e]; simp)]
theorem union_f (l : List S24) (hx : ∀ s ∈ l, Ok s) (hl : l.length ≤ 4194304) (k : Nat) (hk : l.length + 1 ≤ k) : span_Union.f k l = some (un0 (span_Union.sort l)) := by
  unfold span_Union.f span_Union.g
  rw [if_pos (by omega)]
  have h := loop0 (span_Union.sort l) (fun s hs => hx s ((span_Union.sort_perm l).mem_iff.1 hs)) (by rw [span_Union.sort_length]; exact hl) _ 0 k rfl (by omega) (by rw [span_Union.sort_length]; omega)
  simpa using h
/-- The union, from the list. -/
def uni (l : List S24) : List S24 := un0 (span_Union.sort l)
theorem uni_nm (l : List S24) (hx : ∀ s ∈ l, Ok s) : Nm 0 (uni l) := un0_nm _ (fun s hs => hx s ((span_Union.sort_perm l).mem_iff.1 hs))
theorem uni_self (l : List S24) (h : Nm 0 l) : uni l = l := by unfold uni; rw [sort_self l 0 h, un0_self l 0 h]
theorem uni_len (l : List S24) : (uni l).length ≤ l.length := by have := un0_len (span_Union.sort l); rw [span_Union.sort_length] at this; exact this

/-! the gaps -/
def gp : Int → List S24 → List S24
  | a, [] => if a < 65536 then [⟨a, 65535⟩] else []
  | a, s :: l => if a < s.f0 then ⟨a, s.f0 - 1⟩ :: gp (s.f1 + 1) l else gp (s.f1 + 1) l
theorem g0_eq (k : Nat) (x3 : List S24) (x4 : Int) (x8 : List S24) (x9 x10 : Int) : span_Gaps.l0 (k + 1) x3 x4 x8 x9 x10 = if x10 < x9 then (if 0 ≤ x10 then (if x10 < (x8.length : Int) then (if x4 < (wrap64 ((rd_T24 x8 x10).f0)) then (if x3.length < 35184372088832 then (span_Gaps.l0 k (x3 ++ [(⟨IntKind.u16.wrap (x4), IntKind.u16.wrap (((rd_T24 x8 x10).f0) - 1)⟩ : S24)]) (wrap64 ((wrap64 ((rd_T24 x8 x10).f1)) + 1)) x8 x9 (wrap64 (x10 + 1))) else (none)) else (span_Gaps.l0 k x3 (wrap64 ((wrap64 ((rd_T24 x8 x10).f1)) + 1)) x8 x9 (wrap64 (x10 + 1)))) else (none)) else (none)) else (if x4 < 65536 then (if x3.length < 35184372088832 then (some (x3 ++ [(⟨IntKind.u16.wrap (x4), 65535⟩ : S24)])) else (none)) else (some x3)) := by
  simp only [span_Gaps.l0]
theorem w16 (x : Int) (h : 0 ≤ x) (h' : x ≤ 65535) : IntKind.u16.wrap x = x := by simp [IntKind.wrap, IntKind.bits, IntKind.signed]; omega
theorem gloop (xs : List S24) (hx : ∀ s ∈ xs, Ok s) (hl : xs.length ≤ 4194304) : ∀ (d i k : Nat) (out : List S24) (a : Int), xs.length - i = d → i ≤ xs.length → d + 1 ≤ k → out.length ≤ i → 0 ≤ a → a ≤ 65536 →
    span_Gaps.l0 k out a xs (xs.length : Int) i = some (out ++ gp a (xs.drop i)) := by
  intro d
  induction d with
  | zero =>
    intro i k out a hd hi hk hn h0 h1
    obtain ⟨k, rfl⟩ : ∃ m, k = m + 1 := ⟨k - 1, by omega⟩
    have hi' : i = xs.length := by omega
    rw [g0_eq, if_neg (by omega), hi', List.drop_length]
    simp only [gp]
    by_cases c : a < 65536
    · rw [if_pos c, if_pos (by omega), if_pos c, w16 a h0 (by omega)]
    · rw [if_neg c, if_neg c]; simp
  | succ d ih =>
    intro i k out a hd hi hk hn h0 h1
    obtain ⟨k, rfl⟩ : ∃ m, k = m + 1 := ⟨k - 1, by omega⟩
    have hlt : i < xs.length := by omega
    obtain ⟨s, hs⟩ : ∃ s, s = xs[i] := ⟨_, rfl⟩
    have hrd : rd_T24 xs (i : Int) = s := by rw [rd xs i hlt, hs]
    have hok : Ok s := by rw [hs]; exact hx xs[i] (List.getElem_mem hlt)
    obtain ⟨s0, s1, s2, s3⟩ := id hok
    rw [g0_eq, if_pos (by omega), if_pos (by omega), if_pos (by omega), hrd, List.drop_eq_getElem_cons hlt, ← hs, wr i (by omega), ws s.f0 (by omega) (by omega), ws s.f1 (by omega) (by omega), ws (s.f1 + 1) (by omega) (by omega)]
    clear hrd
    unfold gp
    by_cases c : a < s.f0
    · rw [if_pos c, if_pos (by omega), if_pos c, w16 a h0 (by omega), w16 (s.f0 - 1) (by omega) (by omega), ih (i + 1) k _ _ (by omega) (by omega) (by omega) (by simp; omega) (by omega) (by omega)]
      simp
    · rw [if_neg c, if_neg c, ih (i + 1) k _ _ (by omega) (by omega) (by omega) (by omega) (by omega) (by omega)]
theorem gaps_f (l : List S24) (hx : ∀ s ∈ l, Ok s) (hl : l.length ≤ 4194304) (k : Nat) (hk : l.length + 1 ≤ k) : span_Gaps.f k l = some (gp 0 (uni l)) := by
  unfold span_Gaps.f
  have hu := uni_len l
  rw [union_f l hx hl k hk]
  have h := gloop (uni l) (Nm.ok (Int.le_refl 0) (uni_nm l hx)) (by omega) _ 0 k [] 0 rfl (by omega) (by omega) (by simp) (by omega) (by omega)
  simpa [uni] using h
theorem gp_nm : ∀ (l : List S24) (a : Int), 0 ≤ a → Nm a l → Nm a (gp a l)
  | [], a, h0, _ => by
    unfold gp
    split
    · exact ⟨Int.le_refl _, by show a ≤ 65535; omega, Int.le_refl _, trivial⟩
    · trivial
  | s :: l, a, h0, ⟨h1, h2, h3, h4⟩ => by
    have ih := gp_nm l (s.f1 + 1) (by omega) (h4.le (by omega))
    unfold gp
    split
    · exact ⟨Int.le_refl _, by show a ≤ s.f0 - 1; omega, by show s.f0 - 1 ≤ 65535; omega, ih.le (by show s.f0 - 1 + 2 ≤ _; omega)⟩
    · exact ih.le (by omega)
theorem gp_gp : ∀ (l : List S24) (a b : Int), b < a → 0 ≤ a → a ≤ 65536 → Nm (a + 1) l → gp b (gp a l) = ⟨b, a - 1⟩ :: l
  | [], a, b, hb, h0, h1, _ => by
    by_cases c : a < 65536
    · have e : gp a [] = [⟨a, 65535⟩] := by simp only [gp]; rw [if_pos c]
      rw [e]
      simp only [gp]
      rw [if_pos hb, if_neg (by omega)]
    · have e : gp a [] = [] := by simp only [gp]; rw [if_neg c]
      rw [e]
      simp only [gp]
      rw [if_pos (by omega)]
      have : a - 1 = 65535 := by omega
      rw [this]
  | s :: l, a, b, hb, h0, h1, ⟨g1, g2, g3, g4⟩ => by
    have ih := gp_gp l (s.f1 + 1) s.f0 (by omega) (by omega) (by omega) (g4.le (by omega))
    have e : s.f0 - 1 + 1 = s.f0 := by omega
    have e2 : s.f1 + 1 - 1 = s.f1 := by omega
    have e3 : gp a (s :: l) = ⟨a, s.f0 - 1⟩ :: gp (s.f1 + 1) l := by
      conv => lhs; unfold gp
      rw [if_pos (by omega)]
    rw [e3]
    conv => lhs; unfold gp
    simp only
    rw [if_pos hb, e, ih, e2]
theorem gp_back (l : List S24) (h : Nm 0 l) : gp 0 (gp 0 l) = l := by
  cases l with
  | nil => decide
  | cons s l =>
    obtain ⟨h1, h2, h3, h4⟩ := h
    have e : s.f0 - 1 + 1 = s.f0 := by omega
    have e2 : s.f1 + 1 - 1 = s.f1 := by omega
    have h5 : Nm (s.f1 + 1 + 1) l := by
      have e : s.f1 + 1 + 1 = s.f1 + 2 := by omega
      rw [e]; exact h4
    by_cases c : 0 < s.f0
    · have e3 : gp 0 (s :: l) = ⟨0, s.f0 - 1⟩ :: gp (s.f1 + 1) l := by
        conv => lhs; unfold gp
        rw [if_pos c]
      rw [e3]
      conv => lhs; unfold gp
      simp only
      rw [if_neg (by omega), e, gp_gp l (s.f1 + 1) s.f0 (by omega) (by omega) (by omega) h5, e2]
    · have e3 : gp 0 (s :: l) = gp (s.f1 + 1) l := by
        conv => lhs; unfold gp
        rw [if_neg c]
      rw [e3, gp_gp l (s.f1 + 1) 0 (by omega) (by omega) (by omega) h5, e2]
      have : s.f0 = 0 := by omega
      rw [← this]
theorem gp_len : ∀ (l : List S24) (a : Int), (gp a l).length ≤ l.length + 1
  | [], a => by unfold gp; split <;> simp
  | s :: l, a => by
    have := gp_len l (s.f1 + 1)
    unfold gp
    split <;> simp <;> omega
theorem sums : ∀ (l : List S24) (a : Int), 0 ≤ a → a ≤ 65536 → Nm a l → sumc l + sumc (gp a l) = 65536 - a
  | [], a, h0, h1, _ => by
    unfold gp
    split
    · simp only [sumc, cnt]; rw [if_pos (by omega)]; omega
    · simp only [sumc]; omega
  | s :: l, a, h0, h1, ⟨g1, g2, g3, g4⟩ => by
    have ih := sums l (s.f1 + 1) (by omega) (by omega) (g4.le (by omega))
    unfold gp
    have hc : cnt s = s.f1 - s.f0 + 1 := by unfold cnt; rw [if_pos g2]
    split
    · have hd : cnt ⟨a, s.f0 - 1⟩ = s.f0 - a := by unfold cnt; dsimp only; rw [if_pos (by omega)]; omega
      simp only [sumc]
      rw [hc, hd]; omega
    · simp only [sumc]
      rw [hc]; omega
theorem hass : ∀ (l : List S24) (a p : Int), 0 ≤ a → a ≤ 65536 → p ≤ 65535 → Nm a l → sumh p l + sumh p (gp a l) = one (decide (a ≤ p))
  | [], a, p, h0, h1, hp, _ => by
    unfold gp
    simp only [one, decide_eq_true_eq]
    split
    · simp only [sumh, has, one, decide_eq_true_eq]; (repeat' split) <;> omega
    · simp only [sumh]; (repeat' split) <;> omega
  | s :: l, a, p, h0, h1, hp, ⟨g1, g2, g3, g4⟩ => by
    have ih := hass l (s.f1 + 1) p (by omega) (by omega) hp (g4.le (by omega))
    unfold gp
    simp only [one, decide_eq_true_eq] at ih ⊢
    have hc : one (has s p) = if s.f0 ≤ p ∧ p ≤ s.f1 then 1 else 0 := by simp [one, has]
    split
    · have hd : one (has ⟨a, s.f0 - 1⟩ p) = if a ≤ p ∧ p ≤ s.f0 - 1 then 1 else 0 := by simp [one, has]
      simp only [sumh]
      rw [hc, hd]
      generalize sumh p l = u at ih ⊢
      generalize sumh p (gp (s.f1 + 1) l) = v at ih ⊢
      (repeat' split) <;> (repeat' split at ih) <;> omega
    · simp only [sumh]
      rw [hc]
      generalize sumh p l = u at ih ⊢
      generalize sumh p (gp (s.f1 + 1) l) = v at ih ⊢
      (repeat' split) <;> (repeat' split at ih) <;> omega
theorem sumc_nn : ∀ (l : List S24), (∀ s ∈ l, Ok s) → 0 ≤ sumc l
  | [], _ => Int.le_refl _
  | s :: l, h => by
    have a := (cnt_le s (h s (by simp))).1
    have b := sumc_nn l (fun x hx => h x (List.mem_cons_of_mem _ hx))
    simp only [sumc]; omega
theorem one_nn (b : Bool) : 0 ≤ one b ∧ one b ≤ 1 := by cases b <;> simp [one]
theorem sumh_nn (p : Int) : ∀ (l : List S24), 0 ≤ sumh p l
  | [] => Int.le_refl _
  | s :: l => by
    have a := (one_nn (has s p)).1
    have b := sumh_nn p l
    simp only [sumh]; omega

/-! sameness -/
theorem same_l (u : List S24) (hl : u.length ≤ 4194304) : ∀ (d i k : Nat), u.length - i = d → i ≤ u.length → d + 1 ≤ k → quintetref03_Same.l0 k u u i = some true := by
  intro d
  induction d with
  | zero =>
    intro i k hd hi hk
    obtain ⟨k, rfl⟩ : ∃ m, k = m + 1 := ⟨k - 1, by omega⟩
    simp only [quintetref03_Same.l0]
    rw [if_neg (by omega)]
  | succ d ih =>
    intro i k hd hi hk
    obtain ⟨k, rfl⟩ : ∃ m, k = m + 1 := ⟨k - 1, by omega⟩
    simp only [quintetref03_Same.l0]
    rw [if_pos (by omega), if_pos (by omega), if_pos (by omega), if_neg (by simp), wr i (by omega)]
    exact ih (i + 1) k (by omega) (by omega) (by omega)
theorem same_f (u : List S24) (hl : u.length ≤ 4194304) (k : Nat) (hk : u.length + 1 ≤ k) : quintetref03_Same.f k u u = some true := by
  unfold quintetref03_Same.f
  rw [if_pos rfl]
  have h := same_l u hl _ 0 k rfl (by omega) (by omega)
  simpa using h

/-! the law's own loops -/
theorem r0_eq (k : Nat) (x1 : Int) (x5 x6 x7 x8 : List S24) (x9 x10 x11 : Int) : quintetlaw03_SpanRound.l0 (k + 1) x1 x5 x6 x7 x8 x9 x10 x11 = if x11 < (x5.length : Int) then (if 0 ≤ x11 then ((span_Count.f ((rd_T24 x5 x11).f0) ((rd_T24 x5 x11).f1)).bind fun t307 => ((span_Has.f ((rd_T24 x5 x11).f0) ((rd_T24 x5 x11).f1) x1).bind fun t309 => (if t309 = true then (quintetlaw03_SpanRound.l0 k x1 x5 x6 x7 x8 (wrap64 (x9 + 1)) (wrap64 (x10 + t307)) (wrap64 (x11 + 1))) else (quintetlaw03_SpanRound.l0 k x1 x5 x6 x7 x8 x9 (wrap64 (x10 + t307)) (wrap64 (x11 + 1)))))) else (none)) else (quintetlaw03_SpanRound.l1 k x1 x5 x6 x7 x8 x9 x10 0) := by
  simp only [quintetlaw03_SpanRound.l0]
theorem r1_eq (k : Nat) (x1 : Int) (x5 x6 x7 x8 : List S24) (x9 x10 x12 : Int) : quintetlaw03_SpanRound.l1 (k + 1) x1 x5 x6 x7 x8 x9 x10 x12 = if x12 < (x6.length : Int) then (if 0 ≤ x12 then ((span_Count.f ((rd_T24 x6 x12).f0) ((rd_T24 x6 x12).f1)).bind fun t314 => ((span_Has.f ((rd_T24 x6 x12).f0) ((rd_T24 x6 x12).f1) x1).bind fun t316 => (if t316 = true then (quintetlaw03_SpanRound.l1 k x1 x5 x6 x7 x8 (wrap64 (x9 + 1)) (wrap64 (x10 + t314)) (wrap64 (x12 + 1))) else (quintetlaw03_SpanRound.l1 k x1 x5 x6 x7 x8 x9 (wrap64 (x10 + t314)) (wrap64 (x12 + 1)))))) else (none)) else ((quintetlaw03_awake.f k).bind fun t310 => (if t310 = true then ((quintetref03_Same.f k x5 x7).bind fun t311 => (if t311 = true then ((quintetref03_Same.f k x5 x8).bind fun t312 => (if t312 = true then (if x9 = 1 then (some (x10 == 65536)) else (some false)) else (some false))) else (some false))) else (some false))) := by
  simp only [quintetlaw03_SpanRound.l1]
theorem r0 (p : Int) (u g v w : List S24) (hu : ∀ s ∈ u, Ok s) (hl : u.length ≤ 4194304) : ∀ (d i k : Nat) (c n : Int), u.length - i = d → i ≤ u.length → 0 ≤ n → n ≤ 65536 * i → 0 ≤ c → c ≤ i →
    quintetlaw03_SpanRound.l0 (k + d + 1) p u g v w c n i = quintetlaw03_SpanRound.l1 k p u g v w (c + sumh p (u.drop i)) (n + sumc (u.drop i)) 0 := by
  intro d
  induction d with
  | zero =>
    intro i k c n hd hi h0 h1 h2 h3
    have hi' : i = u.length := by omega
    rw [Nat.add_zero, r0_eq, if_neg (by omega), hi', List.drop_length]
    simp [sumc, sumh]
  | succ d ih =>
    intro i k c n hd hi h0 h1 h2 h3
    have hlt : i < u.length := by omega
    obtain ⟨s, hs⟩ : ∃ s, s = u[i] := ⟨_, rfl⟩
    have hrd : rd_T24 u (i : Int) = s := by rw [rd u i hlt, hs]
    have hok : Ok s := by rw [hs]; exact hu u[i] (List.getElem_mem hlt)
    have hc := cnt_le _ hok
    have ek : k + (d + 1) + 1 = k + d + 1 + 1 := by omega
    have e4 : (⟨s.f0, s.f1⟩ : S24) = s := rfl
    rw [ek, r0_eq, if_pos (by omega), if_pos (by omega), hrd, count_f _ _ hok, has_f, e4, List.drop_eq_getElem_cons hlt, ← hs, wr i (by omega)]
    simp only [Option.bind_some]
    rw [ws (n + cnt s) (by omega) (by omega), ws (c + 1) (by omega) (by omega)]
    clear hrd e4 ek
    simp only [sumc, sumh]
    by_cases hb : has s p = true
    · rw [if_pos hb, ih (i + 1) k (c + 1) (n + cnt s) (by omega) (by omega) (by omega) (by omega) (by omega) (by omega), hb]
      simp only [one, if_true]
      congr 1 <;> omega
    · rw [if_neg hb, ih (i + 1) k c (n + cnt s) (by omega) (by omega) (by omega) (by omega) (by omega) (by omega)]
      have hb' : has s p = false := by simpa using hb
      rw [hb']
      simp only [one, Bool.false_eq_true, if_false]
      congr 1 <;> omega
theorem r1 (p : Int) (u g v w : List S24) (hu : ∀ s ∈ g, Ok s) (hl : g.length ≤ 4194304) (hul : u.length ≤ 4194304) (hv : v = u) (hw : w = u) : ∀ (d i k : Nat) (c n : Int), g.length - i = d → i ≤ g.length → 0 ≤ n → n ≤ 65536 * (i + 1) → 0 ≤ c → c ≤ i + 1 → u.length + 41 ≤ k → c + sumh p (g.drop i) = 1 → n + sumc (g.drop i) = 65536 →
    quintetlaw03_SpanRound.l1 (k + d + 1) p u g v w c n i = some true := by
  intro d
  induction d with
  | zero =>
    intro i k c n hd hi h0 h1 h2 h3 hk f1 f2
    have hi' : i = g.length := by omega
    rw [hi', List.drop_length] at f1 f2
    simp only [sumc, sumh] at f1 f2
    rw [Nat.add_zero, r1_eq, if_neg (by omega), aw_ge k (by omega), hv, hw, same_f u hul k (by omega)]
    simp only [Option.bind_some, if_true]
    rw [if_pos (by omega)]
    have : n = 65536 := by omega
    rw [this]; rfl
  | succ d ih =>
    intro i k c n hd hi h0 h1 h2 h3 hk f1 f2
    have hlt : i < g.length := by omega
    obtain ⟨s, hs⟩ : ∃ s, s = g[i] := ⟨_, rfl⟩
    have hrd : rd_T24 g (i : Int) = s := by rw [rd g i hlt, hs]
    have hok : Ok s := by rw [hs]; exact hu g[i] (List.getElem_mem hlt)
    have hc := cnt_le _ hok
    have ek : k + (d + 1) + 1 = k + d + 1 + 1 := by omega
    have e4 : (⟨s.f0, s.f1⟩ : S24) = s := rfl
    rw [List.drop_eq_getElem_cons hlt, ← hs] at f1 f2
    simp only [sumc, sumh] at f1 f2
    rw [ek, r1_eq, if_pos (by omega), if_pos (by omega), hrd, count_f _ _ hok, has_f, e4, wr i (by omega)]
    simp only [Option.bind_some]
    rw [ws (n + cnt s) (by omega) (by omega), ws (c + 1) (by omega) (by omega)]
    clear hrd e4 ek
    by_cases hb : has s p = true
    · rw [hb] at f1
      simp only [one, if_true] at f1
      rw [if_pos hb, ih (i + 1) k (c + 1) (n + cnt s) (by omega) (by omega) (by omega) (by omega) (by omega) (by omega) hk (by omega) (by omega)]
    · have hb' : has s p = false := by simpa using hb
      rw [hb'] at f1
      simp only [one, Bool.false_eq_true, if_false] at f1
      rw [if_neg hb, ih (i + 1) k c (n + cnt s) (by omega) (by omega) (by omega) (by omega) (by omega) (by omega) hk (by omega) (by omega)]
theorem pure_ (l : List S24) (p : Int) (hx : ∀ s ∈ l, Ok s) (h0 : 0 ≤ p) (h1 : p ≤ 65535) : ∃ k, quintetlaw03_SpanRound.f k l p = some true := by
  by_cases hl : (l.length : Int) > 1048576
  · exact ⟨0, by unfold quintetlaw03_SpanRound.f; rw [if_pos hl]⟩
  · have hu := uni_nm l hx
    have hul := uni_len l
    have hgl := gp_len (uni l) 0
    have hg := gp_nm (uni l) 0 (Int.le_refl 0) hu
    have hgo := Nm.ok (Int.le_refl 0) hg
    have huo := Nm.ok (Int.le_refl 0) hu
    have a1 := sums (uni l) 0 (by omega) (by omega) hu
    have a2 := hass (uni l) 0 p (by omega) (by omega) h1 hu
    have b1 := sumc_nn _ hgo
    have b2 := sumh_nn p (gp 0 (uni l))
    have b3 := sumc_nn _ huo
    have b4 := sumh_nn p (uni l)
    have e0 : one (decide (0 ≤ p)) = 1 := by simp [one, h0]
    rw [e0] at a2
    refine ⟨(2 * l.length + 100 + (gp 0 (uni l)).length + 1) + (uni l).length + 1, ?_⟩
    unfold quintetlaw03_SpanRound.f
    rw [if_neg hl, union_f l hx (by omega) _ (by omega), gaps_f l hx (by omega) _ (by omega)]
    simp only [Option.bind_some]
    rw [gaps_f _ hgo (by omega) _ (by omega)]
    simp only [Option.bind_some]
    have eu : un0 (span_Union.sort l) = uni l := rfl
    rw [eu, union_f (uni l) huo (by omega) _ (by omega)]
    simp only [Option.bind_some]
    have ev : un0 (span_Union.sort (uni l)) = uni l := uni_self _ hu
    rw [ev, uni_self _ hg, gp_back _ hu]
    have h := r0 p (uni l) (gp 0 (uni l)) (uni l) (uni l) huo (by omega) (uni l).length 0 (2 * l.length + 100 + (gp 0 (uni l)).length + 1) 0 0 (by omega) (by omega) (by omega) (by omega) (by omega) (by omega)
    have h' := r1 p (uni l) (gp 0 (uni l)) (uni l) (uni l) hgo (by omega) (by omega) rfl rfl (gp 0 (uni l)).length 0 (2 * l.length + 100) (0 + sumh p (uni l)) (0 + sumc (uni l)) (by omega) (by omega) (by omega) (by omega) (by omega) (by omega) (by omega) (by simpa using a2) (by simpa using a1)
    simp only [List.drop_zero, Int.natCast_zero] at h h'
    exact h.trans h'
/-! the arguments -/
def mk (ns : List Int) : S24 := ⟨ns[0]!, ns[1]!⟩
theorem hmk : ∀ ns : List Int, ns.length = [IntKind.u16, IntKind.u16].length → span_Union.cells (mk ns) = List.zipWith Value.int [.u16, .u16] ns := by
  intro ns h
  obtain ⟨a, t, rfl, h1⟩ := Kit.len_succ (n := 1) h
  obtain ⟨b, t, rfl, h2⟩ := Kit.len_succ (n := 0) h1
  obtain rfl := Kit.len_zero h2
  rfl
theorem hK : ∀ (W : World) (x : S24), Kd.K k24 W x (span_Union.cells x) := fun W x => Go.Proofs.Ytollljeomlfabaa.PSp.k24_mk W x
theorem wfs {l : List S24} (h : ∀ x ∈ l, ∃ ns : List Int, x = mk ns ∧ ns.length = [IntKind.u16, IntKind.u16].length ∧ ∀ p ∈ [IntKind.u16, IntKind.u16].zip ns, (Lit.int p.1 p.2).wf = true) : ∀ s ∈ l, Ok s := by
  intro s hs
  obtain ⟨ns, rfl, hl, hw⟩ := h s hs
  obtain ⟨a, t, rfl, h1⟩ := Kit.len_succ (n := 1) hl
  obtain ⟨b, t, rfl, h2⟩ := Kit.len_succ (n := 0) h1
  have ha := Kit.wf_u16 (hw (.u16, a) (by simp))
  have hb := Kit.wf_u16 (hw (.u16, b) (by simp))
  exact ⟨ha.1, ha.2, hb.1, hb.2⟩
theorem walk {W : World} (A : Option Addr) (l : List S24) (c : Nat) (hr : Kd.C k24 W A l.length l) (hc : l.length ≤ c) (hm : c ≤ maxLen) (wf : ∀ x ∈ l, ∃ ns : List Int, x = mk ns ∧ ns.length = [IntKind.u16, IntKind.u16].length ∧ ∀ p ∈ [IntKind.u16, IntKind.u16].zip ns, (Lit.int p.1 p.2).wf = true) (p : Int) (wp : (Lit.int .u16 p).wf = true) :
    Calls Try.prog 7 #[.slice A l.length c, .int .u16 p] W fun e w' => e = .returned (.bool true) ∧ Below W.heap.size W w' := by
  obtain ⟨k, hk⟩ := pure_ l p (wfs wf) (Kit.wf_u16 wp).1 (Kit.wf_u16 wp).2
  exact quintetlaw03_SpanRound.calls k A c l p true W hr hc hk
end Go.Proofs.Ytollljeomlfabaa.PureSpanRound
