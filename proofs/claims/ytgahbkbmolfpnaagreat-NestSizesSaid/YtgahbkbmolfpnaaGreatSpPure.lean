/- Spans: sorted, united, their gaps, the runs of a set of ports (plain laws, no program in sight). -/
import Derived.Test.YtgahbkbmolfpnaaGreatSxRow
namespace Go.Proofs.YtgahbkbmolfpnaaGreat.Sp
open Go
set_option linter.unusedVariables false
set_option linter.unusedSimpArgs false
structure Sp where
  lo : Int
  hi : Int
  deriving DecidableEq, Inhabited
def Sp.enc (s : Sp) : List Value := [.int .u16 s.lo, .int .u16 s.hi]
def Sp.val (s : Sp) : Value := .agg #[.int .u16 s.lo, .int .u16 s.hi]
theorem Sp.len (s : Sp) : s.enc.length = 2 := rfl
theorem Sp.flat (s : Sp) : s.enc.all Sx.flatV = true := rfl
def Ok (s : Sp) : Prop := 0 ≤ s.lo ∧ s.lo ≤ 65535 ∧ 0 ≤ s.hi ∧ s.hi ≤ 65535
def mx (a b : Int) : Int := if a < b then b else a
/-! ### the order -/
def lt (a b : Sp) : Bool := decide (a.lo < b.lo ∨ a.lo = b.lo ∧ a.hi < b.hi)
def cmpS (a b : Sp) : Int := if a = b then 0 else if lt a b = true then -1 else 1
theorem cmp_lt (a b : Sp) : decide (cmpS a b < 0) = lt a b := by
  unfold cmpS
  by_cases h : a = b
  · subst h; simp [lt]
  · rw [if_neg h]
    cases lt a b <;> simp
def ins (x : Sp) : List Sp → List Sp
  | [] => [x]
  | y :: l => if lt y x = true then y :: ins x l else x :: y :: l
def sort : List Sp → List Sp
  | [] => []
  | x :: l => ins x (sort l)
theorem ins_perm (x : Sp) : ∀ l, (ins x l).Perm (x :: l)
  | [] => List.Perm.refl _
  | y :: l => by
    unfold ins
    split
    · exact ((ins_perm x l).cons y).trans (List.Perm.swap x y l)
    · exact List.Perm.refl _
theorem sort_perm : ∀ l, (sort l).Perm l
  | [] => List.Perm.refl _
  | x :: l => (ins_perm x _).trans ((sort_perm l).cons x)
theorem sort_length (l : List Sp) : (sort l).length = l.length := (sort_perm l).length_eq
theorem ltc (x y : Sp) : lt x y = true ↔ (x.lo < y.lo ∨ x.lo = y.lo ∧ x.hi < y.hi) := by simp [lt]
theorem nlt {x y : Sp} : lt x y = false ↔ (y.lo < x.lo ∨ (x.lo = y.lo ∧ y.hi ≤ x.hi)) := by
  simp only [lt, decide_eq_false_iff_not]; omega
theorem ins_sorted (x : Sp) : ∀ l, l.Pairwise (fun a b => lt b a = false) → (ins x l).Pairwise (fun a b => lt b a = false)
  | [], _ => by simp [ins]
  | y :: l, h => by
    rw [List.pairwise_cons] at h
    unfold ins
    split
    · rename_i hlt
      rw [List.pairwise_cons]
      refine ⟨fun z hz => ?_, ins_sorted x l h.2⟩
      rcases List.mem_cons.1 ((ins_perm x l).mem_iff.1 hz) with rfl | hz
      · rw [ltc] at hlt
        rw [nlt]
        omega
      · exact h.1 z hz
    · rename_i hlt
      have hlt' : lt y x = false := by simpa using hlt
      rw [List.pairwise_cons]
      refine ⟨fun z hz => ?_, List.pairwise_cons.2 h⟩
      rcases List.mem_cons.1 hz with rfl | hz
      · exact hlt'
      · have := h.1 z hz
        rw [nlt] at *
        omega
theorem sort_sorted : ∀ l, (sort l).Pairwise (fun a b => lt b a = false)
  | [] => List.Pairwise.nil
  | x :: l => ins_sorted x _ (sort_sorted l)
theorem tot (x y : Sp) (h1 : lt x y = false) (h2 : lt y x = false) : x = y := by
  rw [nlt] at *
  obtain ⟨p, q⟩ := x
  obtain ⟨r, s⟩ := y
  simp only at *
  have e1 : p = r := by omega
  have e2 : q = s := by omega
  rw [e1, e2]
/-- Sorted and a permutation: it's the sort. -/
theorem sort_uniq (l d : List Sp) (hp : d.Perm l) (hs : d.Pairwise (fun a b => lt b a = false)) : d = sort l :=
  (hp.trans (sort_perm l).symm).eq_of_pairwise (fun a b _ _ h1 h2 => (tot a b h2 h1)) hs (sort_sorted l)
/-! ### united -/
def un : Sp → List Sp → List Sp
  | t, [] => [t]
  | t, s :: l => if s.lo ≤ s.hi then (if s.lo ≤ t.hi + 1 then un ⟨t.lo, mx t.hi s.hi⟩ l else t :: un s l) else un t l
def un0 : List Sp → List Sp
  | [] => []
  | s :: l => if s.lo ≤ s.hi then un s l else un0 l
def Nm : Int → List Sp → Prop
  | _, [] => True
  | lo, s :: l => lo ≤ s.lo ∧ s.lo ≤ s.hi ∧ s.hi ≤ 65535 ∧ Nm (s.hi + 2) l
theorem Nm.le {a b : Int} (h : b ≤ a) : ∀ {l}, Nm a l → Nm b l
  | [], _ => trivial
  | s :: l, ⟨h1, h2, h3, h4⟩ => ⟨by omega, h2, h3, h4⟩
theorem Nm.ok : ∀ {l} {a : Int}, 0 ≤ a → Nm a l → ∀ s ∈ l, Ok s
  | [], _, _, _ => by simp
  | s :: l, a, ha, ⟨h1, h2, h3, h4⟩ => by
    intro x hx
    rcases List.mem_cons.1 hx with rfl | hx
    · exact ⟨by omega, by omega, by omega, h3⟩
    · exact Nm.ok (by omega) h4 x hx
theorem un_nm : ∀ (l : List Sp) (t : Sp) (lo : Int), (∀ s ∈ l, Ok s) → lo ≤ t.lo → t.lo ≤ t.hi → t.hi ≤ 65535 → Nm lo (un t l)
  | [], t, lo, _, h1, h2, h3 => ⟨h1, h2, h3, trivial⟩
  | s :: l, t, lo, h, h1, h2, h3 => by
    have hs := h s (by simp)
    have hl := fun x hx => h x (List.mem_cons_of_mem _ hx)
    obtain ⟨s0, s1, s2, s3⟩ := hs
    unfold un
    by_cases c1 : s.lo ≤ s.hi
    · rw [if_pos c1]
      by_cases c2 : s.lo ≤ t.hi + 1
      · rw [if_pos c2]
        refine un_nm l _ lo hl h1 ?_ ?_
        · show t.lo ≤ mx t.hi s.hi; unfold mx; split <;> omega
        · show mx t.hi s.hi ≤ 65535; unfold mx; split <;> omega
      · rw [if_neg c2]
        exact ⟨h1, h2, h3, un_nm l s _ hl (by omega) c1 s3⟩
    · rw [if_neg c1]
      exact un_nm l t lo hl h1 h2 h3
theorem un0_nm : ∀ (l : List Sp), (∀ s ∈ l, Ok s) → Nm 0 (un0 l)
  | [], _ => trivial
  | s :: l, h => by
    have hs := h s (by simp)
    have hl := fun x hx => h x (List.mem_cons_of_mem _ hx)
    obtain ⟨s0, s1, s2, s3⟩ := hs
    unfold un0
    by_cases c1 : s.lo ≤ s.hi
    · rw [if_pos c1]; exact un_nm l s 0 hl s0 c1 s3
    · rw [if_neg c1]; exact un0_nm l hl
theorem un_len : ∀ (l : List Sp) (t : Sp), (un t l).length ≤ l.length + 1
  | [], t => by simp [un]
  | s :: l, t => by
    unfold un
    have a := un_len l ⟨t.lo, mx t.hi s.hi⟩
    have b := un_len l s
    have c := un_len l t
    (repeat' split) <;> simp <;> omega
theorem un0_len : ∀ (l : List Sp), (un0 l).length ≤ l.length
  | [] => by simp [un0]
  | s :: l => by
    unfold un0
    have b := un_len l s
    have c := un0_len l
    split <;> simp <;> omega
def uni (l : List Sp) : List Sp := un0 (sort l)
theorem uni_nm (l : List Sp) (hx : ∀ s ∈ l, Ok s) : Nm 0 (uni l) := un0_nm _ (fun s hs => hx s ((sort_perm l).mem_iff.1 hs))
theorem uni_len (l : List Sp) : (uni l).length ≤ l.length := by have := un0_len (sort l); rw [sort_length] at this; exact this
/-! ### which ports are in -/
def inn : List Sp → Int → Prop
  | [], _ => False
  | s :: l, x => (s.lo ≤ x ∧ x ≤ s.hi) ∨ inn l x
theorem inn_iff {l : List Sp} {x : Int} : inn l x ↔ ∃ s ∈ l, s.lo ≤ x ∧ x ≤ s.hi := by
  induction l with
  | nil => simp [inn]
  | cons s l ih => simp [inn, ih]
theorem inn_append {l m : List Sp} {x : Int} : inn (l ++ m) x ↔ inn l x ∨ inn m x := by
  induction l with
  | nil => simp [inn]
  | cons s l ih => simp [inn, ih, or_assoc]
theorem inn_perm {l m : List Sp} (h : l.Perm m) (x : Int) : inn l x ↔ inn m x := by
  simp only [inn_iff, h.mem_iff]
theorem un_in : ∀ (l : List Sp) (t : Sp) (x : Int), t.lo ≤ t.hi → (∀ s ∈ l, t.lo ≤ s.lo) → l.Pairwise (fun a b => a.lo ≤ b.lo) → (inn (un t l) x ↔ (t.lo ≤ x ∧ x ≤ t.hi) ∨ inn l x)
  | [], t, x, _, _, _ => by simp [un, inn]
  | s :: l, t, x, ht, h0, hp => by
    have h1 := h0 s (by simp)
    have h2 := fun y hy => h0 y (List.mem_cons_of_mem _ hy)
    rw [List.pairwise_cons] at hp
    unfold un
    by_cases c1 : s.lo ≤ s.hi
    · rw [if_pos c1]
      by_cases c2 : s.lo ≤ t.hi + 1
      · rw [if_pos c2, un_in l ⟨t.lo, mx t.hi s.hi⟩ x (by unfold mx; dsimp only; split <;> omega) h2 hp.2]
        simp only [inn, mx]
        by_cases hi : inn l x
        · simp [hi]
        · simp only [hi, or_false]
          split <;> omega
      · rw [if_neg c2]
        simp only [inn]
        rw [un_in l s x c1 hp.1 hp.2]
    · rw [if_neg c1, un_in l t x ht h2 hp.2]
      simp only [inn]
      by_cases hi : inn l x
      · simp [hi]
      · simp only [hi, or_false, false_iff]
        omega
theorem un0_in : ∀ (l : List Sp) (x : Int), l.Pairwise (fun a b => a.lo ≤ b.lo) → (inn (un0 l) x ↔ inn l x)
  | [], x, _ => by simp [un0]
  | s :: l, x, hp => by
    rw [List.pairwise_cons] at hp
    unfold un0
    by_cases c1 : s.lo ≤ s.hi
    · rw [if_pos c1, un_in l s x c1 hp.1 hp.2]; simp [inn]
    · rw [if_neg c1, un0_in l x hp.2]
      simp only [inn]
      by_cases hi : inn l x
      · simp [hi]
      · simp only [hi, or_false, false_iff]
        omega
theorem uni_in (l : List Sp) (x : Int) : inn (uni l) x ↔ inn l x := by
  unfold uni
  rw [un0_in _ x ((sort_sorted l).imp fun h => by rw [nlt] at h; omega), inn_perm (sort_perm l) x]
theorem Nm.low : ∀ {l : List Sp} {a x : Int}, Nm a l → inn l x → a ≤ x
  | s :: l, a, x, ⟨h1, h2, h3, h4⟩, h => by
    rcases h with h | h
    · omega
    · have := Nm.low h4 h; omega
/-- Two lists in the normal form with the same ports are the same. -/
theorem nm_uniq : ∀ (l m : List Sp) (a b : Int), Nm a l → Nm b m → (∀ x, inn l x ↔ inn m x) → l = m
  | [], [], _, _, _, _, _ => rfl
  | [], s :: m, _, _, _, ⟨h1, h2, _, _⟩, h => by
    have := (h s.lo).2 (.inl ⟨Int.le_refl _, h2⟩)
    exact this.elim
  | s :: l, [], _, _, ⟨h1, h2, _, _⟩, _, h => by
    have := (h s.lo).1 (.inl ⟨Int.le_refl _, h2⟩)
    exact this.elim
  | s :: l, t :: m, a, b, ⟨h1, h2, h3, h4⟩, ⟨g1, g2, g3, g4⟩, h => by
    have e1 : s.lo = t.lo := by
      have p1 := (h s.lo).1 (.inl ⟨Int.le_refl _, h2⟩)
      have p2 := (h t.lo).2 (.inl ⟨Int.le_refl _, g2⟩)
      have q1 : t.lo ≤ s.lo := by
        rcases p1 with p | p
        · exact p.1
        · have := Nm.low g4 p; omega
      have q2 : s.lo ≤ t.lo := by
        rcases p2 with p | p
        · exact p.1
        · have := Nm.low h4 p; omega
      omega
    have e2 : s.hi = t.hi := by
      have key : ∀ (s t : Sp) (l m : List Sp), s.lo = t.lo → s.lo ≤ s.hi → t.lo ≤ t.hi → Nm (s.hi + 2) l → (∀ x, inn (s :: l) x ↔ inn (t :: m) x) → t.hi ≤ s.hi := by
        intro s t l m e1 h2 g2 h4 h
        refine Int.not_lt.1 fun hlt => ?_
        have := (h (s.hi + 1)).2 (.inl ⟨by omega, by omega⟩)
        rcases this with p | p
        · omega
        · have := Nm.low h4 p; omega
      have k1 := key s t l m e1 h2 g2 h4 h
      have k2 := key t s m l e1.symm g2 h2 g4 (fun x => (h x).symm)
      omega
    have e : s = t := by
      obtain ⟨p, q⟩ := s
      obtain ⟨r, u⟩ := t
      simp only at e1 e2
      rw [e1, e2]
    subst e
    congr 1
    refine nm_uniq l m _ _ h4 g4 fun x => ⟨fun hx => ?_, fun hx => ?_⟩
    · have hl := Nm.low h4 hx
      rcases (h x).1 (.inr hx) with p | p
      · omega
      · exact p
    · have hl := Nm.low g4 hx
      rcases (h x).2 (.inr hx) with p | p
      · omega
      · exact p
/-! ### the gaps -/
def gp : Int → List Sp → List Sp
  | a, [] => if a < 65536 then [⟨a, 65535⟩] else []
  | a, s :: l => if a < s.lo then ⟨a, s.lo - 1⟩ :: gp (s.hi + 1) l else gp (s.hi + 1) l
theorem gp_nm : ∀ (l : List Sp) (a : Int), 0 ≤ a → Nm a l → Nm a (gp a l)
  | [], a, h0, _ => by
    unfold gp
    split
    · exact ⟨Int.le_refl _, by show a ≤ 65535; omega, Int.le_refl _, trivial⟩
    · trivial
  | s :: l, a, h0, ⟨h1, h2, h3, h4⟩ => by
    have ih := gp_nm l (s.hi + 1) (by omega) (h4.le (by omega))
    unfold gp
    split
    · exact ⟨Int.le_refl _, by show a ≤ s.lo - 1; omega, by show s.lo - 1 ≤ 65535; omega, ih.le (by show s.lo - 1 + 2 ≤ _; omega)⟩
    · exact ih.le (by omega)
theorem gp_len : ∀ (l : List Sp) (a : Int), (gp a l).length ≤ l.length + 1
  | [], a => by unfold gp; split <;> simp
  | s :: l, a => by
    have := gp_len l (s.hi + 1)
    unfold gp
    split <;> simp <;> omega
theorem gp_in : ∀ (l : List Sp) (a x : Int), 0 ≤ a → Nm a l → (inn (gp a l) x ↔ a ≤ x ∧ x ≤ 65535 ∧ ¬ inn l x)
  | [], a, x, h0, _ => by
    unfold gp
    split <;> simp only [inn, or_false, not_false_eq_true, and_true, false_iff] <;> omega
  | s :: l, a, x, h0, ⟨h1, h2, h3, h4⟩ => by
    have ih := gp_in l (s.hi + 1) x (by omega) (h4.le (by omega))
    have hl : inn l x → s.hi + 2 ≤ x := Nm.low h4
    unfold gp
    split
    · simp only [inn]
      rw [ih]
      constructor
      · rintro (h | ⟨q1, q2, q3⟩)
        · refine ⟨h.1, by omega, ?_⟩
          rintro (q | q)
          · omega
          · have := hl q; omega
        · refine ⟨by omega, q2, ?_⟩
          rintro (q | q)
          · omega
          · exact q3 q
      · rintro ⟨q1, q2, q3⟩
        rcases Int.lt_or_le x s.lo with c | c
        · exact .inl ⟨q1, by omega⟩
        · refine .inr ⟨?_, q2, fun q => q3 (.inr q)⟩
          refine Int.not_lt.1 fun c2 => q3 (.inl ⟨c, by omega⟩)
    · rw [ih]
      simp only [inn]
      constructor
      · rintro ⟨q1, q2, q3⟩
        refine ⟨by omega, q2, ?_⟩
        rintro (q | q)
        · omega
        · exact q3 q
      · rintro ⟨q1, q2, q3⟩
        refine ⟨?_, q2, fun q => q3 (.inr q)⟩
        refine Int.not_lt.1 fun c2 => q3 (.inl ⟨by omega, by omega⟩)
/-! ### the runs of a set -/
def addE (l : List Sp) (n : Int) : List Sp := match l.getLast? with
  | some t => l.dropLast ++ [⟨t.lo, n⟩]
  | none => l
def runs (p : Nat → Bool) : Nat → List Sp
  | 0 => []
  | n + 1 => if p n = true then (if 0 < n ∧ p (n - 1) = true then addE (runs p n) n else runs p n ++ [⟨n, n⟩]) else runs p n
theorem nm_snoc : ∀ (l : List Sp) (t : Sp) (a : Int), Nm a (l ++ [t]) ↔ Nm a l ∧ (∀ s ∈ l, s.hi + 2 ≤ t.lo) ∧ a ≤ t.lo ∧ t.lo ≤ t.hi ∧ t.hi ≤ 65535
  | [], t, a => by simp [Nm]
  | s :: l, t, a => by
    simp only [List.cons_append, Nm, nm_snoc l t (s.hi + 2), List.mem_cons, forall_eq_or_imp]
    constructor
    · rintro ⟨h1, h2, h3, h4, h5, h6, h7, h8⟩; exact ⟨⟨h1, h2, h3, h4⟩, ⟨h6, h5⟩, by omega, h7, h8⟩
    · rintro ⟨⟨h1, h2, h3, h4⟩, ⟨h6, h5⟩, _, h7, h8⟩; exact ⟨h1, h2, h3, h4, h5, h6, h7, h8⟩
structure Rn (p : Nat → Bool) (n : Nat) (l : List Sp) : Prop where
  nm : Nm 0 l
  inn : ∀ x, inn l x ↔ ∃ m : Nat, m < n ∧ p m = true ∧ x = m
  last : 0 < n → p (n - 1) = true → ∃ ini t, l = ini ++ [t] ∧ t.hi = (n : Int) - 1
  gap : (n = 0 ∨ p (n - 1) = false) → ∀ s ∈ l, s.hi + 2 ≤ n
theorem addE_snoc (ini : List Sp) (t : Sp) (n : Int) : addE (ini ++ [t]) n = ini ++ [⟨t.lo, n⟩] := by
  simp [addE]
theorem nm_mem : ∀ {l : List Sp} {a : Int}, Nm a l → ∀ s ∈ l, s.lo ≤ s.hi
  | s :: l, a, ⟨h1, h2, h3, h4⟩, x, hx => by
    rcases List.mem_cons.1 hx with rfl | hx
    · exact h2
    · exact nm_mem h4 x hx
theorem runs_rn (p : Nat → Bool) : ∀ n, n ≤ 65536 → Rn p n (runs p n)
  | 0, _ => ⟨trivial, fun x => by simp [runs, inn], fun h => by omega, fun _ s hs => by simp [runs] at hs⟩
  | n + 1, hn => by
    have ih := runs_rn p n (by omega)
    unfold runs
    by_cases hp : p n = true
    · rw [if_pos hp]
      by_cases hq : 0 < n ∧ p (n - 1) = true
      · rw [if_pos hq]
        obtain ⟨ini, t, hl, ht⟩ := ih.last hq.1 hq.2
        rw [hl, addE_snoc]
        have h1 := ih.nm
        rw [hl, nm_snoc] at h1
        obtain ⟨a1, a2, a3, a4, a5⟩ := h1
        refine ⟨?_, fun x => ?_, fun _ _ => ⟨ini, _, rfl, by simp⟩, fun h => ?_⟩
        · rw [nm_snoc]
          exact ⟨a1, a2, a3, by show t.lo ≤ (n : Int); omega, by show (n : Int) ≤ 65535; omega⟩
        · have := ih.inn x
          rw [hl, inn_append] at this
          rw [inn_append]
          simp only [Sp.inn] at this ⊢
          constructor
          · rintro (h | h | h)
            · obtain ⟨m, h1, h2, h3⟩ := this.1 (.inl h)
              exact ⟨m, by omega, h2, h3⟩
            · rcases Int.lt_or_le x n with c | c
              · obtain ⟨m, h1, h2, h3⟩ := this.1 (.inr (.inl ⟨h.1, by omega⟩))
                exact ⟨m, by omega, h2, h3⟩
              · exact ⟨n, by omega, hp, by omega⟩
            · exact h.elim
          · rintro ⟨m, h1, h2, h3⟩
            rcases Nat.lt_or_ge m n with c | c
            · rcases this.2 ⟨m, c, h2, h3⟩ with h | h | h
              · exact .inl h
              · exact .inr (.inl ⟨h.1, by omega⟩)
              · exact h.elim
            · exact .inr (.inl ⟨by omega, by omega⟩)
        · rcases h with h | h
          · omega
          · simp [hp] at h
      · rw [if_neg hq]
        have hg := ih.gap (by
          rcases Nat.eq_zero_or_pos n with c | c
          · exact .inl c
          · refine .inr ?_
            cases hb : p (n - 1)
            · rfl
            · exact absurd ⟨c, hb⟩ hq)
        refine ⟨?_, fun x => ?_, fun _ _ => ⟨runs p n, _, rfl, by simp⟩, fun h => ?_⟩
        · rw [nm_snoc]
          exact ⟨ih.nm, hg, by show (0 : Int) ≤ n; omega, Int.le_refl _, by show (n : Int) ≤ 65535; omega⟩
        · rw [inn_append, ih.inn x]
          simp only [Sp.inn]
          constructor
          · rintro (⟨m, h1, h2, h3⟩ | h | h)
            · exact ⟨m, by omega, h2, h3⟩
            · exact ⟨n, by omega, hp, by omega⟩
            · exact h.elim
          · rintro ⟨m, h1, h2, h3⟩
            rcases Nat.lt_or_ge m n with c | c
            · exact .inl ⟨m, c, h2, h3⟩
            · exact .inr (.inl ⟨by omega, by omega⟩)
        · rcases h with h | h
          · omega
          · simp [hp] at h
    · rw [if_neg hp]
      refine ⟨ih.nm, fun x => ?_, fun _ h => ?_, fun h s hs => ?_⟩
      · rw [ih.inn x]
        constructor
        · rintro ⟨m, h1, h2, h3⟩; exact ⟨m, by omega, h2, h3⟩
        · rintro ⟨m, h1, h2, h3⟩
          have : m ≠ n := fun e => hp (e ▸ h2)
          exact ⟨m, by omega, h2, h3⟩
      · exact absurd h hp
      · have hin := (ih.inn s.hi).1 (inn_iff.2 ⟨s, hs, nm_mem ih.nm s hs, Int.le_refl _⟩)
        obtain ⟨m, h1, _, h3⟩ := hin
        omega
theorem runs_len (p : Nat → Bool) : ∀ n, (runs p n).length ≤ n
  | 0 => by simp [runs]
  | n + 1 => by
    have := runs_len p n
    unfold runs
    split
    · split
      · unfold addE; split
        · rename_i hq t ht
          simp
          have : (runs p n) ≠ [] := by intro e; rw [e] at ht; cases ht
          have := List.length_pos_iff.2 this
          omega
        · omega
      · simp; omega
    · omega
/-- The set that a list's runs are of. -/
theorem runs_eq (p : Nat → Bool) (l : List Sp) (hn : Nm 0 l) (h : ∀ m : Nat, m < 65536 → (p m = true ↔ inn l m)) : runs p 65536 = l := by
  have r := runs_rn p 65536 (by omega)
  refine nm_uniq _ _ 0 0 r.nm hn fun x => ?_
  rw [r.inn x]
  constructor
  · rintro ⟨m, h1, h2, rfl⟩; exact (h m h1).1 h2
  · intro hx
    obtain ⟨s, hs, h1, h2⟩ := inn_iff.1 hx
    have ok := Nm.ok (Int.le_refl 0) hn s hs
    obtain ⟨m, rfl⟩ := Int.eq_ofNat_of_zero_le (show 0 ≤ x by have := ok.1; omega)
    have hm : m < 65536 := by have := ok.2.2.2; omega
    exact ⟨m, hm, (h m hm).2 hx, rfl⟩
end Go.Proofs.YtgahbkbmolfpnaaGreat.Sp
