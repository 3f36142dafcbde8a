/- Keys and paths: a key of some bits is a path, and the walk's order is the keys'. -/
import Derived.Test.YtofjbbfnkefoaaaTrPure1
namespace Go.Proofs.Ytofjbbfnkefoaaa.Tp
set_option linter.unusedVariables false
set_option linter.unusedSimpArgs false
/-- A path's bits, as the first of m bits. -/
def kv : Nat → List Bool → Nat
  | _, [] => 0
  | m, b :: p => (if b = true then 2 ^ (m - 1) else 0) + kv (m - 1) p
/-- The first n of a word's m bits. -/
def pa : Nat → Nat → Nat → List Bool
  | _, _, 0 => []
  | m, k, n + 1 => decide (k / 2 ^ (m - 1) % 2 = 1) :: pa (m - 1) k n
theorem pa_len : ∀ (m k n : Nat), (pa m k n).length = n
  | _, _, 0 => rfl
  | m, k, n + 1 => by rw [pa, List.length_cons, pa_len]
theorem pow_succ' {m : Nat} (h : 0 < m) : 2 ^ m = 2 * 2 ^ (m - 1) := by
  obtain ⟨j, rfl⟩ : ∃ j, m = j + 1 := ⟨m - 1, by omega⟩
  rw [Nat.pow_succ, Nat.mul_comm]; rfl
theorem kv_lt : ∀ (m : Nat) (p : List Bool), p.length ≤ m → kv m p < 2 ^ m
  | m, [], _ => Nat.two_pow_pos m
  | m, b :: p, h => by
    rw [List.length_cons] at h
    have := kv_lt (m - 1) p (by omega)
    have := pow_succ' (m := m) (by omega)
    rw [kv]
    split <;> omega
theorem kv_app : ∀ (m : Nat) (q s : List Bool), kv m (q ++ s) = kv m q + kv (m - q.length) s
  | m, [], s => by simp [kv]
  | m, b :: q, s => by
    rw [List.cons_append, kv, kv, kv_app (m - 1) q s, List.length_cons, show m - (q.length + 1) = m - 1 - q.length by omega]
    omega
theorem mod_step (k m : Nat) (h : 0 < m) : k % 2 ^ m = k % 2 ^ (m - 1) + 2 ^ (m - 1) * (k / 2 ^ (m - 1) % 2) := by
  rw [pow_succ' h, Nat.mul_comm 2, Nat.mod_mul]
theorem kv_pa : ∀ (n m k : Nat), n ≤ m → kv m (pa m k n) + k % 2 ^ (m - n) = k % 2 ^ m
  | 0, m, k, _ => by simp [pa, kv]
  | n + 1, m, k, h => by
    have ih := kv_pa n (m - 1) k (by omega)
    have hs := mod_step k m (by omega)
    rw [show m - 1 - n = m - (n + 1) by omega] at ih
    rw [pa, kv, hs]
    have h2 : k / 2 ^ (m - 1) % 2 < 2 := Nat.mod_lt _ (by omega)
    by_cases e : k / 2 ^ (m - 1) % 2 = 1
    · rw [if_pos (by simpa using e), e]; omega
    · rw [if_neg (by simpa using e), show k / 2 ^ (m - 1) % 2 = 0 by omega]; omega
theorem pa_shift : ∀ (n m a k : Nat), n ≤ m → pa m (a * 2 ^ m + k) n = pa m k n
  | 0, _, _, _, _ => rfl
  | n + 1, m, a, k, h => by
    have e : a * 2 ^ m = (a * 2) * 2 ^ (m - 1) := by rw [pow_succ' (m := m) (by omega), Nat.mul_assoc]
    rw [pa, pa, e, pa_shift n (m - 1) (a * 2) k (by omega), Nat.add_comm (a * 2 * _), Nat.add_mul_div_right _ _ (Nat.two_pow_pos _)]
    have : (k / 2 ^ (m - 1) + a * 2) % 2 = k / 2 ^ (m - 1) % 2 := by omega
    rw [this]
theorem pa_kv : ∀ (p : List Bool) (m : Nat), p.length ≤ m → pa m (kv m p) p.length = p
  | [], _, _ => rfl
  | b :: p, m, h => by
    rw [List.length_cons] at h
    have hl := kv_lt (m - 1) p (by omega)
    have ih := pa_kv p (m - 1) (by omega)
    rw [List.length_cons, pa, kv]
    cases b
    · rw [if_neg (by decide), Nat.zero_add, Nat.div_eq_of_lt hl, ih]; rfl
    · have hs := pa_shift p.length (m - 1) 1 (kv (m - 1) p) (by omega)
      rw [Nat.one_mul] at hs
      rw [if_pos rfl, hs, ih, Nat.add_comm, Nat.add_div_right _ (Nat.two_pow_pos _), Nat.div_eq_of_lt hl]
      rfl
theorem kv_inj {m : Nat} {p q : List Bool} (hp : p.length ≤ m) (hq : q.length ≤ m) (hl : p.length = q.length) (he : kv m p = kv m q) : p = q := by
  rw [← pa_kv p m hp, ← pa_kv q m hq, hl, he]
theorem kv_mod (m : Nat) (p : List Bool) (hp : p.length ≤ m) : kv m p % 2 ^ (m - p.length) = 0 := by
  have h1 := kv_pa p.length m (kv m p) hp
  rw [pa_kv p m hp, Nat.mod_eq_of_lt (kv_lt m p hp)] at h1
  omega
theorem pa_take : ∀ (n j m k : Nat), j ≤ n → (pa m k n).take j = pa m k j
  | n, 0, m, k, _ => by simp [pa]
  | 0, j + 1, _, _, h => by omega
  | n + 1, j + 1, m, k, h => by rw [pa, pa, List.take_succ_cons, pa_take n j (m - 1) k (by omega)]
/-- A path begins a word's just if the word's first bits are the path's key. -/
theorem pre_pa {m k : Nat} {p : List Bool} (hp : p.length ≤ m) (hk : k < 2 ^ m) : (p.isPrefixOf (pa m k m) = true) ↔ k / 2 ^ (m - p.length) = kv m p / 2 ^ (m - p.length) := by
  rw [List.isPrefixOf_iff_prefix, List.prefix_iff_eq_take, pa_take m p.length m k hp]
  have h1 := kv_pa p.length m k hp
  rw [Nat.mod_eq_of_lt hk] at h1
  have h2 := kv_mod m p hp
  have h3 := Nat.div_add_mod k (2 ^ (m - p.length))
  have h4 := Nat.div_add_mod (kv m p) (2 ^ (m - p.length))
  have hpos := Nat.two_pow_pos (m - p.length)
  constructor
  · intro e
    rw [← e] at h1
    have : 2 ^ (m - p.length) * (k / 2 ^ (m - p.length)) = 2 ^ (m - p.length) * (kv m p / 2 ^ (m - p.length)) := by omega
    exact Nat.eq_of_mul_eq_mul_left hpos this
  · intro e
    rw [e] at h3
    exact kv_inj hp (by rw [pa_len]; exact hp) (by rw [pa_len]) (by omega)
theorem pa_bits : ∀ (n m k j : Nat), j < n → (pa m k n)[j]? = some (decide (k / 2 ^ (m - 1 - j) % 2 = 1))
  | n + 1, m, k, 0, _ => by simp [pa]
  | n + 1, m, k, j + 1, h => by
    rw [pa, List.getElem?_cons_succ, pa_bits n (m - 1) k j (by omega), show m - 1 - 1 - j = m - 1 - (j + 1) by omega]
/-! ### The depth; the order of what is held -/
def Tr.Dp : Nat → Tr → Prop
  | _, .nil => True
  | 0, .node _ l r => l = .nil ∧ r = .nil
  | m + 1, .node _ l r => l.Dp m ∧ r.Dp m
theorem Tr.Dp.get : ∀ (m : Nat) (t : Tr) (p : List Bool), t.Dp m → Tr.get p t ≠ none → p.length ≤ m
  | m, .nil, p, _, h => absurd (Tr.get_nil p) h
  | m, .node x l r, [], _, _ => Nat.zero_le _
  | 0, .node x l r, b :: p, d, h => by
    obtain ⟨rfl, rfl⟩ := d
    refine absurd ?_ h
    rw [Tr.get]
    cases b <;> exact Tr.get_nil p
  | m + 1, .node x l r, b :: p, d, h => by
    have hd : ((Tr.node x l r).sub b).Dp m := by
      cases b
      · exact d.1
      · exact d.2
    have := Tr.Dp.get m ((Tr.node x l r).sub b) p hd h
    rw [List.length_cons]; omega
theorem Tr.Dp.put (v : Int) : ∀ (m : Nat) (p : List Bool) (t : Tr), t.Dp m → p.length ≤ m → (Tr.put v p t).Dp m
  | 0, [], .nil, d, _ => ⟨rfl, rfl⟩
  | m + 1, [], .nil, d, _ => ⟨by cases m <;> exact True.intro, by cases m <;> exact True.intro⟩
  | 0, [], .node x l r, d, _ => d
  | m + 1, [], .node x l r, d, _ => d
  | 0, b :: p, t, d, h => by simp at h
  | m + 1, b :: p, .nil, d, h => by
    have ih := Tr.Dp.put v m p .nil (by cases m <;> exact True.intro) (by simpa using h)
    have hn : Tr.nil.Dp m := by cases m <;> exact True.intro
    cases b
    · exact ⟨ih, hn⟩
    · exact ⟨hn, ih⟩
  | m + 1, b :: p, .node x l r, d, h => by
    cases b
    · exact ⟨Tr.Dp.put v m p l d.1 (by simpa using h), d.2⟩
    · exact ⟨d.1, Tr.Dp.put v m p r d.2 (by simpa using h)⟩
theorem Tr.dp_nil (m : Nat) : Tr.nil.Dp m := by cases m <;> exact True.intro
theorem Tr.dp_mk {m : Nat} {x : Option Int} {l r : Tr} (h : (Tr.node x l r).Dp m) : (Tr.mk x l r).Dp m := by
  unfold Tr.mk
  split
  · exact Tr.dp_nil m
  · exact h
theorem Tr.cut_nil (p : List Bool) : Tr.cut p .nil = .nil := by
  induction p with
  | nil => rfl
  | cons b p ih => rw [Tr.cut, Tr.sub_nil, ih]; cases b <;> rfl
theorem Tr.Dp.cut : ∀ (m : Nat) (p : List Bool) (t : Tr), t.Dp m → (Tr.cut p t).Dp m
  | m, p, .nil, d => by rw [Tr.cut_nil]; exact d
  | 0, [], .node x l r, d => Tr.dp_mk (m := 0) d
  | m + 1, [], .node x l r, d => Tr.dp_mk (m := m + 1) (x := none) d
  | 0, b :: p, .node x l r, d => by
    obtain ⟨rfl, rfl⟩ := d
    rw [Tr.cut]
    cases b
    · exact Tr.dp_mk (m := 0) (x := x) (l := Tr.cut p .nil) (r := .nil) (by rw [Tr.cut_nil]; exact ⟨rfl, rfl⟩)
    · exact Tr.dp_mk (m := 0) (x := x) (l := .nil) (r := Tr.cut p .nil) (by rw [Tr.cut_nil]; exact ⟨rfl, rfl⟩)
  | m + 1, b :: p, .node x l r, d => by
    rw [Tr.cut]
    cases b
    · exact Tr.dp_mk (m := m + 1) (x := x) (l := Tr.cut p l) (r := r) ⟨Tr.Dp.cut m p l d.1, d.2⟩
    · exact Tr.dp_mk (m := m + 1) (x := x) (l := l) (r := Tr.cut p r) ⟨d.1, Tr.Dp.cut m p r d.2⟩
/-- Before, by the keys' words, then by their lengths. -/
def Bf (w : Nat) (a b : List Bool × Int) : Prop := kv w a.1 < kv w b.1 ∨ kv w a.1 = kv w b.1 ∧ a.1.length < b.1.length
theorem ents_in {w m : Nat} {t : Tr} {q : List Bool} (d : t.Dp m) (hq : q.length + m = w) {e : List Bool × Int} (he : e ∈ t.ents q) : kv w q ≤ kv w e.1 ∧ kv w e.1 < kv w q + 2 ^ m ∧ q.length ≤ e.1.length ∧ e.1.length ≤ w := by
  obtain ⟨p, v⟩ := e
  obtain ⟨s, rfl, hs⟩ := (Tr.mem_ents t q p v).1 he
  have hl := d.get m t s (by rw [hs]; simp)
  have hk := kv_lt m s hl
  have ha := kv_app w q s
  rw [show w - q.length = m by omega] at ha
  simp only [List.length_append]
  omega
theorem ents_sorted {w : Nat} : ∀ (t : Tr) (m : Nat) (q : List Bool), t.Dp m → q.length + m = w → (t.ents q).Pairwise (Bf w)
  | .nil, m, q, _, _ => List.Pairwise.nil
  | .node x l r, m, q, d, hq => by
    have hd : ∀ y, y ∈ Tr.hdE x q → ∃ v, y = (q, v) := by
      intro y hy
      cases x with
      | none => cases hy
      | some v => exact ⟨v, by simpa [Tr.hdE] using hy⟩
    cases m with
    | zero =>
      obtain ⟨rfl, rfl⟩ := d
      cases x <;> simp [Tr.ents, Tr.hdE]
    | succ m =>
      have ql : ∀ b : Bool, (q ++ [b]).length + m = w := fun b => by simp; omega
      have h1 := ents_sorted l m (q ++ [false]) d.1 (ql _)
      have h2 := ents_sorted r m (q ++ [true]) d.2 (ql _)
      have k0 : kv w (q ++ [false]) = kv w q := by rw [kv_app]; simp [kv]
      have k1 : kv w (q ++ [true]) = kv w q + 2 ^ m := by
        rw [kv_app, show w - q.length = m + 1 by omega]
        simp [kv]
      have hpos := Nat.two_pow_pos m
      rw [Tr.ents, List.pairwise_append, List.pairwise_append]
      refine ⟨by cases x <;> simp [Tr.hdE], ⟨h1, h2, fun a ha b hb => ?_⟩, fun a ha b hb => ?_⟩
      · have ia := ents_in d.1 (ql _) ha
        have ib := ents_in d.2 (ql _) hb
        exact .inl (by omega)
      · obtain ⟨v, rfl⟩ := hd a ha
        rcases List.mem_append.1 hb with hb | hb
        · have ib := ents_in d.1 (ql _) hb
          rw [List.length_append] at ib
          have : kv w q ≤ kv w b.1 := by omega
          rcases Nat.lt_or_eq_of_le this with e | e
          · exact .inl e
          · exact .inr ⟨e, by simp at ib ⊢; omega⟩
        · have ib := ents_in d.2 (ql _) hb
          exact .inl (by simp only; omega)
end Go.Proofs.Ytofjbbfnkefoaaa.Tp
