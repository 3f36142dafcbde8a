/- Stems: the least ones of a set of ports (plain laws, no program in sight). -/
import Derived.Test.YtgahbkbmolfpnaaGreatSpPure
namespace Go.Proofs.YtgahbkbmolfpnaaGreat.Sp
open Go
set_option linter.unusedVariables false
set_option linter.unusedSimpArgs false
structure St where
  bits : Int
  len : Int
  deriving DecidableEq, Inhabited
def St.enc (s : St) : List Value := [.int .u16 s.bits, .int .i64 s.len]
def St.val (s : St) : Value := .agg #[.int .u16 s.bits, .int .i64 s.len]
theorem St.leng (s : St) : s.enc.length = 2 := rfl
theorem St.flat (s : St) : s.enc.all Sx.flatV = true := rfl
def sz (n : Int) : Int := 2 ^ (16 - n).toNat
theorem sz_pos (n : Int) : 0 < sz n := by unfold sz; exact Int.pow_pos (by omega)
theorem sz_dvd {m n : Int} (h : m ≤ n) : sz n ∣ sz m := by
  unfold sz
  obtain ⟨c, hc⟩ : ∃ c : Nat, (16 - m).toNat = (16 - n).toNat + c := ⟨(16 - m).toNat - (16 - n).toNat, by omega⟩
  rw [hc, Int.pow_add]
  exact Int.dvd_mul_right _ _
theorem sz_le {m n : Int} (h : m ≤ n) : sz n ≤ sz m := Int.le_of_dvd (sz_pos m) (sz_dvd h)
theorem sz_half {n : Int} (h : 1 ≤ n) (h2 : n ≤ 16) : sz (n - 1) = 2 * sz n := by
  unfold sz
  have : (16 - (n - 1)).toNat = (16 - n).toNat + 1 := by omega
  rw [this, Int.pow_succ]; omega
theorem sz16 : sz 16 = 1 := rfl
theorem sz0 : sz 0 = 65536 := rfl
theorem sz1 : sz 1 = 32768 := rfl
theorem sz_ge1 (n : Int) : 1 ≤ sz n := by have := sz_pos n; omega
theorem sz_max {n : Int} (h : 0 ≤ n) : sz n ≤ 65536 := by have := sz_le h; rw [sz0] at this; exact this
theorem dvle {d x y : Int} (hx : d ∣ x) (hy : d ∣ y) (h : x < y) : x + d ≤ y := by
  have := Int.le_of_dvd (by omega) (Int.dvd_sub hy hx); omega
def fl (x d : Int) : Int := x - x % d
theorem fl_dvd (x d : Int) : d ∣ fl x d := ⟨x / d, by unfold fl; have := Int.emod_add_mul_ediv x d; omega⟩
theorem fl_le {x d : Int} (h : 0 < d) : fl x d ≤ x ∧ x < fl x d + d := by
  unfold fl
  have h1 := Int.emod_nonneg x (show d ≠ 0 by omega)
  have h2 := Int.emod_lt_of_pos x h
  omega
theorem fl_self {x d : Int} (h : d ∣ x) : fl x d = x := by unfold fl; rw [Int.emod_eq_zero_of_dvd h]; omega
theorem fl_uniq {x d q : Int} (hd : 0 < d) (hq : d ∣ q) (h1 : q ≤ x) (h2 : x < q + d) : fl x d = q := by
  have a := fl_dvd x d
  have b := fl_le (x := x) hd
  rcases Int.lt_trichotomy (fl x d) q with c | c | c
  · have := dvle a hq c; omega
  · exact c
  · have := dvle hq a c; omega
/-- L is the tiling of the ports of p from a on up to b. -/
def Tl (p : Int → Prop) : Int → Int → List St → Prop
  | a, b, [] => ∀ x, a ≤ x → x < b → ¬ p x
  | a, b, t :: L => a ≤ t.bits ∧ t.bits + sz t.len ≤ b ∧ 0 ≤ t.len ∧ t.len ≤ 16 ∧ sz t.len ∣ t.bits ∧ (∀ x, a ≤ x → x < t.bits → ¬ p x) ∧ (∀ x, t.bits ≤ x → x < t.bits + sz t.len → p x) ∧
      (t.len = 0 ∨ ∃ x, fl t.bits (sz (t.len - 1)) ≤ x ∧ x < fl t.bits (sz (t.len - 1)) + sz (t.len - 1) ∧ ¬ p x) ∧ Tl p (t.bits + sz t.len) b L
theorem tl_uniq {p : Int → Prop} : ∀ (L M : List St) (a b : Int), Tl p a b L → Tl p a b M → L = M
  | [], [], _, _, _, _ => rfl
  | [], t :: M, a, b, h, ⟨g1, g2, g3, g4, g5, g6, g7, _⟩ => by
    have := sz_pos t.len
    exact absurd (g7 t.bits (Int.le_refl _) (by omega)) (h _ g1 (by omega))
  | t :: L, [], a, b, ⟨g1, g2, g3, g4, g5, g6, g7, _⟩, h => by
    have := sz_pos t.len
    exact absurd (g7 t.bits (Int.le_refl _) (by omega)) (h _ g1 (by omega))
  | t :: L, u :: M, a, b, ⟨h1, h2, h3, h4, h5, h6, h7, h8, h9⟩, ⟨g1, g2, g3, g4, g5, g6, g7, g8, g9⟩ => by
    have pt := sz_pos t.len
    have pu := sz_pos u.len
    have e1 : t.bits = u.bits := by
      rcases Int.lt_trichotomy t.bits u.bits with c | c | c
      · exact absurd (h7 _ (Int.le_refl _) (by omega)) (g6 _ h1 c)
      · exact c
      · exact absurd (g7 _ (Int.le_refl _) (by omega)) (h6 _ g1 c)
    have key : ∀ t u : St, t.bits = u.bits → 0 ≤ t.len → u.len ≤ 16 → sz t.len ∣ t.bits → (∀ x, t.bits ≤ x → x < t.bits + sz t.len → p x) → (u.len = 0 ∨ ∃ x, fl u.bits (sz (u.len - 1)) ≤ x ∧ x < fl u.bits (sz (u.len - 1)) + sz (u.len - 1) ∧ ¬ p x) → u.len ≤ t.len := by
      intro t u e h3 g4 h5 h7 g8
      refine Int.not_lt.1 fun c => ?_
      rcases g8 with g8 | ⟨x, x1, x2, x3⟩
      · omega
      · have d1 : sz (u.len - 1) ∣ sz t.len := sz_dvd (by omega)
        have d2 : sz (u.len - 1) ∣ u.bits := e ▸ Int.dvd_trans d1 h5
        rw [fl_self d2] at x1 x2
        have d3 := sz_le (show t.len ≤ u.len - 1 by omega)
        exact x3 (h7 x (by omega) (by omega))
    have e2 : t.len = u.len := by
      have k1 := key t u e1 h3 g4 h5 h7 g8
      have k2 := key u t e1.symm g3 h4 g5 g7 h8
      omega
    have e : t = u := by
      obtain ⟨a, b⟩ := t
      obtain ⟨c, d⟩ := u
      simp only at e1 e2
      rw [e1, e2]
    subst e
    rw [tl_uniq L M _ _ h9 g9]
theorem tl_app {p : Int → Prop} : ∀ (L M : List St) (a m b : Int), a ≤ m → m ≤ b → Tl p a m L → Tl p m b M → Tl p a b (L ++ M)
  | [], [], a, m, b, _, _, h, g => fun x h1 h2 => by
    rcases Int.lt_or_le x m with c | c
    · exact h x h1 c
    · exact g x c h2
  | [], t :: M, a, m, b, h0, h0', h, ⟨g1, g2, g3, g4, g5, g6, g7, g8, g9⟩ => by
    refine ⟨by omega, g2, g3, g4, g5, fun x x1 x2 => ?_, g7, g8, g9⟩
    rcases Int.lt_or_le x m with c | c
    · exact h x x1 c
    · exact g6 x c x2
  | t :: L, M, a, m, b, h0, h0', ⟨g1, g2, g3, g4, g5, g6, g7, g8, g9⟩, h => ⟨g1, by omega, g3, g4, g5, g6, g7, g8, tl_app L M _ m b g2 h0' g9 h⟩
/-! ### the stems of a span, one behind the other -/
def upI (at_ hi : Int) : Nat → Int → Int
  | 0, n => n
  | f + 1, n => if n = 0 then n else if at_ % sz (n - 1) ≠ 0 ∨ at_ + sz (n - 1) - 1 > hi then n else upI at_ hi f (n - 1)
def up (at_ hi : Int) : Int := upI at_ hi 17 16
structure Up (at_ hi n : Int) : Prop where
  lo : 0 ≤ n
  hi16 : n ≤ 16
  dvd : sz n ∣ at_
  fits : at_ + sz n - 1 ≤ hi
  max : n = 0 ∨ ¬ sz (n - 1) ∣ at_ ∨ at_ + sz (n - 1) - 1 > hi
theorem upI_up (at_ hi : Int) : ∀ (f : Nat) (n : Int), 0 ≤ n → n < f → n ≤ 16 → sz n ∣ at_ → at_ + sz n - 1 ≤ hi → Up at_ hi (upI at_ hi f n)
  | 0, n, h0, h1, _, _, _ => by omega
  | f + 1, n, h0, h1, h2, h3, h4 => by
    unfold upI
    by_cases c : n = 0
    · rw [if_pos c]; exact ⟨h0, h2, h3, h4, .inl c⟩
    · rw [if_neg c]
      by_cases d : at_ % sz (n - 1) ≠ 0 ∨ at_ + sz (n - 1) - 1 > hi
      · rw [if_pos d]
        exact ⟨h0, h2, h3, h4, .inr (d.imp (fun d e => d (Int.emod_eq_zero_of_dvd e)) id)⟩
      · rw [if_neg d]
        exact upI_up at_ hi f (n - 1) (by omega) (by omega) (by omega) (Int.dvd_of_emod_eq_zero (by omega)) (by omega)
theorem up_up {at_ hi : Int} (h : at_ ≤ hi) : Up at_ hi (up at_ hi) :=
  upI_up at_ hi 17 16 (by omega) (by omega) (by omega) ⟨at_, by rw [sz16]; omega⟩ (by rw [sz16]; omega)
def ofI (hi : Int) : Nat → Int → List St
  | 0, _ => []
  | f + 1, at_ => if at_ ≤ hi then ⟨at_, up at_ hi⟩ :: ofI hi f (at_ + sz (up at_ hi)) else []
def Iv (lo hi at_ : Int) : Prop := ∀ n, 0 ≤ n → n ≤ 16 → ¬ sz n ∣ at_ → fl at_ (sz n) < lo ∨ fl at_ (sz n) + sz n - 1 > hi
theorem iv_step {lo hi at_ m : Int} (u : Up at_ hi m) (h : Iv lo hi at_) : Iv lo hi (at_ + sz m) := by
  intro n n0 n16 hn
  have hlt : n < m := Int.not_le.1 fun c => hn (Int.dvd_add (Int.dvd_trans (sz_dvd c) u.dvd) (sz_dvd c))
  have dmn : sz m ∣ sz n := sz_dvd (by omega)
  have f1 := fl_le (x := at_) (sz_pos n)
  have f2 := fl_dvd at_ (sz n)
  have pm := sz_pos m
  have pn := sz_pos n
  have q1 := dvle u.dvd (Int.dvd_add (Int.dvd_trans dmn f2) dmn) f1.2
  have q2 : at_ + sz m ≠ fl at_ (sz n) + sz n := fun e => hn (e ▸ Int.dvd_add f2 (Int.dvd_refl _))
  have q3 : fl (at_ + sz m) (sz n) = fl at_ (sz n) := fl_uniq pn f2 (by omega) (by omega)
  rw [q3]
  by_cases c : sz n ∣ at_
  · rw [fl_self c]
    refine .inr ?_
    have c2 : sz (m - 1) ∣ at_ := Int.dvd_trans (sz_dvd (by omega)) c
    have c3 := sz_le (show n ≤ m - 1 by omega)
    rcases u.max with e | e | e
    · omega
    · exact absurd c2 e
    · omega
  · exact h n n0 n16 c
theorem iv_start {lo hi : Int} : Iv lo hi lo := fun n _ _ hn => .inl (by
  have f1 := fl_le (x := lo) (sz_pos n)
  have f2 := fl_dvd lo (sz n)
  have : fl lo (sz n) ≠ lo := fun e => hn (e ▸ f2)
  omega)
theorem of_tl {p : Int → Prop} {lo hi : Int} (hp : ∀ x, lo ≤ x → x ≤ hi → p x) (h0 : ¬ p (lo - 1)) (h1 : ¬ p (hi + 1)) :
    ∀ (f : Nat) (at_ : Int), lo ≤ at_ → at_ ≤ hi + 1 → hi + 1 - at_ ≤ f → Iv lo hi at_ → Tl p at_ (hi + 1) (ofI hi f at_)
  | 0, at_, g1, g2, g3, _ => fun x x1 x2 => by omega
  | f + 1, at_, g1, g2, g3, iv => by
    unfold ofI
    by_cases c : at_ ≤ hi
    · rw [if_pos c]
      have u := up_up c
      revert u
      generalize up at_ hi = m
      intro u
      have pm := sz_pos m
      have pf := u.fits
      refine ⟨Int.le_refl _, by show at_ + sz m ≤ _; omega, u.lo, u.hi16, u.dvd, fun x x1 x2 => by dsimp only at x1 x2; omega, fun x x1 x2 => hp x (by dsimp only at x1; omega) (by dsimp only at x2; omega), ?_, of_tl hp h0 h1 f _ (by show lo ≤ at_ + sz m; omega) (by show at_ + sz m ≤ _; omega) (by show hi + 1 - (at_ + sz m) ≤ f; omega) (iv_step u iv)⟩
      show m = 0 ∨ _
      by_cases m0 : m = 0
      · exact .inl m0
      · refine .inr ?_
        show ∃ x, fl at_ (sz (m - 1)) ≤ x ∧ x < fl at_ (sz (m - 1)) + sz (m - 1) ∧ ¬ p x
        have f1 := fl_le (x := at_) (sz_pos (m - 1))
        have ulo := u.lo
        have u16 := u.hi16
        by_cases d : sz (m - 1) ∣ at_
        · refine ⟨hi + 1, by omega, ?_, h1⟩
          rw [fl_self d] at f1 ⊢
          rcases u.max with e | e | e
          · exact absurd e m0
          · exact absurd d e
          · omega
        · rcases iv (m - 1) (by omega) (by omega) d with e | e
          · exact ⟨lo - 1, by omega, by omega, h0⟩
          · exact ⟨hi + 1, by omega, by omega, h1⟩
    · rw [if_neg c]
      exact fun x x1 x2 => by omega
/-- The stems of a span. -/
def ofS (s : Sp) : List St := ofI s.hi 65537 s.lo
theorem tl_left {p : Int → Prop} {a a' b : Int} (ha : a ≤ a') (h : ∀ x, a ≤ x → x < a' → ¬ p x) : ∀ (L : List St), Tl p a' b L → Tl p a b L
  | [], g => fun x x1 x2 => by
    rcases Int.lt_or_le x a' with c | c
    · exact h x x1 c
    · exact g x c x2
  | t :: M, ⟨g1, g2, g3, g4, g5, g6, g7, g8, g9⟩ => by
    refine ⟨by omega, g2, g3, g4, g5, fun x x1 x2 => ?_, g7, g8, g9⟩
    rcases Int.lt_or_le x a' with c | c
    · exact h x x1 c
    · exact g6 x c x2
/-- The stems of spans in the normal form are the tiling of their ports. -/
theorem ofs_tl {p : Int → Prop} : ∀ (l : List Sp) (a : Int), 0 ≤ a → Nm a l → (∀ x, a ≤ x → (p x ↔ inn l x)) → ¬ p (a - 1) → Tl p a 65536 (l.flatMap ofS)
  | [], a, _, _, h, _ => fun x x1 x2 hx => (h x (by omega)).1 hx
  | s :: l, a, h0, ⟨h1, h2, h3, h4⟩, h, hn => by
    rw [List.flatMap_cons]
    have low : ∀ x, inn l x → s.hi + 2 ≤ x := fun x => Nm.low h4
    have hp : ∀ x, s.lo ≤ x → x ≤ s.hi → p x := fun x x1 x2 => (h x (by omega)).2 (.inl ⟨x1, x2⟩)
    have n0 : ¬ p (s.lo - 1) := fun q => by
      by_cases e : s.lo = a
      · exact hn (e ▸ q)
      · rcases (h _ (by omega)).1 q with q | q
        · omega
        · have := low _ q; omega
    have n1 : ¬ p (s.hi + 1) := fun q => by
      rcases (h _ (by omega)).1 q with q | q
      · omega
      · have := low _ q; omega
    have T1 := of_tl hp n0 n1 65537 s.lo (Int.le_refl _) (by omega) (by omega) iv_start
    have T2 := ofs_tl (p := p) l (s.hi + 2) (by omega) h4 (fun x x1 => by
      rw [h x (by omega)]
      exact ⟨fun q => q.resolve_left (by omega), .inr⟩) (by rwa [show s.hi + 2 - 1 = s.hi + 1 by omega])
    have T3 := tl_left (show s.hi + 1 ≤ s.hi + 2 by omega) (fun x x1 x2 q => n1 (by rwa [show s.hi + 1 = x by omega])) _ T2
    refine tl_left h1 (fun x x1 x2 q => ?_) _ (tl_app _ _ _ _ _ (by omega) (by omega) T1 T3)
    rcases (h x (by omega)).1 q with q | q
    · omega
    · have := low x q; omega
end Go.Proofs.YtgahbkbmolfpnaaGreat.Sp
