/- The stems of one span: they stand one behind the other, and are 1 to 30 (plain laws, no program in sight). -/
import Derived.Test.YtgahbkbmolfpnaaGreatSpStem
namespace Go.Proofs.YtgahbkbmolfpnaaGreat.Sp
open Go
set_option linter.unusedVariables false
set_option linter.unusedSimpArgs false
def Ch : Int → Int → List St → Prop
  | a, b, [] => a = b
  | a, b, t :: L => t.bits = a ∧ 0 ≤ t.len ∧ t.len ≤ 16 ∧ sz t.len ∣ t.bits ∧ a + sz t.len ≤ b ∧ Ch (a + sz t.len) b L
theorem ofI_ch (hi : Int) : ∀ (f : Nat) (at_ : Int), at_ ≤ hi + 1 → hi + 1 - at_ ≤ f → Ch at_ (hi + 1) (ofI hi f at_)
  | 0, at_, h1, h2 => by show at_ = hi + 1; omega
  | f + 1, at_, h1, h2 => by
    unfold ofI
    by_cases c : at_ ≤ hi
    · rw [if_pos c]
      have u := up_up c
      revert u
      generalize up at_ hi = m
      intro u
      have pm := sz_pos m
      have pf := u.fits
      exact ⟨rfl, u.lo, u.hi16, u.dvd, by show at_ + sz m ≤ _; omega, ofI_ch hi f _ (by show at_ + sz m ≤ _; omega) (by show hi + 1 - (at_ + sz m) ≤ f; omega)⟩
    · rw [if_neg c]; show at_ = hi + 1; omega
theorem Ch.le : ∀ {L : List St} {a b : Int}, Ch a b L → a ≤ b
  | [], a, b, h => by have : a = b := h; omega
  | t :: L, a, b, ⟨_, _, _, _, h, _⟩ => by have := sz_pos t.len; omega
def spanOf (t : St) : Sp := ⟨t.bits, t.bits + sz t.len - 1⟩
theorem Ch.inn : ∀ {L : List St} {a b : Int}, Ch a b L → ∀ x, inn (L.map spanOf) x ↔ a ≤ x ∧ x < b
  | [], a, b, h, x => by have : a = b := h; simp [Sp.inn]; omega
  | t :: L, a, b, ⟨h1, h2, h3, h4, h5, h6⟩, x => by
    have := Ch.inn h6 x
    simp only [List.map_cons, Sp.inn, this, spanOf]
    have := sz_pos t.len
    have := h6.le
    omega
theorem Ch.mem : ∀ {L : List St} {a b : Int}, Ch a b L → ∀ t ∈ L, a ≤ t.bits ∧ t.bits + sz t.len ≤ b ∧ 0 ≤ t.len ∧ t.len ≤ 16 ∧ sz t.len ∣ t.bits
  | t :: L, a, b, ⟨h1, h2, h3, h4, h5, h6⟩, u, hu => by
    have := sz_pos t.len
    rcases List.mem_cons.1 hu with rfl | hu
    · exact ⟨by omega, by omega, h2, h3, h4⟩
    · obtain ⟨g1, g2, g3, g4, g5⟩ := Ch.mem h6 u hu
      exact ⟨by omega, by omega, g3, g4, g5⟩
theorem Ch.uni {L : List St} {a b : Int} (h : Ch a b L) (h0 : 0 ≤ a) (h1 : a < b) (h2 : b ≤ 65536) : uni (L.map spanOf) = [⟨a, b - 1⟩] := by
  refine nm_uniq _ _ 0 0 (uni_nm _ fun s hs => ?_) ⟨h0, by show a ≤ b - 1; omega, by show b - 1 ≤ 65535; omega, trivial⟩ fun x => ?_
  · obtain ⟨t, ht, rfl⟩ := List.mem_map.1 hs
    have := h.mem t ht
    have := sz_pos t.len
    unfold Ok spanOf
    dsimp only
    omega
  · rw [uni_in, h.inn x]
    simp only [Sp.inn, or_false]
    omega
def sumz : List St → Int
  | [] => 0
  | t :: L => sz t.len + sumz L
theorem Ch.sum : ∀ {L : List St} {a b : Int}, Ch a b L → sumz L = b - a
  | [], a, b, h => by have : a = b := h; simp [sumz]; omega
  | t :: L, a, b, ⟨h1, h2, h3, h4, h5, h6⟩ => by simp only [sumz, Ch.sum h6]; omega
def inS (t : St) (x : Int) : Bool := decide (t.bits ≤ x ∧ x < t.bits + sz t.len)
def cnt (x : Int) : List St → Int
  | [] => 0
  | t :: L => (if inS t x = true then 1 else 0) + cnt x L
theorem Ch.cnt {x : Int} : ∀ {L : List St} {a b : Int}, Ch a b L → cnt x L = if a ≤ x ∧ x < b then 1 else 0
  | [], a, b, h => by have : a = b := h; simp only [Sp.cnt]; rw [if_neg (by omega)]
  | t :: L, a, b, ⟨h1, h2, h3, h4, h5, h6⟩ => by
    have := h6.le
    have := sz_pos t.len
    simp only [Sp.cnt, Ch.cnt h6, inS, decide_eq_true_eq]
    (repeat' split) <;> omega
/-! ### how many -/
theorem len_desc (hi : Int) : ∀ (d f : Nat) (at_ : Int), d ≤ 16 → 0 ≤ at_ → hi + 1 - at_ < sz (16 - d) → sz (16 - d) ∣ at_ → (ofI hi f at_).length ≤ d
  | d, 0, at_, _, _, _, _ => by simp [ofI]
  | d, f + 1, at_, hd, h0, h1, h2 => by
    unfold ofI
    by_cases c : at_ ≤ hi
    · rw [if_pos c]
      have u := up_up c
      revert u
      generalize up at_ hi = m
      intro u
      have pm := sz_pos m
      have pf := u.fits
      have u1 := u.lo
      have u2 := u.hi16
      have hlt : 16 - (d : Int) < m := Int.not_le.1 fun q => by have := sz_le q; omega
      have hm : sz (m - 1) ∣ at_ := Int.dvd_trans (sz_dvd (by omega)) h2
      have hmax : at_ + sz (m - 1) - 1 > hi := by
        rcases u.max with e | e | e
        · omega
        · exact absurd hm e
        · exact e
      have hh := sz_half (n := m) (by omega) u2
      have em : m = 16 - (((16 - m).toNat : Nat) : Int) := by omega
      have ih := len_desc hi (16 - m).toNat f (at_ + sz m) (by omega) (by omega) (by rw [← em]; omega) (by rw [← em]; exact Int.dvd_add u.dvd (Int.dvd_refl _))
      simp only [List.length_cons]
      omega
    · rw [if_neg c]; simp
theorem ofI_past (hi : Int) (f : Nat) (at_ : Int) (h : hi < at_) : ofI hi f at_ = [] := by
  cases f with
  | zero => rfl
  | succ f => unfold ofI; rw [if_neg (by omega)]
theorem odd_up {n x : Int} (h1 : 1 ≤ n) (h2 : n ≤ 16) (hd : sz n ∣ x) (hn : ¬ sz (n - 1) ∣ x) : sz (n - 1) ∣ x + sz n := by
  rw [sz_half h1 h2] at hn ⊢
  obtain ⟨k, rfl⟩ := hd
  have : k % 2 = 1 := by
    rcases Int.emod_two_eq k with e | e
    · exfalso
      obtain ⟨j, rfl⟩ := Int.dvd_of_emod_eq_zero e
      exact hn ⟨j, by rw [Int.mul_assoc, Int.mul_left_comm]⟩
    · exact e
  refine ⟨(k + 1) / 2, ?_⟩
  have e : k + 1 = 2 * ((k + 1) / 2) := by omega
  have : sz n * k + sz n = sz n * (k + 1) := by rw [Int.mul_add, Int.mul_one]
  rw [this]
  conv => lhs; rw [e]
  rw [Int.mul_left_comm, Int.mul_assoc]
theorem len_asc (hi : Int) (hhi : hi ≤ 65535) : ∀ (e f : Nat) (at_ : Int) (n : Int), 0 < at_ → 1 ≤ n → n ≤ 16 → (n - 1 : Int) = e → sz n ∣ at_ → (ofI hi f at_).length ≤ 14 + n
  | e, 0, at_, n, _, _, _, _, _ => by simp [ofI]; omega
  | e, f + 1, at_, n, h0, h1, h16, he, hd => by
    by_cases hr : hi + 1 - at_ < sz n
    · have en : n = 16 - (((16 - n).toNat : Nat) : Int) := by omega
      have := len_desc hi (16 - n).toNat (f + 1) at_ (by omega) (by omega) (by rw [← en]; exact hr) (by rw [← en]; exact hd)
      omega
    · unfold ofI
      by_cases c : at_ ≤ hi
      · rw [if_pos c]
        have u := up_up c
        revert u
        generalize up at_ hi = m
        intro u
        have pm := sz_pos m
        have pf := u.fits
        have u1 := u.lo
        have u2 := u.hi16
        have m0 : m ≠ 0 := fun q => by
          have := u.dvd
          rw [q, sz0] at this
          have := Int.le_of_dvd h0 this
          omega
        have hmn : m ≤ n := Int.not_lt.1 fun q => by
          have d1 : sz (m - 1) ∣ at_ := Int.dvd_trans (sz_dvd (by omega)) hd
          have l1 := sz_le (show n ≤ m - 1 by omega)
          rcases u.max with e | e | e
          · omega
          · exact e d1
          · omega
        simp only [List.length_cons]
        by_cases d : sz (m - 1) ∣ at_
        · have hmax : at_ + sz (m - 1) - 1 > hi := by
            rcases u.max with e | e | e
            · omega
            · exact absurd d e
            · exact e
          have hh := sz_half (n := m) (by omega) u2
          have em : m = 16 - (((16 - m).toNat : Nat) : Int) := by omega
          have ih := len_desc hi (16 - m).toNat f (at_ + sz m) (by omega) (by omega) (by rw [← em]; omega) (by rw [← em]; exact Int.dvd_add u.dvd (Int.dvd_refl _))
          have m1 : m ≠ 1 := fun q => by
            rw [show m - 1 = 0 by omega, sz0] at d
            have := Int.le_of_dvd h0 d
            omega
          omega
        · have du := odd_up (by omega) u2 u.dvd d
          by_cases m1 : m = 1
          · rw [show m - 1 = 0 by omega, sz0] at du
            have := Int.le_of_dvd (by omega) du
            have e1 : at_ + sz m > hi := by omega
            rw [ofI_past _ _ _ e1]
            simp; omega
          · have ih := len_asc hi hhi (e - 1 - (n - m).toNat) f (at_ + sz m) (m - 1) (by omega) (by omega) (by omega) (by omega) du
            omega
      · rw [if_neg c]; simp; omega
theorem of_len (s : Sp) (h0 : 0 ≤ s.lo) (h1 : s.lo ≤ s.hi) (h2 : s.hi ≤ 65535) : 1 ≤ (ofS s).length ∧ (ofS s).length ≤ 30 := by
  constructor
  · unfold ofS ofI
    rw [if_pos h1]
    simp
  · by_cases c : s.lo = 0
    · unfold ofS
      rw [c]
      by_cases d : s.hi = 65535
      · rw [d]; decide +kernel
      · have := len_desc s.hi 16 65537 0 (by omega) (by omega) (by show s.hi + 1 - 0 < sz 0; rw [sz0]; omega) ⟨0, by omega⟩
        omega
    · have := len_asc s.hi h2 15 65537 s.lo 16 (by omega) (by omega) (by omega) (by omega) ⟨s.lo, by rw [sz16]; omega⟩
      unfold ofS
      omega
end Go.Proofs.YtgahbkbmolfpnaaGreat.Sp
