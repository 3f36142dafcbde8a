/- Keys in the trie's own arithmetic: may, bit, the bits above a place. -/
import Derived.Test.YtofjbbfnkefoaaaTrArena
namespace Go.Proofs.Ytofjbbfnkefoaaa.Fs
open Go Go.RowKit Go.Proofs.Ytofjbbfnkefoaaa.Sx Go.Proofs.Ytofjbbfnkefoaaa.Tp
set_option linter.unusedVariables false
set_option linter.unusedSimpArgs false
set_option maxRecDepth 10000
theorem u64_in (m : Nat) (h : m < 18446744073709551616) : IntKind.u64.wrap (m : Int) = m := by
  simp [IntKind.wrap, IntKind.bits, IntKind.signed]; omega
theorem u32_in (m : Nat) (h : m < 4294967296) : IntKind.u32.wrap (m : Int) = m := by
  simp [IntKind.wrap, IntKind.bits, IntKind.signed]; omega
theorem bAnd64 (a b : Nat) (ha : a < 18446744073709551616) (hb : b < 18446744073709551616) : bAnd .u64 (a : Int) (b : Int) = ((a &&& b : Nat) : Int) := by
  unfold bAnd
  rw [u64_in _ (BitVec.isLt _)]
  show ((BitVec.ofInt 64 (a : Int) &&& BitVec.ofInt 64 (b : Int)).toNat : Int) = _
  rw [BitVec.toNat_and, BitVec.ofInt_natCast, BitVec.ofInt_natCast, BitVec.toNat_ofNat, BitVec.toNat_ofNat, Nat.mod_eq_of_lt (by omega), Nat.mod_eq_of_lt (by omega)]
theorem bAnd32 (a b : Nat) (ha : a < 4294967296) (hb : b < 4294967296) : bAnd .u32 (a : Int) (b : Int) = ((a &&& b : Nat) : Int) := by
  unfold bAnd
  rw [u32_in _ (BitVec.isLt _)]
  show ((BitVec.ofInt 32 (a : Int) &&& BitVec.ofInt 32 (b : Int)).toNat : Int) = _
  rw [BitVec.toNat_and, BitVec.ofInt_natCast, BitVec.ofInt_natCast, BitVec.toNat_ofNat, BitVec.toNat_ofNat, Nat.mod_eq_of_lt (by omega), Nat.mod_eq_of_lt (by omega)]
theorem bOr32 (a b : Nat) (ha : a < 4294967296) (hb : b < 4294967296) : bOr .u32 (a : Int) (b : Int) = ((a ||| b : Nat) : Int) := by
  unfold bOr
  rw [u32_in _ (BitVec.isLt _)]
  show ((BitVec.ofInt 32 (a : Int) ||| BitVec.ofInt 32 (b : Int)).toNat : Int) = _
  rw [BitVec.toNat_or, BitVec.ofInt_natCast, BitVec.ofInt_natCast, BitVec.toNat_ofNat, BitVec.toNat_ofNat, Nat.mod_eq_of_lt (by omega), Nat.mod_eq_of_lt (by omega)]
theorem p2_nat (n : Nat) (h : n ≤ 64) : p2 (n : Int) = ((2 ^ n : Nat) : Int) := by
  rw [p2, Int.toNat_natCast, Nat.min_eq_left h]; simp
theorem fdiv_nat (a b : Nat) : ((a : Int).fdiv (b : Int)) = ((a / b : Nat) : Int) := by
  rw [Int.fdiv_eq_ediv_of_nonneg _ (by omega)]; simp
def W3 (w : Nat) : Prop := w = 8 ∨ w = 16 ∨ w = 32
theorem W3.le {w : Nat} (h : W3 w) : 8 ≤ w ∧ w ≤ 32 := by rcases h with h | h | h <;> omega
theorem pow_lt32 {w : Nat} (h : w ≤ 32) : 2 ^ w ≤ 4294967296 := Nat.pow_le_pow_right (n := 2) (by omega) h
theorem may_iff {w : Nat} (hw : W3 w) {k : Nat} (hk : k < 4294967296) (n : Nat) : mayT w k n = true ↔ n ≤ w ∧ k < 2 ^ w ∧ k % 2 ^ (w - n) = 0 := by
  have hwl := hw.le
  have hpw := pow_lt32 hwl.2
  have hpos := Nat.two_pow_pos w
  unfold mayT
  by_cases hn : n ≤ w
  · have e1 : IntKind.u64.wrap (k : Int) = k := u64_in k (by omega)
    have hpn : 2 ^ n ≤ 4294967296 := pow_lt32 (by omega)
    have hkn : k * 2 ^ n < 18446744073709551616 := by
      calc k * 2 ^ n ≤ 4294967295 * 4294967296 := Nat.mul_le_mul (by omega) hpn
        _ < _ := by decide
    have e2 : IntKind.u64.wrap ((k : Int) * p2 (n : Int)) = ((k * 2 ^ n : Nat) : Int) := by
      rw [p2_nat n (by omega), ← Int.natCast_mul, u64_in _ hkn]
    have e3 : IntKind.u64.wrap (IntKind.u64.wrap (1 * p2 (w : Int)) - 1) = ((2 ^ w - 1 : Nat) : Int) := by
      rw [p2_nat w (by omega), Int.one_mul, u64_in _ (by omega)]
      have : ((2 ^ w : Nat) : Int) - 1 = ((2 ^ w - 1 : Nat) : Int) := by omega
      rw [this, u64_in _ (by omega)]
    rw [e1, e2, e3, p2_nat w (by omega), fdiv_nat, bAnd64 _ _ hkn (by omega), Nat.and_two_pow_sub_one_eq_mod]
    have hm : k * 2 ^ n % 2 ^ w = k % 2 ^ (w - n) * 2 ^ n := by
      have : 2 ^ w = 2 ^ (w - n) * 2 ^ n := by rw [← Nat.pow_add]; congr 1; omega
      rw [this, Nat.mul_mod_mul_right]
    have hd : k / 2 ^ w = 0 ↔ k < 2 ^ w := by
      rw [Nat.div_eq_zero_iff]; omega
    have hz : k % 2 ^ (w - n) * 2 ^ n = 0 ↔ k % 2 ^ (w - n) = 0 := by
      have := Nat.two_pow_pos n
      rw [Nat.mul_eq_zero]; omega
    rw [hm]
    simp only [Bool.and_eq_true, decide_eq_true_eq, beq_iff_eq, ge_iff_le]
    rw [show (((k / 2 ^ w : Nat) : Int) = 0) ↔ k / 2 ^ w = 0 by omega, show (((k % 2 ^ (w - n) * 2 ^ n : Nat) : Int) = 0) ↔ k % 2 ^ (w - n) * 2 ^ n = 0 by omega, hd, hz]
    constructor
    · rintro ⟨⟨⟨_, _⟩, h1⟩, h2⟩; exact ⟨hn, h1, h2⟩
    · rintro ⟨_, h1, h2⟩; exact ⟨⟨⟨by omega, by omega⟩, h1⟩, h2⟩
  · have : decide ((n : Int) ≤ w) = false := by rw [decide_eq_false_iff_not]; omega
    rw [this]
    simp
    intro h; exact absurd h hn
theorem may_neg {w key n : Int} (h : n < 0) : mayT w key n = false := by
  unfold mayT
  have : decide (n ≥ 0) = false := by rw [decide_eq_false_iff_not]; omega
  rw [this]; rfl
theorem bitT_nat {w k i : Nat} (hi : i < w) (hw : w ≤ 32) (hk : k < 4294967296) : bitT w k i = bi (decide (k / 2 ^ (w - 1 - i) % 2 = 1)) := by
  unfold bitT
  have e : ((w : Int) - 1 - i).toNat = w - 1 - i := by omega
  rw [e, Nat.min_eq_left (by omega)]
  have e2 : (2 : Int) ^ (w - 1 - i) = ((2 ^ (w - 1 - i) : Nat) : Int) := by simp
  have hlt : k / 2 ^ (w - 1 - i) < 4294967296 := Nat.lt_of_le_of_lt (Nat.div_le_self _ _) hk
  have hb := bAnd32 (k / 2 ^ (w - 1 - i)) 1 hlt (by omega)
  rw [Nat.and_one_is_mod] at hb
  rw [e2, fdiv_nat]
  have hb' : bAnd .u32 ((k / 2 ^ (w - 1 - i) : Nat) : Int) 1 = ((k / 2 ^ (w - 1 - i) % 2 : Nat) : Int) := hb
  rw [hb', wrap_in (by omega) (by omega)]
  have : k / 2 ^ (w - 1 - i) % 2 < 2 := Nat.mod_lt _ (by omega)
  by_cases c : k / 2 ^ (w - 1 - i) % 2 = 1
  · rw [c]; rfl
  · rw [show k / 2 ^ (w - 1 - i) % 2 = 0 by omega]; rfl
theorem bits_pa {w k : Nat} (hw : w ≤ 32) (hk : k < 4294967296) : ∀ (n d : Nat), d + n ≤ w → Bits w k d (pa (w - d) k n)
  | 0, d, _ => True.intro
  | n + 1, d, h => by
    refine ⟨?_, ?_⟩
    · rw [bitT_nat (by omega) hw hk, show w - 1 - d = w - d - 1 by omega]
    · have := bits_pa hw hk n (d + 1) (by omega)
      rw [show w - d - 1 = w - (d + 1) by omega]
      exact_mod_cast this
theorem bits_key {w : Nat} (hw : w ≤ 32) {k : Nat} (hk : k < 4294967296) {n : Nat} (hn : n ≤ w) : Bits w k 0 (pa w k n) := by
  have := bits_pa hw hk n 0 (by omega)
  exact_mod_cast this
theorem topT_nat {w k i : Nat} (hi : i ≤ w) (hw : w ≤ 32) (hk : k < 4294967296) (hkw : k < 2 ^ w) : topT w k i = (kv w (pa w k i) : Nat) := by
  unfold topT
  have e : (w : Int) - i = ((w - i : Nat) : Int) := by omega
  have hm := Nat.div_mul_le_self k (2 ^ (w - i))
  rw [e, p2_nat _ (by omega), u64_in k (by omega), fdiv_nat, ← Int.natCast_mul, u64_in _ (by omega), u32_in _ (by omega)]
  have h1 := kv_pa i w k hi
  rw [Nat.mod_eq_of_lt hkw] at h1
  have h2 := Nat.div_add_mod k (2 ^ (w - i))
  rw [Nat.mul_comm] at h2
  omega
/-- An entry as the trie tells it. -/
def enW (w : Nat) (e : List Bool × Int) : En := ((kv w e.1 : Nat), (e.1.length : Nat), e.2)
/-- A key that may be is its path's. -/
theorem may_path {w : Nat} (hw : W3 w) {k : Nat} (hk : k < 4294967296) {n : Nat} (hm : mayT w k n = true) : n ≤ w ∧ kv w (pa w k n) = k := by
  obtain ⟨h1, h2, h3⟩ := (may_iff hw hk n).1 hm
  refine ⟨h1, ?_⟩
  have := kv_pa n w k h1
  rw [Nat.mod_eq_of_lt h2] at this
  omega
theorem may_kv {w : Nat} (hw : W3 w) {p : List Bool} (hp : p.length ≤ w) : mayT w (kv w p : Nat) (p.length : Nat) = true := by
  have hl := kv_lt w p hp
  have := pow_lt32 hw.le.2
  exact (may_iff hw (by omega) _).2 ⟨hp, hl, kv_mod w p hp⟩
end Go.Proofs.Ytofjbbfnkefoaaa.Fs
