/- Bits of addresses and bytes. -/
import Derived.Test.YtgahbkbmolfpnaaGreatRuSpec
namespace Go.Proofs.YtgahbkbmolfpnaaGreat.Fs
open Go Go.RowKit Go.Proofs.YtgahbkbmolfpnaaGreat.Sx
set_option linter.unusedVariables false
set_option linter.unusedSimpArgs false
set_option maxRecDepth 10000
def uK (k : IntKind) : Prop := ∀ m : Nat, m < 2 ^ k.bits → k.wrap (m : Int) = m
theorem uK32 : uK .u32 := fun m hm => by
  have : m < 4294967296 := hm
  simp [IntKind.wrap, IntKind.bits, IntKind.signed]; omega
theorem uK8 : uK .u8 := fun m hm => by
  have : m < 256 := hm
  simp [IntKind.wrap, IntKind.bits, IntKind.signed]; omega
theorem andNot_zero {k : IntKind} (hk : uK k) (a c : Int) : bAndNot k a c = 0 ↔ ∀ i, i < k.bits → (BitVec.ofInt k.bits a).getLsbD i = true → (BitVec.ofInt k.bits c).getLsbD i = true := by
  unfold bAndNot
  rw [hk _ (BitVec.isLt _)]
  constructor
  · intro h i hi ha
    have hz : (BitVec.ofInt k.bits a &&& ~~~ BitVec.ofInt k.bits c) = 0#k.bits := by
      apply BitVec.eq_of_toNat_eq
      simpa using h
    have := congrArg (fun b => BitVec.getLsbD b i) hz
    simp only [BitVec.getLsbD_and, BitVec.getLsbD_not, ha, hi, decide_true, Bool.true_and, BitVec.getLsbD_zero] at this
    simpa using this
  · intro h
    have hz : (BitVec.ofInt k.bits a &&& ~~~ BitVec.ofInt k.bits c) = 0#k.bits := by
      apply BitVec.eq_of_getLsbD_eq
      intro i hi
      simp only [BitVec.getLsbD_and, BitVec.getLsbD_not, BitVec.getLsbD_zero, hi, decide_true, Bool.true_and]
      cases ha : (BitVec.ofInt k.bits a).getLsbD i with
      | false => rfl
      | true => rw [h i hi ha]; rfl
    rw [hz]
    simp
theorem and_eq {k : IntKind} (hk : uK k) (x c a : Int) (h0 : 0 ≤ a) (h1 : a < 2 ^ k.bits) : bAnd k x c = a ↔ ∀ i, i < k.bits → ((BitVec.ofInt k.bits x).getLsbD i && (BitVec.ofInt k.bits c).getLsbD i) = (BitVec.ofInt k.bits a).getLsbD i := by
  unfold bAnd
  rw [hk _ (BitVec.isLt _)]
  have ha : ((BitVec.ofInt k.bits a).toNat : Int) = a := by
    rw [BitVec.toNat_ofInt]
    have : (0 : Int) ≤ a % (2 ^ k.bits : Nat) := Int.emod_nonneg _ (by have := Nat.two_pow_pos k.bits; omega)
    rw [Int.toNat_of_nonneg this]
    exact Int.emod_eq_of_lt h0 (by rw [Int.natCast_pow]; exact h1)
  constructor
  · intro h i hi
    have hz : (BitVec.ofInt k.bits x &&& BitVec.ofInt k.bits c) = BitVec.ofInt k.bits a := by
      apply BitVec.eq_of_toNat_eq
      omega
    rw [← hz, BitVec.getLsbD_and]
  · intro h
    have hz : (BitVec.ofInt k.bits x &&& BitVec.ofInt k.bits c) = BitVec.ofInt k.bits a := by
      apply BitVec.eq_of_getLsbD_eq
      intro i hi
      rw [BitVec.getLsbD_and]
      exact h i hi
    rw [hz, ha]
theorem care_bits : ∀ l, l < 33 → ∀ i, i < 32 → (BitVec.ofInt 32 (careV (l : Nat))).getLsbD i = decide (32 - l ≤ i) := by decide +kernel
/-- The j-th bit from above. -/
def bt (n : Nat) (a : Int) (j : Nat) : Bool := (BitVec.ofInt n a).getLsbD (n - 1 - j)
theorem prefix_bits (a : Int) (l : Nat) (hl : l ≤ 32) : bAndNot .u32 a (careV l) = 0 ↔ ∀ j, l ≤ j → j < 32 → bt 32 a j = false := by
  rw [andNot_zero uK32]
  show (∀ i, i < 32 → (BitVec.ofInt 32 a).getLsbD i = true → (BitVec.ofInt 32 (careV l)).getLsbD i = true) ↔ _
  constructor
  · intro h j h1 h2
    cases hb : bt 32 a j with
    | false => rfl
    | true =>
      have := h (32 - 1 - j) (by omega) hb
      rw [care_bits l (by omega) _ (by omega)] at this
      have := of_decide_eq_true this
      omega
  · intro h i hi ha
    rw [care_bits l (by omega) _ hi]
    refine decide_eq_true (Classical.byContradiction fun hc => ?_)
    have := h (31 - i) (by omega) (by omega)
    rw [bt, show 32 - 1 - (31 - i) = i by omega, ha] at this
    cases this
theorem has_bits (a x : Int) (h0 : 0 ≤ a) (h1 : a ≤ 4294967295) (l : Nat) (hl : l ≤ 32) (hc : bAndNot .u32 a (careV l) = 0) : bAnd .u32 x (careV l) = a ↔ ∀ j, j < l → bt 32 a j = bt 32 x j := by
  rw [and_eq uK32 _ _ _ h0 (by show a < 4294967296; omega)]
  show (∀ i, i < 32 → ((BitVec.ofInt 32 x).getLsbD i && (BitVec.ofInt 32 (careV l)).getLsbD i) = (BitVec.ofInt 32 a).getLsbD i) ↔ _
  rw [prefix_bits a l hl] at hc
  constructor
  · intro h j hj
    have := h (32 - 1 - j) (by omega)
    rw [care_bits l (by omega) _ (by omega), decide_eq_true (by omega), Bool.and_true] at this
    exact this.symm
  · intro h i hi
    rw [care_bits l (by omega) _ hi]
    by_cases hb : 32 - l ≤ i
    · rw [decide_eq_true hb, Bool.and_true]
      have := h (31 - i) (by omega)
      rw [bt, bt, show 32 - 1 - (31 - i) = i by omega] at this
      exact this.symm
    · rw [decide_eq_false hb, Bool.and_false]
      have := hc (31 - i) (by omega) (by omega)
      rw [bt, show 32 - 1 - (31 - i) = i by omega] at this
      exact this.symm
theorem mask_bits (v c : Int) : bAndNot .u8 v c = 0 ↔ ∀ j, j < 8 → bt 8 v j = true → bt 8 c j = true := by
  rw [andNot_zero uK8]
  show (∀ i, i < 8 → (BitVec.ofInt 8 v).getLsbD i = true → (BitVec.ofInt 8 c).getLsbD i = true) ↔ _
  constructor
  · intro h j hj hb
    exact h (8 - 1 - j) (by omega) hb
  · intro h i hi ha
    have := h (7 - i) (by omega)
    rw [bt, bt, show 8 - 1 - (7 - i) = i by omega] at this
    exact this ha
theorem mhas_bits (v c x : Int) (h0 : 0 ≤ v) (h1 : v ≤ 255) (hc : bAndNot .u8 v c = 0) : bAnd .u8 x c = v ↔ ∀ j, j < 8 → bt 8 c j = true → bt 8 v j = bt 8 x j := by
  rw [and_eq uK8 _ _ _ h0 (by show v < 256; omega)]
  show (∀ i, i < 8 → ((BitVec.ofInt 8 x).getLsbD i && (BitVec.ofInt 8 c).getLsbD i) = (BitVec.ofInt 8 v).getLsbD i) ↔ _
  rw [mask_bits] at hc
  constructor
  · intro h j hj hb
    have := h (8 - 1 - j) (by omega)
    rw [show (BitVec.ofInt 8 c).getLsbD (8 - 1 - j) = true from hb, Bool.and_true] at this
    exact this.symm
  · intro h i hi
    have h1 := h (7 - i) (by omega)
    have h2 := hc (7 - i) (by omega)
    rw [bt, bt, show 8 - 1 - (7 - i) = i by omega] at h1 h2
    rw [bt, show 8 - 1 - (7 - i) = i by omega] at h1
    cases hcb : (BitVec.ofInt 8 c).getLsbD i with
    | true => rw [Bool.and_true]; exact (h1 hcb).symm
    | false =>
      rw [Bool.and_false]
      cases hvb : (BitVec.ofInt 8 v).getLsbD i with
      | false => rfl
      | true => rw [h2 hvb] at hcb; cases hcb
theorem bit_val (n : Nat) (a : Int) (h0 : 0 ≤ a) (h1 : a < 2 ^ n) (s : Nat) (hs : s < n) : Int.tmod (a.fdiv (2 ^ s)) 2 = if (BitVec.ofInt n a).getLsbD s then 1 else 0 := by
  obtain ⟨m, rfl⟩ := Int.eq_ofNat_of_zero_le h0
  have hm : m < 2 ^ n := by
    have : ((2 : Int) ^ n) = ((2 ^ n : Nat) : Int) := by simp
    rw [this] at h1
    exact Int.ofNat_lt.1 h1
  have e1 : ((m : Int)).fdiv (2 ^ s) = ((m / 2 ^ s : Nat) : Int) := by
    rw [show ((2 : Int) ^ s) = ((2 ^ s : Nat) : Int) by simp, Int.fdiv_eq_ediv_of_nonneg _ (Int.natCast_nonneg _)]
    rfl
  have e2 : (BitVec.ofInt n (m : Int)).getLsbD s = Nat.testBit m s := by
    show Nat.testBit (BitVec.ofInt n (m : Int)).toNat s = _
    rw [BitVec.ofInt_natCast, BitVec.toNat_ofNat, Nat.mod_eq_of_lt hm]
  rw [e1, e2, Nat.testBit_eq_decide_div_mod_eq]
  rw [show Int.tmod ((m / 2 ^ s : Nat) : Int) 2 = ((m / 2 ^ s % 2 : Nat) : Int) by rw [Int.tmod_eq_emod_of_nonneg (Int.natCast_nonneg _)]; rfl]
  have := Nat.mod_two_eq_zero_or_one (m / 2 ^ s)
  rcases this with h | h <;> rw [h] <;> simp
end Go.Proofs.YtgahbkbmolfpnaaGreat.Fs
