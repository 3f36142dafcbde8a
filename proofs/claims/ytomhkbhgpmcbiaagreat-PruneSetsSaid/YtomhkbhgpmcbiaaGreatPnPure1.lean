/- Prefixes as paths: plain laws. -/
import Derived.Test.YtomhkbhgpmcbiaaGreatPnEng4
import Derived.Test.YtomhkbhgpmcbiaaGreatRuBits
namespace Go.Proofs.YtomhkbhgpmcbiaaGreat.Fs
open Go Go.RowKit Go.Proofs.YtomhkbhgpmcbiaaGreat.Sx
set_option linter.unusedVariables false
set_option linter.unusedSimpArgs false
set_option maxRecDepth 10000
def AdOk (a : Int) : Prop := 0 ≤ a ∧ a ≤ 4294967295
theorem bitP_bt {a : Int} (h : AdOk a) {i : Nat} (hi : i ≤ 31) : bitP a i = bt 32 a i := by
  obtain ⟨m, rfl⟩ := Int.eq_ofNat_of_zero_le h.1
  have hm : m < 4294967296 := by have := h.2; omega
  unfold bitP bt
  have e1 : ((m : Int)).fdiv (2 ^ (31 - i)) = ((m / 2 ^ (31 - i) : Nat) : Int) := by
    rw [show ((2 : Int) ^ (31 - i)) = ((2 ^ (31 - i) : Nat) : Int) by simp, Int.fdiv_eq_ediv_of_nonneg _ (Int.natCast_nonneg _)]
    rfl
  have e2 : (BitVec.ofInt 32 (m : Int)).getLsbD (32 - 1 - i) = Nat.testBit m (31 - i) := by
    show Nat.testBit (BitVec.ofInt 32 (m : Int)).toNat (32 - 1 - i) = _
    rw [BitVec.ofInt_natCast, BitVec.toNat_ofNat, Nat.mod_eq_of_lt hm]
  rw [e1, e2, Nat.testBit_eq_decide_div_mod_eq]
  have hq : m / 2 ^ (31 - i) < 4294967296 := Nat.lt_of_le_of_lt (Nat.div_le_self _ _) hm
  generalize m / 2 ^ (31 - i) = q at hq
  have e3 : bAnd .u32 (q : Int) 1 = ((q % 2 : Nat) : Int) := by
    unfold bAnd
    have : (BitVec.ofInt IntKind.u32.bits (q : Int) &&& BitVec.ofInt IntKind.u32.bits 1).toNat = q % 2 := by
      rw [BitVec.toNat_and, BitVec.ofInt_natCast, BitVec.toNat_ofNat]
      show q % 4294967296 &&& 1 = q % 2
      rw [Nat.mod_eq_of_lt hq, Nat.and_one_is_mod]
    rw [this, uK32 _ (by show q % 2 < 4294967296; omega)]
  rw [e3, decide_eq_decide]
  omega
def Pf.path (p : Pf) : List Bool := bitsOf p.addr p.len.toNat
structure POk (p : Pf) : Prop where
  a : AdOk p.addr
  c : prefixCheck p.addr p.len = 0
theorem POk.len {p : Pf} (h : POk p) : 0 ≤ p.len ∧ p.len ≤ 32 := prefixCheck_len h.c
theorem POk.nat {p : Pf} (h : POk p) : ((p.len.toNat : Nat) : Int) = p.len ∧ p.len.toNat ≤ 32 := by have := h.len; omega
theorem path_len (p : Pf) : p.path.length = p.len.toNat := bits_len _ _
theorem bits_pre {a b : Int} {n m : Nat} : bitsOf a n <+: bitsOf b m ↔ n ≤ m ∧ ∀ j, j < n → bitP a j = bitP b j := by
  rw [List.prefix_iff_getElem?]
  constructor
  · intro h
    have hn : n ≤ m := by
      refine Classical.byContradiction fun hc => ?_
      have := h m (by rw [bits_len]; omega)
      rw [List.getElem?_eq_none (by rw [bits_len]; omega)] at this
      cases this
    refine ⟨hn, fun j hj => ?_⟩
    have h1 := h j (by rw [bits_len]; omega)
    rw [bits_get (by omega)] at h1
    have h2 := bits_get (a := a) hj
    rw [List.getElem?_eq_getElem (by rw [bits_len]; omega)] at h2
    rw [← h1] at h2
    injection h2 with h2
    exact h2.symm
  · rintro ⟨hn, h⟩ j hj
    rw [bits_len] at hj
    rw [bits_get (by omega), ← List.getElem?_eq_getElem, bits_get hj, h j hj]
theorem POk.zero {p : Pf} (h : POk p) {j : Nat} (h1 : p.len.toNat ≤ j) (h2 : j < 32) : bt 32 p.addr j = false := by
  have hc := h.c
  have hl := h.len
  unfold prefixCheck at hc
  rw [if_neg (by omega), if_neg (by omega)] at hc
  split at hc
  · cases hc
  · rename_i hq
    have hq : bAndNot .u32 p.addr (careV p.len) = 0 := by simpa using hq
    rw [← h.nat.1] at hq
    exact (prefix_bits p.addr p.len.toNat h.nat.2).1 hq j h1 h2
theorem has_path {p : Pf} (h : POk p) {x : Int} (hx : AdOk x) : prefixHas p.addr p.len x = true ↔ p.path <+: bitsOf x 32 := by
  have hc := h.c
  have hl := h.len
  have hq : bAndNot .u32 p.addr (careV (p.len.toNat : Nat)) = 0 := by
    rw [h.nat.1]
    unfold prefixCheck at hc
    rw [if_neg (by omega), if_neg (by omega)] at hc
    split at hc
    · cases hc
    · rename_i hq; simpa using hq
  have hb := has_bits p.addr x h.a.1 h.a.2 p.len.toNat h.nat.2 hq
  unfold prefixHas Pf.path
  rw [bits_pre, hc]
  simp only [beq_self_eq_true, Bool.true_and, beq_iff_eq]
  rw [← h.nat.1, hb]
  simp only [Int.toNat_natCast]
  constructor
  · exact fun hh => ⟨h.nat.2, fun j hj => by rw [bitP_bt h.a (by have := h.nat.2; omega), bitP_bt hx (by have := h.nat.2; omega)]; exact hh j hj⟩
  · exact fun hh j hj => by
      have := hh.2 j hj
      rwa [bitP_bt h.a (by have := h.nat.2; omega), bitP_bt hx (by have := h.nat.2; omega)] at this
theorem within_path {p q : Pf} (hp : POk p) (hq : POk q) : withinB p q = true ↔ q.path <+: p.path := by
  unfold withinB
  rw [hp.c]
  simp only [beq_self_eq_true, Bool.true_and, Bool.and_eq_true, decide_eq_true_eq]
  rw [has_path hq hp.a]
  unfold Pf.path
  rw [bits_pre, bits_pre]
  have h1 := hp.len
  have h2 := hq.len
  constructor
  · rintro ⟨ha, hb, hc⟩; exact ⟨by omega, hc⟩
  · rintro ⟨ha, hc⟩; exact ⟨by omega, by omega, hc⟩
theorem adEq {a b : Int} (ha : AdOk a) (hb : AdOk b) (h : ∀ j, j < 32 → bt 32 a j = bt 32 b j) : a = b := by
  have e : BitVec.ofInt 32 a = BitVec.ofInt 32 b := by
    apply BitVec.eq_of_getLsbD_eq
    intro i hi
    have := h (31 - i) (by omega)
    unfold bt at this
    rwa [show 32 - 1 - (31 - i) = i by omega] at this
  have hv : ∀ a : Int, AdOk a → ((BitVec.ofInt 32 a).toNat : Int) = a := fun a ha => by
    rw [BitVec.toNat_ofInt]
    have h0 := ha.1
    have h1 := ha.2
    have : (0 : Int) ≤ a % (2 ^ 32 : Nat) := Int.emod_nonneg _ (by decide)
    rw [Int.toNat_of_nonneg this]
    exact Int.emod_eq_of_lt h0 (by show a < 4294967296; omega)
  rw [← hv a ha, ← hv b hb, e]
theorem path_inj {p q : Pf} (hp : POk p) (hq : POk q) (h : p.path = q.path) : p = q := by
  have hl : p.len.toNat = q.len.toNat := by rw [← path_len, ← path_len, h]
  have hl' : p.len = q.len := by rw [← hp.nat.1, ← hq.nat.1, hl]
  have hpre : bitsOf p.addr p.len.toNat <+: bitsOf q.addr q.len.toNat := by
    have : p.path <+: q.path := h ▸ List.prefix_refl _
    exact this
  have hb := (bits_pre.1 hpre).2
  have ha : p.addr = q.addr := adEq hp.a hq.a fun j hj => by
    by_cases hc : j < p.len.toNat
    · have := hb j hc
      rwa [bitP_bt hp.a (by omega), bitP_bt hq.a (by omega)] at this
    · rw [hp.zero (by omega) hj, hq.zero (by omega) hj]
  obtain ⟨a, l⟩ := p
  obtain ⟨b, m⟩ := q
  simp only at ha hl'
  rw [ha, hl']
theorem within_refl {p : Pf} (hp : POk p) : withinB p p = true := (within_path hp hp).2 (List.prefix_refl _)
end Go.Proofs.YtomhkbhgpmcbiaaGreat.Fs
