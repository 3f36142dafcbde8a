/- The document's definitions of prefixes, masks and rules: what they come to. -/
import Derived.Test.YtgecabgcjfpenaaTBits
import Derived.Test.YtgecabgcjfpenaaTLaw2
import Derived.Test.YtgecabgcjfpenaaTRows
import Derived.Test.YtgecabgcjfpenaaFsD
namespace Go.Proofs.Ytgecabgcjfpenaa.Fs
open Go Go.RowKit Go.Proofs.Ytgecabgcjfpenaa.Sx
set_option linter.unusedVariables false
set_option linter.unusedSimpArgs false
set_option maxRecDepth 10000
def b01 (b : Bool) : Int := if b then 1 else 0
theorem bit32_s (a : Int) (h0 : 0 ≤ a) (h1 : a ≤ 4294967295) (j : Nat) (hj : j < 32) {h : Hp} {K : Value → Hp → Prop} (H : K (.int .i64 (b01 (bt 32 a j))) h) : CallsH Try.prog 59 #[.int .u32 a, .int .i64 j] h K := by
  refine quintetref02_Bit_ok _ _ ?_
  have hw : IntKind.u64.wrap (IntKind.i64.wrap (31 - (j : Int))) = ((31 - j : Nat) : Int) := by
    rw [wrap_in (by omega) (by omega)]
    simp [IntKind.wrap, IntKind.bits, IntKind.signed]; omega
  refine ⟨a.fdiv (2 ^ (31 - j)), ?_, ?_⟩
  · intro w
    rw [hw]
    have hn : ¬ (((31 - j : Nat) : Int) < 0) := by omega
    simp only [binOp, Op.shift, hn, if_false]
    have : min ((31 - j : Nat) : Int).toNat IntKind.u32.bits = 31 - j := by
      show min _ 32 = _
      simp; omega
    rw [this]
    rfl
  · have e := bit_val 32 a h0 (by show a < 4294967296; omega) (31 - j) (by omega)
    have hb : IntKind.i64.wrap (a.fdiv (2 ^ (31 - j))) = a.fdiv (2 ^ (31 - j)) := by
      have hp : (1 : Int) ≤ 2 ^ (31 - j) := by
        have := Nat.two_pow_pos (31 - j)
        rw [show ((2 : Int) ^ (31 - j)) = ((2 ^ (31 - j) : Nat) : Int) by simp]
        omega
      rw [Int.fdiv_eq_ediv_of_nonneg _ (by omega)]
      have g1 : 0 ≤ a / 2 ^ (31 - j) := Int.ediv_nonneg h0 (by omega)
      have g2 : a / 2 ^ (31 - j) ≤ a := Int.ediv_le_self _ h0
      exact wrap_in (by omega) (by omega)
    rw [hb, e]
    exact H
theorem bit8_s (a : Int) (h0 : 0 ≤ a) (h1 : a ≤ 255) (j : Nat) (hj : j < 8) {h : Hp} {K : Value → Hp → Prop} (H : K (.int .i64 (b01 (bt 8 a j))) h) : CallsH Try.prog 60 #[.int .u8 a, .int .i64 j] h K := by
  refine quintetref04_Bit_ok _ _ ?_
  have hw : IntKind.u64.wrap (IntKind.i64.wrap (7 - (j : Int))) = ((7 - j : Nat) : Int) := by
    rw [wrap_in (by omega) (by omega)]
    simp [IntKind.wrap, IntKind.bits, IntKind.signed]; omega
  refine ⟨a.fdiv (2 ^ (7 - j)), ?_, ?_⟩
  · intro w
    rw [hw]
    have hn : ¬ (((7 - j : Nat) : Int) < 0) := by omega
    simp only [binOp, Op.shift, hn, if_false]
    have : min ((7 - j : Nat) : Int).toNat IntKind.u8.bits = 7 - j := by
      show min _ 8 = _
      simp; omega
    rw [this]
    rfl
  · have e := bit_val 8 a h0 (by show a < 256; omega) (7 - j) (by omega)
    have hb : IntKind.i64.wrap (a.fdiv (2 ^ (7 - j))) = a.fdiv (2 ^ (7 - j)) := by
      have hp : (1 : Int) ≤ 2 ^ (7 - j) := by
        have := Nat.two_pow_pos (7 - j)
        rw [show ((2 : Int) ^ (7 - j)) = ((2 ^ (7 - j) : Nat) : Int) by simp]
        omega
      rw [Int.fdiv_eq_ediv_of_nonneg _ (by omega)]
      have g1 : 0 ≤ a / 2 ^ (7 - j) := Int.ediv_nonneg h0 (by omega)
      have g2 : a / 2 ^ (7 - j) ≤ a := Int.ediv_le_self _ h0
      exact wrap_in (by omega) (by omega)
    rw [hb, e]
    exact H
theorem ref02_l3 (a : Int) (h0 : 0 ≤ a) (h1 : a ≤ 4294967295) {p : Addr} {h : Hp} (hc : cell h p = some (.int .u32 a)) {K0 : Int → Hp → Prop} {K1 : Hp → Prop} (l : Nat)
    (H0 : (∃ j, l ≤ j ∧ j < 32 ∧ bt 32 a j = true) → K0 21 h) (H1 : (∀ j, l ≤ j → j < 32 → bt 32 a j = false) → K1 h) :
    ∀ (d n k : Nat), n + d = 32 → l ≤ n → d < k → (∀ j, l ≤ j → j < n → bt 32 a j = false) → quintetref02_Check_l3 p K0 K1 k n h := by
  intro d
  induction d with
  | zero =>
    intro n k hn hl hk hz
    obtain ⟨k, rfl⟩ : ∃ m, k = m + 1 := ⟨k - 1, by omega⟩
    unfold quintetref02_Check_l3
    exact br_f (by simp; omega) (H1 fun j q1 q2 => hz j q1 (by omega))
  | succ d ih =>
    intro n k hn hl hk hz
    obtain ⟨k, rfl⟩ : ∃ m, k = m + 1 := ⟨k - 1, by omega⟩
    unfold quintetref02_Check_l3
    refine br_t (by simp; omega) ⟨_, ld hc (by kernel_rfl), ?_⟩
    refine bit32_s a h0 h1 n (by omega) ⟨_, rfl, ?_⟩
    cases hb : bt 32 a n with
    | true => exact br_t rfl (H0 ⟨n, hl, by omega, hb⟩)
    | false =>
      refine br_f rfl ?_
      rw [wrap_in (by omega) (by omega)]
      refine ih (n + 1) k (by omega) (by omega) (by omega) (fun j q1 q2 => ?_)
      by_cases hj : j = n
      · rw [hj]; exact hb
      · exact hz j q1 (by omega)
theorem ref02_Check_s (a l : Int) (h0 : 0 ≤ a) (h1 : a ≤ 4294967295) {h : Hp} {K : Value → Hp → Prop} (H : ∀ h', Ext h h' → K (.int .i64 (prefixCheck a l)) h') : CallsH Try.prog 47 #[.agg #[.int .u32 a, .int .i64 l]] h K := by
  refine quintetref02_Check_ok _ _ ?_
  unfold quintetref02_Check quintetref02_Check_j2
  refine newC_i fun h1 e1 c1 b1 z1 => ?_
  have H := H h1 e1
  refine ⟨_, ld (c1.at_ 1 _ rfl) (by kernel_rfl), br_i (fun hc => ?_) (fun hc => ?_)⟩
  · rw [prefixCheck, if_pos (by simpa using hc)] at H; exact H
  have q1 : ¬ l < 0 := by simpa using hc
  refine ⟨_, ld (c1.at_ 1 _ rfl) (by kernel_rfl), br_i (fun hd => ?_) (fun hd => ?_)⟩
  · rw [prefixCheck, if_neg q1, if_pos (by simpa using hd)] at H; exact H
  have q2 : ¬ l > 32 := by simpa using hd
  rw [prefixCheck, if_neg q1, if_neg q2] at H
  obtain ⟨m, rfl⟩ := Int.eq_ofNat_of_zero_le (a := l) (by omega)
  refine ⟨_, ld (c1.at_ 1 _ rfl) (by kernel_rfl), 33 - m, ?_⟩
  refine ref02_l3 a h0 (by omega) c1.head m (fun ⟨j, j1, j2, j3⟩ => ?g0) (fun hz => ?g1) (32 - m) m (33 - m) (by omega) (Nat.le_refl _) (by omega) (fun j _ _ => by omega)
  case g0 =>
    rw [if_pos ?_] at H
    · exact H
    · refine bne_iff_ne.2 fun hz => ?_
      rw [prefix_bits a m (by omega)] at hz
      rw [hz j j1 j2] at j3
      cases j3
  case g1 =>
    rw [if_neg ?_] at H
    · exact H
    · rw [(prefix_bits a m (by omega)).2 hz]; decide
theorem has02_l1 (a x : Int) (l : Nat) (hl : l ≤ 32) (h0 : 0 ≤ a) (h1 : a ≤ 4294967295) (x0 : 0 ≤ x) (x1 : x ≤ 4294967295) {p : Addr} {h : Hp} (hc : Cl h p [.int .u32 a, .int .i64 l]) {K0 : Bool → Hp → Prop} {K1 : Hp → Prop}
    (H0 : (∃ j, j < l ∧ bt 32 a j ≠ bt 32 x j) → K0 false h) (H1 : (∀ j, j < l → bt 32 a j = bt 32 x j) → K1 h) :
    ∀ (d n k : Nat), n + d = l → d < k → (∀ j, j < n → bt 32 a j = bt 32 x j) → quintetref02_Has_l1 x p K0 K1 k n h := by
  intro d
  induction d with
  | zero =>
    intro n k hn hk hz
    obtain ⟨k, rfl⟩ : ∃ m, k = m + 1 := ⟨k - 1, by omega⟩
    unfold quintetref02_Has_l1
    exact ⟨_, ld (hc.at_ 1 _ rfl) (by kernel_rfl), br_f (by simp; omega) (H1 fun j q1 => hz j (by omega))⟩
  | succ d ih =>
    intro n k hn hk hz
    obtain ⟨k, rfl⟩ : ∃ m, k = m + 1 := ⟨k - 1, by omega⟩
    unfold quintetref02_Has_l1
    refine ⟨_, ld (hc.at_ 1 _ rfl) (by kernel_rfl), br_t (by simp; omega) ⟨_, ld hc.head (by kernel_rfl), ?_⟩⟩
    refine bit32_s a h0 h1 n (by omega) ⟨_, rfl, ?_⟩
    refine bit32_s x x0 x1 n (by omega) ⟨_, rfl, ?_⟩
    by_cases hb : bt 32 a n = bt 32 x n
    · refine br_f (by rw [hb]; simp) ?_
      rw [wrap_in (by omega) (by omega)]
      refine ih (n + 1) k (by omega) (by omega) (fun j q2 => ?_)
      by_cases hj : j = n
      · rw [hj]; exact hb
      · exact hz j (by omega)
    · refine br_t ?_ (H0 ⟨n, by omega, hb⟩)
      cases h1 : bt 32 a n <;> cases h2 : bt 32 x n <;> simp_all [b01]
theorem ref02_Has_s (a l x : Int) (h0 : 0 ≤ a) (h1 : a ≤ 4294967295) (x0 : 0 ≤ x) (x1 : x ≤ 4294967295) {h : Hp} {K : Value → Hp → Prop} (H : ∀ h', Ext h h' → K (.bool (prefixHas a l x)) h') : CallsH Try.prog 52 #[.agg #[.int .u32 a, .int .i64 l], .int .u32 x] h K := by
  refine quintetref02_Has_ok _ _ _ ?_
  unfold quintetref02_Has
  refine newC_i fun h1' e1 c1 b1 z1 => ?_
  refine ⟨_, _, ldS c1 (by kernel_rfl), ?_⟩
  refine ref02_Check_s a l h0 h1 fun h2 e2 => ⟨_, rfl, ?_⟩
  have H := H h2 (e1.trans e2)
  refine br_i (fun hc => ?_) (fun hc => ?_)
  · have : prefixHas a l x = false := by
      have : prefixCheck a l ≠ 0 := by simpa using hc
      simp [prefixHas, this]
    rw [this] at H; exact H
  · have hz : prefixCheck a l = 0 := by simpa using hc
    obtain ⟨l0, l1⟩ := prefixCheck_len hz
    obtain ⟨m, rfl⟩ := Int.eq_ofNat_of_zero_le l0
    have hn : bAndNot .u32 a (careV m) = 0 := by
      unfold prefixCheck at hz
      rw [if_neg (by omega), if_neg (by omega)] at hz
      split at hz
      · cases hz
      · rename_i hq; simpa using hq
    have hb := has_bits a x h0 h1 m (by omega) hn
    refine ⟨m + 1, ?_⟩
    refine has02_l1 a x m (by omega) h0 h1 x0 x1 (c1.ext e2) (fun ⟨j, j1, j2⟩ => ?g0) (fun hall => ?g1) m 0 (m + 1) (by omega) (by omega) (fun j hj => by omega)
    case g0 =>
      have : prefixHas a m x = false := by
        rw [prefixHas, hz]
        have : ¬ bAnd .u32 x (careV m) = a := fun he => j2 (hb.1 he j j1)
        simp [this]
      rw [this] at H; exact H
    case g1 =>
      have : prefixHas a m x = true := by
        rw [prefixHas, hz, hb.2 hall]
        simp
      rw [this] at H; exact H
theorem ref04_l1 (v c : Int) (v0 : 0 ≤ v) (v1 : v ≤ 255) (c0 : 0 ≤ c) (c1 : c ≤ 255) {p : Addr} {h : Hp} (hc : Cl h p [.int .u8 v, .int .u8 c]) {K0 : Int → Hp → Prop} {K1 : Hp → Prop}
    (H0 : (∃ j, j < 8 ∧ bt 8 v j = true ∧ bt 8 c j = false) → K0 40 h) (H1 : (∀ j, j < 8 → bt 8 v j = true → bt 8 c j = true) → K1 h) :
    ∀ (d n k : Nat), n + d = 8 → d < k → (∀ j, j < n → bt 8 v j = true → bt 8 c j = true) → quintetref04_Check_l1 p K0 K1 k n h := by
  intro d
  induction d with
  | zero =>
    intro n k hn hk hz
    obtain ⟨k, rfl⟩ : ∃ m, k = m + 1 := ⟨k - 1, by omega⟩
    unfold quintetref04_Check_l1
    exact br_f (by simp; omega) (H1 fun j q1 => hz j (by omega))
  | succ d ih =>
    intro n k hn hk hz
    obtain ⟨k, rfl⟩ : ∃ m, k = m + 1 := ⟨k - 1, by omega⟩
    have next : (bt 8 v n = true → bt 8 c n = true) → quintetref04_Check_l1 p K0 K1 k (IntKind.i64.wrap ((n : Int) + 1)) h := fun hb => by
      rw [wrap_in (by omega) (by omega)]
      refine ih (n + 1) k (by omega) (by omega) (fun j q2 => ?_)
      by_cases hj : j = n
      · rw [hj]; exact hb
      · exact hz j (by omega)
    unfold quintetref04_Check_l1
    refine br_t (by simp; omega) ⟨_, ld hc.head (by kernel_rfl), ?_⟩
    refine bit8_s v v0 v1 n (by omega) ⟨_, rfl, ?_⟩
    cases hb : bt 8 v n with
    | false => exact br_f rfl (next (fun h => by rw [hb] at h; cases h))
    | true =>
      refine br_t rfl ⟨_, ld (hc.at_ 1 _ rfl) (by kernel_rfl), ?_⟩
      refine bit8_s c c0 c1 n (by omega) ⟨_, rfl, ?_⟩
      cases hd : bt 8 c n with
      | false => exact br_t rfl (H0 ⟨n, by omega, hb, hd⟩)
      | true => exact br_f rfl (next (fun _ => hd))
theorem ref04_Check_s (v c : Int) (v0 : 0 ≤ v) (v1 : v ≤ 255) (c0 : 0 ≤ c) (c1 : c ≤ 255) {h : Hp} {K : Value → Hp → Prop} (H : ∀ h', Ext h h' → K (.int .i64 (maskCheck v c)) h') : CallsH Try.prog 49 #[.agg #[.int .u8 v, .int .u8 c]] h K := by
  refine quintetref04_Check_ok _ _ ?_
  unfold quintetref04_Check
  refine newC_i fun h1 e1 k1 b1 z1 => ⟨9, ?_⟩
  have H := H h1 e1
  refine ref04_l1 v c v0 v1 c0 c1 k1 (fun ⟨j, j1, j2, j3⟩ => ?g0) (fun hz => ?g1) 8 0 9 (by omega) (by omega) (fun j hj => by omega)
  case g0 =>
    rw [maskCheck, if_pos ?_] at H
    · exact H
    · refine bne_iff_ne.2 fun hz => ?_
      rw [mask_bits] at hz
      rw [hz j j1 j2] at j3
      cases j3
  case g1 =>
    rw [maskCheck, (mask_bits v c).2 hz] at H
    exact H
theorem has04_l1 (v c x : Int) (v0 : 0 ≤ v) (v1 : v ≤ 255) (c0 : 0 ≤ c) (c1 : c ≤ 255) (x0 : 0 ≤ x) (x1 : x ≤ 255) {p : Addr} {h : Hp} (hc : Cl h p [.int .u8 v, .int .u8 c]) {K0 : Bool → Hp → Prop} {K1 : Hp → Prop}
    (H0 : (∃ j, j < 8 ∧ bt 8 c j = true ∧ bt 8 v j ≠ bt 8 x j) → K0 false h) (H1 : (∀ j, j < 8 → bt 8 c j = true → bt 8 v j = bt 8 x j) → K1 h) :
    ∀ (d n k : Nat), n + d = 8 → d < k → (∀ j, j < n → bt 8 c j = true → bt 8 v j = bt 8 x j) → quintetref04_Has_l1 x p K0 K1 k n h := by
  intro d
  induction d with
  | zero =>
    intro n k hn hk hz
    obtain ⟨k, rfl⟩ : ∃ m, k = m + 1 := ⟨k - 1, by omega⟩
    unfold quintetref04_Has_l1
    exact br_f (by simp; omega) (H1 fun j q1 => hz j (by omega))
  | succ d ih =>
    intro n k hn hk hz
    obtain ⟨k, rfl⟩ : ∃ m, k = m + 1 := ⟨k - 1, by omega⟩
    have next : (bt 8 c n = true → bt 8 v n = bt 8 x n) → quintetref04_Has_l1 x p K0 K1 k (IntKind.i64.wrap ((n : Int) + 1)) h := fun hb => by
      rw [wrap_in (by omega) (by omega)]
      refine ih (n + 1) k (by omega) (by omega) (fun j q2 => ?_)
      by_cases hj : j = n
      · rw [hj]; exact hb
      · exact hz j (by omega)
    unfold quintetref04_Has_l1
    refine br_t (by simp; omega) ⟨_, ld (hc.at_ 1 _ rfl) (by kernel_rfl), ?_⟩
    refine bit8_s c c0 c1 n (by omega) ⟨_, rfl, ?_⟩
    cases hb : bt 8 c n with
    | false => exact br_f rfl (next (fun h => by rw [hb] at h; cases h))
    | true =>
      refine br_t rfl ⟨_, ld hc.head (by kernel_rfl), ?_⟩
      refine bit8_s v v0 v1 n (by omega) ⟨_, rfl, ?_⟩
      refine bit8_s x x0 x1 n (by omega) ⟨_, rfl, ?_⟩
      by_cases hd : bt 8 v n = bt 8 x n
      · exact br_f (by rw [hd]; simp) (next (fun _ => hd))
      · refine br_t ?_ (H0 ⟨n, by omega, hb, hd⟩)
        cases h1 : bt 8 v n <;> cases h2 : bt 8 x n <;> simp_all [b01]
theorem ref04_Has_s (v c x : Int) (v0 : 0 ≤ v) (v1 : v ≤ 255) (c0 : 0 ≤ c) (c1 : c ≤ 255) (x0 : 0 ≤ x) (x1 : x ≤ 255) {h : Hp} {K : Value → Hp → Prop} (H : ∀ h', Ext h h' → K (.bool (maskCheck v c == 0 && maskHas v c x)) h') : CallsH Try.prog 53 #[.agg #[.int .u8 v, .int .u8 c], .int .u8 x] h K := by
  refine quintetref04_Has_ok _ _ _ ?_
  unfold quintetref04_Has
  refine newC_i fun h1' e1 k1 b1 z1 => ?_
  refine ⟨_, _, ldS k1 (by kernel_rfl), ?_⟩
  refine ref04_Check_s v c v0 v1 c0 c1 fun h2 e2 => ⟨_, rfl, ?_⟩
  have H := H h2 (e1.trans e2)
  refine br_i (fun hc => ?_) (fun hc => ?_)
  · have : maskCheck v c ≠ 0 := by simpa using hc
    rw [show (maskCheck v c == 0) = false by simpa using this] at H
    exact H
  · have hz : maskCheck v c = 0 := by simpa using hc
    have hn : bAndNot .u8 v c = 0 := by
      unfold maskCheck at hz
      split at hz
      · cases hz
      · rename_i hq; simpa using hq
    have hb := mhas_bits v c x v0 v1 hn
    rw [hz] at H
    refine ⟨9, ?_⟩
    refine has04_l1 v c x v0 v1 c0 c1 x0 x1 (k1.ext e2) (fun ⟨j, j1, j2, j3⟩ => ?g0) (fun hall => ?g1) 8 0 9 (by omega) (by omega) (fun j hj => by omega)
    case g0 =>
      have : maskHas v c x = false := by
        have : ¬ bAnd .u8 x c = v := fun he => j3 (hb.1 he j j1 j2)
        simp [maskHas, this]
      rw [this] at H; exact H
    case g1 =>
      have : maskHas v c x = true := by
        simp [maskHas, hb.2 hall]
      rw [this] at H; exact H
end Go.Proofs.Ytgecabgcjfpenaa.Fs
