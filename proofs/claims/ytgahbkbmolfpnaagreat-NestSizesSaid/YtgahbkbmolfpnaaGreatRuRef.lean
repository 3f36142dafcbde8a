/- The document's checks of prefixes, masks and rules. -/
import Derived.Test.YtgahbkbmolfpnaaGreatRuBits
import Derived.Test.YtgahbkbmolfpnaaGreatFsD
namespace Go.Proofs.YtgahbkbmolfpnaaGreat.Fs
open Go Go.RowKit Go.Proofs.YtgahbkbmolfpnaaGreat.Sx
set_option linter.unusedVariables false
set_option linter.unusedSimpArgs false
set_option maxRecDepth 10000
def b01 (b : Bool) : Int := if b then 1 else 0
theorem bit32_s (a : Int) (h0 : 0 ≤ a) (h1 : a ≤ 4294967295) (j : Nat) (hj : j < 32) {h : Hp} {K : Value → Hp → Prop} (H : K (.int .i64 (b01 (bt 32 a j))) h) : CallsH Tryz.prog 53 #[.int .u32 a, .int .i64 j] h K := by
  refine quintetref02_Bit_ok _ _ ?_
  have hw : IntKind.u64.wrap (IntKind.i64.wrap (31 - (j : Int))) = ((31 - j : Nat) : Int) := by
    rw [wrap_in (by omega) (by omega)]
    simp [IntKind.wrap, IntKind.bits, IntKind.signed]; omega
  refine ⟨a.fdiv (2 ^ (31 - j)), ?_, ?_⟩
  · intro w
    rw [hw]
    have hn : ¬ (((31 - j : Nat) : Int) < 0) := by omega
    simp only [binOp, Op.shift, hn, if_false]
    have : min ((31 - j : Nat) : Int).toNat IntKind.u32.bits = 31 - j := by
      show min _ 32 = _
      simp; omega
    rw [this]
    rfl
  · have e := bit_val 32 a h0 (by show a < 4294967296; omega) (31 - j) (by omega)
    have hb : IntKind.i64.wrap (a.fdiv (2 ^ (31 - j))) = a.fdiv (2 ^ (31 - j)) := by
      have hp : (1 : Int) ≤ 2 ^ (31 - j) := by
        have := Nat.two_pow_pos (31 - j)
        rw [show ((2 : Int) ^ (31 - j)) = ((2 ^ (31 - j) : Nat) : Int) by simp]
        omega
      rw [Int.fdiv_eq_ediv_of_nonneg _ (by omega)]
      have g1 : 0 ≤ a / 2 ^ (31 - j) := Int.ediv_nonneg h0 (by omega)
      have g2 : a / 2 ^ (31 - j) ≤ a := Int.ediv_le_self _ h0
      exact wrap_in (by omega) (by omega)
    rw [hb, e]
    exact H
theorem bit8_s (a : Int) (h0 : 0 ≤ a) (h1 : a ≤ 255) (j : Nat) (hj : j < 8) {h : Hp} {K : Value → Hp → Prop} (H : K (.int .i64 (b01 (bt 8 a j))) h) : CallsH Tryz.prog 88 #[.int .u8 a, .int .i64 j] h K := by
  refine quintetref04_Bit_ok _ _ ?_
  have hw : IntKind.u64.wrap (IntKind.i64.wrap (7 - (j : Int))) = ((7 - j : Nat) : Int) := by
    rw [wrap_in (by omega) (by omega)]
    simp [IntKind.wrap, IntKind.bits, IntKind.signed]; omega
  refine ⟨a.fdiv (2 ^ (7 - j)), ?_, ?_⟩
  · intro w
    rw [hw]
    have hn : ¬ (((7 - j : Nat) : Int) < 0) := by omega
    simp only [binOp, Op.shift, hn, if_false]
    have : min ((7 - j : Nat) : Int).toNat IntKind.u8.bits = 7 - j := by
      show min _ 8 = _
      simp; omega
    rw [this]
    rfl
  · have e := bit_val 8 a h0 (by show a < 256; omega) (7 - j) (by omega)
    have hb : IntKind.i64.wrap (a.fdiv (2 ^ (7 - j))) = a.fdiv (2 ^ (7 - j)) := by
      have hp : (1 : Int) ≤ 2 ^ (7 - j) := by
        have := Nat.two_pow_pos (7 - j)
        rw [show ((2 : Int) ^ (7 - j)) = ((2 ^ (7 - j) : Nat) : Int) by simp]
        omega
      rw [Int.fdiv_eq_ediv_of_nonneg _ (by omega)]
      have g1 : 0 ≤ a / 2 ^ (7 - j) := Int.ediv_nonneg h0 (by omega)
      have g2 : a / 2 ^ (7 - j) ≤ a := Int.ediv_le_self _ h0
      exact wrap_in (by omega) (by omega)
    rw [hb, e]
    exact H
theorem ref02_l3 (a : Int) (h0 : 0 ≤ a) (h1 : a ≤ 4294967295) {p : Addr} {h : Hp} (hc : cell h p = some (.int .u32 a)) {K0 : Int → Hp → Prop} {K1 : Hp → Prop} (l : Nat)
    (H0 : (∃ j, l ≤ j ∧ j < 32 ∧ bt 32 a j = true) → K0 21 h) (H1 : (∀ j, l ≤ j → j < 32 → bt 32 a j = false) → K1 h) :
    ∀ (d n k : Nat), n + d = 32 → l ≤ n → d < k → (∀ j, l ≤ j → j < n → bt 32 a j = false) → quintetref02_Check_l3 p K0 K1 k n h := by
  intro d
  induction d with
  | zero =>
    intro n k hn hl hk hz
    obtain ⟨k, rfl⟩ : ∃ m, k = m + 1 := ⟨k - 1, by omega⟩
    unfold quintetref02_Check_l3
    exact br_f (by simp; omega) (H1 fun j q1 q2 => hz j q1 (by omega))
  | succ d ih =>
    intro n k hn hl hk hz
    obtain ⟨k, rfl⟩ : ∃ m, k = m + 1 := ⟨k - 1, by omega⟩
    unfold quintetref02_Check_l3
    refine br_t (by simp; omega) ⟨_, ld hc (by kernel_rfl), ?_⟩
    refine bit32_s a h0 h1 n (by omega) ⟨_, rfl, ?_⟩
    cases hb : bt 32 a n with
    | true => exact br_t rfl (H0 ⟨n, hl, by omega, hb⟩)
    | false =>
      refine br_f rfl ?_
      rw [wrap_in (by omega) (by omega)]
      refine ih (n + 1) k (by omega) (by omega) (by omega) (fun j q1 q2 => ?_)
      by_cases hj : j = n
      · rw [hj]; exact hb
      · exact hz j q1 (by omega)
theorem ref02_Check_s (a l : Int) (h0 : 0 ≤ a) (h1 : a ≤ 4294967295) {h : Hp} {K : Value → Hp → Prop} (H : ∀ h', Ext h h' → K (.int .i64 (prefixCheck a l)) h') : CallsH Tryz.prog 47 #[.agg #[.int .u32 a, .int .i64 l]] h K := by
  refine quintetref02_Check_ok _ _ ?_
  unfold quintetref02_Check quintetref02_Check_j2
  refine newC_i fun h1 e1 c1 b1 z1 => ?_
  have H := H h1 e1
  refine ⟨_, ld (c1.at_ 1 _ rfl) (by kernel_rfl), br_i (fun hc => ?_) (fun hc => ?_)⟩
  · rw [prefixCheck, if_pos (by simpa using hc)] at H; exact H
  have q1 : ¬ l < 0 := by simpa using hc
  refine ⟨_, ld (c1.at_ 1 _ rfl) (by kernel_rfl), br_i (fun hd => ?_) (fun hd => ?_)⟩
  · rw [prefixCheck, if_neg q1, if_pos (by simpa using hd)] at H; exact H
  have q2 : ¬ l > 32 := by simpa using hd
  rw [prefixCheck, if_neg q1, if_neg q2] at H
  obtain ⟨m, rfl⟩ := Int.eq_ofNat_of_zero_le (a := l) (by omega)
  refine ⟨_, ld (c1.at_ 1 _ rfl) (by kernel_rfl), 33 - m, ?_⟩
  refine ref02_l3 a h0 (by omega) c1.head m (fun ⟨j, j1, j2, j3⟩ => ?g0) (fun hz => ?g1) (32 - m) m (33 - m) (by omega) (Nat.le_refl _) (by omega) (fun j _ _ => by omega)
  case g0 =>
    rw [if_pos ?_] at H
    · exact H
    · refine bne_iff_ne.2 fun hz => ?_
      rw [prefix_bits a m (by omega)] at hz
      rw [hz j j1 j2] at j3
      cases j3
  case g1 =>
    rw [if_neg ?_] at H
    · exact H
    · rw [(prefix_bits a m (by omega)).2 hz]; decide
theorem ref04_l1 (v c : Int) (v0 : 0 ≤ v) (v1 : v ≤ 255) (c0 : 0 ≤ c) (c1 : c ≤ 255) {p : Addr} {h : Hp} (hc : Cl h p [.int .u8 v, .int .u8 c]) {K0 : Int → Hp → Prop} {K1 : Hp → Prop}
    (H0 : (∃ j, j < 8 ∧ bt 8 v j = true ∧ bt 8 c j = false) → K0 40 h) (H1 : (∀ j, j < 8 → bt 8 v j = true → bt 8 c j = true) → K1 h) :
    ∀ (d n k : Nat), n + d = 8 → d < k → (∀ j, j < n → bt 8 v j = true → bt 8 c j = true) → quintetref04_Check_l1 p K0 K1 k n h := by
  intro d
  induction d with
  | zero =>
    intro n k hn hk hz
    obtain ⟨k, rfl⟩ : ∃ m, k = m + 1 := ⟨k - 1, by omega⟩
    unfold quintetref04_Check_l1
    exact br_f (by simp; omega) (H1 fun j q1 => hz j (by omega))
  | succ d ih =>
    intro n k hn hk hz
    obtain ⟨k, rfl⟩ : ∃ m, k = m + 1 := ⟨k - 1, by omega⟩
    have next : (bt 8 v n = true → bt 8 c n = true) → quintetref04_Check_l1 p K0 K1 k (IntKind.i64.wrap ((n : Int) + 1)) h := fun hb => by
      rw [wrap_in (by omega) (by omega)]
      refine ih (n + 1) k (by omega) (by omega) (fun j q2 => ?_)
      by_cases hj : j = n
      · rw [hj]; exact hb
      · exact hz j (by omega)
    unfold quintetref04_Check_l1
    refine br_t (by simp; omega) ⟨_, ld hc.head (by kernel_rfl), ?_⟩
    refine bit8_s v v0 v1 n (by omega) ⟨_, rfl, ?_⟩
    cases hb : bt 8 v n with
    | false => exact br_f rfl (next (fun h => by rw [hb] at h; cases h))
    | true =>
      refine br_t rfl ⟨_, ld (hc.at_ 1 _ rfl) (by kernel_rfl), ?_⟩
      refine bit8_s c c0 c1 n (by omega) ⟨_, rfl, ?_⟩
      cases hd : bt 8 c n with
      | false => exact br_t rfl (H0 ⟨n, by omega, hb, hd⟩)
      | true => exact br_f rfl (next (fun _ => hd))
theorem ref04_Check_s (v c : Int) (v0 : 0 ≤ v) (v1 : v ≤ 255) (c0 : 0 ≤ c) (c1 : c ≤ 255) {h : Hp} {K : Value → Hp → Prop} (H : ∀ h', Ext h h' → K (.int .i64 (maskCheck v c)) h') : CallsH Tryz.prog 67 #[.agg #[.int .u8 v, .int .u8 c]] h K := by
  refine quintetref04_Check_ok _ _ ?_
  unfold quintetref04_Check
  refine newC_i fun h1 e1 k1 b1 z1 => ⟨9, ?_⟩
  have H := H h1 e1
  refine ref04_l1 v c v0 v1 c0 c1 k1 (fun ⟨j, j1, j2, j3⟩ => ?g0) (fun hz => ?g1) 8 0 9 (by omega) (by omega) (fun j hj => by omega)
  case g0 =>
    rw [maskCheck, if_pos ?_] at H
    · exact H
    · refine bne_iff_ne.2 fun hz => ?_
      rw [mask_bits] at hz
      rw [hz j j1 j2] at j3
      cases j3
  case g1 =>
    rw [maskCheck, (mask_bits v c).2 hz] at H
    exact H
structure Rul.wf (r : Rul) : Prop where
  s : 0 ≤ r.sA ∧ r.sA ≤ 4294967295
  d : 0 ≤ r.dA ∧ r.dA ≤ 4294967295
  pV : 0 ≤ r.pV ∧ r.pV ≤ 255
  pC : 0 ≤ r.pC ∧ r.pC ≤ 255
theorem ends_s (a l : Int) {h : Hp} {K : Value → Hp → Prop} (H : ∀ h', Ext h h' → K (.int .i64 (spanCheck a l)) h') : CallsH Tryz.prog 66 #[.agg #[.int .u16 a, .int .u16 l]] h K := by
  refine quintetref08_ends_ok a l ?_
  unfold quintetref08_ends
  refine newC_i fun h1 e1 c1 b1 z1 => ?_
  have H := H h1 e1
  refine ⟨_, ld c1.head (by kernel_rfl), _, ld (c1.at_ 1 _ rfl) (by kernel_rfl), ?_⟩
  refine br_i (fun hc => ?_) (fun hc => ?_)
  · rw [spanCheck, if_pos (by simpa using hc)] at H; exact H
  · rw [spanCheck, if_neg (by simpa using hc)] at H; exact H
theorem und_errs : Tryz.prog.underlying 96 = some (.slice 29) := by kernel_rfl
theorem size_err : (Tryz.prog.info? 29).map (·.size) = some 1 := by kernel_rfl
theorem ref08_l3 (es : List Int) (hes : es.length = 5) {p q : Addr} {h : Hp} (hc : Cl h p (es.map (Value.int .i64))) {K0 : Int → Int → Hp → Prop} {K1 : Addr → Hp → Prop}
    (H0 : ∀ e i, firstBad es 0 = some (e, i) → K0 e i h) (H1 : firstBad es 0 = none → K1 q h) :
    ∀ (d n k : Nat), n + d = 5 → d < k → firstBad es 0 = firstBad (es.drop n) n → quintetref08_Check_l3 q (some p) 5 5 K0 K1 k n h := by
  intro d
  induction d with
  | zero =>
    intro n k hn hk hz
    obtain ⟨k, rfl⟩ : ∃ m, k = m + 1 := ⟨k - 1, by omega⟩
    unfold quintetref08_Check_l3
    refine br_f (by simp; omega) (H1 ?_)
    rw [hz, List.drop_of_length_le (by omega)]
    rfl
  | succ d ih =>
    intro n k hn hk hz
    obtain ⟨k, rfl⟩ : ∃ m, k = m + 1 := ⟨k - 1, by omega⟩
    unfold quintetref08_Check_l3
    refine br_t (by simp; omega) ?_
    have hx := ix (P := Tryz.prog) (T := 96) (E := 29) (a := p) (l := 5) (c := 5) (sz := 1) (k := .i64) (i := (n : Int)) (by omega) (by omega) und_errs size_err
    rw [Int.toNat_natCast, Nat.mul_one] at hx
    have hcell : cell h (p.add n) = some (.int .i64 (es[n]'(by omega))) := hc.at_ n _ (by rw [List.getElem?_map, List.getElem?_eq_getElem (by omega)]; rfl)
    rw [List.drop_eq_getElem_cons (by omega)] at hz
    refine ⟨_, hx, _, ld hcell (by kernel_rfl), br_i (fun hb => ?_) (fun hb => ?_)⟩
    · refine ⟨_, hx, _, ld hcell (by kernel_rfl), ?_⟩
      rw [wrap_in (by omega) (by omega)]
      refine H0 _ _ ?_
      rw [hz, firstBad, if_pos (by simpa using hb)]
      congr 2
      omega
    · rw [wrap_in (by omega) (by omega)]
      refine ih (n + 1) k (by omega) (by omega) ?_
      rw [hz, firstBad, if_neg (by simpa using hb)]
      rfl
theorem ref08_Check_s (r : Rul) (hr : r.wf) {h : Hp} {K : Value → Hp → Prop} (H : ∀ h', Ext h h' → K (.tuple #[.int .i64 r.check.1, .int .i64 r.check.2]) h') : CallsH Tryz.prog 46 #[r.val] h K := by
  refine quintetref08_Check_ok _ _ _ _ _ _ _ _ _ _ _ _ ?_
  unfold quintetref08_Check quintetref08_Check_j2
  refine newC_i fun h1 e1 c1 b1 z1 => ?_
  refine ⟨_, ld c1.head (by kernel_rfl), br_i (fun hc => ?_) (fun hc => ?_)⟩
  · have H := H h1 e1
    rw [Rul.check, if_pos (by left; simpa using hc)] at H; exact H
  have q1 : ¬ r.id < 1 := by simpa using hc
  refine ⟨_, ld c1.head (by kernel_rfl), br_i (fun hd => ?_) (fun hd => ?_)⟩
  · have H := H h1 e1
    rw [Rul.check, if_pos (by right; simpa using hd)] at H; exact H
  have q2 : ¬ r.id > 999999 := by simpa using hd
  rw [Rul.check, if_neg (by omega)] at H
  refine ⟨_, _, (ldS (Cl.sl (by first | assumption | exact Cl.ext2 (by assumption) (by first | assumption | exact Cl.ext2 (by assumption) (by first | assumption | exact Cl.ext2 (by assumption) (by first | assumption | exact Cl.ext2 (by assumption) (by first | assumption | exact Cl.ext2 (by assumption) (by first | assumption | exact Cl.ext2 (by assumption) (by first | assumption | exact Cl.ext2 (by assumption) (by first | assumption | exact Cl.ext2 (by assumption) (by first | assumption | exact Cl.ext2 (by assumption) (by assumption)))))))))) rfl) (by kernel_rfl)), ?_⟩
  refine ref02_Check_s r.sA r.sL hr.s.1 hr.s.2 fun h2 e2 => ⟨_, rfl, ?_⟩
  refine ⟨_, _, (ldS (Cl.sl (by first | assumption | exact Cl.ext2 (by assumption) (by first | assumption | exact Cl.ext2 (by assumption) (by first | assumption | exact Cl.ext2 (by assumption) (by first | assumption | exact Cl.ext2 (by assumption) (by first | assumption | exact Cl.ext2 (by assumption) (by first | assumption | exact Cl.ext2 (by assumption) (by first | assumption | exact Cl.ext2 (by assumption) (by first | assumption | exact Cl.ext2 (by assumption) (by first | assumption | exact Cl.ext2 (by assumption) (by assumption)))))))))) rfl) (by kernel_rfl)), (ldS (Cl.sl (by first | assumption | exact Cl.ext2 (by assumption) (by first | assumption | exact Cl.ext2 (by assumption) (by first | assumption | exact Cl.ext2 (by assumption) (by first | assumption | exact Cl.ext2 (by assumption) (by first | assumption | exact Cl.ext2 (by assumption) (by first | assumption | exact Cl.ext2 (by assumption) (by first | assumption | exact Cl.ext2 (by assumption) (by first | assumption | exact Cl.ext2 (by assumption) (by first | assumption | exact Cl.ext2 (by assumption) (by assumption)))))))))) rfl) (by kernel_rfl)), ?_⟩
  refine ref02_Check_s r.dA r.dL hr.d.1 hr.d.2 fun h3 e3 => ⟨_, rfl, ?_⟩
  refine ⟨_, _, (ldS (Cl.sl (by first | assumption | exact Cl.ext2 (by assumption) (by first | assumption | exact Cl.ext2 (by assumption) (by first | assumption | exact Cl.ext2 (by assumption) (by first | assumption | exact Cl.ext2 (by assumption) (by first | assumption | exact Cl.ext2 (by assumption) (by first | assumption | exact Cl.ext2 (by assumption) (by first | assumption | exact Cl.ext2 (by assumption) (by first | assumption | exact Cl.ext2 (by assumption) (by first | assumption | exact Cl.ext2 (by assumption) (by assumption)))))))))) rfl) (by kernel_rfl)), (ldS (Cl.sl (by first | assumption | exact Cl.ext2 (by assumption) (by first | assumption | exact Cl.ext2 (by assumption) (by first | assumption | exact Cl.ext2 (by assumption) (by first | assumption | exact Cl.ext2 (by assumption) (by first | assumption | exact Cl.ext2 (by assumption) (by first | assumption | exact Cl.ext2 (by assumption) (by first | assumption | exact Cl.ext2 (by assumption) (by first | assumption | exact Cl.ext2 (by assumption) (by first | assumption | exact Cl.ext2 (by assumption) (by assumption)))))))))) rfl) (by kernel_rfl)), (ldS (Cl.sl (by first | assumption | exact Cl.ext2 (by assumption) (by first | assumption | exact Cl.ext2 (by assumption) (by first | assumption | exact Cl.ext2 (by assumption) (by first | assumption | exact Cl.ext2 (by assumption) (by first | assumption | exact Cl.ext2 (by assumption) (by first | assumption | exact Cl.ext2 (by assumption) (by first | assumption | exact Cl.ext2 (by assumption) (by first | assumption | exact Cl.ext2 (by assumption) (by first | assumption | exact Cl.ext2 (by assumption) (by assumption)))))))))) rfl) (by kernel_rfl)), ?_⟩
  refine ends_s r.s0 r.s1 fun h4 e4 => ⟨_, rfl, ?_⟩
  refine ⟨_, _, (ldS (Cl.sl (by first | assumption | exact Cl.ext2 (by assumption) (by first | assumption | exact Cl.ext2 (by assumption) (by first | assumption | exact Cl.ext2 (by assumption) (by first | assumption | exact Cl.ext2 (by assumption) (by first | assumption | exact Cl.ext2 (by assumption) (by first | assumption | exact Cl.ext2 (by assumption) (by first | assumption | exact Cl.ext2 (by assumption) (by first | assumption | exact Cl.ext2 (by assumption) (by first | assumption | exact Cl.ext2 (by assumption) (by assumption)))))))))) rfl) (by kernel_rfl)), (ldS (Cl.sl (by first | assumption | exact Cl.ext2 (by assumption) (by first | assumption | exact Cl.ext2 (by assumption) (by first | assumption | exact Cl.ext2 (by assumption) (by first | assumption | exact Cl.ext2 (by assumption) (by first | assumption | exact Cl.ext2 (by assumption) (by first | assumption | exact Cl.ext2 (by assumption) (by first | assumption | exact Cl.ext2 (by assumption) (by first | assumption | exact Cl.ext2 (by assumption) (by first | assumption | exact Cl.ext2 (by assumption) (by assumption)))))))))) rfl) (by kernel_rfl)), (ldS (Cl.sl (by first | assumption | exact Cl.ext2 (by assumption) (by first | assumption | exact Cl.ext2 (by assumption) (by first | assumption | exact Cl.ext2 (by assumption) (by first | assumption | exact Cl.ext2 (by assumption) (by first | assumption | exact Cl.ext2 (by assumption) (by first | assumption | exact Cl.ext2 (by assumption) (by first | assumption | exact Cl.ext2 (by assumption) (by first | assumption | exact Cl.ext2 (by assumption) (by first | assumption | exact Cl.ext2 (by assumption) (by assumption)))))))))) rfl) (by kernel_rfl)), (ldS (Cl.sl (by first | assumption | exact Cl.ext2 (by assumption) (by first | assumption | exact Cl.ext2 (by assumption) (by first | assumption | exact Cl.ext2 (by assumption) (by first | assumption | exact Cl.ext2 (by assumption) (by first | assumption | exact Cl.ext2 (by assumption) (by first | assumption | exact Cl.ext2 (by assumption) (by first | assumption | exact Cl.ext2 (by assumption) (by first | assumption | exact Cl.ext2 (by assumption) (by first | assumption | exact Cl.ext2 (by assumption) (by assumption)))))))))) rfl) (by kernel_rfl)), ?_⟩
  refine ends_s r.d0 r.d1 fun h5 e5 => ⟨_, rfl, ?_⟩
  refine ⟨_, _, (ldS (Cl.sl (by first | assumption | exact Cl.ext2 (by assumption) (by first | assumption | exact Cl.ext2 (by assumption) (by first | assumption | exact Cl.ext2 (by assumption) (by first | assumption | exact Cl.ext2 (by assumption) (by first | assumption | exact Cl.ext2 (by assumption) (by first | assumption | exact Cl.ext2 (by assumption) (by first | assumption | exact Cl.ext2 (by assumption) (by first | assumption | exact Cl.ext2 (by assumption) (by first | assumption | exact Cl.ext2 (by assumption) (by assumption)))))))))) rfl) (by kernel_rfl)), (ldS (Cl.sl (by first | assumption | exact Cl.ext2 (by assumption) (by first | assumption | exact Cl.ext2 (by assumption) (by first | assumption | exact Cl.ext2 (by assumption) (by first | assumption | exact Cl.ext2 (by assumption) (by first | assumption | exact Cl.ext2 (by assumption) (by first | assumption | exact Cl.ext2 (by assumption) (by first | assumption | exact Cl.ext2 (by assumption) (by first | assumption | exact Cl.ext2 (by assumption) (by first | assumption | exact Cl.ext2 (by assumption) (by assumption)))))))))) rfl) (by kernel_rfl)), (ldS (Cl.sl (by first | assumption | exact Cl.ext2 (by assumption) (by first | assumption | exact Cl.ext2 (by assumption) (by first | assumption | exact Cl.ext2 (by assumption) (by first | assumption | exact Cl.ext2 (by assumption) (by first | assumption | exact Cl.ext2 (by assumption) (by first | assumption | exact Cl.ext2 (by assumption) (by first | assumption | exact Cl.ext2 (by assumption) (by first | assumption | exact Cl.ext2 (by assumption) (by first | assumption | exact Cl.ext2 (by assumption) (by assumption)))))))))) rfl) (by kernel_rfl)), (ldS (Cl.sl (by first | assumption | exact Cl.ext2 (by assumption) (by first | assumption | exact Cl.ext2 (by assumption) (by first | assumption | exact Cl.ext2 (by assumption) (by first | assumption | exact Cl.ext2 (by assumption) (by first | assumption | exact Cl.ext2 (by assumption) (by first | assumption | exact Cl.ext2 (by assumption) (by first | assumption | exact Cl.ext2 (by assumption) (by first | assumption | exact Cl.ext2 (by assumption) (by first | assumption | exact Cl.ext2 (by assumption) (by assumption)))))))))) rfl) (by kernel_rfl)), (ldS (Cl.sl (by first | assumption | exact Cl.ext2 (by assumption) (by first | assumption | exact Cl.ext2 (by assumption) (by first | assumption | exact Cl.ext2 (by assumption) (by first | assumption | exact Cl.ext2 (by assumption) (by first | assumption | exact Cl.ext2 (by assumption) (by first | assumption | exact Cl.ext2 (by assumption) (by first | assumption | exact Cl.ext2 (by assumption) (by first | assumption | exact Cl.ext2 (by assumption) (by first | assumption | exact Cl.ext2 (by assumption) (by assumption)))))))))) rfl) (by kernel_rfl)), ?_⟩
  refine ref04_Check_s r.pV r.pC hr.pV.1 hr.pV.2 hr.pC.1 hr.pC.2 fun h6 e6 => ⟨_, rfl, ?_⟩
  refine newC_i fun h7 e7 c7 b7 z7 => ⟨6, ?_⟩
  have e17 : Ext h h7 := (((((e1.trans e2).trans e3).trans e4).trans e5).trans e6).trans e7
  have H := H h7 e17
  have d7 := (((((c1.ext e2).ext e3).ext e4).ext e5).ext e6).ext e7
  refine ref08_l3 r.parts rfl c7 (fun e i hb => ?g0) (fun hb => ?g1) 5 0 6 (by omega) (by omega) rfl
  case g0 =>
    have : r.check2 = (e, i) := by rw [Rul.check2, hb]; rfl
    rw [this] at H; exact H
  case g1 =>
    have : r.check2 = r.act0 := by rw [Rul.check2, hb]; rfl
    rw [this] at H
    refine ⟨_, ld (d7.at_ 11 _ rfl) (by kernel_rfl), br_i (fun hc => ?_) (fun hc => ?_)⟩
    · rw [Rul.act0, if_neg (by simp at hc; omega)] at H; exact H
    refine ⟨_, ld (d7.at_ 11 _ rfl) (by kernel_rfl), br_i (fun hd => ?_) (fun hd => ?_)⟩
    · rw [Rul.act0, if_neg (by simp at hd; omega)] at H; exact H
    · rw [Rul.act0, if_pos (by simp at hc hd; omega)] at H; exact H
theorem firstBad_some : ∀ (es : List Int) (i : Int) (e j : Int), firstBad es i = some (e, j) → e ≠ 0
  | [], _, _, _, h => by cases h
  | x :: es, i, e, j, h => by
    rw [firstBad] at h
    split at h
    · rename_i hx; injection h with h; injection h with h1 h2; rw [← h1]; exact hx
    · exact firstBad_some es _ e j h
theorem firstBad_none : ∀ (es : List Int) (i : Int), firstBad es i = none → ∀ e ∈ es, e = 0
  | [], _, _, e, he => by cases he
  | x :: es, i, h, e, he => by
    rw [firstBad] at h
    split at h
    · cases h
    · rename_i hx
      rcases List.mem_cons.1 he with rfl | he
      · simpa using hx
      · exact firstBad_none es _ h e he
theorem check_mask {r : Rul} (h : r.check.1 = 0) : maskCheck r.pV r.pC = 0 := by
  rw [Rul.check] at h
  split at h
  · cases h
  · rw [Rul.check2] at h
    cases hb : firstBad r.parts 0 with
    | some x =>
      obtain ⟨e, i⟩ := x
      rw [hb] at h
      exact absurd h (firstBad_some _ _ e i hb)
    | none => exact firstBad_none _ _ hb _ (by simp [Rul.parts])
end Go.Proofs.YtgahbkbmolfpnaaGreat.Fs
