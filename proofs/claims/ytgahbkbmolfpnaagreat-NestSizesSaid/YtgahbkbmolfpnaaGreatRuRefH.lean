/- The document's Has, May, Match. -/
import Derived.Test.YtgahbkbmolfpnaaGreatRuRef
namespace Go.Proofs.YtgahbkbmolfpnaaGreat.Fs
open Go Go.RowKit Go.Proofs.YtgahbkbmolfpnaaGreat.Sx
set_option linter.unusedVariables false
set_option linter.unusedSimpArgs false
set_option maxRecDepth 10000
structure Hdr.wf (g : Hdr) : Prop where
  s : 0 ≤ g.src ∧ g.src ≤ 4294967295
  d : 0 ≤ g.dst ∧ g.dst ≤ 4294967295
  pr : 0 ≤ g.pr ∧ g.pr ≤ 255
theorem has02_l1 (a x : Int) (l : Nat) (hl : l ≤ 32) (h0 : 0 ≤ a) (h1 : a ≤ 4294967295) (x0 : 0 ≤ x) (x1 : x ≤ 4294967295) {p : Addr} {h : Hp} (hc : Cl h p [.int .u32 a, .int .i64 l]) {K0 : Bool → Hp → Prop} {K1 : Hp → Prop}
    (H0 : (∃ j, j < l ∧ bt 32 a j ≠ bt 32 x j) → K0 false h) (H1 : (∀ j, j < l → bt 32 a j = bt 32 x j) → K1 h) :
    ∀ (d n k : Nat), n + d = l → d < k → (∀ j, j < n → bt 32 a j = bt 32 x j) → quintetref02_Has_l1 x p K0 K1 k n h := by
  intro d
  induction d with
  | zero =>
    intro n k hn hk hz
    obtain ⟨k, rfl⟩ : ∃ m, k = m + 1 := ⟨k - 1, by omega⟩
    unfold quintetref02_Has_l1
    exact ⟨_, ld (hc.at_ 1 _ rfl) (by kernel_rfl), br_f (by simp; omega) (H1 fun j q1 => hz j (by omega))⟩
  | succ d ih =>
    intro n k hn hk hz
    obtain ⟨k, rfl⟩ : ∃ m, k = m + 1 := ⟨k - 1, by omega⟩
    unfold quintetref02_Has_l1
    refine ⟨_, ld (hc.at_ 1 _ rfl) (by kernel_rfl), br_t (by simp; omega) ⟨_, ld hc.head (by kernel_rfl), ?_⟩⟩
    refine bit32_s a h0 h1 n (by omega) ⟨_, rfl, ?_⟩
    refine bit32_s x x0 x1 n (by omega) ⟨_, rfl, ?_⟩
    by_cases hb : bt 32 a n = bt 32 x n
    · refine br_f (by rw [hb]; simp) ?_
      rw [wrap_in (by omega) (by omega)]
      refine ih (n + 1) k (by omega) (by omega) (fun j q2 => ?_)
      by_cases hj : j = n
      · rw [hj]; exact hb
      · exact hz j (by omega)
    · refine br_t ?_ (H0 ⟨n, by omega, hb⟩)
      cases h1 : bt 32 a n <;> cases h2 : bt 32 x n <;> simp_all [b01]
theorem ref02_Has_s (a l x : Int) (h0 : 0 ≤ a) (h1 : a ≤ 4294967295) (x0 : 0 ≤ x) (x1 : x ≤ 4294967295) {h : Hp} {K : Value → Hp → Prop} (H : ∀ h', Ext h h' → K (.bool (prefixHas a l x)) h') : CallsH Tryz.prog 35 #[.agg #[.int .u32 a, .int .i64 l], .int .u32 x] h K := by
  refine quintetref02_Has_ok _ _ _ ?_
  unfold quintetref02_Has
  refine newC_i fun h1' e1 c1 b1 z1 => ?_
  refine ⟨_, _, ldS c1 (by kernel_rfl), ?_⟩
  refine ref02_Check_s a l h0 h1 fun h2 e2 => ⟨_, rfl, ?_⟩
  have H := H h2 (e1.trans e2)
  refine br_i (fun hc => ?_) (fun hc => ?_)
  · have : prefixHas a l x = false := by
      have : prefixCheck a l ≠ 0 := by simpa using hc
      simp [prefixHas, this]
    rw [this] at H; exact H
  · have hz : prefixCheck a l = 0 := by simpa using hc
    obtain ⟨l0, l1⟩ := prefixCheck_len hz
    obtain ⟨m, rfl⟩ := Int.eq_ofNat_of_zero_le l0
    have hn : bAndNot .u32 a (careV m) = 0 := by
      unfold prefixCheck at hz
      rw [if_neg (by omega), if_neg (by omega)] at hz
      split at hz
      · cases hz
      · rename_i hq; simpa using hq
    have hb := has_bits a x h0 h1 m (by omega) hn
    refine ⟨m + 1, ?_⟩
    refine has02_l1 a x m (by omega) h0 h1 x0 x1 (c1.ext e2) (fun ⟨j, j1, j2⟩ => ?g0) (fun hall => ?g1) m 0 (m + 1) (by omega) (by omega) (fun j hj => by omega)
    case g0 =>
      have : prefixHas a m x = false := by
        rw [prefixHas, hz]
        have : ¬ bAnd .u32 x (careV m) = a := fun he => j2 (hb.1 he j j1)
        simp [this]
      rw [this] at H; exact H
    case g1 =>
      have : prefixHas a m x = true := by
        rw [prefixHas, hz, hb.2 hall]
        simp
      rw [this] at H; exact H
theorem ref08_May_s (r : Rul) (hr : r.wf) {h : Hp} {K : Value → Hp → Prop} (H : ∀ h', Ext h h' → K (.bool (r.check.1 == 0)) h') : CallsH Tryz.prog 34 #[r.val] h K := by
  refine quintetref08_May_ok _ _ _ _ _ _ _ _ _ _ _ _ ?_
  unfold quintetref08_May
  refine newC_i fun h1 e1 c1 b1 z1 => ?_
  refine ⟨_, _, _, _, _, _, _, _, _, _, _, _, ldS (vs := r.enc) c1 (by kernel_rfl), ?_⟩
  exact ref08_Check_s r hr fun h2 e2 => ⟨_, _, rfl, H h2 (e1.trans e2)⟩
end Go.Proofs.YtgahbkbmolfpnaaGreat.Fs
