/- The document's Has, May, Match. -/
import Derived.Test.YtomhkbhgpmcbiaaGreatRuRef
namespace Go.Proofs.YtomhkbhgpmcbiaaGreat.Fs
open Go Go.RowKit Go.Proofs.YtomhkbhgpmcbiaaGreat.Sx
set_option linter.unusedVariables false
set_option linter.unusedSimpArgs false
set_option maxRecDepth 10000
structure Hdr.wf (g : Hdr) : Prop where
  s : 0 ≤ g.src ∧ g.src ≤ 4294967295
  d : 0 ≤ g.dst ∧ g.dst ≤ 4294967295
  pr : 0 ≤ g.pr ∧ g.pr ≤ 255
theorem has02_l1 (a x : Int) (l : Nat) (hl : l ≤ 32) (h0 : 0 ≤ a) (h1 : a ≤ 4294967295) (x0 : 0 ≤ x) (x1 : x ≤ 4294967295) {p : Addr} {h : Hp} (hc : Cl h p [.int .u32 a, .int .i64 l]) {K0 : Bool → Hp → Prop} {K1 : Hp → Prop}
    (H0 : (∃ j, j < l ∧ bt 32 a j ≠ bt 32 x j) → K0 false h) (H1 : (∀ j, j < l → bt 32 a j = bt 32 x j) → K1 h) :
    ∀ (d n k : Nat), n + d = l → d < k → (∀ j, j < n → bt 32 a j = bt 32 x j) → quintetref02_Has_l1 x p K0 K1 k n h := by
  intro d
  induction d with
  | zero =>
    intro n k hn hk hz
    obtain ⟨k, rfl⟩ : ∃ m, k = m + 1 := ⟨k - 1, by omega⟩
    unfold quintetref02_Has_l1
    exact ⟨_, ld (hc.at_ 1 _ rfl) (by kernel_rfl), br_f (by simp; omega) (H1 fun j q1 => hz j (by omega))⟩
  | succ d ih =>
    intro n k hn hk hz
    obtain ⟨k, rfl⟩ : ∃ m, k = m + 1 := ⟨k - 1, by omega⟩
    unfold quintetref02_Has_l1
    refine ⟨_, ld (hc.at_ 1 _ rfl) (by kernel_rfl), br_t (by simp; omega) ⟨_, ld hc.head (by kernel_rfl), ?_⟩⟩
    refine bit32_s a h0 h1 n (by omega) ⟨_, rfl, ?_⟩
    refine bit32_s x x0 x1 n (by omega) ⟨_, rfl, ?_⟩
    by_cases hb : bt 32 a n = bt 32 x n
    · refine br_f (by rw [hb]; simp) ?_
      rw [wrap_in (by omega) (by omega)]
      refine ih (n + 1) k (by omega) (by omega) (fun j q2 => ?_)
      by_cases hj : j = n
      · rw [hj]; exact hb
      · exact hz j (by omega)
    · refine br_t ?_ (H0 ⟨n, by omega, hb⟩)
      cases h1 : bt 32 a n <;> cases h2 : bt 32 x n <;> simp_all [b01]
theorem ref02_Has_s (a l x : Int) (h0 : 0 ≤ a) (h1 : a ≤ 4294967295) (x0 : 0 ≤ x) (x1 : x ≤ 4294967295) {h : Hp} {K : Value → Hp → Prop} (H : ∀ h', Ext h h' → K (.bool (prefixHas a l x)) h') : CallsH Tryz.prog 66 #[.agg #[.int .u32 a, .int .i64 l], .int .u32 x] h K := by
  refine quintetref02_Has_ok _ _ _ ?_
  unfold quintetref02_Has
  refine newC_i fun h1' e1 c1 b1 z1 => ?_
  refine ⟨_, _, ldS c1 (by kernel_rfl), ?_⟩
  refine ref02_Check_s a l h0 h1 fun h2 e2 => ⟨_, rfl, ?_⟩
  have H := H h2 (e1.trans e2)
  refine br_i (fun hc => ?_) (fun hc => ?_)
  · have : prefixHas a l x = false := by
      have : prefixCheck a l ≠ 0 := by simpa using hc
      simp [prefixHas, this]
    rw [this] at H; exact H
  · have hz : prefixCheck a l = 0 := by simpa using hc
    obtain ⟨l0, l1⟩ := prefixCheck_len hz
    obtain ⟨m, rfl⟩ := Int.eq_ofNat_of_zero_le l0
    have hn : bAndNot .u32 a (careV m) = 0 := by
      unfold prefixCheck at hz
      rw [if_neg (by omega), if_neg (by omega)] at hz
      split at hz
      · cases hz
      · rename_i hq; simpa using hq
    have hb := has_bits a x h0 h1 m (by omega) hn
    refine ⟨m + 1, ?_⟩
    refine has02_l1 a x m (by omega) h0 h1 x0 x1 (c1.ext e2) (fun ⟨j, j1, j2⟩ => ?g0) (fun hall => ?g1) m 0 (m + 1) (by omega) (by omega) (fun j hj => by omega)
    case g0 =>
      have : prefixHas a m x = false := by
        rw [prefixHas, hz]
        have : ¬ bAnd .u32 x (careV m) = a := fun he => j2 (hb.1 he j j1)
        simp [this]
      rw [this] at H; exact H
    case g1 =>
      have : prefixHas a m x = true := by
        rw [prefixHas, hz, hb.2 hall]
        simp
      rw [this] at H; exact H
theorem has04_l1 (v c x : Int) (v0 : 0 ≤ v) (v1 : v ≤ 255) (c0 : 0 ≤ c) (c1 : c ≤ 255) (x0 : 0 ≤ x) (x1 : x ≤ 255) {p : Addr} {h : Hp} (hc : Cl h p [.int .u8 v, .int .u8 c]) {K0 : Bool → Hp → Prop} {K1 : Hp → Prop}
    (H0 : (∃ j, j < 8 ∧ bt 8 c j = true ∧ bt 8 v j ≠ bt 8 x j) → K0 false h) (H1 : (∀ j, j < 8 → bt 8 c j = true → bt 8 v j = bt 8 x j) → K1 h) :
    ∀ (d n k : Nat), n + d = 8 → d < k → (∀ j, j < n → bt 8 c j = true → bt 8 v j = bt 8 x j) → quintetref04_Has_l1 x p K0 K1 k n h := by
  intro d
  induction d with
  | zero =>
    intro n k hn hk hz
    obtain ⟨k, rfl⟩ : ∃ m, k = m + 1 := ⟨k - 1, by omega⟩
    unfold quintetref04_Has_l1
    exact br_f (by simp; omega) (H1 fun j q1 => hz j (by omega))
  | succ d ih =>
    intro n k hn hk hz
    obtain ⟨k, rfl⟩ : ∃ m, k = m + 1 := ⟨k - 1, by omega⟩
    have next : (bt 8 c n = true → bt 8 v n = bt 8 x n) → quintetref04_Has_l1 x p K0 K1 k (IntKind.i64.wrap ((n : Int) + 1)) h := fun hb => by
      rw [wrap_in (by omega) (by omega)]
      refine ih (n + 1) k (by omega) (by omega) (fun j q2 => ?_)
      by_cases hj : j = n
      · rw [hj]; exact hb
      · exact hz j (by omega)
    unfold quintetref04_Has_l1
    refine br_t (by simp; omega) ⟨_, ld (hc.at_ 1 _ rfl) (by kernel_rfl), ?_⟩
    refine bit8_s c c0 c1 n (by omega) ⟨_, rfl, ?_⟩
    cases hb : bt 8 c n with
    | false => exact br_f rfl (next (fun h => by rw [hb] at h; cases h))
    | true =>
      refine br_t rfl ⟨_, ld hc.head (by kernel_rfl), ?_⟩
      refine bit8_s v v0 v1 n (by omega) ⟨_, rfl, ?_⟩
      refine bit8_s x x0 x1 n (by omega) ⟨_, rfl, ?_⟩
      by_cases hd : bt 8 v n = bt 8 x n
      · exact br_f (by rw [hd]; simp) (next (fun _ => hd))
      · refine br_t ?_ (H0 ⟨n, by omega, hb, hd⟩)
        cases h1 : bt 8 v n <;> cases h2 : bt 8 x n <;> simp_all [b01]
theorem ref04_Has_s (v c x : Int) (v0 : 0 ≤ v) (v1 : v ≤ 255) (c0 : 0 ≤ c) (c1 : c ≤ 255) (x0 : 0 ≤ x) (x1 : x ≤ 255) {h : Hp} {K : Value → Hp → Prop} (H : ∀ h', Ext h h' → K (.bool (maskCheck v c == 0 && maskHas v c x)) h') : CallsH Tryz.prog 78 #[.agg #[.int .u8 v, .int .u8 c], .int .u8 x] h K := by
  refine quintetref04_Has_ok _ _ _ ?_
  unfold quintetref04_Has
  refine newC_i fun h1' e1 k1 b1 z1 => ?_
  refine ⟨_, _, ldS k1 (by kernel_rfl), ?_⟩
  refine ref04_Check_s v c v0 v1 c0 c1 fun h2 e2 => ⟨_, rfl, ?_⟩
  have H := H h2 (e1.trans e2)
  refine br_i (fun hc => ?_) (fun hc => ?_)
  · have : maskCheck v c ≠ 0 := by simpa using hc
    rw [show (maskCheck v c == 0) = false by simpa using this] at H
    exact H
  · have hz : maskCheck v c = 0 := by simpa using hc
    have hn : bAndNot .u8 v c = 0 := by
      unfold maskCheck at hz
      split at hz
      · cases hz
      · rename_i hq; simpa using hq
    have hb := mhas_bits v c x v0 v1 hn
    rw [hz] at H
    refine ⟨9, ?_⟩
    refine has04_l1 v c x v0 v1 c0 c1 x0 x1 (k1.ext e2) (fun ⟨j, j1, j2, j3⟩ => ?g0) (fun hall => ?g1) 8 0 9 (by omega) (by omega) (fun j hj => by omega)
    case g0 =>
      have : maskHas v c x = false := by
        have : ¬ bAnd .u8 x c = v := fun he => j3 (hb.1 he j j1 j2)
        simp [maskHas, this]
      rw [this] at H; exact H
    case g1 =>
      have : maskHas v c x = true := by
        simp [maskHas, hb.2 hall]
      rw [this] at H; exact H
theorem ref08_May_s (r : Rul) (hr : r.wf) {h : Hp} {K : Value → Hp → Prop} (H : ∀ h', Ext h h' → K (.bool (r.check.1 == 0)) h') : CallsH Tryz.prog 65 #[r.val] h K := by
  refine quintetref08_May_ok _ _ _ _ _ _ _ _ _ _ _ _ ?_
  unfold quintetref08_May
  refine newC_i fun h1 e1 c1 b1 z1 => ?_
  refine ⟨_, _, _, _, _, _, _, _, _, _, _, _, ldS (vs := r.enc) c1 (by kernel_rfl), ?_⟩
  exact ref08_Check_s r hr fun h2 e2 => ⟨_, _, rfl, H h2 (e1.trans e2)⟩
theorem ref08_j1 (r : Rul) (hr : r.wf) (g : Hdr) (hg : g.wf) (hk : r.check.1 = 0) (b : Bool) {p q : Addr} {h : Hp} (c1 : Cl h p r.enc) (c2 : Cl h q g.enc) {K0 : Bool → Hp → Prop}
    (H : ∀ h', Ext h h' → K0 (b && prefixHas r.sA r.sL g.src && prefixHas r.dA r.dL g.dst && maskHas r.pV r.pC g.pr) h') : quintetref08_Match_j1 K0 p q b h := by
  unfold quintetref08_Match_j1
  refine br_i (fun hb => ?_) (fun hb => ?_)
  · subst hb
    refine ⟨_, _, ldS (Cl.sl c1 (n := 1) (us := [.int .u32 r.sA, .int .i64 r.sL]) rfl) (by kernel_rfl), _, ld c2.head (by kernel_rfl), ?_⟩
    refine ref02_Has_s _ _ _ hr.s.1 hr.s.2 hg.s.1 hg.s.2 fun h1 e1 => ⟨_, rfl, ?_⟩
    refine br_i (fun hx => ?_) (fun hx => ?_)
    · refine ⟨_, _, ldS (Cl.sl (c1.ext e1) (n := 3) (us := [.int .u32 r.dA, .int .i64 r.dL]) rfl) (by kernel_rfl), _, ld ((c2.ext e1).at_ 1 _ rfl) (by kernel_rfl), ?_⟩
      refine ref02_Has_s _ _ _ hr.d.1 hr.d.2 hg.d.1 hg.d.2 fun h2 e2 => ⟨_, rfl, ?_⟩
      have e12 := e1.trans e2
      refine br_i (fun hy => ?_) (fun hy => ?_)
      · refine ⟨_, _, ldS (Cl.sl (c1.ext e12) (n := 9) (us := [.int .u8 r.pV, .int .u8 r.pC]) rfl) (by kernel_rfl), _, ld ((c2.ext e12).at_ 4 _ rfl) (by kernel_rfl), ?_⟩
        refine ref04_Has_s _ _ _ hr.pV.1 hr.pV.2 hr.pC.1 hr.pC.2 hg.pr.1 hg.pr.2 fun h3 e3 => ⟨_, rfl, ?_⟩
        have H := H h3 (e12.trans e3)
        rw [hx, hy] at H
        rw [check_mask hk]
        simpa using H
      · have H := H h2 e12
        rw [hy] at H
        simpa using H
    · have H := H h1 e1
      rw [hx] at H
      simpa using H
  · subst hb
    have H := H h (Ext.refl h)
    simpa using H
theorem ref08_Match_s (r : Rul) (hr : r.wf) (g : Hdr) (hg : g.wf) {h : Hp} {K : Value → Hp → Prop} (H : ∀ h', Ext h h' → K (.bool (r.has g)) h') : CallsH Tryz.prog 70 #[r.val, g.val] h K := by
  refine quintetref08_Match_ok _ _ _ _ _ _ _ _ _ _ _ _ _ _ _ _ _ ?_
  unfold quintetref08_Match
  refine newC_i fun h1 e1 c1 b1 z1 => ?_
  refine newC_i fun h2 e2 c2 b2 z2 => ?_
  refine ⟨_, _, _, _, _, _, _, _, _, _, _, _, ldS (vs := r.enc) (c1.ext e2) (by kernel_rfl), ?_⟩
  refine ref08_May_s r hr fun h3 e3 => ⟨_, rfl, ?_⟩
  have e13 := (e1.trans e2).trans e3
  have d1 := (c1.ext e2).ext e3
  have d2 := c2.ext e3
  refine br_i (fun hc => ?_) (fun hc => ?_)
  · have H := H h3 e13
    have : (r.check.1 == 0) = false := by simpa using hc
    rw [Rul.has, this] at H
    simpa using H
  have hk : r.check.1 = 0 := by simpa using hc
  have fin : ∀ b : Bool, b = (spanHas r.s0 r.s1 g.sp && spanHas r.d0 r.d1 g.dp) → quintetref08_Match_j1 (fun b h' => K (.bool b) h') ⟨h.size, 0, none⟩ ⟨h1.size, 0, none⟩ b h3 := fun b hb => by
    refine ref08_j1 r hr g hg hk b d1 d2 fun h4 e4 => ?_
    have H := H h4 (e13.trans e4)
    have e : r.has g = (b && prefixHas r.sA r.sL g.src && prefixHas r.dA r.dL g.dst && maskHas r.pV r.pC g.pr) := by
      rw [Rul.has, hk, hb]
      cases spanHas r.s0 r.s1 g.sp <;> cases spanHas r.d0 r.d1 g.dp <;> cases prefixHas r.sA r.sL g.src <;> cases prefixHas r.dA r.dL g.dst <;> cases maskHas r.pV r.pC g.pr <;> rfl
    rw [e] at H
    exact H
  refine ⟨_, ld (d1.at_ 5 _ rfl) (by kernel_rfl), _, ld (d2.at_ 2 _ rfl) (by kernel_rfl), br_i (fun q1 => ?_) (fun q1 => ?_)⟩
  · refine ⟨_, ld (d2.at_ 2 _ rfl) (by kernel_rfl), _, ld (a := (((⟨h.size, 0, none⟩ : Addr).add 5).add 1)) (by rw [add_add rfl]; exact d1.at_ 6 _ rfl) (by kernel_rfl), br_i (fun q2 => ?_) (fun q2 => ?_)⟩
    · refine ⟨_, ld (d1.at_ 7 _ rfl) (by kernel_rfl), _, ld (d2.at_ 3 _ rfl) (by kernel_rfl), br_i (fun q3 => ?_) (fun q3 => ?_)⟩
      · refine ⟨_, ld (d2.at_ 3 _ rfl) (by kernel_rfl), _, ld (a := (((⟨h.size, 0, none⟩ : Addr).add 7).add 1)) (by rw [add_add rfl]; exact d1.at_ 8 _ rfl) (by kernel_rfl), ?_⟩
        refine fin _ ?_
        simp at q1 q2 q3
        simp [spanHas, q1, q2, q3]
      · refine fin _ ?_
        simp at q3
        have : ¬ g.dp ≥ r.d0 := by omega
        simp [spanHas, this]
    · refine fin _ ?_
      simp at q2
      have : ¬ g.sp ≤ r.s1 := by omega
      simp [spanHas, this]
  · refine fin _ ?_
    simp at q1
    have : ¬ g.sp ≥ r.s0 := by omega
    simp [spanHas, this]
end Go.Proofs.YtomhkbhgpmcbiaaGreat.Fs
