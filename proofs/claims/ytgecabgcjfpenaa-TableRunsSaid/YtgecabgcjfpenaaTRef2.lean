/- The document's definitions of rules and tables: what they come to; any rules and header, twice. -/
import Derived.Test.YtgecabgcjfpenaaTRef
namespace Go.Proofs.Ytgecabgcjfpenaa.Fs
open Go Go.RowKit Go.Proofs.Ytgecabgcjfpenaa.Sx
set_option linter.unusedVariables false
set_option linter.unusedSimpArgs false
set_option maxRecDepth 10000
structure Rul.wf (r : Rul) : Prop where
  s : 0 ≤ r.sA ∧ r.sA ≤ 4294967295
  d : 0 ≤ r.dA ∧ r.dA ≤ 4294967295
  pV : 0 ≤ r.pV ∧ r.pV ≤ 255
  pC : 0 ≤ r.pC ∧ r.pC ≤ 255
theorem ends_s (a l : Int) {h : Hp} {K : Value → Hp → Prop} (H : ∀ h', Ext h h' → K (.int .i64 (spanCheck a l)) h') : CallsH Try.prog 48 #[.agg #[.int .u16 a, .int .u16 l]] h K := by
  refine quintetref08_ends_ok a l ?_
  unfold quintetref08_ends
  refine newC_i fun h1 e1 c1 b1 z1 => ?_
  have H := H h1 e1
  refine ⟨_, ld c1.head (by kernel_rfl), _, ld (c1.at_ 1 _ rfl) (by kernel_rfl), ?_⟩
  refine br_i (fun hc => ?_) (fun hc => ?_)
  · rw [spanCheck, if_pos (by simpa using hc)] at H; exact H
  · rw [spanCheck, if_neg (by simpa using hc)] at H; exact H
theorem und98 : Try.prog.underlying 98 = some (.slice 25) := by kernel_rfl
theorem size25 : (Try.prog.info? 25).map (·.size) = some 1 := by kernel_rfl
theorem ref08_l3 (es : List Int) (hes : es.length = 5) {p q : Addr} {h : Hp} (hc : Cl h p (es.map (Value.int .i64))) {K0 : Int → Int → Hp → Prop} {K1 : Addr → Hp → Prop}
    (H0 : ∀ e i, firstBad es 0 = some (e, i) → K0 e i h) (H1 : firstBad es 0 = none → K1 q h) :
    ∀ (d n k : Nat), n + d = 5 → d < k → firstBad es 0 = firstBad (es.drop n) n → quintetref08_Check_l3 q (some p) 5 5 K0 K1 k n h := by
  intro d
  induction d with
  | zero =>
    intro n k hn hk hz
    obtain ⟨k, rfl⟩ : ∃ m, k = m + 1 := ⟨k - 1, by omega⟩
    unfold quintetref08_Check_l3
    refine br_f (by simp; omega) (H1 ?_)
    rw [hz, List.drop_of_length_le (by omega)]
    rfl
  | succ d ih =>
    intro n k hn hk hz
    obtain ⟨k, rfl⟩ : ∃ m, k = m + 1 := ⟨k - 1, by omega⟩
    unfold quintetref08_Check_l3
    refine br_t (by simp; omega) ?_
    have hx := ix (P := Try.prog) (T := 98) (E := 25) (a := p) (l := 5) (c := 5) (sz := 1) (k := .i64) (i := (n : Int)) (by omega) (by omega) und98 size25
    rw [Int.toNat_natCast, Nat.mul_one] at hx
    have hcell : cell h (p.add n) = some (.int .i64 (es[n]'(by omega))) := hc.at_ n _ (by rw [List.getElem?_map, List.getElem?_eq_getElem (by omega)]; rfl)
    rw [List.drop_eq_getElem_cons (by omega)] at hz
    refine ⟨_, hx, _, ld hcell (by kernel_rfl), br_i (fun hb => ?_) (fun hb => ?_)⟩
    · refine ⟨_, hx, _, ld hcell (by kernel_rfl), ?_⟩
      rw [wrap_in (by omega) (by omega)]
      refine H0 _ _ ?_
      rw [hz, firstBad, if_pos (by simpa using hb)]
      congr 2
      omega
    · rw [wrap_in (by omega) (by omega)]
      refine ih (n + 1) k (by omega) (by omega) ?_
      rw [hz, firstBad, if_neg (by simpa using hb)]
      rfl
theorem ref08_Check_s (r : Rul) (hr : r.wf) {h : Hp} {K : Value → Hp → Prop} (H : ∀ h', Ext h h' → K (.tuple #[.int .i64 r.check.1, .int .i64 r.check.2]) h') : CallsH Try.prog 31 #[r.val] h K := by
  refine quintetref08_Check_ok _ _ _ _ _ _ _ _ _ _ _ _ ?_
  unfold quintetref08_Check quintetref08_Check_j2
  refine newC_i fun h1 e1 c1 b1 z1 => ?_
  refine ⟨_, ld c1.head (by kernel_rfl), br_i (fun hc => ?_) (fun hc => ?_)⟩
  · have H := H h1 e1
    rw [Rul.check, if_pos (by left; simpa using hc)] at H; exact H
  have q1 : ¬ r.id < 1 := by simpa using hc
  refine ⟨_, ld c1.head (by kernel_rfl), br_i (fun hd => ?_) (fun hd => ?_)⟩
  · have H := H h1 e1
    rw [Rul.check, if_pos (by right; simpa using hd)] at H; exact H
  have q2 : ¬ r.id > 999999 := by simpa using hd
  rw [Rul.check, if_neg (by omega)] at H
  refine ⟨_, _, (ldS (Cl.sl (by first | assumption | exact Cl.ext2 (by assumption) (by first | assumption | exact Cl.ext2 (by assumption) (by first | assumption | exact Cl.ext2 (by assumption) (by first | assumption | exact Cl.ext2 (by assumption) (by first | assumption | exact Cl.ext2 (by assumption) (by first | assumption | exact Cl.ext2 (by assumption) (by first | assumption | exact Cl.ext2 (by assumption) (by first | assumption | exact Cl.ext2 (by assumption) (by first | assumption | exact Cl.ext2 (by assumption) (by assumption)))))))))) rfl) (by kernel_rfl)), ?_⟩
  refine ref02_Check_s r.sA r.sL hr.s.1 hr.s.2 fun h2 e2 => ⟨_, rfl, ?_⟩
  refine ⟨_, _, (ldS (Cl.sl (by first | assumption | exact Cl.ext2 (by assumption) (by first | assumption | exact Cl.ext2 (by assumption) (by first | assumption | exact Cl.ext2 (by assumption) (by first | assumption | exact Cl.ext2 (by assumption) (by first | assumption | exact Cl.ext2 (by assumption) (by first | assumption | exact Cl.ext2 (by assumption) (by first | assumption | exact Cl.ext2 (by assumption) (by first | assumption | exact Cl.ext2 (by assumption) (by first | assumption | exact Cl.ext2 (by assumption) (by assumption)))))))))) rfl) (by kernel_rfl)), (ldS (Cl.sl (by first | assumption | exact Cl.ext2 (by assumption) (by first | assumption | exact Cl.ext2 (by assumption) (by first | assumption | exact Cl.ext2 (by assumption) (by first | assumption | exact Cl.ext2 (by assumption) (by first | assumption | exact Cl.ext2 (by assumption) (by first | assumption | exact Cl.ext2 (by assumption) (by first | assumption | exact Cl.ext2 (by assumption) (by first | assumption | exact Cl.ext2 (by assumption) (by first | assumption | exact Cl.ext2 (by assumption) (by assumption)))))))))) rfl) (by kernel_rfl)), ?_⟩
  refine ref02_Check_s r.dA r.dL hr.d.1 hr.d.2 fun h3 e3 => ⟨_, rfl, ?_⟩
  refine ⟨_, _, (ldS (Cl.sl (by first | assumption | exact Cl.ext2 (by assumption) (by first | assumption | exact Cl.ext2 (by assumption) (by first | assumption | exact Cl.ext2 (by assumption) (by first | assumption | exact Cl.ext2 (by assumption) (by first | assumption | exact Cl.ext2 (by assumption) (by first | assumption | exact Cl.ext2 (by assumption) (by first | assumption | exact Cl.ext2 (by assumption) (by first | assumption | exact Cl.ext2 (by assumption) (by first | assumption | exact Cl.ext2 (by assumption) (by assumption)))))))))) rfl) (by kernel_rfl)), (ldS (Cl.sl (by first | assumption | exact Cl.ext2 (by assumption) (by first | assumption | exact Cl.ext2 (by assumption) (by first | assumption | exact Cl.ext2 (by assumption) (by first | assumption | exact Cl.ext2 (by assumption) (by first | assumption | exact Cl.ext2 (by assumption) (by first | assumption | exact Cl.ext2 (by assumption) (by first | assumption | exact Cl.ext2 (by assumption) (by first | assumption | exact Cl.ext2 (by assumption) (by first | assumption | exact Cl.ext2 (by assumption) (by assumption)))))))))) rfl) (by kernel_rfl)), (ldS (Cl.sl (by first | assumption | exact Cl.ext2 (by assumption) (by first | assumption | exact Cl.ext2 (by assumption) (by first | assumption | exact Cl.ext2 (by assumption) (by first | assumption | exact Cl.ext2 (by assumption) (by first | assumption | exact Cl.ext2 (by assumption) (by first | assumption | exact Cl.ext2 (by assumption) (by first | assumption | exact Cl.ext2 (by assumption) (by first | assumption | exact Cl.ext2 (by assumption) (by first | assumption | exact Cl.ext2 (by assumption) (by assumption)))))))))) rfl) (by kernel_rfl)), ?_⟩
  refine ends_s r.s0 r.s1 fun h4 e4 => ⟨_, rfl, ?_⟩
  refine ⟨_, _, (ldS (Cl.sl (by first | assumption | exact Cl.ext2 (by assumption) (by first | assumption | exact Cl.ext2 (by assumption) (by first | assumption | exact Cl.ext2 (by assumption) (by first | assumption | exact Cl.ext2 (by assumption) (by first | assumption | exact Cl.ext2 (by assumption) (by first | assumption | exact Cl.ext2 (by assumption) (by first | assumption | exact Cl.ext2 (by assumption) (by first | assumption | exact Cl.ext2 (by assumption) (by first | assumption | exact Cl.ext2 (by assumption) (by assumption)))))))))) rfl) (by kernel_rfl)), (ldS (Cl.sl (by first | assumption | exact Cl.ext2 (by assumption) (by first | assumption | exact Cl.ext2 (by assumption) (by first | assumption | exact Cl.ext2 (by assumption) (by first | assumption | exact Cl.ext2 (by assumption) (by first | assumption | exact Cl.ext2 (by assumption) (by first | assumption | exact Cl.ext2 (by assumption) (by first | assumption | exact Cl.ext2 (by assumption) (by first | assumption | exact Cl.ext2 (by assumption) (by first | assumption | exact Cl.ext2 (by assumption) (by assumption)))))))))) rfl) (by kernel_rfl)), (ldS (Cl.sl (by first | assumption | exact Cl.ext2 (by assumption) (by first | assumption | exact Cl.ext2 (by assumption) (by first | assumption | exact Cl.ext2 (by assumption) (by first | assumption | exact Cl.ext2 (by assumption) (by first | assumption | exact Cl.ext2 (by assumption) (by first | assumption | exact Cl.ext2 (by assumption) (by first | assumption | exact Cl.ext2 (by assumption) (by first | assumption | exact Cl.ext2 (by assumption) (by first | assumption | exact Cl.ext2 (by assumption) (by assumption)))))))))) rfl) (by kernel_rfl)), (ldS (Cl.sl (by first | assumption | exact Cl.ext2 (by assumption) (by first | assumption | exact Cl.ext2 (by assumption) (by first | assumption | exact Cl.ext2 (by assumption) (by first | assumption | exact Cl.ext2 (by assumption) (by first | assumption | exact Cl.ext2 (by assumption) (by first | assumption | exact Cl.ext2 (by assumption) (by first | assumption | exact Cl.ext2 (by assumption) (by first | assumption | exact Cl.ext2 (by assumption) (by first | assumption | exact Cl.ext2 (by assumption) (by assumption)))))))))) rfl) (by kernel_rfl)), ?_⟩
  refine ends_s r.d0 r.d1 fun h5 e5 => ⟨_, rfl, ?_⟩
  refine ⟨_, _, (ldS (Cl.sl (by first | assumption | exact Cl.ext2 (by assumption) (by first | assumption | exact Cl.ext2 (by assumption) (by first | assumption | exact Cl.ext2 (by assumption) (by first | assumption | exact Cl.ext2 (by assumption) (by first | assumption | exact Cl.ext2 (by assumption) (by first | assumption | exact Cl.ext2 (by assumption) (by first | assumption | exact Cl.ext2 (by assumption) (by first | assumption | exact Cl.ext2 (by assumption) (by first | assumption | exact Cl.ext2 (by assumption) (by assumption)))))))))) rfl) (by kernel_rfl)), (ldS (Cl.sl (by first | assumption | exact Cl.ext2 (by assumption) (by first | assumption | exact Cl.ext2 (by assumption) (by first | assumption | exact Cl.ext2 (by assumption) (by first | assumption | exact Cl.ext2 (by assumption) (by first | assumption | exact Cl.ext2 (by assumption) (by first | assumption | exact Cl.ext2 (by assumption) (by first | assumption | exact Cl.ext2 (by assumption) (by first | assumption | exact Cl.ext2 (by assumption) (by first | assumption | exact Cl.ext2 (by assumption) (by assumption)))))))))) rfl) (by kernel_rfl)), (ldS (Cl.sl (by first | assumption | exact Cl.ext2 (by assumption) (by first | assumption | exact Cl.ext2 (by assumption) (by first | assumption | exact Cl.ext2 (by assumption) (by first | assumption | exact Cl.ext2 (by assumption) (by first | assumption | exact Cl.ext2 (by assumption) (by first | assumption | exact Cl.ext2 (by assumption) (by first | assumption | exact Cl.ext2 (by assumption) (by first | assumption | exact Cl.ext2 (by assumption) (by first | assumption | exact Cl.ext2 (by assumption) (by assumption)))))))))) rfl) (by kernel_rfl)), (ldS (Cl.sl (by first | assumption | exact Cl.ext2 (by assumption) (by first | assumption | exact Cl.ext2 (by assumption) (by first | assumption | exact Cl.ext2 (by assumption) (by first | assumption | exact Cl.ext2 (by assumption) (by first | assumption | exact Cl.ext2 (by assumption) (by first | assumption | exact Cl.ext2 (by assumption) (by first | assumption | exact Cl.ext2 (by assumption) (by first | assumption | exact Cl.ext2 (by assumption) (by first | assumption | exact Cl.ext2 (by assumption) (by assumption)))))))))) rfl) (by kernel_rfl)), (ldS (Cl.sl (by first | assumption | exact Cl.ext2 (by assumption) (by first | assumption | exact Cl.ext2 (by assumption) (by first | assumption | exact Cl.ext2 (by assumption) (by first | assumption | exact Cl.ext2 (by assumption) (by first | assumption | exact Cl.ext2 (by assumption) (by first | assumption | exact Cl.ext2 (by assumption) (by first | assumption | exact Cl.ext2 (by assumption) (by first | assumption | exact Cl.ext2 (by assumption) (by first | assumption | exact Cl.ext2 (by assumption) (by assumption)))))))))) rfl) (by kernel_rfl)), ?_⟩
  refine ref04_Check_s r.pV r.pC hr.pV.1 hr.pV.2 hr.pC.1 hr.pC.2 fun h6 e6 => ⟨_, rfl, ?_⟩
  refine newC_i fun h7 e7 c7 b7 z7 => ⟨6, ?_⟩
  have e17 : Ext h h7 := (((((e1.trans e2).trans e3).trans e4).trans e5).trans e6).trans e7
  have H := H h7 e17
  have d7 := (((((c1.ext e2).ext e3).ext e4).ext e5).ext e6).ext e7
  refine ref08_l3 r.parts rfl c7 (fun e i hb => ?g0) (fun hb => ?g1) 5 0 6 (by omega) (by omega) rfl
  case g0 =>
    have : r.check2 = (e, i) := by rw [Rul.check2, hb]; rfl
    rw [this] at H; exact H
  case g1 =>
    have : r.check2 = r.act0 := by rw [Rul.check2, hb]; rfl
    rw [this] at H
    refine ⟨_, ld (d7.at_ 11 _ rfl) (by kernel_rfl), br_i (fun hc => ?_) (fun hc => ?_)⟩
    · rw [Rul.act0, if_neg (by simp at hc; omega)] at H; exact H
    refine ⟨_, ld (d7.at_ 11 _ rfl) (by kernel_rfl), br_i (fun hd => ?_) (fun hd => ?_)⟩
    · rw [Rul.act0, if_neg (by simp at hd; omega)] at H; exact H
    · rw [Rul.act0, if_pos (by simp at hc hd; omega)] at H; exact H
theorem ref08_May_s (r : Rul) (hr : r.wf) {h : Hp} {K : Value → Hp → Prop} (H : ∀ h', Ext h h' → K (.bool (r.check.1 == 0)) h') : CallsH Try.prog 51 #[r.val] h K := by
  refine quintetref08_May_ok _ _ _ _ _ _ _ _ _ _ _ _ ?_
  unfold quintetref08_May
  refine newC_i fun h1 e1 c1 b1 z1 => ?_
  refine ⟨_, _, _, _, _, _, _, _, _, _, _, _, ldS (vs := r.enc) c1 (by kernel_rfl), ?_⟩
  exact ref08_Check_s r hr fun h2 e2 => ⟨_, _, rfl, H h2 (e1.trans e2)⟩
theorem firstBad_some : ∀ (es : List Int) (i : Int) (e j : Int), firstBad es i = some (e, j) → e ≠ 0
  | [], _, _, _, h => by cases h
  | x :: es, i, e, j, h => by
    rw [firstBad] at h
    split at h
    · rename_i hx; injection h with h; injection h with h1 h2; rw [← h1]; exact hx
    · exact firstBad_some es _ e j h
theorem firstBad_none : ∀ (es : List Int) (i : Int), firstBad es i = none → ∀ e ∈ es, e = 0
  | [], _, _, e, he => by cases he
  | x :: es, i, h, e, he => by
    rw [firstBad] at h
    split at h
    · cases h
    · rename_i hx
      rcases List.mem_cons.1 he with rfl | he
      · simpa using hx
      · exact firstBad_none es _ h e he
theorem check_mask {r : Rul} (h : r.check.1 = 0) : maskCheck r.pV r.pC = 0 := by
  rw [Rul.check] at h
  split at h
  · cases h
  · rw [Rul.check2] at h
    cases hb : firstBad r.parts 0 with
    | some x =>
      obtain ⟨e, i⟩ := x
      rw [hb] at h
      exact absurd h (firstBad_some _ _ e i hb)
    | none => exact firstBad_none _ _ hb _ (by simp [Rul.parts])
theorem ref08_j1 (r : Rul) (hr : r.wf) (g : Hdr) (hg : g.wf) (hk : r.check.1 = 0) (b : Bool) {p q : Addr} {h : Hp} (c1 : Cl h p r.enc) (c2 : Cl h q g.enc) {K0 : Bool → Hp → Prop}
    (H : ∀ h', Ext h h' → K0 (b && prefixHas r.sA r.sL g.src && prefixHas r.dA r.dL g.dst && maskHas r.pV r.pC g.pr) h') : quintetref08_Match_j1 K0 p q b h := by
  unfold quintetref08_Match_j1
  refine br_i (fun hb => ?_) (fun hb => ?_)
  · subst hb
    refine ⟨_, _, ldS (Cl.sl c1 (n := 1) (us := [.int .u32 r.sA, .int .i64 r.sL]) rfl) (by kernel_rfl), _, ld c2.head (by kernel_rfl), ?_⟩
    refine ref02_Has_s _ _ _ hr.s.1 hr.s.2 hg.s.1 hg.s.2 fun h1 e1 => ⟨_, rfl, ?_⟩
    refine br_i (fun hx => ?_) (fun hx => ?_)
    · refine ⟨_, _, ldS (Cl.sl (c1.ext e1) (n := 3) (us := [.int .u32 r.dA, .int .i64 r.dL]) rfl) (by kernel_rfl), _, ld ((c2.ext e1).at_ 1 _ rfl) (by kernel_rfl), ?_⟩
      refine ref02_Has_s _ _ _ hr.d.1 hr.d.2 hg.d.1 hg.d.2 fun h2 e2 => ⟨_, rfl, ?_⟩
      have e12 := e1.trans e2
      refine br_i (fun hy => ?_) (fun hy => ?_)
      · refine ⟨_, _, ldS (Cl.sl (c1.ext e12) (n := 9) (us := [.int .u8 r.pV, .int .u8 r.pC]) rfl) (by kernel_rfl), _, ld ((c2.ext e12).at_ 4 _ rfl) (by kernel_rfl), ?_⟩
        refine ref04_Has_s _ _ _ hr.pV.1 hr.pV.2 hr.pC.1 hr.pC.2 hg.pr.1 hg.pr.2 fun h3 e3 => ⟨_, rfl, ?_⟩
        have H := H h3 (e12.trans e3)
        rw [hx, hy] at H
        rw [check_mask hk]
        simpa using H
      · have H := H h2 e12
        rw [hy] at H
        simpa using H
    · have H := H h1 e1
      rw [hx] at H
      simpa using H
  · subst hb
    have H := H h (Ext.refl h)
    simpa using H
theorem ref08_Match_s (r : Rul) (hr : r.wf) (g : Hdr) (hg : g.wf) {h : Hp} {K : Value → Hp → Prop} (H : ∀ h', Ext h h' → K (.bool (r.has g)) h') : CallsH Try.prog 34 #[r.val, g.val] h K := by
  refine quintetref08_Match_ok _ _ _ _ _ _ _ _ _ _ _ _ _ _ _ _ _ ?_
  unfold quintetref08_Match
  refine newC_i fun h1 e1 c1 b1 z1 => ?_
  refine newC_i fun h2 e2 c2 b2 z2 => ?_
  refine ⟨_, _, _, _, _, _, _, _, _, _, _, _, ldS (vs := r.enc) (c1.ext e2) (by kernel_rfl), ?_⟩
  refine ref08_May_s r hr fun h3 e3 => ⟨_, rfl, ?_⟩
  have e13 := (e1.trans e2).trans e3
  have d1 := (c1.ext e2).ext e3
  have d2 := c2.ext e3
  refine br_i (fun hc => ?_) (fun hc => ?_)
  · have H := H h3 e13
    have : (r.check.1 == 0) = false := by simpa using hc
    rw [Rul.has, this] at H
    simpa using H
  have hk : r.check.1 = 0 := by simpa using hc
  have fin : ∀ b : Bool, b = (spanHas r.s0 r.s1 g.sp && spanHas r.d0 r.d1 g.dp) → quintetref08_Match_j1 (fun b h' => K (.bool b) h') ⟨h.size, 0, none⟩ ⟨h1.size, 0, none⟩ b h3 := fun b hb => by
    refine ref08_j1 r hr g hg hk b d1 d2 fun h4 e4 => ?_
    have H := H h4 (e13.trans e4)
    have e : r.has g = (b && prefixHas r.sA r.sL g.src && prefixHas r.dA r.dL g.dst && maskHas r.pV r.pC g.pr) := by
      rw [Rul.has, hk, hb]
      cases spanHas r.s0 r.s1 g.sp <;> cases spanHas r.d0 r.d1 g.dp <;> cases prefixHas r.sA r.sL g.src <;> cases prefixHas r.dA r.dL g.dst <;> cases maskHas r.pV r.pC g.pr <;> rfl
    rw [e] at H
    exact H
  refine ⟨_, ld (d1.at_ 5 _ rfl) (by kernel_rfl), _, ld (d2.at_ 2 _ rfl) (by kernel_rfl), br_i (fun q1 => ?_) (fun q1 => ?_)⟩
  · refine ⟨_, ld (d2.at_ 2 _ rfl) (by kernel_rfl), _, ld (a := (((⟨h.size, 0, none⟩ : Addr).add 5).add 1)) (by rw [add_add rfl]; exact d1.at_ 6 _ rfl) (by kernel_rfl), br_i (fun q2 => ?_) (fun q2 => ?_)⟩
    · refine ⟨_, ld (d1.at_ 7 _ rfl) (by kernel_rfl), _, ld (d2.at_ 3 _ rfl) (by kernel_rfl), br_i (fun q3 => ?_) (fun q3 => ?_)⟩
      · refine ⟨_, ld (d2.at_ 3 _ rfl) (by kernel_rfl), _, ld (a := (((⟨h.size, 0, none⟩ : Addr).add 7).add 1)) (by rw [add_add rfl]; exact d1.at_ 8 _ rfl) (by kernel_rfl), ?_⟩
        refine fin _ ?_
        simp at q1 q2 q3
        simp [spanHas, q1, q2, q3]
      · refine fin _ ?_
        simp at q3
        have : ¬ g.dp ≥ r.d0 := by omega
        simp [spanHas, this]
    · refine fin _ ?_
      simp at q2
      have : ¬ g.sp ≤ r.s1 := by omega
      simp [spanHas, this]
  · refine fin _ ?_
    simp at q1
    have : ¬ g.sp ≥ r.s0 := by omega
    simp [spanHas, this]
/-! ### The document's Find, Set and Match -/
theorem rfind_l1 {h : Hp} {A : Option Addr} {l c : Nat} {xs : List Rul} (r : RSl h A l 12 (xs.flatMap Rul.enc)) (hl : xs.length = l) (id : Int) (hlen : l < 2 ^ 62) {K0 : Int → Hp → Prop} {K1 : Hp → Prop}
    (H0 : ∀ j : Nat, findI xs id = j → K0 j h) (H1 : findI xs id = -1 → K1 h) :
    ∀ (d n k : Nat), n + d = l → d < k → (∀ j, j < n → ∀ x, xs[j]? = some x → x.id ≠ id) → quintetref11_Find_l1 A l c id K0 K1 k n h := by
  intro d
  induction d with
  | zero =>
    intro n k hn hk hno
    obtain ⟨k, rfl⟩ : ∃ m, k = m + 1 := ⟨k - 1, by omega⟩
    unfold quintetref11_Find_l1
    refine br_f (by simp; omega) (H1 (findI_none fun x hx e => ?_))
    obtain ⟨j, hj⟩ := List.getElem?_of_mem hx
    exact hno j (by have := (List.getElem?_eq_some_iff.1 hj).1; omega) x hj e
  | succ d ih =>
    intro n k hn hk hno
    obtain ⟨k, rfl⟩ : ∃ m, k = m + 1 := ⟨k - 1, by omega⟩
    unfold quintetref11_Find_l1
    refine br_t (by simp; omega) ?_
    obtain ⟨a, hp, hcl⟩ := rd_elem (c := c) r hl (i := n) (by omega)
    refine ⟨_, hp, (xs[n]'(by omega)).id, ld (Cl.head hcl) (by kernel_rfl), ?_⟩
    have hx : xs[n]? = some (xs[n]'(by omega)) := List.getElem?_eq_getElem (by omega)
    refine br_i (fun e => ?_) (fun e => ?_)
    · exact H0 n (findI_at (by omega) (fun x hx' => by rw [hx] at hx'; injection hx' with hx'; subst hx'; simpa using e) hno)
    · rw [wrap_in (by omega) (by omega)]
      refine ih (n + 1) k (by omega) (by omega) (fun j hj x hx' => ?_)
      by_cases hjn : j = n
      · subst hjn; rw [hx] at hx'; injection hx' with hx'; subst hx'; simpa using e
      · exact hno j (by omega) x hx'
theorem rfind_s {h : Hp} {A : Option Addr} {l c : Nat} {xs : List Rul} (r : RSl h A l 12 (xs.flatMap Rul.enc)) (hl : xs.length = l) (id : Int) (hlen : l < 2 ^ 62) {K : Value → Hp → Prop} (H : K (.int .i64 (findI xs id)) h) : CallsH Try.prog 32 #[Value.slice A l c, .int .i64 id] h K := by
  refine quintetref11_Find_ok _ _ _ _ ?_
  unfold quintetref11_Find
  refine ⟨l + 1, ?_⟩
  refine rfind_l1 r hl id hlen (fun j hj => ?g0) (fun hj => ?g1) l 0 (l + 1) (by omega) (by omega) (fun j hj => by omega)
  case g0 => rw [hj] at H; exact H
  case g1 => rw [hj] at H; exact H
theorem rset_l1 {h0 : Hp} (xs : List Rul) (hw : ∀ x ∈ xs, x.wf) {A : Option Addr} {l c : Nat} {max : Int} (hl : xs.length = l) (hlen : l < 2 ^ 62) (hA : l ≤ c) {K0 : Int → Hp → Prop} {K1 : Hp → Prop}
    (H0 : ∀ v h', setI max [] xs 0 = v → Ext h0 h' → K0 v h') (H1 : ∀ h', setI max [] xs 0 = 0 → Ext h0 h' → K1 h') :
    ∀ (rs : List Rul) (n k : Nat) (h : Hp), xs.drop n = rs → n ≤ l → l - n < k → Ext h0 h → RSl h A l 12 (xs.flatMap Rul.enc) → setI max [] xs 0 = setI max (xs.take n) rs n → quintetref11_Set_l1 A l c max K0 K1 k n h := by
  intro rs
  induction rs with
  | nil =>
    intro n k h hd hn hk he hr hs
    obtain ⟨k, rfl⟩ : ∃ m, k = m + 1 := ⟨k - 1, by omega⟩
    have : l ≤ n := by have := congrArg List.length hd; simp at this; omega
    unfold quintetref11_Set_l1
    exact br_f (by simp; omega) (H1 h hs he)
  | cons r rs ih =>
    intro n k h hd hn hk he hr hs
    obtain ⟨k, rfl⟩ : ∃ m, k = m + 1 := ⟨k - 1, by omega⟩
    obtain ⟨i, z, hi, hisz, hiby, hiz, hzc⟩ := info55
    have hlt : n < l := by have := congrArg List.length hd; simp at this; omega
    have hget : xs[n]'(by omega) = r := by
      rw [List.drop_eq_getElem_cons (by omega)] at hd
      injection hd
    have hd' : xs.drop (n + 1) = rs := by
      rw [List.drop_eq_getElem_cons (by omega)] at hd
      injection hd
    have htk : xs.take (n + 1) = xs.take n ++ [r] := by rw [List.take_succ_eq_append_getElem (by omega), hget]
    have hwr : r.wf := hget ▸ hw _ (List.getElem_mem _)
    unfold quintetref11_Set_l1
    refine br_t (by simp; omega) ?_
    obtain ⟨a, hp, hcl⟩ := rd_elem (c := c) hr hl hlt
    rw [hget] at hcl
    refine ⟨_, hp, ?_⟩
    refine ⟨_, _, _, _, _, _, _, _, _, _, _, _, ldS hcl (by kernel_rfl), ?_⟩
    refine ref08_Check_s r hwr fun h1 e1 => ⟨_, _, rfl, ?_⟩
    refine br_i (fun hc => ?_) (fun hc => ?_)
    · have hk0 : r.check.1 ≠ 0 := by simpa using hc
      have ht : takesI (xs.take n) r = r.check.1 := by rw [takesI, if_pos hk0]
      refine H0 _ h1 ?_ (he.trans e1)
      rw [hs, setI, if_pos (by rw [ht]; exact hk0), ht]
    have hk0 : r.check.1 = 0 := by simpa using hc
    refine ⟨_, _, _, slHi und32 hi (by omega) (by omega), ?_⟩
    rw [Int.toNat_natCast]
    refine ⟨_, hp, _, ld (Cl.head (hcl.ext e1)) (by kernel_rfl), ?_⟩
    have hrt : RSl h1 A n 12 ((xs.take n).flatMap Rul.enc) := by
      obtain ⟨a', hA', hcl'⟩ := (hr.ext e1).some (by omega)
      refine ⟨by rw [flat_len Rul.enc_len]; simp; omega, .inr ⟨a', hA', ?_⟩⟩
      refine ⟨hcl'.spot, fun j v hj => hcl'.at_ j v ?_⟩
      rw [← flat_take Rul.enc_len, List.getElem?_take] at hj
      split at hj
      · exact hj
      · cases hj
    refine rfind_s hrt (by simp; omega) r.id (by omega) ⟨_, rfl, ?_⟩
    refine br_i (fun hd => ?_) (fun hd => ?_)
    · have ht : takesI (xs.take n) r = 111 := by rw [takesI, if_neg (by simp [hk0]), if_pos (by simpa using hd)]
      refine H0 _ h1 ?_ (he.trans e1)
      rw [hs, setI, if_pos (by rw [ht]; simp), ht]
    have ht : takesI (xs.take n) r = 0 := by rw [takesI, if_neg (by simp [hk0]), if_neg (by simpa using hd)]
    refine br_i (fun hm => ?_) (fun hm => ?_)
    · refine H0 _ h1 ?_ (he.trans e1)
      rw [hs, setI, if_neg (by simp [ht]), if_pos (by simpa using hm)]
    · rw [wrap_in (by omega) (by omega)]
      refine ih (n + 1) k h1 hd' (by omega) (by omega) (he.trans e1) (hr.ext e1) ?_
      rw [hs, setI, if_neg (by simp [ht]), if_neg (by simpa using hm), htk]
theorem rset_s {h : Hp} (xs : List Rul) (hw : ∀ x ∈ xs, x.wf) {A : Option Addr} {l c : Nat} (max : Int) (hl : xs.length = l) (hlen : l ≤ 1000000) (hA : l ≤ c) (hr : RSl h A l 12 (xs.flatMap Rul.enc)) {K : Value → Hp → Prop}
    (H : ∀ h', Ext h h' → K (.int .i64 (setI max [] xs 0)) h') : CallsH Try.prog 13 #[.slice A l c, .int .i64 max] h K := by
  refine quintetref11_Set_ok _ _ _ _ ?_
  unfold quintetref11_Set
  refine ⟨l + 1, ?_⟩
  refine rset_l1 (h0 := h) xs hw hl (by omega) hA (fun v h' hv he => ?g0) (fun h' hv he => ?g1) xs 0 (l + 1) h rfl (by omega) (by omega) (Ext.refl h) hr (by simp)
  case g0 => rw [← hv]; exact H h' he
  case g1 => have := H h' he; rw [hv] at this; exact this
theorem rmatch_l1 {A : Option Addr} {l c : Nat} {xs : List Rul} (hw : ∀ x ∈ xs, x.wf) (hl : xs.length = l) (g : Hdr) (hg : g.wf) (d : Int) (hlen : l < 2 ^ 62) (ga gb : Nat) {K0 : Addr → Int → Hp → Prop} {K1 : Int → Addr → Hp → Prop} {h0 : Hp} (hgb : h0.size ≤ gb) :
    ∀ (rs : List Rul) (n k : Nat) (h : Hp), xs.drop n = rs → n ≤ l → l - n < k → Ext h0 h → RSl h A l 12 (xs.flatMap Rul.enc) → Cl h ⟨ga, 0, none⟩ g.enc → h[gb]? = some (.cells (verd (false, 0, 0)).toArray 40 (0, 0)) →
      (∀ (i : Int) (h' : Hp) (v : Bool × Int × Int), matchI d g rs n = (v, i) → v.1 = true → Ext h0 h' → Cl h' ⟨gb, 0, none⟩ (verd v) → K0 ⟨gb, 0, none⟩ i h') →
      (∀ h', matchI d g rs n = ((false, 0, d), -1) → Ext h0 h' → h'[gb]? = some (.cells (verd (false, 0, 0)).toArray 40 (0, 0)) → K1 d ⟨gb, 0, none⟩ h') →
      quintetref11_Match_l1 A l c d ⟨ga, 0, none⟩ ⟨gb, 0, none⟩ K0 K1 k n h := by
  intro rs
  induction rs with
  | nil =>
    intro n k h hd hn hk he hr hgc hb H0 H1
    obtain ⟨k, rfl⟩ : ∃ m, k = m + 1 := ⟨k - 1, by omega⟩
    have : l ≤ n := by have := congrArg List.length hd; simp at this; omega
    unfold quintetref11_Match_l1
    exact br_f (by simp; omega) (H1 h rfl he hb)
  | cons r rs ih =>
    intro n k h hd hn hk he hr hgc hb H0 H1
    obtain ⟨k, rfl⟩ : ∃ m, k = m + 1 := ⟨k - 1, by omega⟩
    have hlt : n < l := by have := congrArg List.length hd; simp at this; omega
    have hget : xs[n]'(by omega) = r := by
      rw [List.drop_eq_getElem_cons (by omega)] at hd
      injection hd
    have hd' : xs.drop (n + 1) = rs := by
      rw [List.drop_eq_getElem_cons (by omega)] at hd
      injection hd
    have hwr : r.wf := hget ▸ hw _ (List.getElem_mem _)
    unfold quintetref11_Match_l1
    refine br_t (by simp; omega) ?_
    obtain ⟨a, hp, hcl⟩ := rd_elem (c := c) hr hl hlt
    rw [hget] at hcl
    refine ⟨_, hp, ?_⟩
    refine ⟨_, _, _, _, _, _, _, _, _, _, _, _, ldS hcl (by kernel_rfl), ?_⟩
    refine ⟨_, _, _, _, _, ldS hgc (by kernel_rfl), ?_⟩
    refine ref08_Match_s r hwr g hg fun h1 e1 => ⟨_, rfl, ?_⟩
    have hgbh : gb < h.size := lt_of_get hb
    have hb1 := (e1.fr (fun _ => False)).get hb (fun h => h)
    refine br_i (fun hc => ?_) (fun hc => ?_)
    · refine ⟨_, hp, _, ld (Cl.head (hcl.ext e1)) (by kernel_rfl), ?_⟩
      refine ⟨_, hp, _, ld ((hcl.ext e1).at_ 11 _ rfl) (by kernel_rfl), ?_⟩
      refine HU_box (us := verd (true, r.id, r.act)) hb1 rfl rfl size40 rfl fun h3 c3 b3 f3 z3 => ?_
      refine H0 n h3 (true, r.id, r.act) (by rw [matchI, if_pos hc]) rfl ⟨?_, fun q hq => ?_⟩ c3
      · have := he.size; have := e1.size; omega
      · rw [f3.keep q (by have := he.size; have := e1.size; omega) (by omega), e1.old q (by have := he.size; omega), he.old q hq]
    · have hno : matchI d g (r :: rs) n = matchI d g rs (n + 1) := by rw [matchI, if_neg (by rw [hc]; simp)]
      rw [wrap_in (by omega) (by omega)]
      rw [hno] at H0 H1
      exact ih (n + 1) k h1 hd' (by omega) (by omega) (he.trans e1) (hr.ext e1) (hgc.ext e1) hb1 H0 H1
theorem rmatch_s {h : Hp} {A : Option Addr} {l c : Nat} {xs : List Rul} (hw : ∀ x ∈ xs, x.wf) (hl : xs.length = l) (hr : RSl h A l 12 (xs.flatMap Rul.enc)) (g : Hdr) (hg : g.wf) (d : Int) (hlen : l ≤ 1000000) {K : Value → Hp → Prop}
    (H : ∀ h' v i, Ext h h' → matchI d g xs 0 = (v, i) → K (.tuple #[.agg (verd v).toArray, .int .i64 i]) h') : CallsH Try.prog 15 #[.slice A l c, .int .i64 d, g.val] h K := by
  refine quintetref11_Match_ok _ _ _ _ _ _ _ _ _ ?_
  unfold quintetref11_Match
  refine newC_i fun h1 e1 c1 b1 z1 => ?_
  refine newC_i fun h2 e2 c2 b2 z2 => ?_
  have e12 := e1.trans e2
  refine ⟨l + 1, ?_⟩
  refine rmatch_l1 (h0 := h) hw hl g hg d (by omega) h.size h1.size e1.size xs 0 (l + 1) h2 rfl (by omega) (by omega) e12 (hr.ext e12) (c1.ext e2) b2 ?_ ?_
  · intro i h' v hm hv he hcl
    refine ⟨_, _, _, ldS hcl (by kernel_rfl), ?_⟩
    exact H h' v i he hm
  · intro h' hm he hb'
    refine HU_box (us := verd (false, 0, d)) hb' rfl rfl size40 rfl fun h3 c3 b3 f3 z3 => ?_
    refine ⟨_, _, _, ldS c3 (by kernel_rfl), ?_⟩
    refine H h3 (false, 0, d) (-1) ⟨?_, fun q hq => ?_⟩ hm
    · have := he.size; omega
    · rw [f3.keep q (by have := he.size; omega) (by have := e1.size; omega), he.old q hq]
theorem TableMatches_s (cf : Cfg) (xs : List Rul) (hw : ∀ x ∈ xs, x.wf) (g k : Hdr) (hg : g.wf) (hk : k.wf) {h : Hp} {A : Option Addr} {l c : Nat} (hl : xs.length = l) (hc : l ≤ c) (hr : RSl h A l 12 (xs.flatMap Rul.enc)) {K : Value → Hp → Prop} (H : ∀ h', Ext h h' → K (.bool true) h') : CallsH Try.prog 4 #[cf.val, .slice A l c, g.val, k.val] h K := by
  refine quintetlaw11_TableMatches_ok _ _ _ _ _ _ _ _ _ _ _ _ _ _ _ _ _ _ _ _ ?_
  unfold quintetlaw11_TableMatches
  refine newC_i fun h1 e1 c1 b1 z1 => newC_i fun h2 e2 c2 b2 z2 => newC_i fun h3 e3 c3 b3 z3 => ?_
  have e03 := (e1.trans e2).trans e3
  refine br_i (fun _ => awake_s fun h4 e4 => ⟨_, rfl, H h4 (e03.trans e4)⟩) (fun hlt => ?_)
  have hlt : l ≤ 2000 := by simp at hlt; omega
  refine ⟨_, _, _, _, _, _, _, ldS (vs := cf.enc) ((c1.ext e2).ext e3) (by kernel_rfl), ?_⟩
  refine ref_Check_s cf fun v h4 e4 hv => ⟨_, rfl, ?_⟩
  subst hv
  have e04 := e03.trans e4
  refine br_i (fun _ => awake_s fun h5 e5 => ⟨_, rfl, H h5 (e04.trans e5)⟩) (fun hck => ?_)
  have hck : cf.check = 0 := by simpa using hck
  have d1 := ((c1.ext e2).ext e3).ext e4
  refine ⟨cf.max, ld (d1.at_ 0 _ rfl) (by kernel_rfl), ?_⟩
  refine rset_s xs hw cf.max hl (by omega) hc (hr.ext e04) fun h5 e5 => ⟨_, rfl, ?_⟩
  have e05 := e04.trans e5
  refine br_i (fun _ => awake_s fun h6 e6 => ⟨_, rfl, H h6 (e05.trans e6)⟩) (fun hset => ?_)
  have hset : setI cf.max [] xs 0 = 0 := by simpa using hset
  unfold quintetlaw11_TableMatches_j2
  refine ⟨_, _, _, _, _, _, _, ldS (vs := cf.enc) (d1.ext e5) (by kernel_rfl), ?_⟩
  refine table_New_s cf (fun hc => absurd hck hc) (fun _ h6 b e6 hb t6 => ?_)
  refine ⟨_, _, rfl, ⟨_, eqNil eq27, br_f rfl ?_⟩⟩
  have o6 : Own h5 h6 b _ cf [] := ⟨t6, fun k hk => by omega, e6⟩
  have hr5 := hr.ext e05
  refine table_Set_s o6.t hl (by omega) hc (hr.ext (e05.trans e6)) (fun hz a ha hS => by have := o6.fresh _ hS; have := rsl_block hr5 hz a ha; omega) fun h7 S7 t7 hS7 f7 => ⟨_, rfl, ?_⟩
  have o7 := o6.step t7 hS7 f7
  rw [if_pos hset] at o7
  rw [hset]
  refine br_f rfl ?_
  unfold quintetlaw11_TableMatches_j3
  have e07 := e05.trans o7.ext
  have e47 := e5.trans o7.ext
  have d7 := d1.ext e47
  have g7 : Cl h7 ⟨h1.size, 0, none⟩ g.enc := ((c2.ext e3).ext e4).ext e47
  have k7 : Cl h7 ⟨h2.size, 0, none⟩ k.enc := (c3.ext e4).ext e47
  refine ⟨cf.dflt, ld (d7.at_ 1 _ rfl) (by kernel_rfl), ?_⟩
  refine ⟨_, _, _, _, _, ldS g7 (by kernel_rfl), ?_⟩
  refine rmatch_s hw hl (hr.ext e07) g hg cf.dflt (by omega) fun h8 v i e8 hm => ⟨_, _, _, _, rfl, ?_⟩
  refine newV (us := verd v) rfl rfl size40 rfl fun h9 e9 c9 b9 z9 => ?_
  have o9 := (o7.later e8).later e9
  have g9 := (g7.ext e8).ext e9
  refine ⟨_, _, _, _, _, ldS g9 (by kernel_rfl), ?_⟩
  refine table_Match_s o9.t g (by omega) fun h10 v2 i2 e10 hm2 => ⟨_, _, _, _, rfl, ?_⟩
  have hq2 := hm.symm.trans hm2
  injection hq2 with hv2 hi2
  subst hv2 hi2
  refine newV (us := verd v) rfl rfl size40 rfl fun h11 e11 c11 b11 z11 => ?_
  have o11 := (o9.later e10).later e11
  have k11 := (((k7.ext e8).ext e9).ext e10).ext e11
  refine ⟨_, _, _, _, _, ldS k11 (by kernel_rfl), ?_⟩
  refine table_Match_s o11.t k (by omega) fun h12 v3 i3 e12 hm3 => ⟨_, _, _, _, rfl, ?_⟩
  have o12 := o11.later e12
  have g12 := ((g9.ext e10).ext e11).ext e12
  refine ⟨_, _, _, _, _, ldS g12 (by kernel_rfl), ?_⟩
  refine table_Match_s o12.t g (by omega) fun h13 v4 i4 e13 hm4 => ⟨_, _, _, _, rfl, ?_⟩
  have hq4 := hm.symm.trans hm4
  injection hq4 with hv4 hi4
  subst hv4 hi4
  refine newV (us := verd v) rfl rfl size40 rfl fun h14 e14 c14 b14 z14 => ?_
  refine awake_s fun h15 e15 => ⟨_, rfl, br_t rfl ?_⟩
  have x9 := ((((c9.ext e10).ext e11).ext e12).ext e13).ext e14
  have x11 := ((c11.ext e12).ext e13).ext e14
  refine ⟨_, _, _, ldS (vs := verd v) (x11.ext e15) (by kernel_rfl), _, _, _, ldS (vs := verd v) (x9.ext e15) (by kernel_rfl), _, eq40 _ _ _ _ _ _, br_t (by simp) (br_t (by simp) ?_)⟩
  refine ⟨_, _, _, ldS (vs := verd v) (c14.ext e15) (by kernel_rfl), _, _, _, ldS (vs := verd v) (x9.ext e15) (by kernel_rfl), _, eq40 _ _ _ _ _ _, br_t (by simp) ?_⟩
  have := H h15 (((((((((e07.trans e8).trans e9).trans e10).trans e11).trans e12).trans e13).trans e14).trans e15))
  simpa using this
end Go.Proofs.Ytgecabgcjfpenaa.Fs
