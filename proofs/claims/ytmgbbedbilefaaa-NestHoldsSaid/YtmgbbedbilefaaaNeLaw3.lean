/- NestHolds. -/
import Derived.Test.YtmgbbedbilefaaaNeLaw2
namespace Go.Proofs.Ytmgbbedbilefaaa.Fs
open Go Go.RowKit Go.Sort Go.Proofs.Ytmgbbedbilefaaa.Sx Go.Proofs.Ytmgbbedbilefaaa.Sp Go.Proofs.Ytmgbbedbilefaaa.Ne
set_option linter.unusedVariables false
set_option linter.unusedSimpArgs false
set_option maxRecDepth 10000
theorem idxI_spec {α : Type} (l : List α) (p : α → Bool) : idxI l p = -1 ∨ ∃ (n : Nat) (x : α), idxI l p = (n : Int) ∧ l[n]? = some x ∧ p x = true ∧ ∀ j y, l[j]? = some y → p y = true → n ≤ j := by
  unfold idxI
  by_cases c : l.findIdx p < l.length
  · rw [if_pos c]
    refine .inr ⟨_, _, rfl, List.getElem?_eq_getElem c, List.findIdx_getElem (w := c), fun j y hj hp => ?_⟩
    refine Classical.byContradiction fun hn => ?_
    have := List.not_of_lt_findIdx (p := p) (xs := l) (i := j) (by omega)
    obtain ⟨h1, h2⟩ := List.getElem?_eq_some_iff.1 hj
    rw [h2, hp] at this
    cases this
  · rw [if_neg c]; exact .inl rfl
section
variable {h : Hp} {A B C : Option Addr} {c d f : Nat} {l : List Sp} {p : Int}
theorem finds_get {lvl : Nat} (hl : lvl < dep l) : (finds l p)[lvl]? = some (idxI l (fP l p lvl)) := by simp [finds, hl]
theorem ho_l28 (r : RSl h A l.length 2 (l.flatMap Sp.enc)) (rn : RSl h B (levs l).length 1 ((levs l).flatMap encI)) (rx : RSl h C (finds l p).length 1 ((finds l p).flatMap encI)) (hl : l.length ≤ 4000) {K0 : Bool → Hp → Prop} {K1 : (Option Addr) → Nat → Nat → Int → (Option Addr) → Nat → Nat → (Option Addr) → Nat → Nat → Int → Hp → Prop}
    (H : K1 A l.length c p B (levs l).length d C (finds l p).length f (dep l : Int) h) : ∀ (k i : Nat), dep l - i < k → i ≤ dep l → quintetlaw14_NestHolds_l28 A l.length c p B (levs l).length d C (finds l p).length f (dep l : Int) K0 K1 k (i : Int) h := by
  have hdl := dep_le l
  intro k
  induction k with
  | zero => intro i hk; omega
  | succ k ih =>
    intro i hk hi
    unfold quintetlaw14_NestHolds_l28
    refine br_i (fun q => ?_) (fun q => ?_)
    · have hlt : i < dep l := by simpa using q
      obtain ⟨a1, hix1, hld1⟩ := ixIR (c := f) rx (finds_get hlt)
      have nx := ih (i + 1) (by omega) (by omega)
      refine ⟨_, hix1, _, hld1, ?_⟩
      rw [wrapN (by omega)]
      rcases idxI_spec l (fP l p i) with e | ⟨n, s, e, hs, hp, _⟩
      · rw [e]
        exact br_f (by decide) (br_f (by rw [decide_eq_false_iff_not]; omega) (br_f (by decide) nx))
      · rw [e]
        have hnl := (List.getElem?_eq_some_iff.1 hs).1
        unfold fP hasS at hp
        simp only [Bool.and_eq_true, beq_iff_eq, decide_eq_true_eq] at hp
        obtain ⟨h1, h2, h3⟩ := hp
        obtain ⟨a2, hix2, hld2⟩ := ixIR (c := d) rn (levs_get hs)
        obtain ⟨a3, hix3, hc3⟩ := ixS (c := c) r hs
        refine br_f (by rw [decide_eq_false_iff_not]; omega) (br_f (by rw [decide_eq_false_iff_not]; omega) (br_t (by simp) ⟨_, hix2, _, hld2, br_f (by simp [h1]) ⟨_, hix3, _, ld hc3.head (by kernel_rfl), br_f (by rw [decide_eq_false_iff_not]; omega) ⟨_, hix3, _, ld (hc3.at_ 1 _ rfl) (by kernel_rfl), br_f (by rw [decide_eq_false_iff_not]; omega) nx⟩⟩⟩))
    · have : i = dep l := by simp at q; omega
      exact H
theorem ho_l32 (r : RSl h A l.length 2 (l.flatMap Sp.enc)) (rn : RSl h B (levs l).length 1 ((levs l).flatMap encI)) (rx : RSl h C (finds l p).length 1 ((finds l p).flatMap encI)) (hl : l.length ≤ 4000) {K0 : Bool → Hp → Prop} {K1 : Hp → Prop}
    (H : K1 h) : ∀ (k i : Nat), l.length - i < k → i ≤ l.length → quintetlaw14_NestHolds_l32 A l.length c p B (levs l).length d C (finds l p).length f (dep l : Int) K0 K1 k (i : Int) h := by
  have hdl := dep_le l
  intro k
  induction k with
  | zero => intro i hk; omega
  | succ k ih =>
    intro i hk hi
    unfold quintetlaw14_NestHolds_l32
    refine br_i (fun q => ?_) (fun q => ?_)
    · have hlt : i < l.length := by simpa using q
      have hs := List.getElem?_eq_getElem hlt
      generalize l[i] = s at hs
      have hsm := List.mem_of_getElem? hs
      have hlv := lk_lt hsm
      have nx := ih (i + 1) (by omega) (by omega)
      obtain ⟨a3, hix3, hc3⟩ := ixS (c := c) r hs
      refine ⟨_, hix3, _, ld hc3.head (by kernel_rfl), br_i (fun u => ?_) (fun u => ⟨_, hix3, _, ld (hc3.at_ 1 _ rfl) (by kernel_rfl), br_i (fun v => ?_) (fun v => ?_)⟩)⟩
      · rw [wrapN (by omega)]; exact nx
      · rw [wrapN (by omega)]; exact nx
      · have u : s.lo ≤ p := by simpa using u
        have v : p ≤ s.hi := by simpa using v
        obtain ⟨a1, hix1, hld1⟩ := ixIR (c := d) rn (levs_get hs)
        obtain ⟨a2, hix2, hld2⟩ := ixIR (c := f) rx (finds_get (p := p) hlv)
        unfold quintetlaw14_NestHolds_j34
        refine ⟨_, hix1, _, hld1, br_f (by simp) ⟨_, hix1, _, hld1, br_f (by simp; omega) ?_⟩⟩
        unfold quintetlaw14_NestHolds_j35
        refine ⟨_, hix1, _, hld1, _, hix2, _, hld2, ?_⟩
        have hp : fP l p (lk (DL l) s) s = true := by unfold fP hasS; simp [u, v]
        rcases idxI_spec l (fP l p (lk (DL l) s)) with e | ⟨n, t, e, ht, htp, hmin⟩
        · exfalso
          have := (idxI_neg l (fP l p (lk (DL l) s))).1 (by rw [e]; decide) s hsm
          rw [hp] at this
          cases this
        · have hni := hmin i s hs hp
          unfold fP hasS at htp
          simp only [Bool.and_eq_true, beq_iff_eq, decide_eq_true_eq] at htp
          obtain ⟨h1, h2, h3⟩ := htp
          have hts : t = s := apart (List.mem_of_getElem? ht) hsm h1 (by unfold meetB; rw [decide_eq_true_eq]; omega)
          obtain ⟨a4, hix4, hc4⟩ := ixS (c := c) r ht
          rw [e]
          refine br_f (by simp) (br_f (by simp; omega) ⟨_, hix4, _, _, ldS hc4 (by kernel_rfl), _, hix3, _, _, ldS hc3 (by kernel_rfl), _, ne_sp t s, br_f (by simp [hts]) ?_⟩)
          dsimp only
          rw [wrapN (by omega)]
          exact nx
    · exact H
end
theorem NestHolds_s {h : Hp} {A : Option Addr} {c : Nat} {l : List Sp} {p : Int} (hc : l.length ≤ 9223372036854775807) (rs : RSl h A l.length 2 (l.flatMap Sp.enc)) {K : Value → Hp → Prop} (H : ∀ h', Ext h h' → K (.bool true) h') : CallsH Try.prog 6 #[.slice A l.length c, .int .u16 p] h K := by
  refine quintetlaw14_NestHolds_ok _ _ _ _ ?_
  unfold quintetlaw14_NestHolds
  refine Wrong_s rs hc ⟨_, rfl, ?_⟩
  cases hw : wrongB l
  · refine br_f rfl (br_i (fun p => awake_s fun h1 e1 => ⟨_, rfl, H h1 e1⟩) (fun q => ?_))
    have hl : l.length ≤ 4000 := by simp at q; omega
    unfold quintetlaw14_NestHolds_j18
    refine Levels_s rs (by omega) (fun hw' => by rw [hw] at hw'; cases hw') fun _ h1 g e1 hg r1 => ⟨_, _, _, _, rfl, ?_⟩
    refine Find_s (rs.ext e1) (by omega) (fun hw' => by rw [hw] at hw'; cases hw') fun _ h2 g2 e2 hg2 r2 => ⟨_, _, _, _, rfl, ?_⟩
    refine Depth_s (rs.ext (e1.trans e2)) (by omega) (fun hw' => by rw [hw] at hw'; cases hw') fun _ h3 e3 => ⟨_, _, rfl, br_f rfl (br_f rfl (br_f rfl (br_f (by simp) (br_f (by simp) ?_))))⟩
    unfold quintetlaw14_NestHolds_j27
    have E := (e1.trans e2).trans e3
    have k1 := fun H1 => ho_l28 (c := c) (d := l.length) (f := dep l) (K0 := fun b5 h5 => K (.bool b5) h5) (K1 := fun A1040 l1040 c1040 x1041 A1042 l1042 c1042 A1043 l1043 c1043 x1044 h1045 =>
      ∃ k1327, quintetlaw14_NestHolds_l32 A1040 l1040 c1040 x1041 A1042 l1042 c1042 A1043 l1043 c1043 x1044
      (fun (b1321 : Bool) (h1322 : Hp) => K (.bool b1321) h1322)
      (fun (h1323 : Hp) =>
      CallsH Try.prog 9 #[] h1323 fun r1325 h1324 =>
      ∃ b1326 : Bool, r1325 = (.bool b1326) ∧
      K (.bool b1326) h1324)
      k1327 0 h1045) (rs.ext E) ((r1.ext e2).ext e3).read (r2.ext e3).read hl H1 (dep l + 1) 0 (by omega) (by omega)
    have k2 := ho_l32 (c := c) (d := l.length) (f := dep l) (K0 := fun b5 h5 => K (.bool b5) h5) (K1 := fun (h1323 : Hp) =>
      CallsH Try.prog 9 #[] h1323 fun r1325 h1324 =>
      ∃ b1326 : Bool, r1325 = (.bool b1326) ∧
      K (.bool b1326) h1324) (rs.ext E) ((r1.ext e2).ext e3).read (r2.ext e3).read hl (awake_s fun h4 e4 => ⟨_, rfl, H h4 (E.trans e4)⟩) (l.length + 1) 0 (by omega) (by omega)
    have := k1 ⟨_, k2⟩
    rw [levs_len, finds_len] at this
    exact ⟨_, this⟩
  · exact br_t rfl (awake_s fun h1 e1 => ⟨_, rfl, H h1 e1⟩)
end Go.Proofs.Ytmgbbedbilefaaa.Fs
