/- The stem laws without the document's answer: ExpandRound, ExpandMeets. -/
import Derived.Test.YtaacfhekjklipaaExAwake
namespace Go.Proofs.Ytaacfhekjklipaa.Fs
open Go Go.RowKit Go.Proofs.Ytaacfhekjklipaa.Sx Go.Proofs.Ytaacfhekjklipaa.Sp
set_option linter.unusedVariables false
set_option linter.unusedSimpArgs false
set_option maxRecDepth 10000
theorem ch_good {L : List St} {a b : Int} (h : Ch a b L) (h0 : 0 ≤ a) (h1 : b ≤ 65536) : ∀ t ∈ L, goodT t ∧ OkT t := fun t ht => by
  obtain ⟨g1, g2, g3, g4, g5⟩ := h.mem t ht
  have := sz_pos t.len
  exact ⟨⟨g3, g4, Int.emod_eq_zero_of_dvd g5⟩, ⟨by omega, by omega⟩⟩
theorem sumz_nn : ∀ L : List St, 0 ≤ sumz L
  | [] => Int.le_refl _
  | t :: L => by have := sz_pos t.len; have := sumz_nn L; simp only [sumz]; omega
theorem cnt_nn (x : Int) : ∀ L : List St, 0 ≤ cnt x L
  | [] => Int.le_refl _
  | t :: L => by have := cnt_nn x L; simp only [cnt]; split <;> omega
theorem round_l1 {port : Int} {s : Sp} {b0 : Nat} {h0 : Hp} {A : Option Addr} {c : Nat} {L : List St} (hch : Ch s.lo (s.hi + 1) L) (ok : Ok s) (hl : L.length ≤ 30) (r : RowT h0 A c L) (cs : Cl h0 ⟨b0, 0, none⟩ s.enc) {x34 x35 x36 : Int} {A37 : Option Addr} {l37 c37 : Nat} {x38 : Int} {A39 : Option Addr} {l39 c39 : Nat} {x40 : Int}
    {K0 : Bool → Hp → Prop} {K1 : Int → Addr → Option Addr → Nat → Nat → Int → Int → Int → Option Addr → Nat → Nat → Int → Option Addr → Nat → Nat → Int → Int → Int → Hp → Prop}
    (H : ∀ h', Ext h0 h' → K1 port ⟨b0, 0, none⟩ A L.length c x34 x35 x36 A37 l37 c37 x38 A39 l39 c39 x40 (cnt port L) (sumz L) h') :
    ∀ (k i : Nat) (x y : Int) (h : Hp), Ext h0 h → 0 ≤ x → 0 ≤ y → x + cnt port (L.drop i) = cnt port L → y + sumz (L.drop i) = sumz L → L.length - i < k → i ≤ L.length → quintetlaw05_ExpandRound_l1 port ⟨b0, 0, none⟩ A L.length c x34 x35 x36 A37 l37 c37 x38 A39 l39 c39 x40 K0 K1 k x y i h
  | 0, i, x, y, h, _, _, _, _, _, hk, _ => by omega
  | k + 1, i, x, y, h, e, x0, y0, hx, hy, hk, hi => by
    unfold quintetlaw05_ExpandRound_l1
    refine br_i (fun p => ?_) (fun p => ?_)
    · have hlt : i < L.length := by simpa using p
      obtain ⟨k1, k2, k3, k4⟩ := id ok
      have hsum := hch.sum
      have hcn : cnt port L ≤ 1 := by rw [hch.cnt]; split <;> omega
      obtain ⟨a, _, _, hix, hcl⟩ := ixR (P := Try.prog) (T := 34) (E := 49) (c := c) (k := .i64) St.leng (r.read.ext e) rfl und_sts size_st (List.getElem?_eq_getElem hlt)
      have hg := ch_good hch k1 (by omega) _ (List.getElem_mem hlt)
      have hm := hch.mem _ (List.getElem_mem hlt)
      rw [List.drop_eq_getElem_cons hlt] at hx hy
      revert hcl hg hm hx hy
      generalize L[i] = t
      intro hy hx hcl hg hm
      obtain ⟨g, okt⟩ := hg
      obtain ⟨m1, m2, _⟩ := hm
      have hs : spT t = (spanOf t, 0) := by rw [spT, if_pos g]
      refine ⟨_, hix, _, _, ldS hcl (by kernel_rfl), Span_s t okt fun h1 e1 => ?_⟩
      rw [hs]
      refine ⟨_, _, _, rfl, newV (us := (spanOf t).enc) rfl rfl size_sp rfl fun h2 e2 c2 b2 z2 => ?_⟩
      refine ⟨_, _, ldS c2 (by kernel_rfl), span_Count_s (spanOf t) (g.ok okt) fun h3 e3 => ⟨_, rfl, br_f rfl ?_⟩⟩
      have e03 := (e1.trans e2).trans e3
      refine ⟨_, _, ldS (c2.ext e3) (by kernel_rfl), _, _, ldS ((cs.ext e).ext e03) (by kernel_rfl), span_Within_s (spanOf t) s fun h4 e4 => ⟨_, rfl, ?_⟩⟩
      have pz := sz_pos t.len
      have hw : withinS (spanOf t) s = true := by
        unfold withinS hasS spanOf
        simp only [Bool.and_eq_true, decide_eq_true_eq]
        omega
      rw [hw]
      have e04 := e03.trans e4
      refine br_f rfl ⟨_, hix, _, _, ldS (hcl.ext e04) (by kernel_rfl), Has_s t okt port fun h5 e5 => ⟨_, rfl, ?_⟩⟩
      have hc : cntS (spanOf t) = sz t.len := by unfold cntS spanOf mx; dsimp only; split <;> omega
      have hh : hasT t port = inS t port := by
        rw [hasT, decide_eq_true g, Bool.true_and]
        unfold hasS inS spanOf
        rw [← Bool.decide_and, decide_eq_decide]
        dsimp only
        omega
      rw [hc, hh]
      simp only [cnt, sumz] at hx hy
      have n1 := sumz_nn (L.drop (i + 1))
      have n2 := cnt_nn port (L.drop (i + 1))
      have wi : IntKind.i64.wrap ((i : Int) + 1) = ((i + 1 : Nat) : Int) := by rw [wrap_in (by omega) (by omega)]; omega
      rw [wi, wrap_in (n := y + sz t.len) (by omega) (by omega)]
      refine br_i (fun q => ?_) (fun q => ?_)
      · rw [if_pos q] at hx
        rw [wrap_in (n := x + 1) (by omega) (by omega)]
        exact round_l1 hch ok hl r cs H k (i + 1) (x + 1) (y + sz t.len) h5 ((e.trans e04).trans e5) (by omega) (by omega) (by omega) (by omega) (by omega) (by omega)
      · rw [if_neg (by rw [q]; decide)] at hx
        exact round_l1 hch ok hl r cs H k (i + 1) x (y + sz t.len) h5 ((e.trans e04).trans e5) (by omega) (by omega) (by omega) (by omega) (by omega) (by omega)
    · have hi' : i = L.length := by simp at p; omega
      rw [hi', List.drop_length] at hx hy
      simp only [cnt, sumz] at hx hy
      have e1 : x = cnt port L := by omega
      have e2 : y = sumz L := by omega
      rw [e1, e2]
      exact H h e
theorem ExpandRound_s (s : Sp) (ok : Ok s) {port : Int} (hp : 0 ≤ port ∧ port ≤ 65535) {h : Hp} {K : Value → Hp → Prop} (H : ∀ h', Ext h h' → K (.bool true) h') : CallsH Try.prog 10 #[s.val, .int .u16 port] h K := by
  refine quintetlaw05_ExpandRound_ok _ _ _ ?_
  unfold quintetlaw05_ExpandRound
  obtain ⟨k1, k2, k3, k4⟩ := id ok
  refine newC_i (cs := s.enc) fun h1 e1 c1 b1 z1 => ⟨_, _, ldS c1 (by kernel_rfl), ?_⟩
  by_cases g : s.lo ≤ s.hi
  · have hch : Ch s.lo (s.hi + 1) (ofS s) := ofI_ch s.hi 65537 s.lo (by omega) (by omega)
    have hlen := of_len s k1 g k4
    have hgood := ch_good hch k1 (by omega)
    have hb : backT (ofS s) = ([s], 0) := by
      rw [backT, if_pos (fun t ht => (hgood t ht).1), hch.uni k1 (by omega) (by omega)]
      have : s.hi + 1 - 1 = s.hi := by omega
      rw [this]
    have hls : leastT (ofS s) = (ofS s, 0) := by rw [leastT, hb]; simp
    refine Of_s s ok (fun g2 => by omega) fun _ h2 A2 n2 e2 r2 F2 => ⟨_, _, _, _, rfl, ?_⟩
    refine ⟨_, _, ldS (c1.ext e2) (by kernel_rfl), Count_s s ok fun h3 e3 => ?_⟩
    rw [show cntT s = (((ofS s).length : Int), 0) by rw [cntT, if_pos g]]
    have c3 := (c1.ext e2).ext e3
    refine ⟨_, _, rfl, _, ld c3.head (by kernel_rfl), _, ld (c3.at_ 1 _ rfl) (by kernel_rfl), br_f (by simp; omega) ?_⟩
    refine Back_s (r2.ext e3).read (fun t ht => (hgood t ht).2) (by omega) fun h4 A4 n4 e4 r4 F4 => ?_
    rw [hb] at r4 ⊢
    refine ⟨_, _, _, _, rfl, ?_⟩
    refine Least_s ((r2.ext e3).ext e4).read (fun t ht => (hgood t ht).2) (by omega) fun h5 A5 n5 e5 r5 F5 => ?_
    rw [hls] at r5 ⊢
    refine ⟨_, _, _, _, rfl, (ofS s).length + 1, ?_⟩
    have c5 := (c3.ext e4).ext e5
    refine round_l1 (h0 := h5) hch ok hlen.2 (((r2.ext e3).ext e4).ext e5) c5 (fun h6 e6 => ?_) _ 0 0 0 h5 (Ext.refl _) (by omega) (by omega) (by simp) (by simp) (by omega) (by omega)
    refine br_t rfl (br_t rfl (br_t rfl (br_t rfl (br_t (by simp) (br_t (by simp; omega) ?_)))))
    have h30 : decide (((ofS s).length : Int) ≤ 30) = true := decide_eq_true (by omega)
    rw [h30]
    unfold quintetlaw05_ExpandRound_j2
    refine awake05_s fun h7 e7 => ⟨_, rfl, br_t rfl (br_t rfl (br_t rfl ?_))⟩
    have c7 := (c5.ext e6).ext e7
    have r47 := ((r4.ext e5).ext e6).ext e7
    obtain ⟨gb, rfl⟩ := r47.blk0 Sp.len (by simp)
    have cb := r47.elem0 Sp.len (i := 0) (x := s) rfl
    refine ⟨_, ix0 (i := 0) (by simp) und_sps size_sp, _, _, ldS cb (by kernel_rfl), _, _, ldS c7 (by kernel_rfl), _, eq_sp s s, br_t (by simp) ?_⟩
    refine sameT_s ((r5.ext e6).ext e7).read (((((r2.ext e3).ext e4).ext e5).ext e6).ext e7).read (by show (ofS s).length ≤ _; omega) ⟨_, rfl, br_t (by simp) ?_⟩
    refine ⟨_, _, ldS c7 (by kernel_rfl), span_Count_s s ok fun h8 e8 => ⟨_, rfl, br_t ?_ ?_⟩⟩
    · have := hch.sum
      have hc : cntS s = s.hi - s.lo + 1 := by unfold cntS mx; split <;> omega
      rw [hc, this]
      simp; omega
    · refine ⟨_, _, ldS (c7.ext e8) (by kernel_rfl), span_Has_s s port fun h9 e9 => ⟨_, rfl, ?_⟩⟩
      have hcn := hch.cnt (x := port)
      have E := H h9 ((((((((e1.trans e2).trans e3).trans e4).trans e5).trans e6).trans e7).trans e8).trans e9)
      by_cases hin : s.lo ≤ port ∧ port < s.hi + 1
      · rw [if_pos hin] at hcn
        have hh : hasS s port = true := by unfold hasS; simp only [Bool.and_eq_true, decide_eq_true_eq]; omega
        rw [hcn, hh]
        exact br_t rfl E
      · rw [if_neg hin] at hcn
        have hh : hasS s port = false := by
          cases hb : hasS s port
          · rfl
          · unfold hasS at hb; simp only [Bool.and_eq_true, decide_eq_true_eq] at hb; omega
        rw [hcn, hh]
        exact br_t rfl E
  · refine Of_s s ok (fun _ h2 e2 => ⟨_, _, _, _, rfl, ?_⟩) (fun g2 => absurd g2 g)
    refine ⟨_, _, ldS (c1.ext e2) (by kernel_rfl), Count_s s ok fun h3 e3 => ?_⟩
    rw [show cntT s = (0, 30) by rw [cntT, if_neg g]]
    have c3 := (c1.ext e2).ext e3
    refine ⟨_, _, rfl, _, ld c3.head (by kernel_rfl), _, ld (c3.at_ 1 _ rfl) (by kernel_rfl), br_t (by simp; omega) ?_⟩
    refine awake05_s fun h4 e4 => ⟨_, rfl, br_t rfl (br_t rfl (br_t rfl (br_t rfl ?_)))⟩
    exact H h4 (((e1.trans e2).trans e3).trans e4)
/-! ### two stems -/
theorem nested {a b : St} (ga : goodT a) (gb : goodT b) (hm : (meetS (spanOf a) (spanOf b)).2 = true) : (meetS (spanOf a) (spanOf b)).1 = spanOf a ∨ (meetS (spanOf a) (spanOf b)).1 = spanOf b := by
  obtain ⟨a1, a2, a3⟩ := ga
  obtain ⟨b1, b2, b3⟩ := gb
  have pa := sz_pos a.len
  have pb := sz_pos b.len
  have da : sz a.len ∣ a.bits := Int.dvd_of_emod_eq_zero a3
  have db : sz b.len ∣ b.bits := Int.dvd_of_emod_eq_zero b3
  unfold meetS at hm ⊢
  split at hm
  · rename_i hc
    rw [if_pos hc]
    obtain ⟨h1, h2, h3⟩ := hc
    unfold spanOf mx mn at *
    dsimp only at *
    rcases Int.le_total a.len b.len with c | c
    · -- b's block is no greater
      refine .inr ?_
      have dd : sz b.len ∣ sz a.len := sz_dvd c
      have daB : sz b.len ∣ a.bits := Int.dvd_trans dd da
      have e1 : a.bits ≤ b.bits := Int.not_lt.1 fun q => by
        have := dvle db daB q
        (repeat' split at h3) <;> omega
      have e2 : b.bits + sz b.len ≤ a.bits + sz a.len := by
        have hlt : b.bits < a.bits + sz a.len := by (repeat' split at h3) <;> omega
        exact dvle db (Int.dvd_add daB dd) hlt
      congr 1
      · split <;> omega
      · split <;> omega
    · refine .inl ?_
      have dd : sz a.len ∣ sz b.len := sz_dvd c
      have dbA : sz a.len ∣ b.bits := Int.dvd_trans dd db
      have e1 : b.bits ≤ a.bits := Int.not_lt.1 fun q => by
        have := dvle da dbA q
        (repeat' split at h3) <;> omega
      have e2 : a.bits + sz a.len ≤ b.bits + sz b.len := by
        have hlt : a.bits < b.bits + sz b.len := by (repeat' split at h3) <;> omega
        exact dvle da (Int.dvd_add dbA dd) hlt
      congr 1
      · split <;> omega
      · split <;> omega
  · cases hm
theorem meet_has (x y : Sp) (p : Int) (hx : x.lo ≤ x.hi) (hy : y.lo ≤ y.hi) : (hasS x p && hasS y p) = ((meetS x y).2 && hasS (meetS x y).1 p) := by
  rw [Bool.eq_iff_iff]
  unfold meetS
  split
  · unfold hasS mx mn
    simp only [Bool.and_eq_true, decide_eq_true_eq, Bool.true_and]
    (repeat' split) <;> omega
  · rename_i hn
    unfold hasS
    simp only [Bool.and_eq_true, decide_eq_true_eq, Bool.false_and, Bool.false_eq_true, iff_false]
    intro hh
    apply hn
    unfold mx mn
    (repeat' split) <;> omega
theorem meets_j7 {h : Hp} {p : Int} {am : Addr} {m : Sp} (cm : Cl h am m.enc) {ok one both : Bool} (h1 : ok = true → one = true) (h2 : both = (ok && hasS m p)) {K0 : Bool → Hp → Prop} (H : ∀ h', Ext h h' → K0 true h') : quintetlaw05_ExpandMeets_j7 K0 p am ok one both h := by
  unfold quintetlaw05_ExpandMeets_j7
  refine awake05_s fun h1' e1 => ⟨_, rfl, br_t rfl ?_⟩
  have fin : ∀ b : Bool, hasS m p = b → ∃ x386 : Int, ∃ x387 : Int, HV Try.prog (Instr.loadAt 24 (.pointer (some am))) h1' (.agg #[(.int .u16 x386), (.int .u16 x387)]) ∧ CallsH Try.prog 43 #[(.agg #[(.int .u16 x386), (.int .u16 x387)]), (.int .u16 p)] h1' fun r389 h388 => ∃ b390 : Bool, r389 = (.bool b390) ∧ K0 (b == b390) h388 := by
    intro b hb
    refine ⟨_, _, ldS (cm.ext e1) (by kernel_rfl), span_Has_s m p fun h2 e2 => ⟨_, rfl, ?_⟩⟩
    have := H h2 (e1.trans e2)
    rw [hb]
    simpa using this
  cases ok with
  | false =>
    have hb : both = false := by rw [h2]; rfl
    subst hb
    exact br_t rfl (br_t rfl (br_t rfl (H h1' e1)))
  | true =>
    have ho := h1 rfl
    subst ho
    rw [Bool.true_and] at h2
    cases both with
    | false => exact br_f rfl (br_t rfl (br_t rfl (br_f rfl (fin false h2.symm))))
    | true => exact br_f rfl (br_t rfl (br_f rfl (br_t rfl (br_f rfl (fin true h2.symm)))))
theorem meets_j6 {h : Hp} {a b : St} (oka : OkT a) (okb : OkT b) {p : Int} {a1 a2 am : Addr} {m : Sp} (ca : Cl h a1 a.enc) (cb : Cl h a2 b.enc) (cm : Cl h am m.enc) {ok one : Bool} (h1 : ok = true → one = true) (h2 : (hasT a p && hasT b p) = (ok && hasS m p)) {K0 : Bool → Hp → Prop} (H : ∀ h', Ext h h' → K0 true h') : quintetlaw05_ExpandMeets_j6 K0 p a1 a2 am ok one h := by
  unfold quintetlaw05_ExpandMeets_j6
  refine ⟨_, _, ldS ca (by kernel_rfl), Has_s a oka p fun h3 e3 => ⟨_, rfl, br_i (fun q => ?_) (fun q => ?_)⟩⟩
  · refine ⟨_, _, ldS (cb.ext e3) (by kernel_rfl), Has_s b okb p fun h4 e4 => ⟨_, rfl, ?_⟩⟩
    refine meets_j7 ((cm.ext e3).ext e4) h1 ?_ fun h5 e5 => H h5 ((e3.trans e4).trans e5)
    rw [← h2, q, Bool.true_and]
  · refine meets_j7 (cm.ext e3) h1 ?_ fun h5 e5 => H h5 (e3.trans e5)
    rw [← h2, q, Bool.false_and]
theorem ExpandMeets_s (a b : St) (oka : OkT a) (okb : OkT b) (p : Int) {h : Hp} {K : Value → Hp → Prop} (H : ∀ h', Ext h h' → K (.bool true) h') : CallsH Try.prog 11 #[a.val, b.val, .int .u16 p] h K := by
  refine quintetlaw05_ExpandMeets_ok _ _ _ _ _ ?_
  unfold quintetlaw05_ExpandMeets
  refine newC_i (cs := a.enc) fun h1 e1 c1 b1 z1 => newC_i (cs := b.enc) fun h2 e2 c2 b2 z2 => ?_
  have ca := c1.ext e2
  refine ⟨_, _, ldS ca (by kernel_rfl), Span_s a oka fun h3 e3 => ⟨_, _, _, rfl, ?_⟩⟩
  refine newV (us := (spT a).1.enc) rfl rfl size_sp rfl fun h4 e4 c4 b4 z4 => ?_
  have e34 := e3.trans e4
  refine ⟨_, _, ldS (c2.ext e34) (by kernel_rfl), Span_s b okb fun h5 e5 => ⟨_, _, _, rfl, ?_⟩⟩
  refine newV (us := (spT b).1.enc) rfl rfl size_sp rfl fun h6 e6 c6 b6 z6 => ?_
  have e56 := e5.trans e6
  have E6 := ((e1.trans e2).trans e34).trans e56
  by_cases ga : goodT a
  · have sa : spT a = (spanOf a, 0) := by rw [spT, if_pos ga]
    by_cases gb : goodT b
    · have sb : spT b = (spanOf b, 0) := by rw [spT, if_pos gb]
      rw [sa, sb]
      rw [sa] at c4
      rw [sb] at c6
      refine br_f rfl (br_f rfl ?_)
      unfold quintetlaw05_ExpandMeets_j4
      have cx := c4.ext e56
      refine ⟨_, _, ldS cx (by kernel_rfl), _, _, ldS c6 (by kernel_rfl), span_Meet_s (spanOf a) (spanOf b) fun h7 e7 => ⟨_, _, _, rfl, ?_⟩⟩
      refine newV (us := (meetS (spanOf a) (spanOf b)).1.enc) rfl rfl size_sp rfl fun h8 e8 c8 b8 z8 => ?_
      have e78 := e7.trans e8
      have pa := sz_pos a.len
      have pb := sz_pos b.len
      have hh : (hasT a p && hasT b p) = ((meetS (spanOf a) (spanOf b)).2 && hasS (meetS (spanOf a) (spanOf b)).1 p) := by
        rw [hasT, hasT, decide_eq_true ga, decide_eq_true gb, Bool.true_and, Bool.true_and]
        exact meet_has _ _ p (by unfold spanOf; dsimp only; omega) (by unfold spanOf; dsimp only; omega)
      have cA := ((ca.ext e34).ext e56).ext e78
      have cB := ((c2.ext e34).ext e56).ext e78
      have fin : ∀ one : Bool, ((meetS (spanOf a) (spanOf b)).2 = true → one = true) → quintetlaw05_ExpandMeets_j6 (fun (b442 : Bool) (h443 : Hp) => K (.bool b442) h443) p ⟨h.size, 0, none⟩ ⟨h1.size, 0, none⟩ ⟨h7.size, 0, none⟩ (meetS (spanOf a) (spanOf b)).2 one h8 := fun one ho =>
        meets_j6 oka okb cA cB c8 ho hh fun h9 e9 => H h9 ((E6.trans e78).trans e9)
      have nst := nested ga gb
      refine br_i (fun q => ?_) (fun q => ?_)
      · refine ⟨_, _, ldS c8 (by kernel_rfl), _, _, ldS (cx.ext e78) (by kernel_rfl), _, eq_sp _ _, br_i (fun r => ?_) (fun r => ?_)⟩
        · exact fin true (fun _ => rfl)
        · refine ⟨_, _, ldS c8 (by kernel_rfl), _, _, ldS (c6.ext e78) (by kernel_rfl), _, eq_sp _ _, ?_⟩
          refine fin _ (fun hq => ?_)
          rcases nst hq with h1 | h1
          · rw [h1] at r; simp at r
          · exact decide_eq_true h1
      · exact fin false (fun hq => by rw [q] at hq; cases hq)
    · have sb : spT b = (⟨0, 0⟩, 50) := by rw [spT, if_neg gb]
      rw [sa, sb]
      refine br_f rfl (br_t rfl ?_)
      exact awake05_s fun h7 e7 => ⟨_, rfl, br_t rfl (br_f rfl (H h7 (E6.trans e7)))⟩
  · have sa : spT a = (⟨0, 0⟩, 50) := by rw [spT, if_neg ga]
    rw [sa]
    refine br_t rfl ?_
    exact awake05_s fun h7 e7 => ⟨_, rfl, br_t rfl (br_t rfl (H h7 (E6.trans e7)))⟩
end Go.Proofs.Ytaacfhekjklipaa.Fs
