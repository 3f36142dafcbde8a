/- The span laws' helpers and the document's functions. -/
import Derived.Test.YtaacfhekjklipaaSpPorts
namespace Go.Proofs.Ytaacfhekjklipaa.Fs
open Go Go.RowKit Go.Proofs.Ytaacfhekjklipaa.Sx Go.Proofs.Ytaacfhekjklipaa.Sp
set_option linter.unusedVariables false
set_option linter.unusedSimpArgs false
set_option maxRecDepth 10000
theorem of_s (x y : Int) {h : Hp} {K : Value → Hp → Prop} (H : ∀ h', Ext h h' → K (Sp.val ⟨x, y⟩) h') : CallsH Try.prog 48 #[.int .u16 x, .int .u16 y] h K := by
  refine quintetlaw03_of_ok _ _ ?_
  unfold quintetlaw03_of
  refine newV (us := Sp.enc ⟨x, y⟩) rfl rfl size_sp rfl fun h1 e1 c1 b1 z1 => ⟨_, _, ldS c1 (by kernel_rfl), H h1 e1⟩
theorem lit_rs {h : Hp} {a : Addr} {l : List Sp} (c : Cl h a (l.flatMap Sp.enc)) : RSl h (some a) l.length 2 (l.flatMap Sp.enc) := ⟨flat_len Sp.len l, .inr ⟨a, rfl, c⟩⟩
theorem wrapN {i : Nat} (h : i < 2 ^ 62) : IntKind.i64.wrap ((i : Int) + 1) = ((i + 1 : Nat) : Int) := by rw [wrap_in (by omega) (by omega)]; omega
theorem same_l1 {h : Hp} {A A' : Option Addr} {c c' : Nat} {l m : List Sp} (r1 : RSl h A l.length 2 (l.flatMap Sp.enc)) (r2 : RSl h A' m.length 2 (m.flatMap Sp.enc)) (hl : l.length ≤ 1000000000) (he : l.length = m.length) {K0 : Bool → Hp → Prop} {K1 : Hp → Prop} (H0 : l ≠ m → K0 false h) (H1 : l = m → K1 h) :
    ∀ (k i : Nat), l.length - i < k → i ≤ l.length → l.take i = m.take i → quintetref03_Same_l1 A l.length c A' m.length c' K0 K1 k i h
  | 0, i, hk, _, _ => by omega
  | k + 1, i, hk, hi, ht => by
    unfold quintetref03_Same_l1
    refine br_i (fun hc => ?_) (fun hc => ?_)
    · have hlt : i < l.length := by simpa using hc
      have hltm : i < m.length := by omega
      obtain ⟨a, _, _, hix, hcl⟩ := ixR (P := Try.prog) (T := 25) (E := 24) (c := c) (k := .i64) Sp.len r1 rfl und_sps size_sp (List.getElem?_eq_getElem hlt)
      obtain ⟨b, _, _, hix2, hcl2⟩ := ixR (P := Try.prog) (T := 25) (E := 24) (c := c') (k := .i64) Sp.len r2 rfl und_sps size_sp (List.getElem?_eq_getElem hltm)
      refine ⟨_, hix, _, _, ldS hcl (by kernel_rfl), _, hix2, _, _, ldS hcl2 (by kernel_rfl), _, ne_sp _ _, br_i (fun p => ?_) (fun p => ?_)⟩
      · refine H0 fun e => ?_
        simp only [Bool.not_eq_true', decide_eq_false_iff_not] at p
        exact p (by simp [e])
      · have e : l[i] = m[i] := by simpa using p
        rw [wrapN (by omega)]
        refine same_l1 r1 r2 hl he H0 H1 k (i + 1) (by omega) (by omega) ?_
        rw [List.take_add_one, List.take_add_one, ht, List.getElem?_eq_getElem hlt, List.getElem?_eq_getElem hltm, e]
    · have hi' : i = l.length := by simp at hc; omega
      rw [hi', List.take_length, he, List.take_length] at ht
      exact H1 ht
theorem same_s {h : Hp} {A A' : Option Addr} {c c' : Nat} {l m : List Sp} (r1 : RSl h A l.length 2 (l.flatMap Sp.enc)) (r2 : RSl h A' m.length 2 (m.flatMap Sp.enc)) (hl : l.length ≤ 1000000000) {K : Value → Hp → Prop} (H : K (.bool (decide (l = m))) h) : CallsH Try.prog 14 #[.slice A l.length c, .slice A' m.length c'] h K := by
  refine quintetref03_Same_ok _ _ _ _ _ _ ?_
  unfold quintetref03_Same
  refine br_i (fun p => ?_) (fun p => ?_)
  · have hne : l ≠ m := fun e => by subst e; simp at p
    rw [decide_eq_false hne] at H; exact H
  · have he : l.length = m.length := by
      have : (l.length : Int) = (m.length : Int) := by simpa using p
      omega
    refine ⟨l.length + 1, same_l1 r1 r2 hl he (fun hne => ?_) (fun e => ?_) _ 0 (by omega) (by omega) (by simp)⟩
    · rw [decide_eq_false hne] at H; exact H
    · rw [decide_eq_true e] at H; exact H
/-! ### spoil -/
theorem spoil_l1 {g c cc : Nat} (hc : c < 2 ^ 63) {K0 : Hp → Prop} : ∀ (k i : Nat) (h : Hp), Raw h 24 g (c * 2) → c - i < k → i ≤ c → (∀ h', Fr (fun k => k = g) h h' → K0 h') → quintetlaw03_spoil_l1 (some ⟨g, 0, none⟩) c cc K0 k i h
  | 0, i, h, _, hk, _, _ => by omega
  | k + 1, i, h, r, hk, hi, H => by
    unfold quintetlaw03_spoil_l1
    refine br_i (fun p => ?_) (fun p => ?_)
    · have hlt : i < c := by simpa using p
      refine of_s 5 4 fun h1 e1 => ⟨_, _, rfl, _, ix0 hlt und_sps size_sp, ?_⟩
      refine HU_raw (us := Sp.enc ⟨5, 4⟩) (r.keep e1.f0 (fun h => h)) rfl size_sp rfl (by simp [Sp.len]; omega) fun h2 r2 f2 z2 => ?_
      have w : IntKind.i64.wrap ((i : Int) + 1) = ((i + 1 : Nat) : Int) := by rw [wrap_in (by omega) (by omega)]; omega
      rw [w]
      exact spoil_l1 hc k (i + 1) h2 r2 (by omega) (by omega) fun h3 f3 => H h3 (((e1.fr _).trans f2).trans f3)
    · exact H h (Fr.refl _ _)
theorem spoil_s {h : Hp} {A : Option Addr} {c : Nat} {l : List Sp} (r : RowP h A c l) {K : Value → Hp → Prop} (H : ∀ h', Fr (blk A) h h' → K (.tuple #[]) h') : CallsH Try.prog 15 #[.slice A l.length c] h K := by
  refine quintetlaw03_spoil_ok _ _ _ ?_
  unfold quintetlaw03_spoil
  obtain ⟨i, z, hi, hs, hb, hz, hc⟩ := info_sp
  have hsl := slHi (P := Try.prog) (A := A) (l := l.length) (c := c) (x := (c : Int)) und_sps hi (by omega) (by omega)
  rw [Int.toNat_natCast] at hsl
  refine ⟨_, _, _, hsl, ?_⟩
  have r' := r.row
  rcases r' with ⟨rfl, _, rfl, _⟩ | ⟨g, rest, rfl, _⟩
  · refine ⟨1, ?_⟩
    unfold quintetlaw03_spoil_l1
    exact br_f (by simp) (H h (Fr.refl _ _))
  · refine ⟨c + 1, ?_⟩
    exact spoil_l1 r.cap _ 0 h r.raw (by omega) (by omega) fun h' f => H h' (f.mono fun k hk => ⟨_, rfl, hk.symm⟩)
/-! ### lent, back -/
def mk0 : Sp := ⟨7, 3⟩
def mk1 : Sp := ⟨8, 3⟩
theorem wrap2 {n : Nat} (h : n < 2 ^ 62) : IntKind.i64.wrap ((n : Int) + 2) = ((n + 2 : Nat) : Int) := by rw [wrap_in (by omega) (by omega)]; omega
theorem copy_sp2 {h : Hp} {g c sc : Nat} {sA : Option Addr} {zs xs : List Sp} {n : Nat} {K : Value → Hp → Prop} (r : RowP h (some ⟨g, 0, none⟩) c zs) (hn : zs.length = n) (hl : xs.length ≤ n) (h0 : 0 < n) (rs : RSl h sA xs.length 2 (xs.flatMap Sp.enc))
    (H : ∀ h', RowP h' (some ⟨g, 0, none⟩) c (xs ++ zs.drop xs.length) → Fr (fun k => k = g) h h' → K (.int .i64 (xs.length : Int)) h') : HW Try.prog (Builtin.copy_ #[25, 25] 3 #[.slice (some ⟨g, 0, none⟩) n c, .slice sA xs.length sc]) h K := by
  obtain ⟨i, z, hi, hs, hb, hz, hc⟩ := info_sp
  rcases Nat.eq_zero_or_pos xs.length with h00 | h00
  · have hx : xs = [] := List.eq_nil_of_length_eq_zero h00
    subst hx
    refine HW_copy0 und_sps hi (by simp) ?_
    exact H h (by simpa using r) (Fr.refl _ _)
  · subst hn
    obtain ⟨g', rest, hA, hbb, hlen, hcc⟩ := r.row.open Sp.len h0
    cases hA
    obtain ⟨sa, rfl, hcl⟩ := rs.some h00
    have hus := flat_len Sp.len xs
    have huz := flat_len Sp.len zs
    have hmin : Nat.min xs.length zs.length = xs.length := Nat.min_eq_left hl
    refine HW_copy (o := 0) und_sps hi hbb hcl (by rw [hus, hmin, hs]) (by rw [hus, List.length_append, huz]; omega) ?_ ?_
    · rw [List.all_eq_true]
      intro u hu
      obtain ⟨y, _, hy⟩ := List.mem_flatMap.1 hu
      exact List.all_eq_true.1 (Sp.flat y) u hy
    · rw [hmin, hus]
      have e : (zs.flatMap Sp.enc ++ rest).take 0 ++ xs.flatMap Sp.enc ++ (zs.flatMap Sp.enc ++ rest).drop (0 + xs.length * 2) = (xs ++ zs.drop xs.length).flatMap Sp.enc ++ rest := by
        rw [Nat.zero_add, List.drop_append_of_le_length (by rw [huz]; omega), flat_drop Sp.len]; simp
      rw [e]
      have hl2 : (xs ++ zs.drop xs.length).length = zs.length := by simp; omega
      refine H _ ⟨Row.shut Sp.len (setB_get (lt_of_get hbb)) ?_ (by omega), r.cap⟩ (setB_fr rfl)
      rw [← hlen, List.length_append, List.length_append, flat_len Sp.len, hl2, huz]
theorem st_sp {h : Hp} {g c : Nat} {xs : List Sp} {j : Nat} (x : Sp) {K : Hp → Prop} (r : RowP h (some ⟨g, 0, none⟩) c xs) (hj : j < xs.length) (H : ∀ h', RowP h' (some ⟨g, 0, none⟩) c (xs.set j x) → Fr (fun k => k = g) h h' → h'.size = h.size → K h') :
    HU Try.prog (Instr.storeAt 24 (.pointer (some ⟨g, j * 2, none⟩)) (.agg #[.int .u16 x.lo, .int .u16 x.hi])) h K :=
  HU_elem (x := x) Sp.len Sp.flat r.row hj rfl size_sp fun h' r' f z => H h' ⟨r', r.cap⟩ f z
theorem lent_s {h : Hp} {A : Option Addr} {c : Nat} {l : List Sp} (rs : RSl h A l.length 2 (l.flatMap Sp.enc)) (hl : l.length ≤ 100000000) {K : Value → Hp → Prop}
    (H : ∀ h' g c', Ext h h' → h.size ≤ g → RowP h' (some ⟨g, 0, none⟩) c' (l ++ [mk0, mk1]) → K (.slice (some ⟨g, 0, none⟩) l.length c') h') : CallsH Try.prog 18 #[.slice A l.length c] h K := by
  refine quintetlaw03_lent_ok _ _ _ ?_
  unfold quintetlaw03_lent
  rw [wrap2 (by omega)]
  refine make_sp (by omega) fun h1 e1 r1 => ⟨_, _, _, rfl, ?_⟩
  refine copy_sp2 r1 (by simp) (by omega) (by omega) (rs.ext e1) fun h2 r2 f2 => ⟨_, rfl, ?_⟩
  have E2 : Ext h h2 := extOwn e1 f2 (fun k hk => by omega)
  have hz : l ++ (List.replicate (l.length + 2) (⟨0, 0⟩ : Sp)).drop l.length = l ++ [⟨0, 0⟩, ⟨0, 0⟩] := by
    rw [List.drop_replicate, show l.length + 2 - l.length = 2 by omega]; rfl
  rw [hz] at r2
  refine of_s 7 3 fun h3 e3 => ⟨_, _, rfl, _, ix0 (by omega) und_sps size_sp, ?_⟩
  refine st_sp mk0 (r2.ext e3) (by simp) fun h4 r4 f4 z4 => ?_
  refine of_s 8 3 fun h5 e5 => ⟨_, _, rfl, ?_⟩
  have hw : IntKind.i64.wrap ((l.length : Int) + 1) = ((l.length + 1 : Nat) : Int) := wrapN (by omega)
  rw [hw]
  refine ⟨_, ix0 (by omega) und_sps size_sp, ?_⟩
  refine st_sp mk1 (r4.ext e5) (by simp) fun h6 r6 f6 z6 => ?_
  obtain ⟨i, z, hi, hs, hb, hz, hc⟩ := info_sp
  have hsl := slHi (P := Try.prog) (A := some ⟨h.size, 0, none⟩) (l := l.length + 2) (c := l.length + 2) (x := (l.length : Int)) und_sps hi (by omega) (by omega)
  rw [Int.toNat_natCast] at hsl
  refine ⟨_, _, _, hsl, ?_⟩
  have E6 : Ext h h6 := extOwn ((extOwn (E2.trans e3) f4 (fun k hk => by omega)).trans e5) f6 (fun k hk => by omega)
  have e : ((l ++ [(⟨0, 0⟩ : Sp), ⟨0, 0⟩]).set l.length mk0).set (l.length + 1) mk1 = l ++ [mk0, mk1] := by
    rw [List.set_append_right _ _ (by omega), Nat.sub_self, List.set_append_right _ _ (by omega), show l.length + 1 - l.length = 1 by omega]; rfl
  rw [e] at r6
  exact H h6 _ _ E6 (Nat.le_refl _) r6
theorem back_l3 {g c cc n : Nat} (hn : n ≤ 1000000000) {K0 : Bool → Hp → Prop} {b : Bool} : ∀ (k i : Nat) (h : Hp), Raw h 24 g c → n * 2 ≤ c → n - i < k → i ≤ n → (∀ h', Fr (fun k => k = g) h h' → K0 b h') → quintetlaw03_back_l3 (some ⟨g, 0, none⟩) n cc b K0 k i h
  | 0, i, h, _, _, hk, _, _ => by omega
  | k + 1, i, h, r, hnc, hk, hi, H => by
    unfold quintetlaw03_back_l3
    refine br_i (fun p => ?_) (fun p => ?_)
    · have hlt : i < n := by simpa using p
      refine of_s 99 98 fun h1 e1 => ⟨_, _, rfl, _, ix0 hlt und_sps size_sp, ?_⟩
      refine HU_raw (us := Sp.enc ⟨99, 98⟩) (r.keep e1.f0 (fun h => h)) rfl size_sp rfl (by simp [Sp.len]; omega) fun h2 r2 f2 z2 => ?_
      rw [wrapN (by omega)]
      exact back_l3 hn k (i + 1) h2 r2 hnc (by omega) (by omega) fun h3 f3 => H h3 (((e1.fr _).trans f2).trans f3)
    · exact H h (Fr.refl _ _)
theorem back_s {h : Hp} {A : Option Addr} {c g cc : Nat} {l : List Sp} (rs : RSl h A l.length 2 (l.flatMap Sp.enc)) (hl : l.length ≤ 100000000) (r : RowP h (some ⟨g, 0, none⟩) cc (l ++ [mk0, mk1])) {K : Value → Hp → Prop}
    (H : ∀ h', Fr (fun k => k = g) h h' → K (.bool true) h') : CallsH Try.prog 20 #[.slice (some ⟨g, 0, none⟩) l.length cc, .slice A l.length c] h K := by
  refine quintetlaw03_back_ok _ _ _ _ _ _ ?_
  unfold quintetlaw03_back
  rw [wrap2 (by omega)]
  obtain ⟨i, z, hi, hs, hb, hz, hc⟩ := info_sp
  have hlen : (l ++ [mk0, mk1]).length = l.length + 2 := by simp
  obtain ⟨g', rest, hA, hbb, hlen2, hcc⟩ := r.row.open Sp.len (by omega)
  have hsl := slHi (P := Try.prog) (A := some ⟨g, 0, none⟩) (l := l.length) (c := cc) (x := ((l.length + 2 : Nat) : Int)) und_sps hi (by omega) (by omega)
  rw [Int.toNat_natCast] at hsl
  have c0 := r.elem0 Sp.len (i := l.length) (x := mk0) (by simp)
  have c1 := r.elem0 Sp.len (i := l.length + 1) (x := mk1) (by simp)
  refine ⟨_, _, _, hsl, _, ix0 (by omega) und_sps size_sp, _, _, ldS c0 (by kernel_rfl), ?_⟩
  refine of_s 7 3 fun h1 e1 => ⟨_, _, rfl, ldS (c0.ext e1) (by kernel_rfl), _, eq_sp mk0 ⟨7, 3⟩, br_t (by decide) ?_⟩
  rw [wrapN (by omega)]
  refine ⟨_, ix0 (by omega) und_sps size_sp, _, _, ldS (c1.ext e1) (by kernel_rfl), ?_⟩
  refine of_s 8 3 fun h2 e2 => ⟨_, _, rfl, ldS ((c1.ext e1).ext e2) (by kernel_rfl), _, eq_sp mk1 ⟨8, 3⟩, br_t (by decide) ?_⟩
  have e12 := e1.trans e2
  have r2 := (r.ext e12)
  have rl : RSl h2 (some ⟨g, 0, none⟩) l.length 2 (l.flatMap Sp.enc) := by
    refine ⟨flat_len Sp.len l, .inr ⟨_, rfl, ?_⟩⟩
    have := r2.row.read
    obtain ⟨_, hh⟩ := this
    rcases hh with hh | ⟨a, ha, hcl⟩
    · simp at hh
    · cases ha
      have := hcl.sub (us := l.flatMap Sp.enc) 0 (fun j v hj => by
        rw [Nat.zero_add, List.flatMap_append, List.getElem?_append_left (List.getElem?_eq_some_iff.1 hj).1]; exact hj)
      exact this
  refine same_s rl (rs.ext e12) (by omega) ⟨_, rfl, ?_⟩
  rw [decide_eq_true rfl]
  unfold quintetlaw03_back_j2
  refine ⟨l.length + 3, ?_⟩
  exact back_l3 (by omega) _ 0 h2 r2.raw (by omega) (by omega) (by omega) fun h' f => H h' ((e12.fr _).trans f)
/-! ### the document's answers -/
def anyP (l : List Sp) (j : Nat) : Bool := l.any fun s => inI s.lo s.hi j
theorem inI_iff {a b : Int} {j : Nat} : inI a b j = true ↔ a ≤ (j : Int) ∧ (j : Int) ≤ b := by simp [inI]
theorem anyP_iff (l : List Sp) (j : Nat) : anyP l j = true ↔ inn l j := by
  rw [inn_iff, anyP, List.any_eq_true]
  simp only [inI_iff]
theorem union_runs {N : Nat} (hN : N = 65536) {l : List Sp} (ok : ∀ s ∈ l, Ok s) : runs (anyP l) N = uni l := by
  subst hN
  exact runs_eq _ _ (uni_nm l ok) fun m hm => by rw [anyP_iff, uni_in]
theorem gaps_runs {N : Nat} (hN : N = 65536) {l : List Sp} (ok : ∀ s ∈ l, Ok s) : runs (fun j => !anyP l j) N = gp 0 (uni l) := by
  subst hN
  refine runs_eq _ _ (gp_nm _ 0 (Int.le_refl _) (uni_nm l ok)) fun m hm => ?_
  rw [gp_in _ 0 _ (Int.le_refl _) (uni_nm l ok), uni_in, ← anyP_iff]
  cases anyP l m <;> simp
  omega
theorem less_runs {N : Nat} (hN : N = 65536) {a b : Sp} (oka : Ok a) (okb : Ok b) : runs (fun j => inI a.lo a.hi j && !inI b.lo b.hi j) N = lessS a b := by
  subst hN
  obtain ⟨k1, k2, k3, k4⟩ := oka
  obtain ⟨j1, j2, j3, j4⟩ := okb
  refine runs_eq _ _ ?_ fun m hm => ?_
  · unfold lessS meetS mx mn
    (repeat' split) <;> simp_all [Nm] <;> omega
  · simp only [Bool.and_eq_true, Bool.not_eq_true', inI_iff]
    have hnb : inI b.lo b.hi m = false ↔ ¬ (b.lo ≤ (m : Int) ∧ (m : Int) ≤ b.hi) := by simp [inI]
    rw [hnb]
    unfold lessS meetS mx mn
    (repeat' split) <;> simp_all [Sp.inn] <;> omega
theorem runion_l1 {h0 : Hp} {A : Option Addr} {c b : Nat} {l : List Sp} (rs : RSl h0 A l.length 2 (l.flatMap Sp.enc)) (hb : h0.size ≤ b) (ok : ∀ s ∈ l, Ok s) (hl : l.length ≤ 100000000) {K0 : Addr → Hp → Prop} :
    ∀ (k i : Nat) (h : Hp), Ext h0 h → PtAt h b (anyP (l.take i)) → l.length - i < k → i ≤ l.length → (∀ h', Ext h0 h' → PtAt h' b (anyP l) → K0 ⟨b, 0, none⟩ h') → quintetref03_Union_l1 A l.length c ⟨b, 0, none⟩ K0 k i h
  | 0, i, h, _, _, hk, _, _ => by omega
  | k + 1, i, h, e, q, hk, hi, H => by
    unfold quintetref03_Union_l1
    refine br_i (fun p => ?_) (fun p => ?_)
    · have hlt : i < l.length := by simpa using p
      obtain ⟨a, _, _, hix, hcl⟩ := ixR (P := Try.prog) (T := 25) (E := 24) (c := c) (k := .i64) Sp.len (rs.ext e) rfl und_sps size_sp (List.getElem?_eq_getElem hlt)
      refine ⟨_, hix, _, _, ldS hcl (by kernel_rfl), add_s q l[i] (ok _ (List.getElem_mem hlt)) fun h1 q1 f1 => ⟨rfl, ?_⟩⟩
      rw [wrapN (by omega)]
      refine runion_l1 rs hb ok hl k (i + 1) h1 (extOwn e f1 (fun k hk => by omega)) (q1.congr fun j hj => ?_) (by omega) (by omega) H
      rw [anyP, anyP, List.take_add_one, List.getElem?_eq_getElem hlt, List.any_append]
      simp
    · have hi' : i = l.length := by simp at p; omega
      rw [hi', List.take_length] at q
      exact H h e q
theorem rgaps_l1 {h0 : Hp} {A : Option Addr} {c b : Nat} {l : List Sp} (rs : RSl h0 A l.length 2 (l.flatMap Sp.enc)) (hb : h0.size ≤ b) (ok : ∀ s ∈ l, Ok s) (hl : l.length ≤ 100000000) {K0 : Addr → Hp → Prop} :
    ∀ (k i : Nat) (h : Hp), Ext h0 h → PtAt h b (anyP (l.take i)) → l.length - i < k → i ≤ l.length → (∀ h', Ext h0 h' → PtAt h' b (anyP l) → K0 ⟨b, 0, none⟩ h') → quintetref03_Gaps_l1 A l.length c ⟨b, 0, none⟩ K0 k i h
  | 0, i, h, _, _, hk, _, _ => by omega
  | k + 1, i, h, e, q, hk, hi, H => by
    unfold quintetref03_Gaps_l1
    refine br_i (fun p => ?_) (fun p => ?_)
    · have hlt : i < l.length := by simpa using p
      obtain ⟨a, _, _, hix, hcl⟩ := ixR (P := Try.prog) (T := 25) (E := 24) (c := c) (k := .i64) Sp.len (rs.ext e) rfl und_sps size_sp (List.getElem?_eq_getElem hlt)
      refine ⟨_, hix, _, _, ldS hcl (by kernel_rfl), add_s q l[i] (ok _ (List.getElem_mem hlt)) fun h1 q1 f1 => ⟨rfl, ?_⟩⟩
      rw [wrapN (by omega)]
      refine rgaps_l1 rs hb ok hl k (i + 1) h1 (extOwn e f1 (fun k hk => by omega)) (q1.congr fun j hj => ?_) (by omega) (by omega) H
      rw [anyP, anyP, List.take_add_one, List.getElem?_eq_getElem hlt, List.any_append]
      simp
    · have hi' : i = l.length := by simp at p; omega
      rw [hi', List.take_length] at q
      exact H h e q
theorem rgaps_l2 {h0 : Hp} {b : Nat} {p : Nat → Bool} (hb : h0.size ≤ b) {K0 : Addr → Hp → Prop} (H : ∀ h', Ext h0 h' → PtAt h' b (fun j => !p j) → K0 ⟨b, 0, none⟩ h') :
    ∀ (k : Nat) (x : Int) (h : Hp), Ext h0 h → PtAt h b (fun j => if (j : Int) < x then !p j else p j) → 0 ≤ x → x ≤ 65536 → (65536 - x < k ∧ 0 < k) → quintetref03_Gaps_l2 ⟨b, 0, none⟩ K0 k x h
  | 0, x, h, _, _, _, _, hk => by omega
  | k + 1, x, h, e, q, x0, x1, hk => by
    unfold quintetref03_Gaps_l2
    refine br_i (fun c => ?_) (fun c => ?_)
    · have hx : x < 65536 := by simpa using c
      refine ⟨_, ixP x0 hx, _, ld (q.cell (j := x.toNat) (by omega)) (by kernel_rfl), _, ixP x0 hx, ?_⟩
      refine HU_port q (by omega) _ fun h1 q1 f1 z1 => ?_
      rw [wrap_in (by omega) (by omega)]
      refine rgaps_l2 hb H k (x + 1) h1 (extOwn e f1 (fun k hk => by omega)) (q1.congr fun j hj => ?_) (by omega) (by omega) (by omega)
      by_cases d : j = x.toNat
      · subst d
        rw [if_pos rfl, if_neg (by omega), if_pos (by omega)]
      · rw [if_neg d]
        by_cases d2 : (j : Int) < x
        · rw [if_pos d2, if_pos (by omega)]
        · rw [if_neg d2, if_neg (by omega)]
    · have hx : ¬ x < 65536 := by simpa using c
      exact H h e (q.congr fun j hj => by rw [if_pos (by omega)])
theorem rUnion_s {h : Hp} {A : Option Addr} {c : Nat} {l : List Sp} (rs : RSl h A l.length 2 (l.flatMap Sp.enc)) (ok : ∀ s ∈ l, Ok s) (hl : l.length ≤ 100000000) {K : Value → Hp → Prop} (H : ∀ h' A' c', Ext h h' → RowP h' A' c' (uni l) → Fresh h A' → K (.slice A' (uni l).length c') h') : CallsH Try.prog 17 #[.slice A l.length c] h K := by
  refine quintetref03_Union_ok _ _ _ ?_
  unfold quintetref03_Union
  refine newPorts fun h1 e1 q1 z1 => ⟨l.length + 1, ?_⟩
  refine runion_l1 rs (Nat.le_refl _) ok hl _ 0 h1 e1 (q1.congr fun j hj => rfl) (by omega) (by omega) fun h2 e2 q2 => ?_
  exact spans_s rfl q2 (union_runs rfl ok) fun h3 A3 c3 e3 r3 F3 => ⟨_, _, _, rfl, H h3 A3 c3 (e2.trans e3) r3 (F3.sub e2)⟩
theorem rGaps_s {h : Hp} {A : Option Addr} {c : Nat} {l : List Sp} (rs : RSl h A l.length 2 (l.flatMap Sp.enc)) (ok : ∀ s ∈ l, Ok s) (hl : l.length ≤ 100000000) {K : Value → Hp → Prop} (H : ∀ h' A' c', Ext h h' → RowP h' A' c' (gp 0 (uni l)) → Fresh h A' → K (.slice A' (gp 0 (uni l)).length c') h') : CallsH Try.prog 21 #[.slice A l.length c] h K := by
  refine quintetref03_Gaps_ok _ _ _ ?_
  unfold quintetref03_Gaps
  refine newPorts fun h1 e1 q1 z1 => ⟨l.length + 1, ?_⟩
  refine rgaps_l1 rs (Nat.le_refl _) ok hl _ 0 h1 e1 (q1.congr fun j hj => rfl) (by omega) (by omega) fun h2 e2 q2 => ⟨65538, ?_⟩
  refine rgaps_l2 (h0 := h) (p := anyP l) (Nat.le_refl _) (fun h3 e3 q3 => ?_) 65538 0 h2 e2 (q2.congr fun j hj => by rw [if_neg (by omega)]) (by omega) (by omega) (by omega)
  exact spans_s rfl q3 (gaps_runs rfl ok) fun h4 A4 c4 e4 r4 F4 => ⟨_, _, _, rfl, H h4 A4 c4 (e3.trans e4) r4 (F4.sub e3)⟩
theorem rless_l1 {b : Nat} {a : Addr} {s : Sp} (ok : Ok s) (hab : a.block ≠ b) {K0 : Addr → Hp → Prop} : ∀ (k : Nat) (x : Int) (p : Nat → Bool) (h : Hp), PtAt h b p → Cl h a s.enc → 0 ≤ x → x ≤ 65536 → (s.hi + 1 - x < k ∧ 0 < k) →
    (∀ h', PtAt h' b (fun j => p j && !inI x s.hi j) → Fr (fun k => k = b) h h' → K0 ⟨b, 0, none⟩ h') → quintetref03_Less_l1 a ⟨b, 0, none⟩ K0 k x h
  | 0, x, p, h, q, cs, x0, x1, hk, H => by omega
  | k + 1, x, p, h, q, cs, x0, x1, hk, H => by
    obtain ⟨k1, k2, k3, k4⟩ := id ok
    unfold quintetref03_Less_l1
    refine ⟨_, ld (cs.at_ 1 _ rfl) (by kernel_rfl), ?_⟩
    rw [wrap_in (n := s.hi) (by omega) (by omega)]
    refine br_i (fun c => ?_) (fun c => ?_)
    · have hx : x ≤ s.hi := by simpa using c
      refine ⟨_, ixP x0 (by omega), ?_⟩
      refine HU_port q (by omega) false fun h1 q1 f1 z1 => ?_
      rw [wrap_in (by omega) (by omega)]
      refine rless_l1 ok hab k (x + 1) _ h1 q1 (f1.cl cs hab) (by omega) (by omega) (by omega) fun h2 q2 f2 => ?_
      refine H h2 (q2.congr fun j hj => ?_) (f1.trans f2)
      unfold inI
      by_cases d : j = x.toNat
      · subst d
        have : x ≤ ((x.toNat : Nat) : Int) ∧ ((x.toNat : Nat) : Int) ≤ s.hi := by omega
        rw [if_pos rfl, Bool.false_and, decide_eq_true this, Bool.not_true, Bool.and_false]
      · rw [if_neg d]
        congr 2
        rw [decide_eq_decide]
        omega
    · have hx : ¬ x ≤ s.hi := by simpa using c
      refine H h (q.congr fun j hj => ?_) (Fr.refl _ _)
      have : inI x s.hi j = false := by unfold inI; rw [decide_eq_false_iff_not]; omega
      rw [this, Bool.not_false, Bool.and_true]
theorem rLess_s (a b : Sp) (oka : Ok a) (okb : Ok b) {h : Hp} {K : Value → Hp → Prop} (H : ∀ h' A c, Ext h h' → RowP h' A c (lessS a b) → Fresh h A → K (.slice A (lessS a b).length c) h') : CallsH Try.prog 13 #[a.val, b.val] h K := by
  refine quintetref03_Less_ok _ _ _ _ ?_
  unfold quintetref03_Less
  obtain ⟨j1, j2, j3, j4⟩ := id okb
  refine newC_i (cs := a.enc) fun h1 e1 c1 b1 z1 => newC_i (cs := b.enc) fun h2 e2 c2 b2 z2 => ?_
  refine newPorts fun h3 e3 q3 z3 => ⟨_, _, ldS ((c1.ext e2).ext e3) (by kernel_rfl), add_s q3 a oka fun h4 q4 f4 => ⟨rfl, ?_⟩⟩
  have c4 : Cl h4 ⟨h1.size, 0, none⟩ b.enc := f4.cl (c2.ext e3) (fun h => by have h : h1.size = h2.size := h; omega)
  refine ⟨_, ld c4.head (by kernel_rfl), 65538, ?_⟩
  rw [wrap_in (n := b.lo) (by omega) (by omega)]
  refine rless_l1 okb (by show h1.size ≠ h2.size; omega) 65538 b.lo _ h4 q4 c4 j1 (by omega) (by omega) fun h5 q5 f5 => ?_
  have E5 : Ext h h5 := extOwn (extOwn ((e1.trans e2).trans e3) f4 (fun k hk => by have := (e1.trans e2).size; omega)) f5 (fun k hk => by have := (e1.trans e2).size; omega)
  refine spans_s rfl (q5.congr (q := fun j => inI a.lo a.hi j && !inI b.lo b.hi j) fun j hj => by simp) (less_runs rfl oka okb) fun h6 A6 c6 e6 r6 F6 => ⟨_, _, _, rfl, H h6 A6 c6 (E5.trans e6) r6 (F6.sub E5)⟩
end Go.Proofs.Ytaacfhekjklipaa.Fs
