/- The stem laws' helpers. -/
import Derived.Test.YtaacfhekjklipaaSpHelp
import Derived.Test.YtaacfhekjklipaaExSpec
namespace Go.Proofs.Ytaacfhekjklipaa.Fs
open Go Go.RowKit Go.Proofs.Ytaacfhekjklipaa.Sx Go.Proofs.Ytaacfhekjklipaa.Sp
set_option linter.unusedVariables false
set_option linter.unusedSimpArgs false
set_option maxRecDepth 10000
theorem eq_st (a b : St) : PV Try.prog (binOp .eql 49 (.agg #[.int .u16 a.bits, .int .i64 a.len]) (.agg #[.int .u16 b.bits, .int .i64 b.len])) (.bool (decide (a = b))) := by
  intro w
  rw [run_eql_struct, run_equalIn_struct w 9999 49 _ _ (by kernel_rfl) (by kernel_rfl)]
  obtain ⟨p, q⟩ := a
  obtain ⟨r, s⟩ := b
  simp [go_sem]
  by_cases h0 : p = r <;> by_cases h1 : q = s <;> simp [h0, h1]
theorem ne_st (a b : St) : PV Try.prog (binOp .neq 49 (.agg #[.int .u16 a.bits, .int .i64 a.len]) (.agg #[.int .u16 b.bits, .int .i64 b.len])) (.bool (!decide (a = b))) := by
  intro w
  rw [run_neq_struct, run_equalIn_struct w 9999 49 _ _ (by kernel_rfl) (by kernel_rfl)]
  obtain ⟨p, q⟩ := a
  obtain ⟨r, s⟩ := b
  simp [go_sem]
  by_cases h0 : p = r <;> by_cases h1 : q = s <;> simp [h0, h1]
theorem make_st {h : Hp} {n : Nat} (hn : n ≤ 1000000000) {K : Value → Hp → Prop} (H : ∀ h', Ext h h' → RowT h' (some ⟨h.size, 0, none⟩) n (List.replicate n ⟨0, 0⟩) → K (.slice (some ⟨h.size, 0, none⟩) n n) h') : HW Try.prog (Instr.makeSlice 34 (.int .i64 (n : Int)) (.int .i64 (n : Int))) h K := by
  obtain ⟨i, z, hi, hs, hb, hz, hc⟩ := info_st
  exact HW_makeRow und_sts hi hz hs (by decide) hc St.leng (by rw [hb]; omega) (by omega) fun h' e r => H h' e ⟨r, by omega⟩
theorem stem_s (x y : Int) {h : Hp} {K : Value → Hp → Prop} (H : ∀ h', Ext h h' → K (St.val ⟨x, y⟩) h') : CallsH Try.prog 55 #[.int .u16 x, .int .i64 y] h K := by
  refine quintetlaw05_stem_ok _ _ ?_
  unfold quintetlaw05_stem
  refine newV (us := St.enc ⟨x, y⟩) rfl rfl size_st rfl fun h1 e1 c1 b1 z1 => ⟨_, _, ldS c1 (by kernel_rfl), H h1 e1⟩
theorem lit_rt {h : Hp} {a : Addr} {l : List St} (c : Cl h a (l.flatMap St.enc)) : RSl h (some a) l.length 2 (l.flatMap St.enc) := ⟨flat_len St.leng l, .inr ⟨a, rfl, c⟩⟩
theorem sameT_l1 {h : Hp} {A A' : Option Addr} {c c' : Nat} {l m : List St} (r1 : RSl h A l.length 2 (l.flatMap St.enc)) (r2 : RSl h A' m.length 2 (m.flatMap St.enc)) (hl : l.length ≤ 1000000000) (he : l.length = m.length) {K0 : Bool → Hp → Prop} {K1 : Hp → Prop} (H0 : l ≠ m → K0 false h) (H1 : l = m → K1 h) :
    ∀ (k i : Nat), l.length - i < k → i ≤ l.length → l.take i = m.take i → quintetref05_Same_l1 A l.length c A' m.length c' K0 K1 k i h
  | 0, i, hk, _, _ => by omega
  | k + 1, i, hk, hi, ht => by
    unfold quintetref05_Same_l1
    refine br_i (fun hc => ?_) (fun hc => ?_)
    · have hlt : i < l.length := by simpa using hc
      have hltm : i < m.length := by omega
      obtain ⟨a, _, _, hix, hcl⟩ := ixR (P := Try.prog) (T := 34) (E := 49) (c := c) (k := .i64) St.leng r1 rfl und_sts size_st (List.getElem?_eq_getElem hlt)
      obtain ⟨b, _, _, hix2, hcl2⟩ := ixR (P := Try.prog) (T := 34) (E := 49) (c := c') (k := .i64) St.leng r2 rfl und_sts size_st (List.getElem?_eq_getElem hltm)
      refine ⟨_, hix, _, _, ldS hcl (by kernel_rfl), _, hix2, _, _, ldS hcl2 (by kernel_rfl), _, ne_st _ _, br_i (fun p => ?_) (fun p => ?_)⟩
      · refine H0 fun e => ?_
        simp only [Bool.not_eq_true', decide_eq_false_iff_not] at p
        exact p (by simp [e])
      · have e : l[i] = m[i] := by simpa using p
        rw [wrapN (by omega)]
        refine sameT_l1 r1 r2 hl he H0 H1 k (i + 1) (by omega) (by omega) ?_
        rw [List.take_add_one, List.take_add_one, ht, List.getElem?_eq_getElem hlt, List.getElem?_eq_getElem hltm, e]
    · have hi' : i = l.length := by simp at hc; omega
      rw [hi', List.take_length, he, List.take_length] at ht
      exact H1 ht
theorem sameT_s {h : Hp} {A A' : Option Addr} {c c' : Nat} {l m : List St} (r1 : RSl h A l.length 2 (l.flatMap St.enc)) (r2 : RSl h A' m.length 2 (m.flatMap St.enc)) (hl : l.length ≤ 1000000000) {K : Value → Hp → Prop} (H : K (.bool (decide (l = m))) h) : CallsH Try.prog 26 #[.slice A l.length c, .slice A' m.length c'] h K := by
  refine quintetref05_Same_ok _ _ _ _ _ _ ?_
  unfold quintetref05_Same
  refine br_i (fun p => ?_) (fun p => ?_)
  · have hne : l ≠ m := fun e => by subst e; simp at p
    rw [decide_eq_false hne] at H; exact H
  · have he : l.length = m.length := by
      have : (l.length : Int) = (m.length : Int) := by simpa using p
      omega
    refine ⟨l.length + 1, sameT_l1 r1 r2 hl he (fun hne => ?_) (fun e => ?_) _ 0 (by omega) (by omega) (by simp)⟩
    · rw [decide_eq_false hne] at H; exact H
    · rw [decide_eq_true e] at H; exact H
/-! ### spoil -/
theorem spoilT_l1 {g c cc : Nat} (hc : c < 2 ^ 63) {K0 : Hp → Prop} : ∀ (k i : Nat) (h : Hp), Raw h 49 g (c * 2) → c - i < k → i ≤ c → (∀ h', Fr (fun k => k = g) h h' → K0 h') → quintetlaw05_spoil_l1 (some ⟨g, 0, none⟩) c cc K0 k i h
  | 0, i, h, _, hk, _, _ => by omega
  | k + 1, i, h, r, hk, hi, H => by
    unfold quintetlaw05_spoil_l1
    refine br_i (fun p => ?_) (fun p => ?_)
    · have hlt : i < c := by simpa using p
      refine stem_s 5 (-4) fun h1 e1 => ⟨_, _, rfl, _, ix0 hlt und_sts size_st, ?_⟩
      refine HU_raw (us := St.enc ⟨5, -4⟩) (r.keep e1.f0 (fun h => h)) rfl size_st rfl (by simp [St.leng]; omega) fun h2 r2 f2 z2 => ?_
      have w : IntKind.i64.wrap ((i : Int) + 1) = ((i + 1 : Nat) : Int) := by rw [wrap_in (by omega) (by omega)]; omega
      rw [w]
      exact spoilT_l1 hc k (i + 1) h2 r2 (by omega) (by omega) fun h3 f3 => H h3 (((e1.fr _).trans f2).trans f3)
    · exact H h (Fr.refl _ _)
theorem spoilT_s {h : Hp} {A : Option Addr} {c : Nat} {l : List St} (r : RowT h A c l) {K : Value → Hp → Prop} (H : ∀ h', Fr (blk A) h h' → K (.tuple #[]) h') : CallsH Try.prog 27 #[.slice A l.length c] h K := by
  refine quintetlaw05_spoil_ok _ _ _ ?_
  unfold quintetlaw05_spoil
  obtain ⟨i, z, hi, hs, hb, hz, hc⟩ := info_st
  have hsl := slHi (P := Try.prog) (A := A) (l := l.length) (c := c) (x := (c : Int)) und_sts hi (by omega) (by omega)
  rw [Int.toNat_natCast] at hsl
  refine ⟨_, _, _, hsl, ?_⟩
  have r' := r.row
  rcases r' with ⟨rfl, _, rfl, _⟩ | ⟨g, rest, rfl, _⟩
  · refine ⟨1, ?_⟩
    unfold quintetlaw05_spoil_l1
    exact br_f (by simp) (H h (Fr.refl _ _))
  · refine ⟨c + 1, ?_⟩
    exact spoilT_l1 r.cap _ 0 h r.raw (by omega) (by omega) fun h' f => H h' (f.mono fun k hk => ⟨_, rfl, hk.symm⟩)
/-! ### lent, back -/
def mt0 : St := ⟨7, 77⟩
def mt1 : St := ⟨8, 77⟩
theorem copy_st2 {h : Hp} {g c sc : Nat} {sA : Option Addr} {zs xs : List St} {n : Nat} {K : Value → Hp → Prop} (r : RowT h (some ⟨g, 0, none⟩) c zs) (hn : zs.length = n) (hl : xs.length ≤ n) (h0 : 0 < n) (rs : RSl h sA xs.length 2 (xs.flatMap St.enc))
    (H : ∀ h', RowT h' (some ⟨g, 0, none⟩) c (xs ++ zs.drop xs.length) → Fr (fun k => k = g) h h' → K (.int .i64 (xs.length : Int)) h') : HW Try.prog (Builtin.copy_ #[34, 34] 3 #[.slice (some ⟨g, 0, none⟩) n c, .slice sA xs.length sc]) h K := by
  obtain ⟨i, z, hi, hs, hb, hz, hc⟩ := info_st
  rcases Nat.eq_zero_or_pos xs.length with h00 | h00
  · have hx : xs = [] := List.eq_nil_of_length_eq_zero h00
    subst hx
    refine HW_copy0 und_sts hi (by simp) ?_
    exact H h (by simpa using r) (Fr.refl _ _)
  · subst hn
    obtain ⟨g', rest, hA, hbb, hlen, hcc⟩ := r.row.open St.leng h0
    cases hA
    obtain ⟨sa, rfl, hcl⟩ := rs.some h00
    have hus := flat_len St.leng xs
    have huz := flat_len St.leng zs
    have hmin : Nat.min xs.length zs.length = xs.length := Nat.min_eq_left hl
    refine HW_copy (o := 0) und_sts hi hbb hcl (by rw [hus, hmin, hs]) (by rw [hus, List.length_append, huz]; omega) ?_ ?_
    · rw [List.all_eq_true]
      intro u hu
      obtain ⟨y, _, hy⟩ := List.mem_flatMap.1 hu
      exact List.all_eq_true.1 (St.flat y) u hy
    · rw [hmin, hus]
      have e : (zs.flatMap St.enc ++ rest).take 0 ++ xs.flatMap St.enc ++ (zs.flatMap St.enc ++ rest).drop (0 + xs.length * 2) = (xs ++ zs.drop xs.length).flatMap St.enc ++ rest := by
        rw [Nat.zero_add, List.drop_append_of_le_length (by rw [huz]; omega), flat_drop St.leng]; simp
      rw [e]
      have hl2 : (xs ++ zs.drop xs.length).length = zs.length := by simp; omega
      refine H _ ⟨Row.shut St.leng (setB_get (lt_of_get hbb)) ?_ (by omega), r.cap⟩ (setB_fr rfl)
      rw [← hlen, List.length_append, List.length_append, flat_len St.leng, hl2, huz]
theorem st_st {h : Hp} {g c : Nat} {xs : List St} {j : Nat} (x : St) {K : Hp → Prop} (r : RowT h (some ⟨g, 0, none⟩) c xs) (hj : j < xs.length) (H : ∀ h', RowT h' (some ⟨g, 0, none⟩) c (xs.set j x) → Fr (fun k => k = g) h h' → h'.size = h.size → K h') :
    HU Try.prog (Instr.storeAt 49 (.pointer (some ⟨g, j * 2, none⟩)) (.agg #[.int .u16 x.bits, .int .i64 x.len])) h K :=
  HU_elem (x := x) St.leng St.flat r.row hj rfl size_st fun h' r' f z => H h' ⟨r', r.cap⟩ f z
theorem lentT_s {h : Hp} {A : Option Addr} {c : Nat} {l : List St} (rs : RSl h A l.length 2 (l.flatMap St.enc)) (hl : l.length ≤ 100000000) {K : Value → Hp → Prop}
    (H : ∀ h' g c', Ext h h' → h.size ≤ g → RowT h' (some ⟨g, 0, none⟩) c' (l ++ [mt0, mt1]) → K (.slice (some ⟨g, 0, none⟩) l.length c') h') : CallsH Try.prog 30 #[.slice A l.length c] h K := by
  refine quintetlaw05_lent_ok _ _ _ ?_
  unfold quintetlaw05_lent
  rw [wrap2 (by omega)]
  refine make_st (by omega) fun h1 e1 r1 => ⟨_, _, _, rfl, ?_⟩
  refine copy_st2 r1 (by simp) (by omega) (by omega) (rs.ext e1) fun h2 r2 f2 => ⟨_, rfl, ?_⟩
  have E2 : Ext h h2 := extOwn e1 f2 (fun k hk => by omega)
  have hz : l ++ (List.replicate (l.length + 2) (⟨0, 0⟩ : St)).drop l.length = l ++ [⟨0, 0⟩, ⟨0, 0⟩] := by
    rw [List.drop_replicate, show l.length + 2 - l.length = 2 by omega]; rfl
  rw [hz] at r2
  refine stem_s 7 77 fun h3 e3 => ⟨_, _, rfl, _, ix0 (by omega) und_sts size_st, ?_⟩
  refine st_st mt0 (r2.ext e3) (by simp) fun h4 r4 f4 z4 => ?_
  refine stem_s 8 77 fun h5 e5 => ⟨_, _, rfl, ?_⟩
  have hw : IntKind.i64.wrap ((l.length : Int) + 1) = ((l.length + 1 : Nat) : Int) := wrapN (by omega)
  rw [hw]
  refine ⟨_, ix0 (by omega) und_sts size_st, ?_⟩
  refine st_st mt1 (r4.ext e5) (by simp) fun h6 r6 f6 z6 => ?_
  obtain ⟨i, z, hi, hs, hb, hz, hc⟩ := info_st
  have hsl := slHi (P := Try.prog) (A := some ⟨h.size, 0, none⟩) (l := l.length + 2) (c := l.length + 2) (x := (l.length : Int)) und_sts hi (by omega) (by omega)
  rw [Int.toNat_natCast] at hsl
  refine ⟨_, _, _, hsl, ?_⟩
  have E6 : Ext h h6 := extOwn ((extOwn (E2.trans e3) f4 (fun k hk => by omega)).trans e5) f6 (fun k hk => by omega)
  have e : ((l ++ [(⟨0, 0⟩ : St), ⟨0, 0⟩]).set l.length mt0).set (l.length + 1) mt1 = l ++ [mt0, mt1] := by
    rw [List.set_append_right _ _ (by omega), Nat.sub_self, List.set_append_right _ _ (by omega), show l.length + 1 - l.length = 1 by omega]; rfl
  rw [e] at r6
  exact H h6 _ _ E6 (Nat.le_refl _) r6
theorem backT_l3 {g c cc n : Nat} (hn : n ≤ 1000000000) {K0 : Bool → Hp → Prop} {b : Bool} : ∀ (k i : Nat) (h : Hp), Raw h 49 g c → n * 2 ≤ c → n - i < k → i ≤ n → (∀ h', Fr (fun k => k = g) h h' → K0 b h') → quintetlaw05_back_l3 (some ⟨g, 0, none⟩) n cc b K0 k i h
  | 0, i, h, _, _, hk, _, _ => by omega
  | k + 1, i, h, r, hnc, hk, hi, H => by
    unfold quintetlaw05_back_l3
    refine br_i (fun p => ?_) (fun p => ?_)
    · have hlt : i < n := by simpa using p
      refine stem_s 99 98 fun h1 e1 => ⟨_, _, rfl, _, ix0 hlt und_sts size_st, ?_⟩
      refine HU_raw (us := St.enc ⟨99, 98⟩) (r.keep e1.f0 (fun h => h)) rfl size_st rfl (by simp [St.leng]; omega) fun h2 r2 f2 z2 => ?_
      rw [wrapN (by omega)]
      exact backT_l3 hn k (i + 1) h2 r2 hnc (by omega) (by omega) fun h3 f3 => H h3 (((e1.fr _).trans f2).trans f3)
    · exact H h (Fr.refl _ _)
theorem backT_s {h : Hp} {A : Option Addr} {c g cc : Nat} {l : List St} (rs : RSl h A l.length 2 (l.flatMap St.enc)) (hl : l.length ≤ 100000000) (r : RowT h (some ⟨g, 0, none⟩) cc (l ++ [mt0, mt1])) {K : Value → Hp → Prop}
    (H : ∀ h', Fr (fun k => k = g) h h' → K (.bool true) h') : CallsH Try.prog 32 #[.slice (some ⟨g, 0, none⟩) l.length cc, .slice A l.length c] h K := by
  refine quintetlaw05_back_ok _ _ _ _ _ _ ?_
  unfold quintetlaw05_back
  rw [wrap2 (by omega)]
  obtain ⟨i, z, hi, hs, hb, hz, hc⟩ := info_st
  have hlen : (l ++ [mt0, mt1]).length = l.length + 2 := by simp
  obtain ⟨g', rest, hA, hbb, hlen2, hcc⟩ := r.row.open St.leng (by omega)
  have hsl := slHi (P := Try.prog) (A := some ⟨g, 0, none⟩) (l := l.length) (c := cc) (x := ((l.length + 2 : Nat) : Int)) und_sts hi (by omega) (by omega)
  rw [Int.toNat_natCast] at hsl
  have c0 := r.elem0 St.leng (i := l.length) (x := mt0) (by simp)
  have c1 := r.elem0 St.leng (i := l.length + 1) (x := mt1) (by simp)
  refine ⟨_, _, _, hsl, _, ix0 (by omega) und_sts size_st, _, _, ldS c0 (by kernel_rfl), ?_⟩
  refine stem_s 7 77 fun h1 e1 => ⟨_, _, rfl, ldS (c0.ext e1) (by kernel_rfl), _, eq_st mt0 ⟨7, 77⟩, br_t (by decide) ?_⟩
  rw [wrapN (by omega)]
  refine ⟨_, ix0 (by omega) und_sts size_st, _, _, ldS (c1.ext e1) (by kernel_rfl), ?_⟩
  refine stem_s 8 77 fun h2 e2 => ⟨_, _, rfl, ldS ((c1.ext e1).ext e2) (by kernel_rfl), _, eq_st mt1 ⟨8, 77⟩, br_t (by decide) ?_⟩
  have e12 := e1.trans e2
  have r2 := (r.ext e12)
  have rl : RSl h2 (some ⟨g, 0, none⟩) l.length 2 (l.flatMap St.enc) := by
    refine ⟨flat_len St.leng l, .inr ⟨_, rfl, ?_⟩⟩
    have := r2.row.read
    obtain ⟨_, hh⟩ := this
    rcases hh with hh | ⟨a, ha, hcl⟩
    · simp at hh
    · cases ha
      have := hcl.sub (us := l.flatMap St.enc) 0 (fun j v hj => by
        rw [Nat.zero_add, List.flatMap_append, List.getElem?_append_left (List.getElem?_eq_some_iff.1 hj).1]; exact hj)
      exact this
  refine sameT_s rl (rs.ext e12) (by omega) ⟨_, rfl, ?_⟩
  rw [decide_eq_true rfl]
  unfold quintetlaw05_back_j2
  refine ⟨l.length + 3, ?_⟩
  exact backT_l3 (by omega) _ 0 h2 r2.raw (by omega) (by omega) (by omega) fun h' f => H h' ((e12.fr _).trans f)
end Go.Proofs.Ytaacfhekjklipaa.Fs
