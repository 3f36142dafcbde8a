/- nest.check, Levels, Depth, Find. -/
import Derived.Test.YtgahbkbmolfpnaaGreatNeLev3
namespace Go.Proofs.YtgahbkbmolfpnaaGreat.Fs
open Go Go.RowKit Go.Sort Go.Proofs.YtgahbkbmolfpnaaGreat.Sx Go.Proofs.YtgahbkbmolfpnaaGreat.Sp Go.Proofs.YtgahbkbmolfpnaaGreat.Ne
set_option linter.unusedVariables false
set_option linter.unusedSimpArgs false
set_option maxRecDepth 10000
def wrongB (l : List Sp) : Bool := l.any fun s => decide (s.hi < s.lo)
theorem wrong_no {l : List Sp} (h : wrongB l = false) : ∀ s ∈ l, s.lo ≤ s.hi := fun s hs => by
  unfold wrongB at h
  rw [List.any_eq_false] at h
  have := h s hs
  simp at this
  exact this
theorem wrong_ok {l : List Sp} (h : ∀ s ∈ l, s.lo ≤ s.hi) : wrongB l = false := by
  unfold wrongB
  rw [List.any_eq_false]
  intro s hs
  have := h s hs
  simp
  exact this
section
variable {h0 : Hp} {A : Option Addr} {c : Nat} {l : List Sp}
theorem check_l1 (r : RSl h0 A l.length 2 (l.flatMap Sp.enc)) (hl : l.length ≤ 1000000000) {K0 : Int → Hp → Prop} {K1 : Hp → Prop} (H0 : wrongB l = true → ∀ h', Ext h0 h' → K0 30 h') (H1 : wrongB l = false → ∀ h', Ext h0 h' → K1 h') :
    ∀ (k i : Nat) (h : Hp), l.length - i < k → i ≤ l.length → Ext h0 h → (∀ s ∈ l.take i, s.lo ≤ s.hi) → nest_check_l1 A l.length c (l.length : Int) K0 K1 k (i : Int) h := by
  intro k
  induction k with
  | zero => intro i h hk; omega
  | succ k ih =>
    intro i h hk hi e hd
    unfold nest_check_l1
    refine br_i (fun p => ?_) (fun p => ?_)
    · have hlt : i < l.length := by simpa using p
      have hx := List.getElem?_eq_getElem hlt
      generalize l[i] = s at hx
      obtain ⟨a, _, _, hix, hcl⟩ := ixR (P := Tryz.prog) (T := 37) (E := 36) (c := c) (k := .i64) Sp.len (r.ext e) rfl und_sps size_sp hx
      refine ⟨_, hix, s.lo, s.hi, ldS hcl (by kernel_rfl), newV (us := Sp.enc s) rfl rfl size_sp rfl fun h1 e1 c1 b1 z1 => ⟨s.lo, s.hi, ldS c1 (by kernel_rfl), span_Check_s s fun h2 e2 => ⟨_, rfl, ?_⟩⟩⟩
      unfold checkS
      by_cases q : s.lo > s.hi
      · rw [if_pos q]
        refine br_t rfl (H0 ?_ _ ((e.trans e1).trans e2))
        unfold wrongB
        rw [List.any_eq_true]
        exact ⟨s, List.mem_of_getElem? hx, by simpa using q⟩
      · rw [if_neg q, wrapN (by omega)]
        refine br_f rfl (ih (i + 1) h2 (by omega) (by omega) ((e.trans e1).trans e2) fun s' hs' => ?_)
        rw [take1 hx, List.mem_append, List.mem_singleton] at hs'
        rcases hs' with hs' | rfl
        · exact hd s' hs'
        · omega
    · have : i = l.length := by simp at p; omega
      subst this
      rw [List.take_length] at hd
      exact H1 (wrong_ok hd) h e
def chkS (l : List Sp) : Int := if wrongB l = true then 30 else 0
theorem nest_check_s (r : RSl h0 A l.length 2 (l.flatMap Sp.enc)) (hl : l.length ≤ 1000000000) {K : Value → Hp → Prop} (H : ∀ h', Ext h0 h' → K (.int .i64 (chkS l)) h') : CallsH Tryz.prog 36 #[.slice A l.length c] h0 K := by
  refine nest_check_ok _ _ _ ?_
  unfold nest_check
  refine ⟨l.length + 1, check_l1 r hl (fun hw h' e => ?_) (fun hw h' e => ?_) (l.length + 1) 0 h0 (by omega) (by omega) (Ext.refl _) (by simp)⟩
  · have := H h' e
    rw [chkS, if_pos hw] at this
    exact this
  · have := H h' e
    rw [chkS, hw] at this
    exact this
theorem Levels_s (r : RSl h0 A l.length 2 (l.flatMap Sp.enc)) (hl : l.length ≤ 1000000000) {K : Value → Hp → Prop}
    (H0 : wrongB l = true → ∀ h', Ext h0 h' → K (.tuple #[.slice none 0 0, .int .i64 30]) h')
    (H1 : wrongB l = false → ∀ h' g, Ext h0 h' → h0.size ≤ g → RowI h' (some ⟨g, 0, none⟩) l.length (levs l) → K (.tuple #[.slice (some ⟨g, 0, none⟩) l.length l.length, .int .i64 0]) h') : CallsH Tryz.prog 15 #[.slice A l.length c] h0 K := by
  refine nest_Levels_ok _ _ _ ?_
  unfold nest_Levels
  refine nest_check_s r hl fun h1 e1 => ⟨_, rfl, ?_⟩
  unfold chkS
  cases hw : wrongB l
  · refine br_f rfl (levelled_s (r.ext e1) hl (wrong_no hw) fun h2 g e2 hg r2 => ⟨_, _, _, _, rfl, ?_⟩)
    exact H1 hw h2 g (e1.trans e2) (Nat.le_trans e1.size hg) r2
  · exact br_t rfl (H0 hw h1 e1)
theorem Depth_s (r : RSl h0 A l.length 2 (l.flatMap Sp.enc)) (hl : l.length ≤ 1000000000) {K : Value → Hp → Prop}
    (H0 : wrongB l = true → ∀ h', Ext h0 h' → K (.tuple #[.int .i64 0, .int .i64 30]) h')
    (H1 : wrongB l = false → ∀ h', Ext h0 h' → K (.tuple #[.int .i64 (dep l : Int), .int .i64 0]) h') : CallsH Tryz.prog 16 #[.slice A l.length c] h0 K := by
  refine nest_Depth_ok _ _ _ ?_
  unfold nest_Depth
  refine nest_check_s r hl fun h1 e1 => ⟨_, rfl, ?_⟩
  unfold chkS
  cases hw : wrongB l
  · refine br_f rfl (levelled_s (r.ext e1) hl (wrong_no hw) fun h2 g e2 hg r2 => ⟨_, _, _, _, rfl, ?_⟩)
    exact H1 hw h2 (e1.trans e2)
  · exact br_t rfl (H0 hw h1 e1)
end
/-! ### slices.Repeat of one -/
theorem copy_rep {h : Hp} {g n b : Nat} {sc dc : Nat} {v : Int} {xs : List Int} {K : Value → Hp → Prop} (r : RowI h (some ⟨g, 0, none⟩) n xs) (hx : xs.length = n) (hb : b ≤ n) (h1 : 0 < b) (hd : ∀ j, j < b → xs[j]? = some v) (hsl : b < n)
    (H : ∀ h' xs', RowI h' (some ⟨g, 0, none⟩) n xs' → xs'.length = n → (∀ j, j < b + min b (n - b) → xs'[j]? = some v) → Fr (fun k => k = g) h h' → K (.int .i64 ((min b (n - b) : Nat) : Int)) h') :
    HW Tryz.prog (Builtin.copy_ #[38, 38] 3 #[.slice (some ⟨g, b, none⟩) (n - b) dc, .slice (some ⟨g, 0, none⟩) b sc]) h K := by
  obtain ⟨i, z, hi, hs, hbb, hz, hc⟩ := info_int
  obtain ⟨g', rest, hA, hbk, hlen, hcc⟩ := r.row.open encI_len (by omega)
  cases hA
  have hm : Nat.min b (n - b) ≤ b := Nat.min_le_left _ _
  have hm2 : Nat.min b (n - b) ≤ n - b := Nat.min_le_right _ _
  have hcl : Cl h ⟨g, 0, none⟩ ((List.replicate (Nat.min b (n - b)) v).flatMap encI) := by
    refine ⟨rfl, fun j w hj => ?_⟩
    have hjl : j < Nat.min b (n - b) := by
      have := (List.getElem?_eq_some_iff.1 hj).1
      rw [flat_len encI_len] at this
      simpa using this
    have he := (r.elem0 encI_len (hd j (by omega))).head
    rw [Nat.mul_one] at he
    rw [add_off rfl]
    show cell h ⟨g, 0 + j, none⟩ = _
    rw [Nat.zero_add, he]
    have := flat_get encI_len (List.replicate (Nat.min b (n - b)) v) j 0 v (by simp [hjl]) (by decide)
    rw [Nat.mul_one, Nat.add_zero] at this
    rw [this] at hj
    exact hj
  refine HW_copy und_ints hi hbk hcl (by rw [flat_len encI_len, hs, List.length_replicate]) (by rw [flat_len encI_len, List.length_replicate, hlen]; omega) ?_ ?_
  · rw [List.all_eq_true]
    intro u hu
    obtain ⟨y, _, hy⟩ := List.mem_flatMap.1 hu
    exact List.all_eq_true.1 (encI_flat y) u hy
  · rw [flat_len encI_len, List.length_replicate, Nat.mul_one]
    have hfl := flat_len encI_len xs
    have e : (xs.flatMap encI ++ rest).take b ++ (List.replicate (Nat.min b (n - b)) v).flatMap encI ++ (xs.flatMap encI ++ rest).drop (b + Nat.min b (n - b)) = (xs.take b ++ List.replicate (Nat.min b (n - b)) v ++ xs.drop (b + Nat.min b (n - b))).flatMap encI ++ rest := by
      rw [List.take_append_of_le_length (by rw [hfl]; omega), List.drop_append_of_le_length (by rw [hfl]; omega)]
      have t1 := flat_take encI_len xs b
      have t2 := flat_drop encI_len xs (b + Nat.min b (n - b))
      rw [Nat.mul_one] at t1 t2
      rw [t1, t2]
      simp
    rw [e]
    have hl2 : (xs.take b ++ List.replicate (Nat.min b (n - b)) v ++ xs.drop (b + Nat.min b (n - b))).length = n := by simp; omega
    refine H _ _ ⟨Row.shut encI_len (setB_get (lt_of_get hbk)) ?_ (by omega), r.cap⟩ hl2 (fun j hj => ?_) (setB_fr rfl)
    · rw [← hlen, List.length_append, List.length_append, flat_len encI_len, flat_len encI_len, hl2, hx]
    · rcases Nat.lt_or_ge j b with cj | cj
      · rw [List.append_assoc, List.getElem?_append_left (by simp; omega), List.getElem?_take, if_pos cj, hd j cj]
      · have hj' : j < b + Nat.min b (n - b) := hj
        rw [List.append_assoc, List.getElem?_append_right (by simp; omega), List.getElem?_append_left (by simp; omega), List.getElem?_replicate, if_pos (by simp; omega)]
theorem repeat_l7 {g n : Nat} {v : Int} (hn : n ≤ 1000000000) {K0 : (Option Addr) → Nat → Nat → Hp → Prop} {hB : Hp} (H : ∀ h', Fr (fun k => k = g) hB h' → RowI h' (some ⟨g, 0, none⟩) n (List.replicate n v) → K0 (some ⟨g, 0, none⟩) n n h') :
    ∀ (k b : Nat) (h : Hp) (xs : List Int), n - b < k → b ≤ n → (0 < n → 0 < b) → xs.length = n → (∀ j, j < b → xs[j]? = some v) → RowI h (some ⟨g, 0, none⟩) n xs → Fr (fun k => k = g) hB h → slices_Repeat_int_l7 (some ⟨g, 0, none⟩) n n K0 k (b : Int) h := by
  intro k
  induction k with
  | zero => intro b h xs hk; omega
  | succ k ih =>
    intro b h xs hk hb h1 hx hd r f
    unfold slices_Repeat_int_l7
    refine br_i (fun p => ?_) (fun p => ?_)
    · have hlt : b < n := by simpa using p
      obtain ⟨i, z, hi, hs, hbb, hz, hc⟩ := info_int
      have s1 := slLo (P := Tryz.prog) (A := some ⟨g, 0, none⟩) (l := n) (c := n) (x := (b : Int)) und_ints hi (by omega) (by omega)
      have s2 := slHi (P := Tryz.prog) (A := some ⟨g, 0, none⟩) (l := n) (c := n) (x := (b : Int)) und_ints hi (by omega) (by omega)
      rw [Int.toNat_natCast] at s1 s2
      rw [if_neg (by omega)] at s1
      refine ⟨_, _, _, s1, _, _, _, s2, ?_⟩
      rw [hs, Nat.mul_one]
      simp only [Option.map_some, add_eq0]
      refine copy_rep r hx hb (h1 (by omega)) hd hlt fun h' xs' r' hx' hd' f' => ⟨_, rfl, ?_⟩
      have hw : IntKind.i64.wrap ((b : Int) + ((min b (n - b) : Nat) : Int)) = ((b + min b (n - b) : Nat) : Int) := by rw [wrap_in (by omega) (by omega)]; omega
      rw [hw]
      exact ih _ h' xs' (by omega) (by omega) (by omega) hx' hd' r' (f.trans f')
    · have : b = n := by simp at p; omega
      subst this
      have e : xs = List.replicate b v := List.ext_getElem? fun j => by
        rcases Nat.lt_or_ge j b with cj | cj
        · rw [hd j cj]; simp [cj]
        · rw [List.getElem?_eq_none (by omega), List.getElem?_eq_none (by simp; omega)]
      rw [e] at r
      exact H h f r
theorem repeat_s {h : Hp} {a : Addr} {v : Int} {n : Nat} (hn : n ≤ 1000000000) (cl : Cl h a (encI v)) {K : Value → Hp → Prop}
    (H : ∀ h' g, Ext h h' → h.size ≤ g → RowI h' (some ⟨g, 0, none⟩) n (List.replicate n v) → K (.slice (some ⟨g, 0, none⟩) n n) h') : CallsH Tryz.prog 38 #[.slice (some a) 1 1, .int .i64 (n : Int)] h K := by
  refine slices_Repeat_int_ok _ _ _ _ ?_
  unfold slices_Repeat_int
  refine br_f (by simp) ?_
  unfold slices_Repeat_int_j4
  have w1 : IntKind.u64.wrap (((1 : Nat) : Int)) = ((1 : Nat) : Int) := by decide
  have w2 : IntKind.u64.wrap ((n : Int)) = (n : Int) := by simp [IntKind.wrap, IntKind.bits, IntKind.signed]; omega
  rw [w1, w2]
  intro w hw
  refine (Tryz.bits_Mul 1 n (by omega) (by omega) w).mono ?_
  rintro e w' ⟨rfl, rfl⟩
  refine ⟨_, rfl, Same.refl _, ?_⟩
  rw [Nat.one_mul, Nat.div_eq_of_lt (by omega), Nat.mod_eq_of_lt (by omega), hw]
  refine ⟨_, _, rfl, br_f (by decide) (br_f (by simp; omega) ?_)⟩
  unfold slices_Repeat_int_j6
  have w3 : IntKind.i64.wrap ((n : Int)) = (n : Int) := wrap_in (by omega) (by omega)
  rw [w3]
  refine make_i hn fun h1 e1 r1 => ⟨_, _, _, rfl, ?_⟩
  obtain ⟨i, z, hi, hs, hbb, hz, hc⟩ := info_int
  rcases Nat.eq_zero_or_pos n with h0 | h0
  · subst h0
    refine HW_copy0 und_ints hi (by simp) ⟨_, rfl, 1, ?_⟩
    refine repeat_l7 (v := v) (hB := h1) (by omega) (fun h' f r' => ?_) 1 0 h1 [] (by omega) (by omega) (by omega) rfl (by omega) r1 (Fr.refl _ _)
    exact H h' h.size (extOwn e1 f (by rintro k rfl; exact Nat.le_refl _)) (Nat.le_refl _) r'
  · obtain ⟨g', rest, hA, hbk, hlen, hcc⟩ := r1.row.open encI_len (by simp; omega)
    cases hA
    have hmin : Nat.min 1 n = 1 := Nat.min_eq_left h0
    refine HW_copy (o := 0) (us := encI v) und_ints hi hbk (cl.ext e1) (by rw [hmin, hs]; rfl) (by rw [hlen]; simp [encI]; omega) rfl ?_
    rw [hmin]
    refine ⟨_, rfl, n + 1, ?_⟩
    have e : ((List.replicate n (0 : Int)).flatMap encI ++ rest).take 0 ++ encI v ++ ((List.replicate n (0 : Int)).flatMap encI ++ rest).drop (0 + (encI v).length) = ((List.replicate n (0 : Int)).set 0 v).flatMap encI ++ rest := by
      obtain ⟨m, rfl⟩ : ∃ m, n = m + 1 := ⟨n - 1, by omega⟩
      simp [encI, List.replicate_succ]
    rw [e]
    have hf : Fr (fun k => k = h.size) h1 (setB h1 h.size (((List.replicate n (0 : Int)).set 0 v).flatMap encI ++ rest) 3) := setB_fr rfl
    refine repeat_l7 (v := v) (hB := h1) hn (fun h' f r' => ?_) (n + 1) 1 _ ((List.replicate n 0).set 0 v) (by omega) (by omega) (by omega) (by simp) (fun j hj => ?_) ⟨Row.shut encI_len (setB_get (lt_of_get hbk)) ?_ (by simp), r1.cap⟩ hf
    · exact H h' h.size (extOwn e1 f (by rintro k rfl; exact Nat.le_refl _)) (Nat.le_refl _) r'
    · have : j = 0 := by omega
      subst this
      rw [List.getElem?_set_self (by simpa using h0)]
    · rw [← hlen, List.length_append, List.length_append, flat_len encI_len, flat_len encI_len, List.length_set]
end Go.Proofs.YtgahbkbmolfpnaaGreat.Fs
