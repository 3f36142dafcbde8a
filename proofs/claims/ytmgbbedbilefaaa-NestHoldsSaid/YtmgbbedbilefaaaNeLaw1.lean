/- NestLevels, NestFinds, NestPairs. -/
import Derived.Test.YtmgbbedbilefaaaNeAwake
namespace Go.Proofs.Ytmgbbedbilefaaa.Fs
open Go Go.RowKit Go.Sort Go.Proofs.Ytmgbbedbilefaaa.Sx Go.Proofs.Ytmgbbedbilefaaa.Sp Go.Proofs.Ytmgbbedbilefaaa.Ne
set_option linter.unusedVariables false
set_option linter.unusedSimpArgs false
set_option maxRecDepth 10000
/-! ### lent, kept -/
def mk0 : Sp := ⟨7, 3⟩
theorem make_sp {h : Hp} {n : Nat} (hn : n ≤ 1000000000) {K : Value → Hp → Prop} (H : ∀ h', Ext h h' → RowP h' (some ⟨h.size, 0, none⟩) n (List.replicate n ⟨0, 0⟩) → K (.slice (some ⟨h.size, 0, none⟩) n n) h') : HW Try.prog (Instr.makeSlice 22 (.int .i64 (n : Int)) (.int .i64 (n : Int))) h K := by
  obtain ⟨i, z, hi, hs, hb, hz, hc⟩ := info_sp
  exact HW_makeRow und_sps hi hz hs (by decide) hc Sp.len (by rw [hb]; omega) (by omega) fun h' e r => H h' e ⟨r, by omega⟩
theorem copy_sp2 {h : Hp} {g c sc : Nat} {sA : Option Addr} {zs xs : List Sp} {n : Nat} {K : Value → Hp → Prop} (r : RowP h (some ⟨g, 0, none⟩) c zs) (hn : zs.length = n) (hl : xs.length ≤ n) (h0 : 0 < n) (rs : RSl h sA xs.length 2 (xs.flatMap Sp.enc))
    (H : ∀ h', RowP h' (some ⟨g, 0, none⟩) c (xs ++ zs.drop xs.length) → Fr (fun k => k = g) h h' → K (.int .i64 (xs.length : Int)) h') : HW Try.prog (Builtin.copy_ #[22, 22] 3 #[.slice (some ⟨g, 0, none⟩) n c, .slice sA xs.length sc]) h K := by
  obtain ⟨i, z, hi, hs, hb, hz, hc⟩ := info_sp
  rcases Nat.eq_zero_or_pos xs.length with h00 | h00
  · have hx : xs = [] := List.eq_nil_of_length_eq_zero h00
    subst hx
    refine HW_copy0 und_sps hi (by simp) ?_
    exact H h (by simpa using r) (Fr.refl _ _)
  · subst hn
    obtain ⟨g', rest, hA, hbb, hlen, hcc⟩ := r.row.open Sp.len h0
    cases hA
    obtain ⟨sa, rfl, hcl⟩ := rs.some h00
    have hus := flat_len Sp.len xs
    have huz := flat_len Sp.len zs
    have hmin : Nat.min xs.length zs.length = xs.length := Nat.min_eq_left hl
    refine HW_copy (o := 0) und_sps hi hbb hcl (by rw [hus, hmin, hs]) (by rw [hus, List.length_append, huz]; omega) ?_ ?_
    · rw [List.all_eq_true]
      intro u hu
      obtain ⟨y, _, hy⟩ := List.mem_flatMap.1 hu
      exact List.all_eq_true.1 (Sp.flat y) u hy
    · rw [hmin, hus]
      have e : (zs.flatMap Sp.enc ++ rest).take 0 ++ xs.flatMap Sp.enc ++ (zs.flatMap Sp.enc ++ rest).drop (0 + xs.length * 2) = (xs ++ zs.drop xs.length).flatMap Sp.enc ++ rest := by
        rw [Nat.zero_add, List.drop_append_of_le_length (by rw [huz]; omega), flat_drop Sp.len]; simp
      rw [e]
      have hl2 : (xs ++ zs.drop xs.length).length = zs.length := by simp; omega
      refine H _ ⟨Row.shut Sp.len (setB_get (lt_of_get hbb)) ?_ (by omega), r.cap⟩ (setB_fr rfl)
      rw [← hlen, List.length_append, List.length_append, flat_len Sp.len, hl2, huz]
theorem lent_s {h : Hp} {A : Option Addr} {c : Nat} {l : List Sp} (rs : RSl h A l.length 2 (l.flatMap Sp.enc)) (hl : l.length ≤ 100000000) {K : Value → Hp → Prop}
    (H : ∀ h', Ext h h' → RowP h' (some ⟨h.size, 0, none⟩) (l.length + 1) (l ++ [mk0]) → K (.slice (some ⟨h.size, 0, none⟩) l.length (l.length + 1)) h') : CallsH Try.prog 10 #[.slice A l.length c] h K := by
  refine quintetlaw14_lent_ok _ _ _ ?_
  unfold quintetlaw14_lent
  rw [wrapN (by omega)]
  refine make_sp (by omega) fun h1 e1 r1 => ⟨_, _, _, rfl, ?_⟩
  refine copy_sp2 r1 (by simp) (by omega) (by omega) (rs.ext e1) fun h2 r2 f2 => ⟨_, rfl, ?_⟩
  have E2 : Ext h h2 := extOwn e1 f2 (fun k hk => by omega)
  have hz : l ++ (List.replicate (l.length + 1) (⟨0, 0⟩ : Sp)).drop l.length = l ++ [⟨0, 0⟩] := by
    rw [List.drop_replicate, show l.length + 1 - l.length = 1 by omega]; rfl
  rw [hz] at r2
  refine ⟨_, ix0 (sz := 2) (by omega) und_sps size_sp, st_sp mk0 r2 (by simp) fun h4 r4 f4 z4 => ?_⟩
  obtain ⟨i, z, hi, hs, hb, hz, hc⟩ := info_sp
  have hsl := slHi (P := Try.prog) (A := some ⟨h.size, 0, none⟩) (l := l.length + 1) (c := l.length + 1) (x := (l.length : Int)) und_sps hi (by omega) (by omega)
  rw [Int.toNat_natCast] at hsl
  refine ⟨_, _, _, hsl, ?_⟩
  have e : (l ++ [(⟨0, 0⟩ : Sp)]).set l.length mk0 = l ++ [mk0] := by
    rw [List.set_append_right _ _ (by omega), Nat.sub_self]; rfl
  rw [e] at r4
  exact H h4 (extOwn E2 f4 (fun k hk => by omega)) r4
theorem rl_of {h : Hp} {g c : Nat} {l m : List Sp} (r : RowP h (some ⟨g, 0, none⟩) c (l ++ m)) : RSl h (some ⟨g, 0, none⟩) l.length 2 (l.flatMap Sp.enc) := by
  refine ⟨flat_len Sp.len l, ?_⟩
  obtain ⟨_, hh⟩ := r.row.read
  rcases hh with hh | ⟨a, ha, hcl⟩
  · rw [List.length_append] at hh; exact .inl (by omega)
  · cases ha
    exact .inr ⟨_, rfl, hcl.sub (us := l.flatMap Sp.enc) 0 (fun j v hj => by
      rw [Nat.zero_add, List.flatMap_append, List.getElem?_append_left (List.getElem?_eq_some_iff.1 hj).1]; exact hj)⟩
theorem kept_l1 {h : Hp} {A : Option Addr} {c cc g : Nat} {l : List Sp} (rs : RSl h A l.length 2 (l.flatMap Sp.enc)) (hl : l.length ≤ 100000000) (rx : RSl h (some ⟨g, 0, none⟩) l.length 2 (l.flatMap Sp.enc)) {K0 : Bool → Hp → Prop} (H : K0 true h) :
    ∀ (k i : Nat), l.length - i < k → i ≤ l.length → quintetlaw14_kept_l1 (some ⟨g, 0, none⟩) l.length cc A l.length c K0 k true i h
  | 0, i, hk, _ => by omega
  | k + 1, i, hk, hi => by
    unfold quintetlaw14_kept_l1
    refine br_i (fun p => br_t rfl ?_) (fun p => H)
    have hlt : i < l.length := by simpa using p
    obtain ⟨a, hix, hcl⟩ := ixS (c := cc) rx (List.getElem?_eq_getElem hlt)
    obtain ⟨b, hix2, hcl2⟩ := ixS (c := c) rs (List.getElem?_eq_getElem hlt)
    refine ⟨_, hix, _, _, ldS hcl (by kernel_rfl), _, hix2, _, _, ldS hcl2 (by kernel_rfl), _, eq_sp _ _, ?_⟩
    rw [decide_eq_true rfl, wrapN (by omega)]
    exact kept_l1 rs hl rx H k (i + 1) (by omega) (by omega)
theorem kept_s {h : Hp} {A : Option Addr} {c g : Nat} {l : List Sp} (rs : RSl h A l.length 2 (l.flatMap Sp.enc)) (hl : l.length ≤ 100000000) (r : RowP h (some ⟨g, 0, none⟩) (l.length + 1) (l ++ [mk0])) {K : Value → Hp → Prop}
    (H : K (.bool true) h) : CallsH Try.prog 16 #[.slice (some ⟨g, 0, none⟩) l.length (l.length + 1), .slice A l.length c] h K := by
  refine quintetlaw14_kept_ok _ _ _ _ _ _ ?_
  unfold quintetlaw14_kept
  rw [wrapN (by omega)]
  obtain ⟨i, z, hi, hs, hb, hz, hc⟩ := info_sp
  have hsl := slHi (P := Try.prog) (A := some ⟨g, 0, none⟩) (l := l.length) (c := l.length + 1) (x := ((l.length + 1 : Nat) : Int)) und_sps hi (by omega) (by omega)
  rw [Int.toNat_natCast] at hsl
  have c0 := r.elem0 Sp.len (i := l.length) (x := mk0) (by simp)
  refine ⟨_, _, _, hsl, _, ix0 (by omega) und_sps size_sp, _, _, ldS c0 (by kernel_rfl), _, eq_sp mk0 ⟨7, 3⟩, l.length + 1, ?_⟩
  rw [show decide (mk0 = ⟨7, 3⟩) = true by decide]
  exact kept_l1 rs hl (rl_of r) H _ 0 (by omega) (by omega)
/-! ### answers, whatever the list -/
def lv (l : List Sp) : List Int := if wrongB l = true then [] else levs l
def dp (l : List Sp) : Nat := if wrongB l = true then 0 else dep l
def fd (l : List Sp) (p : Int) : List Int := if wrongB l = true then [] else finds l p
theorem levs_len (l : List Sp) : (levs l).length = l.length := by simp [levs]
theorem finds_len (l : List Sp) (p : Int) : (finds l p).length = dep l := by simp [finds]
theorem lv_len (l : List Sp) : (lv l).length ≤ l.length := by unfold lv; split <;> simp [levs]
theorem fd_len (l : List Sp) (p : Int) : (fd l p).length ≤ l.length := by
  unfold fd
  split
  · simp
  · rw [finds_len]; exact dep_le l
section
variable {h0 : Hp} {A : Option Addr} {c : Nat} {l : List Sp}
theorem LevelsC (r : RSl h0 A l.length 2 (l.flatMap Sp.enc)) (hl : l.length ≤ 100000000) {K : Value → Hp → Prop}
    (H : ∀ h' B d, Ext h0 h' → RowI h' B d (lv l) → Fresh h0 B → K (.tuple #[.slice B (lv l).length d, .int .i64 (chkS l)]) h') : CallsH Try.prog 11 #[.slice A l.length c] h0 K := by
  refine Levels_s r (by omega) (fun hw h1 e1 => ?_) (fun hw h1 g e1 hg r1 => ?_)
  · have := H h1 none 0 e1 (by rw [lv, if_pos hw]; exact RowI.nil _) (Fresh.none _)
    rw [lv, if_pos hw, chkS, if_pos hw] at this
    exact this
  · have hl : lv l = levs l := by rw [lv, if_neg (by rw [hw]; decide)]
    have := H h1 (some ⟨g, 0, none⟩) l.length e1 (by rw [hl]; exact r1) (Fresh.some hg)
    rw [hl, levs_len, chkS, if_neg (by rw [hw]; decide)] at this
    exact this
theorem RLevelsC (r : RSl h0 A l.length 2 (l.flatMap Sp.enc)) (hl : l.length ≤ 100000000) {K : Value → Hp → Prop}
    (H : ∀ h' B d, Ext h0 h' → RowI h' B d (lv l) → Fresh h0 B → K (.tuple #[.slice B (lv l).length d, .int .i64 (chkS l)]) h') : CallsH Try.prog 12 #[.slice A l.length c] h0 K := by
  refine RLevels_s r (by omega) (fun hw => ?_) (fun hw h1 B d e1 hF r1 => ?_)
  · have := H h0 none 0 (Ext.refl _) (by rw [lv, if_pos hw]; exact RowI.nil _) (Fresh.none _)
    rw [lv, if_pos hw, chkS, if_pos hw] at this
    exact this
  · have hl : lv l = levs l := by rw [lv, if_neg (by rw [hw]; decide)]
    have := H h1 B d e1 (by rw [hl]; exact r1) hF
    rw [hl, chkS, if_neg (by rw [hw]; decide)] at this
    exact this
theorem DepthC (r : RSl h0 A l.length 2 (l.flatMap Sp.enc)) (hl : l.length ≤ 100000000) {K : Value → Hp → Prop}
    (H : ∀ h', Ext h0 h' → K (.tuple #[.int .i64 (dp l : Int), .int .i64 (chkS l)]) h') : CallsH Try.prog 14 #[.slice A l.length c] h0 K := by
  refine Depth_s r (by omega) (fun hw h1 e1 => ?_) (fun hw h1 e1 => ?_)
  · have := H h1 e1
    rw [dp, if_pos hw, chkS, if_pos hw] at this
    exact this
  · have := H h1 e1
    rw [dp, if_neg (by rw [hw]; decide), chkS, if_neg (by rw [hw]; decide)] at this
    exact this
theorem RDepthC (r : RSl h0 A l.length 2 (l.flatMap Sp.enc)) (hl : l.length ≤ 100000000) {K : Value → Hp → Prop}
    (H : ∀ h', Ext h0 h' → K (.tuple #[.int .i64 (dp l : Int), .int .i64 (chkS l)]) h') : CallsH Try.prog 15 #[.slice A l.length c] h0 K := by
  refine RDepth_s r (by omega) (fun hw => ?_) (fun hw h1 e1 => ?_)
  · have := H h0 (Ext.refl _)
    rw [dp, if_pos hw, chkS, if_pos hw] at this
    exact this
  · have := H h1 e1
    rw [dp, if_neg (by rw [hw]; decide), chkS, if_neg (by rw [hw]; decide)] at this
    exact this
theorem FindC {p : Int} (r : RSl h0 A l.length 2 (l.flatMap Sp.enc)) (hl : l.length ≤ 100000000) {K : Value → Hp → Prop}
    (H : ∀ h' B d, Ext h0 h' → RowI h' B d (fd l p) → Fresh h0 B → K (.tuple #[.slice B (fd l p).length d, .int .i64 (chkS l)]) h') : CallsH Try.prog 17 #[.slice A l.length c, .int .u16 p] h0 K := by
  refine Find_s r (by omega) (fun hw h1 e1 => ?_) (fun hw h1 g e1 hg r1 => ?_)
  · have := H h1 none 0 e1 (by rw [fd, if_pos hw]; exact RowI.nil _) (Fresh.none _)
    rw [fd, if_pos hw, chkS, if_pos hw] at this
    exact this
  · have hl : fd l p = finds l p := by rw [fd, if_neg (by rw [hw]; decide)]
    have := H h1 (some ⟨g, 0, none⟩) (dep l) e1 (by rw [hl]; exact r1) (Fresh.some hg)
    rw [hl, finds_len, chkS, if_neg (by rw [hw]; decide)] at this
    exact this
theorem RFindC {p : Int} (r : RSl h0 A l.length 2 (l.flatMap Sp.enc)) (hl : l.length ≤ 100000000) {K : Value → Hp → Prop}
    (H : ∀ h' B d, Ext h0 h' → RowI h' B d (fd l p) → Fresh h0 B → K (.tuple #[.slice B (fd l p).length d, .int .i64 (chkS l)]) h') : CallsH Try.prog 18 #[.slice A l.length c, .int .u16 p] h0 K := by
  refine RFind_s r (by omega) (fun hw => ?_) (fun hw h1 B d e1 r1 hF1 => ?_)
  · have := H h0 none 0 (Ext.refl _) (by rw [fd, if_pos hw]; exact RowI.nil _) (Fresh.none _)
    rw [fd, if_pos hw, chkS, if_pos hw] at this
    exact this
  · have hl : fd l p = finds l p := by rw [fd, if_neg (by rw [hw]; decide)]
    have := H h1 B d e1 (by rw [hl]; exact r1) hF1
    rw [hl, chkS, if_neg (by rw [hw]; decide)] at this
    exact this
end
theorem fill {A : Option Addr} {c n : Nat} {hB : Hp} {L : Nat → Int → Hp → Prop} {Kend : Hp → Prop} (hn : n ≤ 1000000000)
    (hL : ∀ k (i : Nat) h, (br (decide ((i : Int) < (n : Int))) (∃ a51 : Addr, PV Try.prog (Instr.indexAt 25 (.slice A n c) (.int .i64 (i : Int))) (.pointer (some a51)) ∧ HU Try.prog (Instr.storeAt 3 (.pointer (some a51)) (.int .i64 77)) h fun h52 => L k (IntKind.i64.wrap ((i : Int) + 1)) h52) (Kend h)) → L (k + 1) (i : Int) h)
    (H : ∀ h', Fr (blk A) hB h' → Kend h') :
    ∀ (k i : Nat) (h : Hp) (xs : List Int), n - i < k → i ≤ n → xs.length = n → RowI h A c xs → Fr (blk A) hB h → L k (i : Int) h := by
  intro k
  induction k with
  | zero => intro i h xs hk; omega
  | succ k ih =>
    intro i h xs hk hi hx r f
    refine hL k i h (br_i (fun p => ?_) (fun p => H h f))
    have hlt : i < n := by simpa using p
    obtain ⟨g, rfl⟩ := r.blk0 encI_len (by omega)
    refine ⟨_, ixI hlt, st_i _ r (by omega) fun h' r' f' z' => ?_⟩
    rw [wrapN (by omega)]
    exact ih (i + 1) h' _ (by omega) (by omega) (by simpa using hx) r' (f.trans (f'.mono fun k hk => ⟨_, rfl, hk.symm⟩))
theorem NestLevels_s {h : Hp} {A : Option Addr} {c : Nat} {l : List Sp} (rs : RSl h A l.length 2 (l.flatMap Sp.enc)) {K : Value → Hp → Prop} (H : ∀ h', Ext h h' → K (.bool true) h') : CallsH Try.prog 3 #[.slice A l.length c] h K := by
  refine quintetlaw14_NestLevels_ok _ _ _ ?_
  unfold quintetlaw14_NestLevels
  refine br_i (fun p => awake_s fun h1 e1 => ⟨_, rfl, H h1 e1⟩) (fun p => ?_)
  have hl : l.length ≤ 16777216 := by simp at p; omega
  have hll := lv_len l
  refine lent_s rs (by omega) fun h1 e1 r1 => ⟨_, _, _, rfl, ?_⟩
  refine LevelsC (rl_of r1) (by omega) fun h2 B d e2 r2 hF2 => ⟨_, _, _, _, rfl, ?_⟩
  refine RLevelsC (rs.ext (e1.trans e2)) (by omega) fun h3 C e e3 r3 hF3 => ⟨_, _, _, _, rfl, ?_⟩
  refine Ints_s (r2.ext e3).read r3.read (by omega) ⟨_, rfl, ?_⟩
  rw [decide_eq_true rfl]
  have e13 := e2.trans e3
  refine DepthC (rl_of (r1.ext e13)) (by omega) fun h4 e4 => ⟨_, _, rfl, ?_⟩
  refine RDepthC (rs.ext ((e1.trans e13).trans e4)) (by omega) fun h5 e5 => ⟨_, _, rfl, (lv l).length + 1, ?_⟩
  have e35 := e4.trans e5
  refine fill (A := B) (c := d) (n := (lv l).length) (hB := h5) (by omega) (fun k i h H => by unfold quintetlaw14_NestLevels_l1; exact H) (fun h6 f6 => ?_) ((lv l).length + 1) 0 h5 (lv l) (by omega) (by omega) rfl ((r2.ext e3).ext e35) (Fr.refl _ _)
  have s1 := e1.size; have s2 := e2.size; have s3 := e3.size; have s35 := e35.size
  have E1 : Ext h h6 := extOwn ((e1.trans e13).trans e35) f6 (fun k hk => by have := hF2 k hk; omega)
  have E6 : Ext h1 h6 := extOwn (e13.trans e35) f6 (fun k hk => hF2 k hk)
  have r3' := (r3.ext e35).keep f6 (fun k hk hb => by
    have h1' := hF3 k hk
    have h2' := r2.old k hb
    omega)
  refine LevelsC (rl_of (r1.ext E6)) (by omega) fun h7 D f e7 r7 hF7 => ⟨_, _, _, _, rfl, ?_⟩
  refine Ints_s r7.read (r3'.ext e7).read (by omega) ⟨_, rfl, ?_⟩
  rw [decide_eq_true rfl]
  refine awake_s fun h8 e8 => ⟨_, rfl, br_t rfl (br_t rfl (br_t rfl (br_t (by simp) (br_t (by simp) (br_t (by simp) (br_t (by simp) ?_))))))⟩
  have E8 := e7.trans e8
  exact kept_s (rs.ext (E1.trans E8)) (by omega) (r1.ext (E6.trans E8)) ⟨_, rfl, H h8 (E1.trans E8)⟩
theorem NestFinds_s {h : Hp} {A : Option Addr} {c : Nat} {l : List Sp} {p : Int} (rs : RSl h A l.length 2 (l.flatMap Sp.enc)) {K : Value → Hp → Prop} (H : ∀ h', Ext h h' → K (.bool true) h') : CallsH Try.prog 4 #[.slice A l.length c, .int .u16 p] h K := by
  refine quintetlaw14_NestFinds_ok _ _ _ _ ?_
  unfold quintetlaw14_NestFinds
  refine br_i (fun p => awake_s fun h1 e1 => ⟨_, rfl, H h1 e1⟩) (fun q => ?_)
  have hl : l.length ≤ 16777216 := by simp at q; omega
  have hll := fd_len l p
  refine lent_s rs (by omega) fun h1 e1 r1 => ⟨_, _, _, rfl, ?_⟩
  refine FindC (rl_of r1) (by omega) fun h2 B d e2 r2 hF2 => ⟨_, _, _, _, rfl, ?_⟩
  refine RFindC (rs.ext (e1.trans e2)) (by omega) fun h3 C e e3 r3 hF3 => ⟨_, _, _, _, rfl, ?_⟩
  refine Ints_s (r2.ext e3).read r3.read (by omega) ⟨_, rfl, (fd l p).length + 1, ?_⟩
  rw [decide_eq_true rfl]
  have e13 := e2.trans e3
  refine fill (A := B) (c := d) (n := (fd l p).length) (hB := h3) (by omega) (fun k i h H => by unfold quintetlaw14_NestFinds_l1; exact H) (fun h6 f6 => ?_) ((fd l p).length + 1) 0 h3 (fd l p) (by omega) (by omega) rfl (r2.ext e3) (Fr.refl _ _)
  have s1 := e1.size; have s2 := e2.size; have s3 := e3.size
  have E1 : Ext h h6 := extOwn (e1.trans e13) f6 (fun k hk => by have := hF2 k hk; omega)
  have E6 : Ext h1 h6 := extOwn e13 f6 (fun k hk => hF2 k hk)
  have r3' := r3.keep f6 (fun k hk hb => by
    have h1' := hF3 k hk
    have h2' := r2.old k hb
    omega)
  refine FindC (rl_of (r1.ext E6)) (by omega) fun h7 D f e7 r7 hF7 => ⟨_, _, _, _, rfl, ?_⟩
  refine Ints_s r7.read (r3'.ext e7).read (by omega) ⟨_, rfl, ?_⟩
  rw [decide_eq_true rfl]
  refine awake_s fun h8 e8 => ⟨_, rfl, br_t rfl (br_t rfl (br_t rfl (br_t (by simp) (br_t (by simp) ?_))))⟩
  have E8 := e7.trans e8
  exact kept_s (rs.ext (E1.trans E8)) (by omega) (r1.ext (E6.trans E8)) ⟨_, rfl, H h8 (E1.trans E8)⟩
theorem NestPairs_s {h : Hp} {A : Option Addr} {c : Nat} {l : List Rul} (g : Hdr) (rs : RSl h A l.length 12 (l.flatMap Rul.enc)) {K : Value → Hp → Prop} (H : ∀ h', Ext h h' → K (.bool true) h') : CallsH Try.prog 8 #[.slice A l.length c, g.val] h K := by
  refine quintetlaw14_NestPairs_ok _ _ _ _ _ _ _ _ ?_
  unfold quintetlaw14_NestPairs
  refine newC_i (cs := g.enc) fun hb eb cb bb zb => br_i (fun p => awake_s fun h1 e1 => ⟨_, rfl, H h1 (eb.trans e1)⟩) (fun p => ?_)
  have hl : l.length ≤ 16777216 := by simp at p; omega
  have key : ∀ (K0 : (Option Addr) → Nat → Nat → Addr → Int → Hp → Prop), (∀ h', Ext hb h' → K0 A l.length c ⟨h.size, 0, none⟩ ((l.filter fun r => r.has g).length : Int) h') → ∀ (k i : Nat) (h1 : Hp), l.length - i < k → i ≤ l.length → Ext hb h1 → quintetlaw14_NestPairs_l1 A l.length c ⟨h.size, 0, none⟩ K0 k (((l.take i).filter fun r => r.has g).length : Int) (i : Int) h1 := by
    intro K0 HK k
    induction k with
    | zero => intro i h hk; omega
    | succ k ih =>
      intro i h1 hk hi e
      unfold quintetlaw14_NestPairs_l1
      refine br_i (fun q => ?_) (fun q => ?_)
      · have hlt : i < l.length := by simpa using q
        have hx := List.getElem?_eq_getElem hlt
        generalize l[i] = x at hx
        have hst := filt1 hx fun r => r.has g
        have hle := filtle l i fun r => r.has g
        have ih' := fun h2 e2 => ih (i + 1) h2 (by omega) (by omega) e2
        rw [hst] at ih'
        obtain ⟨a, hix, hcl⟩ := ixRu (c := c) (rs.ext (eb.trans e)) hx
        refine ⟨_, hix, _, _, _, _, _, _, _, _, _, _, _, _, ldS (vs := x.enc) hcl (by kernel_rfl), _, _, _, _, _, ldS (vs := g.enc) (cb.ext e) (by kernel_rfl), rule_Match_s x g fun v h2 e2 hv => ⟨_, rfl, ?_⟩⟩
        subst hv
        rw [wrapN (i := i) (by omega), wrapN (by omega)]
        have := ih' h2 (e.trans e2)
        refine br_i (fun u => ?_) (fun u => ?_)
        · rw [if_pos u] at this
          exact this
        · rw [if_neg (by rw [u]; decide), Nat.add_zero] at this
          exact this
      · have hi' : i = l.length := by simp at q; omega
        subst hi'
        rw [List.take_length]
        exact HK h1 e
  refine ⟨l.length + 1, key _ (fun h1 e1 => ?_) (l.length + 1) 0 hb (by omega) (by omega) (Ext.refl _)⟩
  refine ⟨_, _, _, _, _, ldS (vs := g.enc) (cb.ext e1) (by kernel_rfl), Pairs_s g (rs.ext (eb.trans e1)) (by omega) fun h2 e2 => ⟨_, rfl, awake_s fun h3 e3 => ⟨_, rfl, br_t rfl ?_⟩⟩⟩
  have h1 : (l.filter fun r => r.has g).length ≤ pairsN l g := by
    unfold pairsN
    rw [← List.countP_eq_length_filter, ← List.countP_eq_length_filter]
    refine List.countP_mono_left fun x _ hx => ?_
    unfold Rul.has at hx
    unfold pairB
    simp only [Bool.and_eq_true] at hx ⊢
    exact ⟨hx.1.1.1.1.1 |> fun a => ⟨a, hx.1.1.1.1.2⟩, hx.1.1.1.2⟩
  have h2 : pairsN l g ≤ l.length := List.length_filter_le _ _
  refine br_t (by simpa using h1) ?_
  rw [decide_eq_true (by omega)]
  exact H h3 (((eb.trans e1).trans e2).trans e3)
end Go.Proofs.Ytmgbbedbilefaaa.Fs
