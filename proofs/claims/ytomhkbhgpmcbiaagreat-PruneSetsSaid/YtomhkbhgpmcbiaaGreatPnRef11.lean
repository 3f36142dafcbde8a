/- The document's list of rules: Find, Insert, Delete, Set, Copy, Match. -/
import Derived.Test.YtomhkbhgpmcbiaaGreatRf14
import Derived.Test.YtomhkbhgpmcbiaaGreatPnRun
import Derived.Test.YtomhkbhgpmcbiaaGreatSxCut
namespace Go.Proofs.YtomhkbhgpmcbiaaGreat.Fs
open Go Go.RowKit Go.Proofs.YtomhkbhgpmcbiaaGreat.Sx Go.Proofs.YtomhkbhgpmcbiaaGreat.Uq
set_option linter.unusedVariables false
set_option linter.unusedSimpArgs false
set_option maxRecDepth 10000
theorem app_cut {h0 h : Hp} {A B : Option Addr} {c cx m : Nat} {xs ys : List Rul} {K : Value → Hp → Prop} (e : Ext h0 h) (r : RowR h A c xs) (hF : Fresh h0 A) (hm : ys.length = m) (rB : RSl h B m 12 (ys.flatMap Rul.enc)) (hl : xs.length + m ≤ 1000000000)
    (H : ∀ h' A' c', Ext h0 h' → RowR h' A' c' (xs ++ ys) → Fresh h0 A' → Fr (blk A) h h' → K (.slice A' (xs ++ ys).length c') h') :
    HW Tryz.prog (Builtin.append_ #[42, 42] 42 #[.slice A xs.length c, .slice B m cx]) h K := by
  obtain ⟨i, z, hi, hs, hb, hz, hc⟩ := info_ru
  exact appCut (z := z) Rul.enc_len Rul.flat und_rus hi hz (by rw [hc]; rfl) hs (by omega) (by omega) e r hF hm rB hl H
theorem cut_hi {A : Option Addr} {l c n : Nat} (hn : n ≤ c) : PV Tryz.prog (Instr.sliceAt 42 (.slice A l c) none (some (.int .i64 (n : Int))) none) (.slice A n c) := by
  obtain ⟨i, z, hi, hs, hb, hz, hc⟩ := info_ru
  exact cutHi und_rus hi hn
theorem cut_lo {A : Option Addr} {l c n : Nat} (hn : n ≤ l) : PV Tryz.prog (Instr.sliceAt 42 (.slice A l c) (some (.int .i64 (n : Int))) none none) (.slice (if c = n then A else A.map (·.add (n * 12))) (l - n) (c - n)) := by
  obtain ⟨i, z, hi, hs, hb, hz, hc⟩ := info_ru
  exact cutLo und_rus hi hs hn
section
variable {h0 : Hp} {A : Option Addr} {c : Nat} {l : List Rul} (r : RSl h0 A l.length 12 (l.flatMap Rul.enc)) (hl : l.length ≤ 1000000)
include r hl
theorem refFind_s (id : Int) {K : Value → Hp → Prop} (H : K (.int .i64 (findI l id)) h0) : CallsH Tryz.prog 46 #[.slice A l.length c, .int .i64 id] h0 K := by
  refine quintetref11_Find_ok _ _ _ _ ?_
  unfold quintetref11_Find
  have key : ∀ d k, k + d = l.length → (∀ x, x ∈ l.take k → x.id ≠ id) → quintetref11_Find_l1 A l.length c id (fun x h => K (.int .i64 x) h) (fun h => K (.int .i64 (-1)) h) (d + 1) (k : Int) h0 := by
    intro d
    induction d with
    | zero =>
      intro k hk hn
      unfold quintetref11_Find_l1
      rw [List.take_of_length_le (by omega)] at hn
      refine br_f (by simp; omega) ?_
      rw [find_no hn] at H
      exact H
    | succ d ih =>
      intro k hk hn
      unfold quintetref11_Find_l1
      have hkl : k < l.length := by omega
      have hx : l[k]? = some l[k] := List.getElem?_eq_getElem hkl
      obtain ⟨a, hix, hcl⟩ := ixRu (c := c) r hx
      refine br_t (by simp; omega) ⟨_, hix, _, ld hcl.head (by kernel_rfl), br_i (fun u => ?_) (fun u => ?_)⟩
      · have hf : findI l id = (k : Int) := by
          unfold findI
          have : l.findIdx? (fun r => r.id == id) = some k := by
            rw [List.findIdx?_eq_some_iff_getElem]
            refine ⟨hkl, u, fun j hj => ?_⟩
            have := hn l[j] (List.mem_of_getElem? (i := j) (by rw [List.getElem?_take, if_pos hj]; exact List.getElem?_eq_getElem (by omega)))
            simpa using this
          rw [this]
        rw [hf] at H
        exact H
      · rw [wrapN (by omega)]
        refine ih (k + 1) (by omega) fun x hx' => ?_
        rw [tk1 hx] at hx'
        rcases List.mem_append.1 hx' with h | h
        · exact hn x h
        · rw [List.mem_singleton.1 h]; simpa using u
  exact ⟨l.length + 1, key l.length 0 (by omega) (fun x hx => by simp at hx)⟩
theorem refIns_s (hc : l.length ≤ c) (cf : Cfg) (p : Int) (x : Rul) (hx : x.wf) {K : Value → Hp → Prop}
    (H0 : (insI cf l p x).1 ≠ 0 → ∀ h', Ext h0 h' → K (.tuple #[.slice A l.length c, .int .i64 (insI cf l p x).1]) h')
    (H1 : (insI cf l p x).1 = 0 → ∀ h' A' c', Ext h0 h' → RowR h' A' c' (insI cf l p x).2 → Fresh h0 A' → K (.tuple #[.slice A' (insI cf l p x).2.length c', .int .i64 0]) h') :
    CallsH Tryz.prog 20 #[.slice A l.length c, .int .i64 cf.max, .int .i64 p, x.val] h0 K := by
  refine quintetref11_Insert_ok _ _ _ _ _ _ _ _ _ _ _ _ _ _ _ _ _ ?_
  unfold quintetref11_Insert
  refine newC_i (cs := x.enc) fun h1 e1 c1 b1 z1 => ⟨_, _, _, _, _, _, _, _, _, _, _, _, ldS (vs := x.enc) c1 (by kernel_rfl), ?_⟩
  refine ref08_Check_s x hx fun h2 e2 => ⟨_, _, rfl, ?_⟩
  have e02 := e1.trans e2
  unfold insI takesI at H0 H1
  refine br_i (fun u => ?_) (fun u => ?_)
  · have u : x.check.1 ≠ 0 := by simpa using u
    rw [if_pos u, if_pos u] at H0
    exact H0 u h2 e02
  · have u : ¬ x.check.1 ≠ 0 := by simpa using u
    rw [if_neg u] at H0 H1
    refine ⟨_, ld (c1.ext e2).head (by kernel_rfl), refFind_s (c := c) (r.ext e02) hl x.id ⟨_, rfl, br_i (fun v => ?_) (fun v => ?_)⟩⟩
    · have v : findI l x.id ≥ 0 := by simpa using v
      rw [if_pos v, if_pos (by decide)] at H0
      exact H0 (by show (111 : Int) ≠ 0; decide) h2 e02
    · have v : ¬ findI l x.id ≥ 0 := by simpa using v
      rw [if_neg v, if_neg (by decide)] at H0 H1
      refine br_i (fun w => ?_) (fun w => br_i (fun w2 => ?_) (fun w2 => ?_))
      · rw [if_pos (by simp at w; omega)] at H0
        exact H0 (by show (112 : Int) ≠ 0; decide) h2 e02
      · rw [if_pos (by simp at w2; omega)] at H0
        exact H0 (by show (112 : Int) ≠ 0; decide) h2 e02
      · have w : ¬ p < 0 := by simpa using w
        have w2 : ¬ p > l.length := by simpa using w2
        rw [if_neg (by omega)] at H0 H1
        refine br_i (fun w3 => ?_) (fun w3 => ?_)
        · rw [if_pos (by simpa using w3)] at H0
          exact H0 (by show (113 : Int) ≠ 0; decide) h2 e02
        · rw [if_neg (by simpa using w3)] at H1
          obtain ⟨n, rfl⟩ := Int.eq_ofNat_of_zero_le (show 0 ≤ p by omega)
          rw [Int.toNat_natCast] at H1
          have hn : n ≤ l.length := by omega
          unfold quintetref11_Insert_j1
          refine ⟨_, _, _, cut_hi (by omega), ?_⟩
          refine app_cut (xs := []) (ys := l.take n) e02 RowC.nil (Fresh.none _) (by rw [List.length_take]; omega) (rslTake Rul.enc_len (r.ext e02) rfl hn) (by simp; omega) fun h3 A3 c3 e3 r3 f3 fr3 => ⟨_, _, _, rfl, ?_⟩
          rw [List.nil_append] at r3
          have c13 : Cl h3 ⟨h0.size, 0, none⟩ x.enc := fr3.cl (c1.ext e2) (fun ⟨a, ha, _⟩ => by cases ha)
          refine ⟨_, _, _, _, _, _, _, _, _, _, _, _, ldS (vs := x.enc) c13 (by kernel_rfl), newC_i (cs := x.enc) fun h4 e4 c4 b4 z4 => ?_⟩
          rw [List.nil_append]
          refine app_rF (x := x) (e3.trans e4) (r3.ext e4) f3 c4 (by rw [List.length_take]; omega) fun h5 A5 c5 e5 r5 f5 fr5 => ⟨_, _, _, rfl, ?_⟩
          refine ⟨_, _, _, cut_lo hn, ?_⟩
          refine app_cut (ys := l.drop n) e5 r5 f5 (by rw [List.length_drop]) (rslLo Rul.enc_len (r.ext e5) rfl hc hn) (by rw [List.length_append, List.length_take, List.length_singleton]; omega) fun h6 A6 c6 e6 r6 f6 fr6 => ⟨_, _, _, rfl, ?_⟩
          have e : l.take n ++ [x] ++ l.drop n = l.take n ++ x :: l.drop n := by simp
          rw [e] at r6 ⊢
          exact H1 rfl h6 A6 c6 e6 r6 f6
theorem refDel_s (hc : l.length ≤ c) (id : Int) {K : Value → Hp → Prop}
    (H0 : (delI l id).1 ≠ 0 → ∀ h', Ext h0 h' → K (.tuple #[.slice A l.length c, .int .i64 (delI l id).1]) h')
    (H1 : (delI l id).1 = 0 → ∀ h' A' c', Ext h0 h' → RowR h' A' c' (delI l id).2 → Fresh h0 A' → K (.tuple #[.slice A' (delI l id).2.length c', .int .i64 0]) h') :
    CallsH Tryz.prog 22 #[.slice A l.length c, .int .i64 id] h0 K := by
  refine quintetref11_Delete_ok _ _ _ _ ?_
  unfold quintetref11_Delete
  refine refFind_s (c := c) r hl id ⟨_, rfl, ?_⟩
  unfold delI at H0 H1
  refine br_i (fun u => ?_) (fun u => ?_)
  · have u : findI l id < 0 := by simpa using u
    rw [if_pos u] at H0
    exact H0 (by show (114 : Int) ≠ 0; decide) h0 (Ext.refl _)
  · have u : ¬ findI l id < 0 := by simpa using u
    rw [if_neg u] at H1
    obtain ⟨n, hn, hnl, _⟩ := findI_lt l id (by omega)
    rw [hn] at H1 ⊢
    rw [Int.toNat_natCast] at H1
    refine ⟨_, _, _, cut_hi (by omega), ?_⟩
    refine app_cut (xs := []) (ys := l.take n) (Ext.refl h0) RowC.nil (Fresh.none _) (by rw [List.length_take]; omega) (rslTake Rul.enc_len r rfl (by omega)) (by simp; omega) fun h3 A3 c3 e3 r3 f3 fr3 => ⟨_, _, _, rfl, ?_⟩
    rw [wrapN (by omega), List.nil_append]
    rw [List.nil_append] at r3
    refine ⟨_, _, _, cut_lo (by omega), ?_⟩
    refine app_cut (ys := l.drop (n + 1)) e3 r3 f3 (by rw [List.length_drop]) (rslLo Rul.enc_len (r.ext e3) rfl hc (by omega)) (by rw [List.length_take]; omega) fun h6 A6 c6 e6 r6 f6 fr6 => ⟨_, _, _, rfl, ?_⟩
    exact H1 rfl h6 A6 c6 e6 r6 f6
theorem refSet_s (hc : l.length ≤ c) (hwf : ∀ x, x ∈ l → x.wf) (cf : Cfg) {K : Value → Hp → Prop} (H : ∀ h', Ext h0 h' → K (.int .i64 (setI cf.max [] l 0)) h') : CallsH Tryz.prog 26 #[.slice A l.length c, .int .i64 cf.max] h0 K := by
  refine quintetref11_Set_ok _ _ _ _ ?_
  unfold quintetref11_Set
  have key : ∀ d k h, k + d = l.length → Ext h0 h → setI cf.max (l.take k) (l.drop k) k = setI cf.max [] l 0 → quintetref11_Set_l1 A l.length c cf.max (fun x h => K (.int .i64 x) h) (fun h => K (.int .i64 0) h) (d + 1) (k : Int) h := by
    intro d
    induction d with
    | zero =>
      intro k h hk e hn
      unfold quintetref11_Set_l1
      refine br_f (by simp; omega) ?_
      have := H h e
      rw [← hn, List.drop_of_length_le (by omega)] at this
      exact this
    | succ d ih =>
      intro k h hk e hn
      unfold quintetref11_Set_l1
      have hkl : k < l.length := by omega
      have hx : l[k]? = some l[k] := List.getElem?_eq_getElem hkl
      have hdrop : l.drop k = l[k] :: l.drop (k + 1) := List.drop_eq_getElem_cons hkl
      rw [hdrop, setI] at hn
      generalize l[k] = x at hx hn
      obtain ⟨a, hix, hcl⟩ := ixRu (c := c) (r.ext e) hx
      refine br_t (by simp; omega) ⟨_, hix, _, _, _, _, _, _, _, _, _, _, _, _, ldS (vs := x.enc) hcl (by kernel_rfl), ?_⟩
      refine ref08_Check_s x (hwf x (List.mem_of_getElem? hx)) fun h1 e1 => ⟨_, _, rfl, ?_⟩
      have e01 := e.trans e1
      unfold takesI at hn
      refine br_i (fun u => ?_) (fun u => ?_)
      · have u : x.check.1 ≠ 0 := by simpa using u
        rw [if_pos u, if_pos u] at hn
        have := H h1 e01
        rw [← hn] at this
        exact this
      · have u : ¬ x.check.1 ≠ 0 := by simpa using u
        rw [if_neg u] at hn
        refine ⟨_, _, _, cut_hi (by omega), _, hix, _, ld (hcl.ext e1).head (by kernel_rfl), ?_⟩
        have hlk : (l.take k).length = k := by rw [List.length_take]; omega
        have rk : RSl h1 A (l.take k).length 12 ((l.take k).flatMap Rul.enc) := by
          rw [hlk]
          exact rslTake Rul.enc_len (r.ext e01) rfl (n := k) (by omega)
        have hf := refFind_s (c := c) rk (by omega) x.id (K := fun r51 h50 => ∃ x52 : Int, r51 = (.int .i64 x52) ∧ br (decide (x52 ≥ 0)) (K (.int .i64 111) h50) (br (decide ((k : Int) ≥ cf.max)) (K (.int .i64 113) h50) (quintetref11_Set_l1 A l.length c cf.max (fun x h => K (.int .i64 x) h) (fun h => K (.int .i64 0) h) (d + 1) (IntKind.i64.wrap ((k : Int) + 1)) h50))) ⟨_, rfl, br_i (fun v => ?_) (fun v => ?_)⟩
        · rw [hlk] at hf; exact hf
        · have v : findI (l.take k) x.id ≥ 0 := by simpa using v
          rw [if_pos v, if_pos (by decide)] at hn
          have := H h1 e01
          rw [← hn] at this
          exact this
        · have v : ¬ findI (l.take k) x.id ≥ 0 := by simpa using v
          rw [if_neg v, if_neg (by decide)] at hn
          refine br_i (fun w => ?_) (fun w => ?_)
          · rw [if_pos (by simpa using w)] at hn
            have := H h1 e01
            rw [← hn] at this
            exact this
          · rw [if_neg (by simpa using w), ← tk1 hx] at hn
            rw [wrapN (by omega)]
            exact ih (k + 1) h1 (by omega) e01 hn
  exact ⟨l.length + 1, key l.length 0 h0 (by omega) (Ext.refl _) (by simp)⟩
theorem refCopy_s {K : Value → Hp → Prop} (H : ∀ h', Ext h0 h' → RowR h' (some ⟨h0.size, 0, none⟩) l.length l → K (.slice (some ⟨h0.size, 0, none⟩) l.length l.length) h') : CallsH Tryz.prog 25 #[.slice A l.length c] h0 K := by
  refine quintetref11_Copy_ok _ _ _ ?_
  unfold quintetref11_Copy
  obtain ⟨i, z, hi, hs, hb, hz, hzc⟩ := info_ru
  refine HW_makeRow (enc := Rul.enc) (zr := zRul) und_rus hi hz hs (by omega) (by rw [hzc]; rfl) Rul.enc_len (by rw [hb]; omega) (by omega) fun h1 e1 r1 => ⟨_, _, _, rfl, ?_⟩
  refine HW_copyFrom' (enc := Rul.enc) Rul.enc_len Rul.flat und_rus hi hs r1 (by simp) rfl (r.ext e1) fun h2 r2 f2 z2 => ⟨_, rfl, ?_⟩
  exact H h2 (extOwn e1 f2 (fun k hk => by rw [blk_one hk]; exact Nat.le_refl _)) ⟨r2, by omega⟩
theorem refMatch_s (hwf : ∀ x, x ∈ l → x.wf) (d : Int) (g : Hdr) (hg : g.wf) {K : Value → Hp → Prop} (H : ∀ h' n, Ext h0 h' → K (.tuple #[vrd (fstI l d g), .int .i64 n]) h') : CallsH Tryz.prog 49 #[.slice A l.length c, .int .i64 d, g.val] h0 K := by
  refine quintetref11_Match_ok _ _ _ _ _ _ _ _ _ ?_
  unfold quintetref11_Match
  refine newC_i (cs := g.enc) fun h1 e1 c1 b1 z1 => newC_i (cs := verd (false, 0, 0)) fun h2 e2 c2 b2 z2 => ⟨l.length + 1, ?_⟩
  have e02 := e1.trans e2
  have put : ∀ (v : Bool × Int × Int) (n : Int) h, Ext h2 h → v = fstI l d g → HU Tryz.prog (Instr.storeAt 62 (.pointer (some ⟨h1.size, 0, none⟩)) (.agg #[.bool v.1, .int .i64 v.2.1, .int .i64 v.2.2])) h fun h' => ∃ b76 : Bool, ∃ x77 : Int, ∃ x78 : Int, HV Tryz.prog (Instr.loadAt 62 (.pointer (some ⟨h1.size, 0, none⟩))) h' (.agg #[(.bool b76), (.int .i64 x77), (.int .i64 x78)]) ∧ K (.tuple #[(.agg #[(.bool b76), (.int .i64 x77), (.int .i64 x78)]), (.int .i64 n)]) h' := fun v n h e hv => by
    refine HU_box (us := verd v) ((e.fr (fun _ => False)).get b2 (fun h => h)) rfl rfl (by kernel_rfl) rfl fun h3 c3 b3 f3 z3 => ⟨_, _, _, ldS (vs := verd v) c3 (by kernel_rfl), ?_⟩
    have s2 := e2.size
    have s1 := e1.size
    have := H h3 n ⟨by have := e.size; omega, fun k hk => by rw [f3.keep k (by have := e.size; omega) (by omega), e.old k (by omega), e02.old k hk]⟩
    rw [← hv] at this
    exact this
  have key : ∀ dd k h, k + dd = l.length → Ext h2 h → (∀ x, x ∈ l.take k → x.has g = false) → quintetref11_Match_l1 A l.length c d ⟨h0.size, 0, none⟩ ⟨h1.size, 0, none⟩
      (fun (a73 : Addr) (x74 : Int) (h75 : Hp) => ∃ b76 : Bool, ∃ x77 : Int, ∃ x78 : Int, HV Tryz.prog (Instr.loadAt 62 (.pointer (some a73))) h75 (.agg #[(.bool b76), (.int .i64 x77), (.int .i64 x78)]) ∧ K (.tuple #[(.agg #[(.bool b76), (.int .i64 x77), (.int .i64 x78)]), (.int .i64 x74)]) h75)
      (fun (x79 : Int) (a80 : Addr) (h81 : Hp) => HU Tryz.prog (Instr.storeAt 62 (.pointer (some a80)) (.agg #[(.bool false), (.int .i64 0), (.int .i64 x79)])) h81 fun h82 => ∃ b83 : Bool, ∃ x84 : Int, ∃ x85 : Int, HV Tryz.prog (Instr.loadAt 62 (.pointer (some a80))) h82 (.agg #[(.bool b83), (.int .i64 x84), (.int .i64 x85)]) ∧ K (.tuple #[(.agg #[(.bool b83), (.int .i64 x84), (.int .i64 x85)]), (.int .i64 (-1))]) h82) (dd + 1) (k : Int) h := by
    intro dd
    induction dd with
    | zero =>
      intro k h hk e hn
      unfold quintetref11_Match_l1
      rw [List.take_of_length_le (by omega)] at hn
      exact br_f (by simp; omega) (put (false, 0, d) (-1) h e (fstI_none hn).symm)
    | succ dd ih =>
      intro k h hk e hn
      unfold quintetref11_Match_l1
      have hkl : k < l.length := by omega
      have hx : l[k]? = some l[k] := List.getElem?_eq_getElem hkl
      have hdrop : l.drop k = l[k] :: l.drop (k + 1) := List.drop_eq_getElem_cons hkl
      have hfk : l[k].has g = true → fstI l d g = (true, l[k].id, l[k].act) := fun hh => by
        have : l.find? (fun r => r.has g) = some l[k] := by
          conv => lhs; rw [← List.take_append_drop k l, hdrop]
          rw [List.find?_append, List.find?_cons, hh]
          have hnone : (l.take k).find? (fun r => r.has g) = none := by
            rw [List.find?_eq_none]
            intro x hx
            rw [hn x hx]; decide
          rw [hnone]; rfl
        unfold fstI
        rw [this]
      generalize l[k] = x at hx hfk
      obtain ⟨a, hix, hcl⟩ := ixRu (c := c) (r.ext (e02.trans e)) hx
      refine br_t (by simp; omega) ⟨_, hix, _, _, _, _, _, _, _, _, _, _, _, _, ldS (vs := x.enc) hcl (by kernel_rfl), _, _, _, _, _, ldS (vs := g.enc) ((c1.ext e2).ext e) (by kernel_rfl), ?_⟩
      refine ref08_Match_s x (hwf x (List.mem_of_getElem? hx)) g hg fun h3 e3 => ⟨_, rfl, br_i (fun u => ?_) (fun u => ?_)⟩
      · refine ⟨_, hix, _, ld (hcl.ext e3).head (by kernel_rfl), _, hix, _, ld ((hcl.ext e3).at_ 11 _ rfl) (by kernel_rfl), ?_⟩
        exact put (true, x.id, x.act) (k : Int) h3 (e.trans e3) (hfk u).symm
      · rw [wrapN (by omega)]
        refine ih (k + 1) h3 (by omega) (e.trans e3) fun y hy => ?_
        rw [tk1 hx] at hy
        rcases List.mem_append.1 hy with h' | h'
        · exact hn y h'
        · rw [List.mem_singleton.1 h']; exact u
  exact key l.length 0 h2 (by omega) (Ext.refl _) (fun x hx => by simp at hx)
end
end Go.Proofs.YtomhkbhgpmcbiaaGreat.Fs
