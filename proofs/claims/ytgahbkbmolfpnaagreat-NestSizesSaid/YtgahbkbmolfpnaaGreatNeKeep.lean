/- Lists of rules lent and back (a cut of wip/prune/XPnKeep). -/
import Derived.Test.YtgahbkbmolfpnaaGreatNeSz
import Derived.Test.YtgahbkbmolfpnaaGreatSxCut
import Derived.Test.YtgahbkbmolfpnaaGreatFsE
namespace Go.Proofs.YtgahbkbmolfpnaaGreat.Fs
open Go Go.RowKit Go.Proofs.YtgahbkbmolfpnaaGreat.Sx Go.Proofs.YtgahbkbmolfpnaaGreat.Uq
set_option linter.unusedVariables false
set_option linter.unusedSimpArgs false
set_option maxRecDepth 10000
def zRul : Rul := ⟨0, 0, 0, 0, 0, 0, 0, 0, 0, 0, 0, 0⟩
theorem cut_hi {A : Option Addr} {l c n : Nat} (hn : n ≤ c) : PV Tryz.prog (Instr.sliceAt 22 (.slice A l c) none (some (.int .i64 (n : Int))) none) (.slice A n c) := by
  obtain ⟨i, z, hi, hs, hb, hz, hc⟩ := info_ru
  exact cutHi und_rus hi hn
def markR (n : Int) : Rul := ⟨IntKind.i64.wrap ((-7) - n), 0, 0, 0, 0, 0, 0, 0, 0, 0, 0, 77⟩
theorem mark_s (n : Int) {h : Hp} {K : Value → Hp → Prop} (H : ∀ h', Ext h h' → K (markR n).val h') : CallsH Tryz.prog 19 #[.int .i64 n] h K := by
  refine quintetkeep_mark_ok _ ?_
  unfold quintetkeep_mark
  refine newC_i (cs := zRul.enc) fun h1 e1 c1 b1 z1 => ?_
  refine HU_box (us := (markR n).enc) b1 rfl rfl size_ru rfl fun h2 c2 b2 f2 z2 => ?_
  exact ⟨_, _, _, _, _, _, _, _, _, _, _, _, ldS (vs := (markR n).enc) c2 (by kernel_rfl), H h2 ⟨by omega, fun k hk => by rw [f2.keep k (by omega) (by omega), e1.old k hk]⟩⟩
theorem eqRr (r : Rul) : PV Tryz.prog (binOp .eql 49 r.val r.val) (.bool true) := by
  intro w
  unfold Rul.val
  rw [run_eql_struct, run_equalIn_struct w 9999 49 _ _ (by kernel_rfl) (by kernel_rfl)]
  simp [go_sem]
theorem neRr (r : Rul) : PV Tryz.prog (binOp .neq 49 r.val r.val) (.bool false) := by
  intro w
  unfold Rul.val
  rw [run_neq_struct, run_equalIn_struct w 9999 49 _ _ (by kernel_rfl) (by kernel_rfl)]
  simp [go_sem]
theorem Same_s {A B : Option Addr} {c d : Nat} {l : List Rul} {h : Hp} (ra : RSl h A l.length 12 (l.flatMap Rul.enc)) (rb : RSl h B l.length 12 (l.flatMap Rul.enc)) (hl : l.length ≤ 100000000) {K : Value → Hp → Prop} (H : K (.bool true) h) :
    CallsH Tryz.prog 33 #[.slice A l.length c, .slice B l.length d] h K := by
  refine quintetkeep_Same_ok _ _ _ _ _ _ ?_
  unfold quintetkeep_Same
  refine br_f (by simp) ⟨l.length + 1, ?_⟩
  have key : ∀ n k, k + n = l.length → quintetkeep_Same_l1 A l.length c B l.length d (fun b h => K (.bool b) h) (fun h => K (.bool true) h) (n + 1) (k : Int) h := by
    intro n
    induction n with
    | zero =>
      intro k hk
      unfold quintetkeep_Same_l1
      exact br_f (by simp; omega) H
    | succ n ih =>
      intro k hk
      unfold quintetkeep_Same_l1
      have hx : l[k]? = some (l[k]'(by omega)) := List.getElem?_eq_getElem (by omega)
      generalize l[k]'(by omega) = x at hx
      obtain ⟨a, hix, hcl⟩ := ixRu (c := c) ra hx
      obtain ⟨a', hix', hcl'⟩ := ixRu (c := d) rb hx
      refine br_t (by simp; omega) ⟨_, hix, _, _, _, _, _, _, _, _, _, _, _, _, ldS (vs := x.enc) hcl (by kernel_rfl), _, hix', _, _, _, _, _, _, _, _, _, _, _, _, ldS (vs := x.enc) hcl' (by kernel_rfl), _, neRr x, br_f rfl ?_⟩
      rw [wrapN (by omega)]
      exact ih (k + 1) (by omega)
  exact key l.length 0 (by omega)
/-- The head of a row is filled. -/
theorem copy_head {h : Hp} {g c sc : Nat} {sA : Option Addr} {xs ys : List Rul} {K : Value → Hp → Prop} (r : RowR h (some ⟨g, 0, none⟩) c xs) (hl : ys.length ≤ xs.length) (rs : RSl h sA ys.length 12 (ys.flatMap Rul.enc))
    (H : ∀ h', RowR h' (some ⟨g, 0, none⟩) c (ys ++ xs.drop ys.length) → Fr (fun k => k = g) h h' → h'.size = h.size → K (.int .i64 (ys.length : Int)) h') :
    HW Tryz.prog (Builtin.copy_ #[22, 22] 3 #[.slice (some ⟨g, 0, none⟩) xs.length c, .slice sA ys.length sc]) h K := by
  obtain ⟨i, z, hi, hs, hb, hz, hzc⟩ := info_ru
  have hmin : Nat.min ys.length xs.length = ys.length := Nat.min_eq_left hl
  rcases Nat.eq_zero_or_pos ys.length with h0 | h0
  · have hy : ys = [] := List.eq_nil_of_length_eq_zero h0
    subst hy
    exact HW_copy0 und_rus hi (by simp) (H h r (Fr.refl _ _) rfl)
  · obtain ⟨a, rfl, hcl⟩ := rs.some h0
    rcases r.row with ⟨h1, _⟩ | ⟨g', rest, hA, hbk, h1, h2, h3⟩
    · cases h1
    · injection hA with hA
      injection hA with hA
      subst hA
      have hfl : (ys.flatMap Rul.enc).length = ys.length * 12 := flat_len Rul.enc_len ys
      have hfx : (xs.flatMap Rul.enc).length = xs.length * 12 := flat_len Rul.enc_len xs
      refine HW_copy (o := 0) (us := ys.flatMap Rul.enc) und_rus hi hbk hcl (by rw [hfl, hs, hmin]) (by rw [List.length_append, hfl, hfx]; omega) (List.all_eq_true.2 fun u hu => by
        obtain ⟨y, _, hy⟩ := List.mem_flatMap.1 hu
        exact List.all_eq_true.1 (Rul.flat y) u hy) ?_
      rw [hmin]
      have e : (xs.flatMap Rul.enc ++ rest).take 0 ++ ys.flatMap Rul.enc ++ (xs.flatMap Rul.enc ++ rest).drop (0 + (ys.flatMap Rul.enc).length) = (ys ++ xs.drop ys.length).flatMap Rul.enc ++ rest := by
        rw [List.take_zero, List.nil_append, Nat.zero_add, List.flatMap_append, List.append_assoc]
        congr 1
        rw [hfl, List.drop_append_of_le_length (by rw [hfx]; omega), flat_drop Rul.enc_len]
      rw [e]
      have hlen : (ys ++ xs.drop ys.length).length = xs.length := by rw [List.length_append, List.length_drop]; omega
      refine H _ ⟨.inr ⟨g, rest, rfl, setB_get (lt_of_get hbk), ?_, ?_, ?_⟩, r.cap⟩ (setB_fr rfl) setB_size
      · rw [flat_len Rul.enc_len]
      · rw [List.length_append] at h2 ⊢
        rw [flat_len Rul.enc_len, hlen]
        rw [hfx] at h2
        exact h2
      · rw [hlen]; exact h3
theorem st_ru {h : Hp} {g c : Nat} {xs : List Rul} {j : Nat} (x : Rul) {K : Hp → Prop} (r : RowR h (some ⟨g, 0, none⟩) c xs) (hj : j < xs.length) (H : ∀ h', RowR h' (some ⟨g, 0, none⟩) c (xs.set j x) → Fr (fun k => k = g) h h' → h'.size = h.size → K h') : HU Tryz.prog (Instr.storeAt 49 (.pointer (some ⟨g, j * 12, none⟩)) x.val) h K :=
  HU_elem (x := x) Rul.enc_len Rul.flat r.row hj rfl size_ru fun h' r' f z => H h' ⟨r', r.cap⟩ f z
theorem ix_ru {g l c i : Nat} (h1 : i < l) : PV Tryz.prog (Instr.indexAt 22 (.slice (some ⟨g, 0, none⟩) l c) (.int .i64 (i : Int))) (.pointer (some ⟨g, i * 12, none⟩)) := ix0 h1 und_rus size_ru
theorem Lend_s {A : Option Addr} {c : Nat} {l : List Rul} {h : Hp} (r : RSl h A l.length 12 (l.flatMap Rul.enc)) (hl : l.length ≤ 100000000) {K : Value → Hp → Prop}
    (H : ∀ h' g, Ext h h' → h.size ≤ g → RowR h' (some ⟨g, 0, none⟩) (l.length + 2) (l ++ [markR 0, markR 1]) → K (.slice (some ⟨g, 0, none⟩) l.length (l.length + 2)) h') :
    CallsH Tryz.prog 5 #[.slice A l.length c] h K := by
  refine quintetkeep_Lend_ok _ _ _ ?_
  unfold quintetkeep_Lend
  obtain ⟨i, z, hi, hs, hb, hz, hzc⟩ := info_ru
  have w2 : IntKind.i64.wrap ((l.length : Int) + 2) = ((l.length + 2 : Nat) : Int) := by rw [wrap_in (by omega) (by omega)]; omega
  rw [w2]
  refine HW_makeRow (enc := Rul.enc) (zr := zRul) und_rus hi hz hs (by omega) (by rw [hzc]; rfl) Rul.enc_len (by rw [hb]; omega) (by omega) fun h1 e1 r1 => ⟨_, _, _, rfl, ?_⟩
  have r1 : RowR h1 (some ⟨h.size, 0, none⟩) (l.length + 2) (List.replicate (l.length + 2) zRul) := ⟨r1, by omega⟩
  have hrl : (List.replicate (l.length + 2) zRul).length = l.length + 2 := List.length_replicate
  have hc := copy_head (sc := c) r1 (by rw [hrl]; omega) (r.ext e1) (K := fun r6 h5 => ∃ x7 : Int, r6 = (.int .i64 x7) ∧ CallsH Tryz.prog 19 #[(.int .i64 0)] h5 fun r9 h8 =>
    ∃ x10 : Int, ∃ x11 : Int, ∃ x12 : Int, ∃ x13 : Int, ∃ x14 : Int, ∃ x15 : Int, ∃ x16 : Int, ∃ x17 : Int, ∃ x18 : Int, ∃ x19 : Int, ∃ x20 : Int, ∃ x21 : Int, r9 = (.agg #[(.int .i64 x10), (.int .u32 x11), (.int .i64 x12), (.int .u32 x13), (.int .i64 x14), (.int .u16 x15), (.int .u16 x16), (.int .u16 x17), (.int .u16 x18), (.int .u8 x19), (.int .u8 x20), (.int .i64 x21)]) ∧ 
    ∃ a22 : Addr, PV Tryz.prog (Instr.indexAt 22 (.slice (some ⟨h.size, 0, none⟩) (l.length + 2) (l.length + 2)) (.int .i64 (l.length : Int))) (.pointer (some a22)) ∧
    HU Tryz.prog (Instr.storeAt 49 (.pointer (some a22)) (.agg #[(.int .i64 x10), (.int .u32 x11), (.int .i64 x12), (.int .u32 x13), (.int .i64 x14), (.int .u16 x15), (.int .u16 x16), (.int .u16 x17), (.int .u16 x18), (.int .u8 x19), (.int .u8 x20), (.int .i64 x21)])) h8 fun h23 => 
    CallsH Tryz.prog 19 #[(.int .i64 1)] h23 fun r25 h24 =>
    ∃ x26 : Int, ∃ x27 : Int, ∃ x28 : Int, ∃ x29 : Int, ∃ x30 : Int, ∃ x31 : Int, ∃ x32 : Int, ∃ x33 : Int, ∃ x34 : Int, ∃ x35 : Int, ∃ x36 : Int, ∃ x37 : Int, r25 = (.agg #[(.int .i64 x26), (.int .u32 x27), (.int .i64 x28), (.int .u32 x29), (.int .i64 x30), (.int .u16 x31), (.int .u16 x32), (.int .u16 x33), (.int .u16 x34), (.int .u8 x35), (.int .u8 x36), (.int .i64 x37)]) ∧ 
    ∃ a38 : Addr, PV Tryz.prog (Instr.indexAt 22 (.slice (some ⟨h.size, 0, none⟩) (l.length + 2) (l.length + 2)) (.int .i64 (IntKind.i64.wrap ((l.length : Int) + 1)))) (.pointer (some a38)) ∧
    HU Tryz.prog (Instr.storeAt 49 (.pointer (some a38)) (.agg #[(.int .i64 x26), (.int .u32 x27), (.int .i64 x28), (.int .u32 x29), (.int .i64 x30), (.int .u16 x31), (.int .u16 x32), (.int .u16 x33), (.int .u16 x34), (.int .u8 x35), (.int .u8 x36), (.int .i64 x37)])) h24 fun h39 => 
    ∃ A40 : Option Addr, ∃ l40 : Nat, ∃ c40 : Nat, PV Tryz.prog (Instr.sliceAt 22 (.slice (some ⟨h.size, 0, none⟩) (l.length + 2) (l.length + 2)) none (some (.int .i64 (l.length : Int))) none) (.slice A40 l40 c40) ∧ K (.slice A40 l40 c40) h39) (fun h2 r2 f2 z2 => ⟨_, rfl, ?_⟩)
  · rw [hrl] at hc; exact hc
  have d2 : (List.replicate (l.length + 2) zRul).drop l.length = [zRul, zRul] := by rw [List.drop_replicate]; rw [show l.length + 2 - l.length = 2 by omega]; rfl
  rw [d2] at r2
  have s1 := e1.size
  have e2 : Ext h h2 := extOwn e1 f2 (fun k hk => by omega)
  refine mark_s 0 fun h3 e3 => ⟨_, _, _, _, _, _, _, _, _, _, _, _, rfl, _, ix_ru (by omega), ?_⟩
  refine st_ru (markR 0) (r2.ext e3) (by simp) fun h4 r4 f4 z4 => ?_
  have s3 := e3.size
  have e4 : Ext h h4 := extOwn (e2.trans e3) f4 (fun k hk => by omega)
  refine mark_s 1 fun h5 e5 => ⟨_, _, _, _, _, _, _, _, _, _, _, _, rfl, ?_⟩
  rw [wrapN (by omega)]
  refine ⟨_, ix_ru (by omega), ?_⟩
  refine st_ru (markR 1) (r4.ext e5) (by simp) fun h6 r6 f6 z6 => ?_
  have e6 : Ext h h6 := extOwn (e4.trans e5) f6 (fun k hk => by omega)
  refine ⟨_, _, _, cut_hi (by omega), H h6 h.size e6 (Nat.le_refl _) ?_⟩
  have e : ((l ++ [zRul, zRul]).set l.length (markR 0)).set (l.length + 1) (markR 1) = l ++ [markR 0, markR 1] := by
    rw [List.set_append_right _ _ (Nat.le_refl _), List.set_append_right _ _ (by omega)]
    simp
  rw [e] at r6
  exact r6
theorem Back_l3 {g n : Nat} {K0 : Bool → Hp → Prop} (hn : n ≤ 100000010) : ∀ (d k : Nat) (xs : List Rul) (h0 h : Hp), xs.length = n → k + d = n → RowR h (some ⟨g, 0, none⟩) n xs → Fr (fun k => k = g) h0 h → (∀ h', Fr (fun k => k = g) h0 h' → K0 true h') → quintetkeep_Back_l3 (some ⟨g, 0, none⟩) n n true K0 (d + 1) (k : Int) h := by
  intro d
  induction d with
  | zero =>
    intro k xs h0 h hx hk r f H
    unfold quintetkeep_Back_l3
    exact br_f (by simp; omega) (H h f)
  | succ d ih =>
    intro k xs h0 h hx hk r f H
    unfold quintetkeep_Back_l3
    refine br_t (by simp; omega) (mark_s 5 fun h1 e1 => ⟨_, _, _, _, _, _, _, _, _, _, _, _, rfl, _, ix_ru (by omega), ?_⟩)
    refine st_ru (markR 5) (r.ext e1) (by omega) fun h2 r2 f2 z2 => ?_
    rw [wrapN (by omega)]
    exact ih (k + 1) _ h0 h2 (by rw [List.length_set]; exact hx) (by omega) r2 ((f.trans (e1.fr _)).trans f2) H
theorem Back_s {A : Option Addr} {c g : Nat} {l : List Rul} {h : Hp} (ra : RowR h (some ⟨g, 0, none⟩) (l.length + 2) (l ++ [markR 0, markR 1])) (rb : RSl h A l.length 12 (l.flatMap Rul.enc)) (hl : l.length ≤ 100000000) {K : Value → Hp → Prop} (H : ∀ h', Fr (fun k => k = g) h h' → K (.bool true) h') :
    CallsH Tryz.prog 13 #[.slice (some ⟨g, 0, none⟩) l.length (l.length + 2), .slice A l.length c] h K := by
  refine quintetkeep_Back_ok _ _ _ _ _ _ ?_
  unfold quintetkeep_Back
  have w2 : IntKind.i64.wrap ((l.length : Int) + 2) = ((l.length + 2 : Nat) : Int) := by rw [wrap_in (by omega) (by omega)]; omega
  have w1 : IntKind.i64.wrap ((l.length : Int) + 1) = ((l.length + 1 : Nat) : Int) := by rw [wrap_in (by omega) (by omega)]; omega
  rw [w2, w1]
  refine ⟨_, _, _, cut_hi (by omega), _, ix_ru (by omega), _, _, _, _, _, _, _, _, _, _, _, _, ldS (vs := (markR 0).enc) (ra.elem0 Rul.enc_len (by simp)) (by kernel_rfl), ?_⟩
  refine mark_s 0 fun h1 e1 => ⟨_, _, _, _, _, _, _, _, _, _, _, _, rfl, ldS (vs := (markR 0).enc) ((ra.ext e1).elem0 Rul.enc_len (by simp)) (by kernel_rfl), _, eqRr _, br_t rfl ?_⟩
  refine ⟨_, ix_ru (by omega), _, _, _, _, _, _, _, _, _, _, _, _, ldS (vs := (markR 1).enc) ((ra.ext e1).elem0 Rul.enc_len (by simp)) (by kernel_rfl), ?_⟩
  refine mark_s 1 fun h2 e2 => ⟨_, _, _, _, _, _, _, _, _, _, _, _, rfl, ldS (vs := (markR 1).enc) (((ra.ext e1).ext e2).elem0 Rul.enc_len (by simp)) (by kernel_rfl), _, eqRr _, br_t rfl ?_⟩
  have e12 := e1.trans e2
  have rl : RSl h2 (some ⟨g, 0, none⟩) l.length 12 (l.flatMap Rul.enc) := by
    have hx := (ra.ext e12).read
    have := rslTake Rul.enc_len hx rfl (n := l.length) (by simp)
    rwa [List.take_left] at this
  refine Same_s rl (rb.ext e12) hl ⟨_, rfl, ?_⟩
  unfold quintetkeep_Back_j2
  refine ⟨l.length + 3, Back_l3 (by omega) (l.length + 2) 0 _ h h2 (by simp) (by omega) (ra.ext e12) (e12.fr _) fun h3 f3 => H h3 f3⟩
end Go.Proofs.YtgahbkbmolfpnaaGreat.Fs
