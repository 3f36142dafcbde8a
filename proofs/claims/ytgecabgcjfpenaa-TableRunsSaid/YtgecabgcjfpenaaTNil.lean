/- No table: each call's answer. -/
import Derived.Test.YtgecabgcjfpenaaTLaw1
import Derived.Test.YtgecabgcjfpenaaFsN
import Derived.Test.YtgecabgcjfpenaaSxNoRound
namespace Go.Proofs.Ytgecabgcjfpenaa.Fs
open Go Go.RowKit Go.Proofs.Ytgecabgcjfpenaa.Sx
set_option linter.unusedVariables false
set_option linter.unusedSimpArgs false
set_option maxRecDepth 10000
structure Opr where
  kind : Int
  place : Int
  id : Int
  rule : Rul
  head : Hdr
  A : Option Addr
  l : Nat
  c : Nat
def Opr.enc (o : Opr) : List Value := [.int .i64 o.kind, .int .i64 o.place, .int .i64 o.id] ++ o.rule.enc ++ o.head.enc ++ [.slice o.A o.l o.c]
theorem insertN (p : Int) (r : Rul) {h : Hp} {K : Value → Hp → Prop} (H : ∀ h', Ext h h' → K (.int .i64 3) h') : CallsH Try.prog 19 #[.pointer none, .int .i64 p, r.val] h K := by
  refine table_Table_Insert_ok _ _ _ _ _ _ _ _ _ _ _ _ _ _ ?_
  unfold table_Table_Insert
  exact newC_i fun h1 e1 c1 b1 z1 => ⟨_, eqNil eq27, br_t rfl (H h1 e1)⟩
theorem deleteN (p : Int) {h : Hp} {K : Value → Hp → Prop} (H : K (.int .i64 3) h) : CallsH Try.prog 23 #[.pointer none, .int .i64 p] h K := by
  refine table_Table_Delete_ok _ _ ?_
  unfold table_Table_Delete
  exact ⟨_, eqNil eq27, br_t rfl H⟩
theorem moveN (p q : Int) {h : Hp} {K : Value → Hp → Prop} (H : K (.int .i64 3) h) : CallsH Try.prog 28 #[.pointer none, .int .i64 p, .int .i64 q] h K := by
  refine table_Table_Move_ok _ _ _ ?_
  unfold table_Table_Move
  exact ⟨_, eqNil eq27, br_t rfl H⟩
theorem setN (A : Option Addr) (l c : Nat) {h : Hp} {K : Value → Hp → Prop} (H : K (.int .i64 3) h) : CallsH Try.prog 14 #[.pointer none, .slice A l c] h K := by
  refine table_Table_Set_ok _ _ _ _ ?_
  unfold table_Table_Set
  exact ⟨_, eqNil eq27, br_t rfl H⟩
theorem findN (p : Int) {h : Hp} {K : Value → Hp → Prop} (H : K (.int .i64 (-1)) h) : CallsH Try.prog 18 #[.pointer none, .int .i64 p] h K := by
  refine table_Table_Find_ok _ _ ?_
  unfold table_Table_Find
  exact ⟨_, eqNil eq27, br_t rfl H⟩
theorem rulesN {h : Hp} {K : Value → Hp → Prop} (H : K (.slice none 0 0) h) : CallsH Try.prog 22 #[.pointer none] h K := by
  refine table_Table_Rules_ok _ ?_
  unfold table_Table_Rules
  exact ⟨_, eqNil eq27, br_t rfl H⟩
theorem cloneN {h : Hp} {K : Value → Hp → Prop} (H : K (.pointer none) h) : CallsH Try.prog 25 #[.pointer none] h K := by
  refine table_Table_Clone_ok _ ?_
  unfold table_Table_Clone
  exact ⟨_, eqNil eq27, br_t rfl H⟩
theorem box_ext {h0 h1 h2 : Hp} {b : Nat} (e : Ext h0 h1) (hb : h0.size ≤ b) (f : Fr (fun k => k = b) h1 h2) : Ext h0 h2 :=
  ⟨by have := e.size; have := f.size; omega, fun q hq => by rw [f.keep q (by have := e.size; omega) (by omega), e.old q hq]⟩
theorem atN (p : Int) {h : Hp} {K : Value → Hp → Prop} (H : ∀ h', Ext h h' → K (.tuple #[zRul.val, .int .i64 3]) h') : CallsH Try.prog 21 #[.pointer none, .int .i64 p] h K := by
  refine table_Table_At_ok _ _ ?_
  unfold table_Table_At
  refine newC_i fun h1 e1 c1 b1 z1 => ⟨_, eqNil eq27, br_t rfl ?_⟩
  refine HU_box (us := zRul.enc) b1 rfl rfl size55 rfl fun h2 c2 b2 f2 z2 => ?_
  exact ⟨_, _, _, _, _, _, _, _, _, _, _, _, ldS c2 (by kernel_rfl), H h2 (box_ext e1 (Nat.le_refl _) f2)⟩
theorem matchN (g : Hdr) {h : Hp} {K : Value → Hp → Prop} (H : ∀ h', Ext h h' → K (.tuple #[.agg (verd (false, 0, 0)).toArray, .int .i64 (-1)]) h') : CallsH Try.prog 16 #[.pointer none, g.val] h K := by
  refine table_Table_Match_ok _ _ _ _ _ _ ?_
  unfold table_Table_Match
  refine newC_i fun h1 e1 c1 b1 z1 => newC_i fun h2 e2 c2 b2 z2 => ⟨_, eqNil eq27, br_t rfl ?_⟩
  refine HU_box (us := verd (false, 0, 0)) b2 rfl rfl size40 rfl fun h3 c3 b3 f3 z3 => ?_
  exact ⟨_, _, _, ldS c3 (by kernel_rfl), H h3 (box_ext (e1.trans e2) e1.size f3)⟩
theorem all_s (p : Option Addr) {h : Hp} {K : Value → Hp → Prop} (H : ∀ h' a, Ext h h' → Cl h' a [.pointer p] → K (.func (.func 46) #[] #[.pointer (some a)]) h') : CallsH Try.prog 29 #[.pointer p] h K := by
  refine table_Table_All_ok _ ?_
  unfold table_Table_All
  exact newC_i fun h1 e1 c1 b1 z1 => H h1 _ e1 c1
theorem iterN {a : Addr} {h : Hp} (c : Cl h a [.pointer none]) (l : Nat) {K : Value → Hp → Prop} (H : K (.tuple #[]) h) : CallsH Try.prog 46 #[yieldV l, .pointer (some a)] h K := by
  refine table_Table_All_1_ok _ _ _ _ ?_
  unfold table_Table_All_1
  exact ⟨_, ld c.head (by kernel_rfl), _, eqNil eq27, br_t rfl H⟩
theorem eq55 (r : Rul) : PV Try.prog (binOp .eql 55 r.val r.val) (.bool true) := by
  intro w
  rw [Rul.val]
  rw [run_eql_struct, run_equalIn_struct w 9999 55 _ _ (by kernel_rfl) (by kernel_rfl)]
  simp [go_sem]
theorem TableNil_s (o : Opr) {h : Hp} {K : Value → Hp → Prop} (H : ∀ h', Ext h h' → K (.bool true) h') : CallsH Try.prog 8 #[.agg o.enc.toArray] h K := by
  refine quintetlaw11_TableNil_ok _ _ _ _ _ _ _ _ _ _ _ _ _ _ _ _ _ _ _ _ _ _ _ ?_
  unfold quintetlaw11_TableNil
  refine newC_i fun h1 e1 c1 b1 z1 => newC_i fun h2 e2 c2 b2 z2 => ?_
  have d2 : Cl h2 ⟨h.size, 0, none⟩ o.enc := c1.ext e2
  refine ⟨o.place, ld (d2.at_ 1 _ rfl) (by kernel_rfl), ?_⟩
  refine ⟨_, _, _, _, _, _, _, _, _, _, _, _, ldS (Cl.sl d2 (n := 3) (us := o.rule.enc) rfl) (by kernel_rfl), ?_⟩
  refine insertN _ o.rule fun h3 e3 => ⟨_, rfl, ?_⟩
  have d3 := d2.ext e3
  refine ⟨o.id, ld (d3.at_ 2 _ rfl) (by kernel_rfl), deleteN _ ⟨_, rfl, ?_⟩⟩
  refine ⟨o.id, ld (d3.at_ 2 _ rfl) (by kernel_rfl), o.place, ld (d3.at_ 1 _ rfl) (by kernel_rfl), moveN _ _ ⟨_, rfl, setN _ _ _ ⟨_, rfl, ?_⟩⟩⟩
  refine ⟨o.place, ld (d3.at_ 1 _ rfl) (by kernel_rfl), ?_⟩
  refine atN _ fun h4 e4 => ⟨_, _, _, _, _, _, _, _, _, _, _, _, _, rfl, ?_⟩
  refine newV (us := zRul.enc) rfl rfl size55 rfl fun h5 e5 c5 b5 z5 => ?_
  have d5 := (d3.ext e4).ext e5
  refine ⟨_, _, _, _, _, ldS (Cl.sl d5 (n := 15) (us := o.head.enc) rfl) (by kernel_rfl), ?_⟩
  refine matchN o.head fun h6 e6 => ⟨_, _, _, _, rfl, ?_⟩
  refine newV (us := verd (false, 0, 0)) rfl rfl size40 rfl fun h7 e7 c7 b7 z7 => ?_
  refine all_s none fun h8 a e8 c8 => ⟨_, rfl, ?_⟩
  refine ⟨false, fun w => pureRun_run Try.prog _ _ (by kernel_rfl) w, br_f rfl ?_⟩
  refine noRound (by kernel_rfl) (fun l g eg => iterN (c8.ext eg) l rfl) fun h9 e9 hD hlt => ?_
  refine br_t rfl (br_t rfl (br_t rfl (br_t rfl ?_)))
  refine awake_s fun h10 e10 => ⟨_, rfl, br_t rfl (br_t rfl ?_)⟩
  have x5 := (((((c5.ext e6).ext e7).ext e8).ext e9).ext e10)
  have x7 := ((c7.ext e8).ext e9).ext e10
  refine ⟨_, _, _, _, _, _, _, _, _, _, _, _, ldS x5 (by kernel_rfl), true, eq55 zRul, br_t rfl ?_⟩
  refine ⟨_, _, _, ldS (vs := verd (false, 0, 0)) x7 (by kernel_rfl), _, eq40 _ _ _ _ _ _, br_t (by rfl) (br_t rfl ?_)⟩
  have d10 := (((((d5.ext e6).ext e7).ext e8).ext e9).ext e10)
  refine ⟨o.id, ld (d10.at_ 2 _ rfl) (by kernel_rfl), findN _ ⟨_, rfl, br_t rfl ?_⟩⟩
  refine rulesN ⟨_, _, _, rfl, br_t rfl (cloneN ⟨_, rfl, _, eqNil eq27, ?_⟩)⟩
  have e28 := ((((e3.trans e4).trans e5).trans e6).trans e7).trans e8
  have e210 := (e28.trans e9).trans e10
  have hb10 := (e210.fr (fun _ => False)).get b2 (fun h => h)
  have hD10 := (e10.fr (fun _ => False)).get hD (fun h => h)
  have s1 := e1.size
  have s28 := e28.size
  have s210 := e210.size
  refine endBox (K := fun _ p => p) (v := .bool true) hb10 rfl (by kernel_rfl) rfl (by kernel_rfl) hD10 (by omega) fun h11 f11 ld11 => ?_
  refine ⟨_, ld11, H h11 ⟨?_, fun q hq => ?_⟩⟩
  · have := f11.size; omega
  · rw [f11.keep q (by omega) (by rintro (e | e) <;> omega), e210.old q (by omega), e2.old q (by omega), e1.old q hq]
end Go.Proofs.Ytgecabgcjfpenaa.Fs
