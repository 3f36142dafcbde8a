/- The table's laws without an iterator: the examples of the document, configurations. -/
import Derived.Test.YtgecabgcjfpenaaTSpec4
import Derived.Test.YtgecabgcjfpenaaFsB
namespace Go.Proofs.Ytgecabgcjfpenaa.Fs
open Go Go.RowKit Go.Proofs.Ytgecabgcjfpenaa.Sx
set_option linter.unusedVariables false
set_option linter.unusedSimpArgs false
set_option maxRecDepth 10000
def Cfg.okB (c : Cfg) (b1 b2 : Bool) : Int := if (b1 && b2 && inB c.binth 1 16 && inB c.depth 0 10) = true then 0 else 110
theorem ref_j3 (cf : Cfg) {a : Addr} {h : Hp} (hc : Cl h a cf.enc) (b1 b2 : Bool) {K0 : Int → Hp → Prop} (H : ∀ v, v = cf.okB b1 b2 → K0 v h) : quintetref11_Check_j3 K0 a b1 b2 h := by
  unfold quintetref11_Check_j3
  repeat' (first
    | (refine And.intro (ld (hc.at_ 5 _ rfl) (by kernel_rfl)) ?_)
    | (refine And.intro (ld (hc.at_ 6 _ rfl) (by kernel_rfl)) ?_)
    | (refine H _ ?_)
    | (refine newC_i fun _ _ _ _ _ => ?_)
    | (refine br_i (fun _ => ?_) (fun _ => ?_))
    | (refine And.intro rfl ?_)
    | (refine And.intro (ld (Cl.at_ (by first | assumption | exact Cl.ext2 (by assumption) (by first | assumption | exact Cl.ext2 (by assumption) (by first | assumption | exact Cl.ext2 (by assumption) (by first | assumption | exact Cl.ext2 (by assumption) (by first | assumption | exact Cl.ext2 (by assumption) (by first | assumption | exact Cl.ext2 (by assumption) (by first | assumption | exact Cl.ext2 (by assumption) (by first | assumption | exact Cl.ext2 (by assumption) (by first | assumption | exact Cl.ext2 (by assumption) (by assumption)))))))))) _ _ rfl) (by kernel_rfl)) ?_)
    | (refine And.intro (ld (Cl.head (by first | assumption | exact Cl.ext2 (by assumption) (by first | assumption | exact Cl.ext2 (by assumption) (by first | assumption | exact Cl.ext2 (by assumption) (by first | assumption | exact Cl.ext2 (by assumption) (by first | assumption | exact Cl.ext2 (by assumption) (by first | assumption | exact Cl.ext2 (by assumption) (by first | assumption | exact Cl.ext2 (by assumption) (by first | assumption | exact Cl.ext2 (by assumption) (by first | assumption | exact Cl.ext2 (by assumption) (by assumption))))))))))) (by kernel_rfl)) ?_)
    | (refine And.intro (ldS (by first | assumption | exact Cl.ext2 (by assumption) (by first | assumption | exact Cl.ext2 (by assumption) (by first | assumption | exact Cl.ext2 (by assumption) (by first | assumption | exact Cl.ext2 (by assumption) (by first | assumption | exact Cl.ext2 (by assumption) (by first | assumption | exact Cl.ext2 (by assumption) (by first | assumption | exact Cl.ext2 (by assumption) (by first | assumption | exact Cl.ext2 (by assumption) (by first | assumption | exact Cl.ext2 (by assumption) (by assumption)))))))))) (by kernel_rfl)) ?_)
    | (refine And.intro (ldS (Cl.sl (by first | assumption | exact Cl.ext2 (by assumption) (by first | assumption | exact Cl.ext2 (by assumption) (by first | assumption | exact Cl.ext2 (by assumption) (by first | assumption | exact Cl.ext2 (by assumption) (by first | assumption | exact Cl.ext2 (by assumption) (by first | assumption | exact Cl.ext2 (by assumption) (by first | assumption | exact Cl.ext2 (by assumption) (by first | assumption | exact Cl.ext2 (by assumption) (by first | assumption | exact Cl.ext2 (by assumption) (by assumption)))))))))) rfl) (by kernel_rfl)) ?_)
    | (apply Exists.intro))
  all_goals (simp_all [Cfg.okB, inB])
  all_goals (intros; omega)
theorem ref_j2 (cf : Cfg) {a : Addr} {h : Hp} (hc : Cl h a cf.enc) (b1 : Bool) {K0 : Int → Hp → Prop} (H : ∀ v, v = cf.okB b1 (inB cf.prune 0 1048576 && inB cf.grid 0 1048576 && inB cf.tuple 0 1048576) → K0 v h) : quintetref11_Check_j2 K0 a b1 h := by
  unfold quintetref11_Check_j2
  repeat' (first
    | (refine And.intro (ld (hc.at_ 2 _ rfl) (by kernel_rfl)) ?_)
    | (refine And.intro (ld (hc.at_ 3 _ rfl) (by kernel_rfl)) ?_)
    | (refine And.intro (ld (hc.at_ 4 _ rfl) (by kernel_rfl)) ?_)
    | (refine ref_j3 cf hc _ _ (fun v hv => H v ?_))
    | (refine newC_i fun _ _ _ _ _ => ?_)
    | (refine br_i (fun _ => ?_) (fun _ => ?_))
    | (refine And.intro rfl ?_)
    | (refine And.intro (ld (Cl.at_ (by first | assumption | exact Cl.ext2 (by assumption) (by first | assumption | exact Cl.ext2 (by assumption) (by first | assumption | exact Cl.ext2 (by assumption) (by first | assumption | exact Cl.ext2 (by assumption) (by first | assumption | exact Cl.ext2 (by assumption) (by first | assumption | exact Cl.ext2 (by assumption) (by first | assumption | exact Cl.ext2 (by assumption) (by first | assumption | exact Cl.ext2 (by assumption) (by first | assumption | exact Cl.ext2 (by assumption) (by assumption)))))))))) _ _ rfl) (by kernel_rfl)) ?_)
    | (refine And.intro (ld (Cl.head (by first | assumption | exact Cl.ext2 (by assumption) (by first | assumption | exact Cl.ext2 (by assumption) (by first | assumption | exact Cl.ext2 (by assumption) (by first | assumption | exact Cl.ext2 (by assumption) (by first | assumption | exact Cl.ext2 (by assumption) (by first | assumption | exact Cl.ext2 (by assumption) (by first | assumption | exact Cl.ext2 (by assumption) (by first | assumption | exact Cl.ext2 (by assumption) (by first | assumption | exact Cl.ext2 (by assumption) (by assumption))))))))))) (by kernel_rfl)) ?_)
    | (refine And.intro (ldS (by first | assumption | exact Cl.ext2 (by assumption) (by first | assumption | exact Cl.ext2 (by assumption) (by first | assumption | exact Cl.ext2 (by assumption) (by first | assumption | exact Cl.ext2 (by assumption) (by first | assumption | exact Cl.ext2 (by assumption) (by first | assumption | exact Cl.ext2 (by assumption) (by first | assumption | exact Cl.ext2 (by assumption) (by first | assumption | exact Cl.ext2 (by assumption) (by first | assumption | exact Cl.ext2 (by assumption) (by assumption)))))))))) (by kernel_rfl)) ?_)
    | (refine And.intro (ldS (Cl.sl (by first | assumption | exact Cl.ext2 (by assumption) (by first | assumption | exact Cl.ext2 (by assumption) (by first | assumption | exact Cl.ext2 (by assumption) (by first | assumption | exact Cl.ext2 (by assumption) (by first | assumption | exact Cl.ext2 (by assumption) (by first | assumption | exact Cl.ext2 (by assumption) (by first | assumption | exact Cl.ext2 (by assumption) (by first | assumption | exact Cl.ext2 (by assumption) (by first | assumption | exact Cl.ext2 (by assumption) (by assumption)))))))))) rfl) (by kernel_rfl)) ?_)
    | (apply Exists.intro))
  all_goals (rename_i hv; rw [hv]; congr 1; simp_all [inB])
  all_goals (intros; omega)
theorem ref_Check_s (cf : Cfg) {h : Hp} {K : Value → Hp → Prop} (H : ∀ v h', Ext h h' → v = cf.check → K (.int .i64 v) h') : CallsH Try.prog 9 #[cf.val] h K := by
  refine quintetref11_Check_ok _ _ _ _ _ _ _ ?_
  unfold quintetref11_Check
  refine newC_i fun h1 e1 c1 b1 z1 => ?_
  repeat' (first
    | (refine ref_j2 cf c1 _ (fun v hv => H v h1 e1 ?_))
    | (refine newC_i fun _ _ _ _ _ => ?_)
    | (refine br_i (fun _ => ?_) (fun _ => ?_))
    | (refine And.intro rfl ?_)
    | (refine And.intro (ld (Cl.at_ (by first | assumption | exact Cl.ext2 (by assumption) (by first | assumption | exact Cl.ext2 (by assumption) (by first | assumption | exact Cl.ext2 (by assumption) (by first | assumption | exact Cl.ext2 (by assumption) (by first | assumption | exact Cl.ext2 (by assumption) (by first | assumption | exact Cl.ext2 (by assumption) (by first | assumption | exact Cl.ext2 (by assumption) (by first | assumption | exact Cl.ext2 (by assumption) (by first | assumption | exact Cl.ext2 (by assumption) (by assumption)))))))))) _ _ rfl) (by kernel_rfl)) ?_)
    | (refine And.intro (ld (Cl.head (by first | assumption | exact Cl.ext2 (by assumption) (by first | assumption | exact Cl.ext2 (by assumption) (by first | assumption | exact Cl.ext2 (by assumption) (by first | assumption | exact Cl.ext2 (by assumption) (by first | assumption | exact Cl.ext2 (by assumption) (by first | assumption | exact Cl.ext2 (by assumption) (by first | assumption | exact Cl.ext2 (by assumption) (by first | assumption | exact Cl.ext2 (by assumption) (by first | assumption | exact Cl.ext2 (by assumption) (by assumption))))))))))) (by kernel_rfl)) ?_)
    | (refine And.intro (ldS (by first | assumption | exact Cl.ext2 (by assumption) (by first | assumption | exact Cl.ext2 (by assumption) (by first | assumption | exact Cl.ext2 (by assumption) (by first | assumption | exact Cl.ext2 (by assumption) (by first | assumption | exact Cl.ext2 (by assumption) (by first | assumption | exact Cl.ext2 (by assumption) (by first | assumption | exact Cl.ext2 (by assumption) (by first | assumption | exact Cl.ext2 (by assumption) (by first | assumption | exact Cl.ext2 (by assumption) (by assumption)))))))))) (by kernel_rfl)) ?_)
    | (refine And.intro (ldS (Cl.sl (by first | assumption | exact Cl.ext2 (by assumption) (by first | assumption | exact Cl.ext2 (by assumption) (by first | assumption | exact Cl.ext2 (by assumption) (by first | assumption | exact Cl.ext2 (by assumption) (by first | assumption | exact Cl.ext2 (by assumption) (by first | assumption | exact Cl.ext2 (by assumption) (by first | assumption | exact Cl.ext2 (by assumption) (by first | assumption | exact Cl.ext2 (by assumption) (by first | assumption | exact Cl.ext2 (by assumption) (by assumption)))))))))) rfl) (by kernel_rfl)) ?_)
    | (apply Exists.intro))
  all_goals (rename_i hv; rw [hv])
  all_goals (simp_all [Cfg.check, Cfg.ok, Cfg.okB, inB])
  all_goals (intros; omega)
def exCfg : Cfg := ⟨2, 1, 1000, 1000, 1000, 4, 8⟩
theorem example_s {h : Hp} {K : Value → Hp → Prop} (H : ∀ h', Ext h h' → K exCfg.val h') : CallsH Try.prog 17 #[] h K := by
  refine quintetlaw11_example_ok ?_
  unfold quintetlaw11_example
  refine newV (us := exCfg.enc) rfl rfl size24 rfl fun h1 e1 c1 b1 z1 => ?_
  exact ⟨_, _, _, _, _, _, _, ldS c1 (by kernel_rfl), H h1 e1⟩
def ev (id a : Int) : Rul := ⟨id, 0, 0, 0, 0, 0, 65535, 0, 65535, 0, 0, a⟩
theorem every_s (id a : Int) {h : Hp} {K : Value → Hp → Prop} (H : ∀ h', Ext h h' → K (ev id a).val h') : CallsH Try.prog 20 #[.int .i64 id, .int .i64 a] h K := by
  refine quintetlaw11_every_ok _ _ ?_
  unfold quintetlaw11_every
  refine newV (us := (ev id a).enc) rfl rfl size55 rfl fun h1 e1 c1 b1 z1 => ?_
  exact ⟨_, _, _, _, _, _, _, _, _, _, _, _, ldS c1 (by kernel_rfl), H h1 e1⟩
/-- A table made since h0. -/
structure Own (h0 h : Hp) (b : Nat) (S : Nat → Prop) (cf : Cfg) (xs : List Rul) : Prop where
  t : TabAt h b S cf xs
  fresh : ∀ k, S k → h0.size ≤ k
  ext : Ext h0 h
theorem Own.step {h0 h h' : Hp} {b : Nat} {S S' : Nat → Prop} {cf : Cfg} {xs ys : List Rul} (o : Own h0 h b S cf xs) (t : TabAt h' b S' cf ys) (hS : ∀ k, S' k → S k ∨ h.size ≤ k) (f : Fr S h h') : Own h0 h' b S' cf ys :=
  ⟨t, fun k hk => by
    rcases hS k hk with h | h
    · exact o.fresh k h
    · have := o.ext.size; omega,
   ⟨Nat.le_trans o.ext.size f.size, fun k hk => by rw [f.keep k (Nat.lt_of_lt_of_le hk o.ext.size) (fun hs => by have := o.fresh k hs; omega), o.ext.old k hk]⟩⟩
theorem Own.later {h0 h h' : Hp} {b : Nat} {S : Nat → Prop} {cf : Cfg} {xs : List Rul} (o : Own h0 h b S cf xs) (e : Ext h h') : Own h0 h' b S cf xs := ⟨o.t.ext e, o.fresh, o.ext.trans e⟩
def hd0 : Hdr := ⟨0, 0, 0, 0, 0⟩
def hd9 : Hdr := ⟨9, 0, 0, 0, 0⟩
theorem aw1 : insI exCfg [] 0 (ev 1 2) = (0, [ev 1 2]) := by decide +kernel
theorem aw2 : insI exCfg [ev 1 2] 0 (ev 2 3) = (0, [ev 2 3, ev 1 2]) := by decide +kernel
theorem aw3 : insI exCfg [ev 2 3, ev 1 2] 0 (ev 3 3) = (113, [ev 2 3, ev 1 2]) := by decide +kernel
theorem aw4 : matchI 1 hd0 [ev 2 3, ev 1 2] 0 = ((true, 2, 3), 0) := by decide +kernel
theorem aw5 : movI [ev 2 3, ev 1 2] 2 1 = (0, [ev 1 2, ev 2 3]) := by decide +kernel
theorem aw6 : matchI 1 hd9 [ev 1 2, ev 2 3] 0 = ((true, 1, 2), 0) := by decide +kernel
theorem aw7 : findI [ev 1 2, ev 2 3] 1 = 0 := by decide +kernel
theorem aw8 : findI [ev 1 2, ev 2 3] 9 = -1 := by decide +kernel
theorem eq40 (a d : Bool) (b c e f : Int) : PV Try.prog (binOp .eql 40 (.agg #[.bool a, .int .i64 b, .int .i64 c]) (.agg #[.bool d, .int .i64 e, .int .i64 f])) (.bool (decide (a = d ∧ b = e ∧ c = f))) := by
  intro w
  rw [run_eql_struct, run_equalIn_struct w 9999 40 _ _ (by kernel_rfl) (by kernel_rfl)]
  simp [go_sem]
  cases a <;> cases d <;> by_cases h1 : b = e <;> by_cases h2 : c = f <;> simp [h1, h2]
theorem awake_s {h : Hp} {K : Value → Hp → Prop} (H : ∀ h', Ext h h' → K (.bool true) h') : CallsH Try.prog 12 #[] h K := by
  refine quintetlaw11_awake_ok ?_
  unfold quintetlaw11_awake quintetlaw11_awake_j1
  refine example_s fun h1 e1 => ?_
  refine ⟨_, _, _, _, _, _, _, rfl, ?_⟩
  refine table_New_s exCfg (fun hc => absurd (by decide +kernel) hc) (fun _ h2 b e2 hb t => ?_)
  refine ⟨_, _, rfl, ?_⟩
  refine ⟨_, eqNil eq27, br_f rfl (br_f rfl ?_)⟩
  have o2 : Own h h2 b _ exCfg [] := ⟨t, fun k hk => by have := e1.size; omega, e1.trans e2⟩
  refine every_s 1 2 fun h3 e3 => ?_
  refine ⟨_, _, _, _, _, _, _, _, _, _, _, _, rfl, ?_⟩
  have o3 := o2.later e3
  refine table_Insert_s o3.t 0 (by simp) (ev 1 2) fun h4 S4 t4 hS4 f4 => ⟨_, rfl, ?_⟩
  rw [aw1] at t4
  have o4 := o3.step t4 hS4 f4
  refine every_s 2 3 fun h5 e5 => ?_
  refine ⟨_, _, _, _, _, _, _, _, _, _, _, _, rfl, ?_⟩
  have o5 := o4.later e5
  refine table_Insert_s o5.t 0 (by simp) (ev 2 3) fun h6 S6 t6 hS6 f6 => ⟨_, rfl, ?_⟩
  rw [aw2] at t6
  have o6 := o5.step t6 hS6 f6
  refine every_s 3 3 fun h7 e7 => ?_
  refine ⟨_, _, _, _, _, _, _, _, _, _, _, _, rfl, ?_⟩
  have o7 := o6.later e7
  refine table_Insert_s o7.t 0 (by simp) (ev 3 3) fun h8 S8 t8 hS8 f8 => ⟨_, rfl, ?_⟩
  rw [aw3] at t8
  have o8 := o7.step t8 hS8 f8
  refine table_Match_s o8.t hd0 (by simp) fun h9 v i e9 hm => ?_
  have hm' := aw4.symm.trans hm
  injection hm' with hv hi
  subst hv hi
  refine ⟨_, _, _, _, rfl, ?_⟩
  refine newV (us := verd (true, 2, 3)) rfl rfl size40 rfl fun h10 e10 c10 b10 z10 => ?_
  have o10 := (o8.later e9).later e10
  refine table_Move_s o10.t 2 1 (by simp) fun h11 S11 t11 hS11 f11 => ⟨_, rfl, ?_⟩
  rw [aw5] at t11
  have o11 := o10.step t11 hS11 f11
  have c11 := f11.cl c10 (fun hs => by have := o8.t.2.1 _ hs; have := e9.size; simp at *; omega)
  refine table_Match_s o11.t hd9 (by simp) fun h12 v i e12 hm => ?_
  have hm' := aw6.symm.trans hm
  injection hm' with hv hi
  subst hv hi
  refine ⟨_, _, _, _, rfl, ?_⟩
  refine newV (us := verd (true, 1, 2)) rfl rfl size40 rfl fun h13 e13 c13 b13 z13 => ?_
  have o13 := (o11.later e12).later e13
  refine br_t (by rw [aw1]; rfl) (br_t (by rw [aw2]; rfl) (br_t (by rw [aw3]; rfl) (br_t rfl ?_)))
  refine ⟨_, _, _, ldS (vs := verd (true, 2, 3)) ((c11.ext e12).ext e13) (by kernel_rfl), ?_⟩
  refine ⟨_, eq40 _ _ _ _ _ _, br_t rfl (br_t (by rw [aw5]; rfl) ?_)⟩
  refine ⟨_, ld (c13.at_ 1 _ rfl) (by kernel_rfl), br_t rfl ?_⟩
  refine table_Find_s o13.t 1 (by simp) ⟨_, rfl, ?_⟩
  rw [aw7]
  refine br_t rfl ?_
  refine table_Find_s o13.t 9 (by simp) ⟨_, rfl, ?_⟩
  rw [aw8]
  exact H h13 o13.ext
theorem TableConfigs_s (cf : Cfg) {h : Hp} {K : Value → Hp → Prop} (H : ∀ h', Ext h h' → K (.bool true) h') : CallsH Try.prog 3 #[cf.val] h K := by
  refine quintetlaw11_TableConfigs_ok _ _ _ _ _ _ _ ?_
  unfold quintetlaw11_TableConfigs
  refine newC_i fun h1 e1 c1 b1 z1 => ?_
  refine ⟨_, _, _, _, _, _, _, ldS c1 (by kernel_rfl), ?_⟩
  refine ref_Check_s cf fun v h2 e2 hv => ⟨_, rfl, ?_⟩
  subst hv
  refine ⟨_, _, _, _, _, _, _, ldS (c1.ext e2) (by kernel_rfl), ?_⟩
  have tail : ∀ (p : Option Addr) (h3 : Hp), Ext h2 h3 → (p.isNone = (cf.check != 0)) → _ := fun p h3 e3 hp =>
    (table_Check_s cf (h := h3) (K := fun r39 h38 => ∃ x40 : Int, r39 = (.int .i64 x40) ∧ br (x40 != cf.check) (K (.bool false) h38) (br (cf.check != cf.check) (K (.bool false) h38)
      (∃ b41 : Bool, PV Try.prog (binOp .eql 27 (.pointer p) (.pointer none)) (.bool b41) ∧ br (!(b41 == (cf.check != 0))) (K (.bool false) h38) (CallsH Try.prog 12 #[] h38 fun r43 h42 => ∃ b44 : Bool, r43 = (.bool b44) ∧ K (.bool b44) h42))))
      fun v h4 e4 hv => by
        subst hv
        refine ⟨_, rfl, br_f (by simp) (br_f (by simp) ⟨_, eqNil eq27, br_f (by rw [hp]; simp) ?_⟩)⟩
        exact awake_s fun h5 e5 => ⟨_, rfl, H h5 ((((e1.trans e2).trans e3).trans e4).trans e5)⟩)
  refine table_New_s cf (fun hc h3 e3 => ?_) (fun hc h3 b e3 hb t => ?_)
  · refine ⟨_, _, rfl, ?_⟩
    refine ⟨_, _, _, _, _, _, _, ldS ((c1.ext e2).ext e3) (by kernel_rfl), ?_⟩
    exact tail none h3 e3 (by simpa using hc)
  · refine ⟨_, _, rfl, ?_⟩
    refine ⟨_, _, _, _, _, _, _, ldS ((c1.ext e2).ext e3) (by kernel_rfl), ?_⟩
    have := tail (some ⟨b, 0, none⟩) h3 e3 (by simp [hc])
    rw [hc] at this ⊢
    exact this
end Go.Proofs.Ytgecabgcjfpenaa.Fs
