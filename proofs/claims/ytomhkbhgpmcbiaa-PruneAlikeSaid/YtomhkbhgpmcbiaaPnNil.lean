/- No engine: what its methods answer; PruneNil. -/
import Derived.Test.YtomhkbhgpmcbiaaPnLaw
import Derived.Test.YtomhkbhgpmcbiaaSxIface
namespace Go.Proofs.Ytomhkbhgpmcbiaa.Fs
open Go Go.RowKit Go.Proofs.Ytomhkbhgpmcbiaa.Sx
set_option linter.unusedVariables false
set_option linter.unusedSimpArgs false
set_option maxRecDepth 10000
theorem eqSteps (a b c d e a' b' c' d' e' : Int) : PV Try.prog (binOp .eql 38 (.agg #[.int .i64 a, .int .i64 b, .int .i64 c, .int .i64 d, .int .i64 e]) (.agg #[.int .i64 a', .int .i64 b', .int .i64 c', .int .i64 d', .int .i64 e'])) (.bool (decide (a = a' ∧ b = b' ∧ c = c' ∧ d = d' ∧ e = e'))) := by
  intro w
  rw [run_eql_struct, run_equalIn_struct w 9999 38 _ _ (by kernel_rfl) (by kernel_rfl)]
  simp [go_sem]
  by_cases h1 : a = a' <;> by_cases h2 : b = b' <;> by_cases h3 : c = c' <;> by_cases h4 : d = d' <;> by_cases h5 : e = e' <;> simp [h1, h2, h3, h4, h5]
theorem eqStats (a b c d a' b' c' d' : Int) : PV Try.prog (binOp .eql 43 (.agg #[.int .i64 a, .int .i64 b, .int .i64 c, .int .i64 d]) (.agg #[.int .i64 a', .int .i64 b', .int .i64 c', .int .i64 d'])) (.bool (decide (a = a' ∧ b = b' ∧ c = c' ∧ d = d'))) := by
  intro w
  rw [run_eql_struct, run_equalIn_struct w 9999 43 _ _ (by kernel_rfl) (by kernel_rfl)]
  simp [go_sem]
  by_cases h1 : a = a' <;> by_cases h2 : b = b' <;> by_cases h3 : c = c' <;> by_cases h4 : d = d' <;> simp [h1, h2, h3, h4]
theorem tried0_s {f2 : Fn} {f2r f2c : Array Value} {h : Hp} {K : Value → Hp → Prop} (H : K (.int .i64 3) h) : CallsH Try.prog 32 #[.pointer none, .func f2 f2r f2c] h K := by
  refine prune_Engine_tried_ok _ _ _ _ ?_
  unfold prune_Engine_tried
  exact ⟨_, eqNil und_ep, br_t rfl H⟩
theorem ins0_s (p : Int) (r : Rul) {h : Hp} {K : Value → Hp → Prop} (H : ∀ h', Ext h h' → K (.int .i64 3) h') : CallsH Try.prog 15 #[.pointer none, .int .i64 p, r.val] h K := by
  refine prune_Engine_Insert_ok _ _ _ _ _ _ _ _ _ _ _ _ _ _ ?_
  unfold prune_Engine_Insert
  exact newC_i (cs := [Value.int .i64 p]) fun h1 e1 c1 b1 z1 => newC_i (cs := r.enc) fun h2 e2 c2 b2 z2 => tried0_s ⟨_, rfl, H h2 (e1.trans e2)⟩
theorem del0_s (id : Int) {h : Hp} {K : Value → Hp → Prop} (H : ∀ h', Ext h h' → K (.int .i64 3) h') : CallsH Try.prog 16 #[.pointer none, .int .i64 id] h K := by
  refine prune_Engine_Delete_ok _ _ ?_
  unfold prune_Engine_Delete
  exact newC_i (cs := [Value.int .i64 id]) fun h1 e1 c1 b1 z1 => tried0_s ⟨_, rfl, H h1 e1⟩
theorem set0_s (A : Option Addr) (l c : Nat) {h : Hp} {K : Value → Hp → Prop} (H : ∀ h', Ext h h' → K (.int .i64 3) h') : CallsH Try.prog 13 #[.pointer none, .slice A l c] h K := by
  refine prune_Engine_Set_ok _ _ _ _ ?_
  unfold prune_Engine_Set
  exact newC_i (cs := [Value.slice A l c]) fun h1 e1 c1 b1 z1 => tried0_s ⟨_, rfl, H h1 e1⟩
theorem ask0_s (g : Hdr) {h : Hp} {K : Value → Hp → Prop} (H : ∀ h', Ext h h' → K (.tuple #[vrd (false, 0, 0), stpV 0 0]) h') : CallsH Try.prog 10 #[.pointer none, g.val] h K := by
  refine prune_Engine_Ask_ok _ _ _ _ _ _ ?_
  unfold prune_Engine_Ask
  refine newC_i (cs := g.enc) fun h1 e1 c1 b1 z1 => newC_i (cs := verd (false, 0, 0)) fun h2 e2 c2 b2 z2 => newC_i (cs := stp 0 0) fun h3 e3 c3 b3 z3 => ⟨_, eqNil und_ep, br_t rfl ?_⟩
  refine HU_box (us := verd (false, 0, 0)) ((e3.fr (fun _ => False)).get b2 (fun h => h)) rfl rfl (by kernel_rfl) rfl fun h4 c4 b4 f4 z4 => ?_
  refine HU_box (us := stp 0 0) (f4.get b3 (by omega)) rfl rfl (by kernel_rfl) rfl fun h5 c5 b5 f5 z5 => ?_
  refine ⟨_, _, _, ldS (vs := verd (false, 0, 0)) (f5.cl c4 (by show ¬ h1.size = _; omega)) (by kernel_rfl), _, _, _, _, _, ldS (vs := stp 0 0) c5 (by kernel_rfl), ?_⟩
  exact H h5 ⟨by omega, fun k hk => by rw [f5.keep k (by omega) (by omega), f4.keep k (by omega) (by omega), ((e1.trans e2).trans e3).old k hk]⟩
theorem stats0_s {h : Hp} {K : Value → Hp → Prop} (H : ∀ h', Ext h h' → K (.agg #[.int .i64 0, .int .i64 0, .int .i64 0, .int .i64 0]) h') : CallsH Try.prog 12 #[.pointer none] h K := by
  refine prune_Engine_Stats_ok _ ?_
  unfold prune_Engine_Stats
  refine newC_i (cs := [Value.int .i64 0, Value.int .i64 0, Value.int .i64 0, Value.int .i64 0]) fun h1 e1 c1 b1 z1 => ⟨_, eqNil und_ep, br_t rfl ?_⟩
  refine HU_box (us := [Value.int .i64 0, Value.int .i64 0, Value.int .i64 0, Value.int .i64 0]) b1 rfl rfl (by kernel_rfl) rfl fun h2 c2 b2 f2 z2 => ?_
  exact ⟨_, _, _, _, ldS (vs := [Value.int .i64 0, Value.int .i64 0, Value.int .i64 0, Value.int .i64 0]) c2 (by kernel_rfl), H h2 ⟨by omega, fun k hk => by rw [f2.keep k (by omega) (by omega), e1.old k hk]⟩⟩
theorem None_s (r : Rul) (g : Hdr) {h : Hp} {K : Value → Hp → Prop} (H : ∀ h', Ext h h' → K (.bool true) h') : CallsH Try.prog 18 #[.iface 31 (.pointer none), r.val, g.val] h K := by
  refine quintetkeep_None_ok _ _ _ _ _ _ _ _ _ _ _ _ _ _ _ _ _ _ ?_
  unfold quintetkeep_None
  refine newC_i (cs := r.enc) fun h1 e1 c1 b1 z1 => newC_i (cs := g.enc) fun h2 e2 c2 b2 z2 => ?_
  have e12 := e1.trans e2
  refine ⟨_, _, _, _, _, _, _, _, _, _, _, _, ldS (vs := r.enc) (c1.ext e2) (by kernel_rfl), ?_⟩
  refine callI (f := 15) (by kernel_rfl) (by kernel_rfl) ?_
  refine ins0_s 0 r fun h3 e3 => ⟨_, rfl, _, ld ((c1.ext e2).ext e3).head (by kernel_rfl), ?_⟩
  refine callI (f := 16) (by kernel_rfl) (by kernel_rfl) ?_
  refine del0_s r.id fun h4 e4 => ⟨_, rfl, ?_⟩
  refine callI (f := 13) (by kernel_rfl) (by kernel_rfl) ?_
  refine set0_s none 0 0 fun h5 e5 => ⟨_, rfl, ?_⟩
  have e25 := (e3.trans e4).trans e5
  refine ⟨_, _, _, _, _, ldS (vs := g.enc) (c2.ext e25) (by kernel_rfl), ?_⟩
  refine callI (f := 10) (by kernel_rfl) (by kernel_rfl) ?_
  refine ask0_s g fun h6 e6 => ⟨_, _, _, _, _, _, _, _, rfl, ans_s (false, 0, 0) 0 0 fun h7 a1 a2 e7 ca1 ca2 => ?_⟩
  refine br_t rfl (br_t rfl (br_t rfl ⟨_, _, _, ldS (vs := verd (false, 0, 0)) ca1 (by kernel_rfl), _, eqV _ _ _ _ _ _, br_t (by decide) ⟨_, _, _, _, _, ldS (vs := stp 0 0) ca2 (by kernel_rfl), _, eqSteps _ _ _ _ _ _ _ _ _ _, br_t (by decide) ?_⟩⟩))
  refine callI (f := 12) (by kernel_rfl) (by kernel_rfl) ?_
  refine stats0_s fun h8 e8 => ⟨_, _, _, _, rfl, _, eqStats _ _ _ _ _ _ _ _, ?_⟩
  exact H h8 ((e12.trans e25).trans ((e6.trans e7).trans e8))
theorem PruneNil_s (r : Rul) (g : Hdr) {h : Hp} {K : Value → Hp → Prop} (H : ∀ h', Ext h h' → K (.bool true) h') : CallsH Try.prog 6 #[r.val, g.val] h K := by
  refine quintetlaw16_PruneNil_ok _ _ _ _ _ _ _ _ _ _ _ _ _ _ _ _ _ ?_
  unfold quintetlaw16_PruneNil
  refine newC_i (cs := r.enc) fun h1 e1 c1 b1 z1 => newC_i (cs := g.enc) fun h2 e2 c2 b2 z2 => eawake_s fun h3 e3 => ⟨_, rfl, br_t rfl ?_⟩
  refine ⟨_, _, _, _, _, _, _, _, _, _, _, _, ldS (vs := r.enc) ((c1.ext e2).ext e3) (by kernel_rfl), _, _, _, _, _, ldS (vs := g.enc) (c2.ext e3) (by kernel_rfl), ?_⟩
  exact None_s r g fun h4 e4 => ⟨_, rfl, H h4 (((e1.trans e2).trans e3).trans e4)⟩
end Go.Proofs.Ytomhkbhgpmcbiaa.Fs
