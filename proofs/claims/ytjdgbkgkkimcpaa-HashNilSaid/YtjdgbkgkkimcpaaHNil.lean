/- No table: each call's answer. -/
import Derived.Test.YtjdgbkgkkimcpaaHSpec2
import Derived.Test.YtjdgbkgkkimcpaaFsI
import Derived.Test.YtjdgbkgkkimcpaaSxNoRound
namespace Go.Proofs.Ytjdgbkgkkimcpaa.Fs
open Go Go.RowKit Go.Proofs.Ytjdgbkgkkimcpaa.Sx
set_option linter.unusedVariables false
set_option linter.unusedSimpArgs false
set_option maxRecDepth 10000
theorem hputN (k : Hdr) (v : Int) {h : Hp} {K : Value → Hp → Prop} (H : ∀ h', Ext h h' → K (.int .i64 3) h') : CallsH Try.prog 30 #[.pointer none, k.val, .int .i64 v] h K := by
  refine hash_Table_Put_ok _ _ _ _ _ _ _ ?_
  unfold hash_Table_Put
  exact newC_i fun h1 e1 c1 b1 z1 => ⟨_, eqNil eq22, br_t rfl (H h1 e1)⟩
theorem hgetN (k : Hdr) {h : Hp} {K : Value → Hp → Prop} (H : ∀ h', Ext h h' → K (.tuple #[.int .i64 0, .bool false]) h') : CallsH Try.prog 32 #[.pointer none, k.val] h K := by
  refine hash_Table_Get_ok _ _ _ _ _ _ ?_
  unfold hash_Table_Get
  exact newC_i fun h1 e1 c1 b1 z1 => ⟨_, eqNil eq22, br_t rfl (H h1 e1)⟩
theorem hdelN (k : Hdr) {h : Hp} {K : Value → Hp → Prop} (H : ∀ h', Ext h h' → K (.bool false) h') : CallsH Try.prog 34 #[.pointer none, k.val] h K := by
  refine hash_Table_Delete_ok _ _ _ _ _ _ ?_
  unfold hash_Table_Delete
  exact newC_i fun h1 e1 c1 b1 z1 => ⟨_, eqNil eq22, br_t rfl (H h1 e1)⟩
theorem hprobesN (k : Hdr) {h : Hp} {K : Value → Hp → Prop} (H : ∀ h', Ext h h' → K (.int .i64 0) h') : CallsH Try.prog 41 #[.pointer none, k.val] h K := by
  refine hash_Table_Probes_ok _ _ _ _ _ _ ?_
  unfold hash_Table_Probes
  exact newC_i fun h1 e1 c1 b1 z1 => ⟨_, eqNil eq22, br_t rfl (H h1 e1)⟩
theorem hlenN {h : Hp} {K : Value → Hp → Prop} (H : K (.int .i64 0) h) : CallsH Try.prog 39 #[.pointer none] h K := by
  refine hash_Table_Len_ok _ ?_
  unfold hash_Table_Len
  exact ⟨_, eqNil eq22, br_t rfl H⟩
theorem hslotsN {h : Hp} {K : Value → Hp → Prop} (H : K (.int .i64 0) h) : CallsH Try.prog 40 #[.pointer none] h K := by
  refine hash_Table_Slots_ok _ ?_
  unfold hash_Table_Slots
  exact ⟨_, eqNil eq22, br_t rfl H⟩
theorem hall_s (p : Option Addr) {h : Hp} {K : Value → Hp → Prop} (H : ∀ h' a, Ext h h' → Cl h' a [.pointer p] → K (.func (.func 60) #[] #[.pointer (some a)]) h') : CallsH Try.prog 38 #[.pointer p] h K := by
  refine hash_Table_All_ok _ ?_
  unfold hash_Table_All
  exact newC_i fun h1 e1 c1 b1 z1 => H h1 _ e1 c1
theorem hiterN {a : Addr} {h : Hp} (c : Cl h a [.pointer none]) (l : Nat) {K : Value → Hp → Prop} (H : K (.tuple #[]) h) : CallsH Try.prog 60 #[yieldV l, .pointer (some a)] h K := by
  refine hash_Table_All_1_ok _ _ _ _ ?_
  unfold hash_Table_All_1
  exact ⟨_, ld c.head (by kernel_rfl), _, eqNil eq22, br_t rfl H⟩
theorem HashNil_s (k : Hdr) (v : Int) {h : Hp} {K : Value → Hp → Prop} (H : ∀ h', Ext h h' → K (.bool true) h') : CallsH Try.prog 11 #[k.val, .int .i64 v] h K := by
  refine quintetlaw15_HashNil_ok _ _ _ _ _ _ ?_
  unfold quintetlaw15_HashNil
  refine newC_i fun h1 e1 c1 b1 z1 => newC_i fun h2 e2 c2 b2 z2 => ?_
  refine ⟨_, _, _, _, _, ldS (vs := k.enc) (c1.ext e2) (by kernel_rfl), ?_⟩
  refine hputN k v fun h3 e3 => ⟨_, rfl, ?_⟩
  refine ⟨_, _, _, _, _, ldS (vs := k.enc) ((c1.ext e2).ext e3) (by kernel_rfl), ?_⟩
  refine hgetN k fun h4 e4 => ⟨_, _, rfl, ?_⟩
  refine hall_s none fun h5 a e5 c5 => ⟨_, rfl, ?_⟩
  refine ⟨false, fun w => pureRun_run Try.prog _ _ (by kernel_rfl) w, br_f rfl ?_⟩
  refine noRound (by kernel_rfl) (fun l g eg => hiterN (c5.ext eg) l rfl) fun h6 e6 hD hlt => ?_
  refine hawake_s fun h7 e7 => ⟨_, rfl, br_t rfl (br_t rfl (br_t rfl (br_t rfl ?_)))⟩
  have e17 := ((((e2.trans e3).trans e4).trans e5).trans e6).trans e7
  refine ⟨_, _, _, _, _, ldS (vs := k.enc) (c1.ext e17) (by kernel_rfl), ?_⟩
  refine hdelN k fun h8 e8 => ⟨_, rfl, br_t rfl ?_⟩
  refine hlenN ⟨_, rfl, br_t rfl ?_⟩
  refine hslotsN ⟨_, rfl, br_t rfl ?_⟩
  refine ⟨_, _, _, _, _, ldS (vs := k.enc) (c1.ext (e17.trans e8)) (by kernel_rfl), ?_⟩
  refine hprobesN k fun h9 e9 => ⟨_, rfl, ?_⟩
  have e29 : Ext h2 h9 := ((((((e3.trans e4).trans e5).trans e6).trans e7).trans e8).trans e9)
  have s1 := e1.size
  have s2 := ((e3.trans e4).trans e5).size
  have hb9 := (e29.fr (fun _ => False)).get b2 (fun h => h)
  have hD9 := ((((e7.trans e8).trans e9)).fr (fun _ => False)).get hD (fun h => h)
  refine endBox (K := fun _ p => p) (v := .bool true) hb9 rfl (by kernel_rfl) rfl (by kernel_rfl) hD9 (by omega) fun h10 f10 ld10 => ?_
  refine ⟨_, ld10, H h10 ⟨?_, fun q hq => ?_⟩⟩
  · have := f10.size; have := e29.size; have := e2.size; omega
  · have := e29.size
    have := e2.size
    rw [f10.keep q (by omega) (by rintro (e | e) <;> omega), e29.old q (by omega), e2.old q (by omega), e1.old q hq]
end Go.Proofs.Ytjdgbkgkkimcpaa.Fs
