/- The trie: awake. -/
import Derived.Test.YtofjbbfnkefoaaaTrSpec11
namespace Go.Proofs.Ytofjbbfnkefoaaa.Fs
open Go Go.RowKit Go.Proofs.Ytofjbbfnkefoaaa.Sx
set_option linter.unusedVariables false
set_option linter.unusedSimpArgs false
set_option maxRecDepth 10000
def st0 : TT := ⟨8, 20, [], 0, 0, false⟩
def sndT (o : Option (Int × TT)) : TT := match o with
  | some (_, t) => t
  | none => st0
def st1 : TT := sndT (putT 40 st0 128 1 5)
def st2 : TT := sndT (putT 40 st1 160 3 6)
def st3 : TT := sndT (cutT 40 st2 160 3)
theorem ex1 : putT 40 st0 128 1 5 = some (0, st1) := by decide +kernel
theorem ex2 : putT 40 st1 160 3 6 = some (0, st2) := by decide +kernel
theorem ex3 : longT 40 st2 191 = some ((160, 3, 6), true) := by decide +kernel
theorem ex4 : cutT 40 st2 160 3 = some (0, st3) := by decide +kernel
theorem ex5 : getT st3 128 1 = some (5, true) := by decide +kernel
theorem ex6 : putT 40 st3 160 2 0 = some (120, st3) := by decide +kernel
theorem ex7 : st2.nodes = 4 ∧ st3.nodes = 2 ∧ st3.ns.length = 4 ∧ st2.width = 8 ∧ st1.width = 8 ∧ st3.width = 8 := by decide +kernel
theorem eq39 (a b c a' b' c' : Int) : PV Try.prog (binOp .eql 66 (.agg #[.int .u32 a, .int .i64 b, .int .i64 c]) (.agg #[.int .u32 a', .int .i64 b', .int .i64 c'])) (.bool (decide (a = a' ∧ b = b' ∧ c = c'))) := by
  intro w
  rw [run_eql_struct, run_equalIn_struct w 9999 66 _ _ (by kernel_rfl) (by kernel_rfl)]
  simp [go_sem]
  by_cases h0 : a = a' <;> by_cases h1 : b = b' <;> by_cases h2 : c = c' <;> simp [h0, h1, h2]
theorem awake_s {h : Hp} {K : Value → Hp → Prop} (H : ∀ h', Ext h h' → K (.bool true) h') : CallsH Try.prog 38 #[] h K := by
  refine quintetlaw12_awake_ok ?_
  unfold quintetlaw12_awake quintetlaw12_awake_j1
  refine tnew_s 8 20 (fun hn => absurd ⟨.inl rfl, by omega, by omega⟩ hn) fun _ h1 b e1 hb q0 => ⟨_, _, rfl, br_f rfl ⟨_, eqNil eq32, br_f rfl ?_⟩⟩
  have hS : ∀ k, (fun k => k = b) k → h.size ≤ k := fun k hk => by have : k = b := hk; omega
  refine put_s (f := 40) (t := st0) q0 ⟨by decide, by decide⟩ 128 1 5 ex1 fun h2 T2 => ⟨_, rfl, ?_⟩
  obtain ⟨S2, q2, s2, f2⟩ := T2
  have w1 : st1.width = 8 := ex7.2.2.2.2.1
  have w2 : st2.width = 8 := ex7.2.2.2.1
  have w3 : st3.width = 8 := ex7.2.2.2.2.2
  refine put_s (f := 40) (t := st1) q2 ⟨by rw [w1]; decide, by rw [w1]; decide⟩ 160 3 6 ex2 fun h3 T3 => ⟨_, rfl, ?_⟩
  obtain ⟨S3, q3, s3, f3⟩ := T3
  refine longest_s (F := 40) q3 ⟨by rw [w2]; decide, by rw [w2]; decide⟩ 191 ex3 fun h4 e4 => ⟨_, _, _, _, rfl, ?_⟩
  refine newV (us := En.enc (160, 3, 6)) rfl rfl size39 rfl fun h5 e5 c5 b5 z5 => ?_
  have q5 := (q3.ext e4).ext e5
  refine tnodes_s q5 ⟨_, rfl, ?_⟩
  refine cut_s (f := 40) q5 ⟨by rw [w2]; decide, by rw [w2]; decide⟩ 160 3 ex4 fun h6 q6 f6 => ⟨_, rfl, ?_⟩
  refine get_s q6 ⟨by rw [w3]; decide, by rw [w3]; decide⟩ 128 1 ex5 ⟨_, _, rfl, br_t rfl (br_t rfl (br_t rfl ?_))⟩
  have hS3 : ∀ k, S3 k → h.size ≤ k := by
    intro k hk
    have a1 := e1.size
    have a2 := f2.size
    rcases s3 k hk with hk | hk
    · rcases s2 k hk with hk | hk
      · exact hS k hk
      · omega
    · omega
  have c6 : Cl h6 ⟨h4.size, 0, none⟩ (En.enc (160, 3, 6)) := f6.cl c5 (fun hS' => by have := (q3.ext e4).2.1 _ hS'; exact absurd this (Nat.lt_irrefl _))
  refine ⟨_, _, _, ldS c6 (by kernel_rfl), _, eq39 _ _ _ _ _ _, br_t (by decide) (br_t (by rw [ex7.1]; rfl) (br_t rfl (br_t rfl (br_t rfl ?_))))⟩
  refine tnodes_s q6 ⟨_, rfl, br_t (by rw [ex7.2.1]; rfl) ?_⟩
  refine tarena_s q6 ⟨_, rfl, br_t (by rw [ex7.2.2.1]; rfl) ?_⟩
  refine put_s (f := 40) (t := st3) q6 ⟨by rw [w3]; decide, by rw [w3]; decide⟩ 160 2 0 ex6 fun h7 T7 => ⟨_, rfl, ?_⟩
  obtain ⟨S7, q7, s7, f7⟩ := T7
  refine H h7 ⟨?_, fun k hk => ?_⟩
  · have := e1.size; have := f2.size; have := f3.size; have := e4.size; have := e5.size; have := f6.size; have := f7.size
    omega
  · have := e1.size; have := f2.size; have := f3.size; have := e4.size; have := e5.size; have := f6.size; have := f7.size
    have n2 : ¬ k = b := by omega
    have n3 : ¬ S2 k := fun hk2 => by rcases s2 k hk2 with e | e
                                      · exact n2 e
                                      · omega
    have n6 : ¬ S3 k := fun hk2 => by have := hS3 k hk2; omega
    rw [f7.keep k (by omega) n6, f6.keep k (by omega) n6, e5.old k (by omega), e4.old k (by omega), f3.keep k (by omega) n3, f2.keep k (by omega) n2, e1.old k hk]
end Go.Proofs.Ytofjbbfnkefoaaa.Fs
