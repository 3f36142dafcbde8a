/-
The row of the statement PruneSetsSaid: for every input the Go function quintet/quintetlaw16.PruneSets returns true, and each argument reads afterwards as it read before; out of the walk and the plain law of YtomhkbhgpmcbiaaGreatPurePruneSets.
Conditions: none beyond the statement's own.
-/
import Derived.Test.YtomhkbhgpmcbiaaGreatRows
import Derived.Test.YtomhkbhgpmcbiaaGreatPurePruneSets
import Derived.WalkKit
import Derived.ProofKit
import Derived.OpenShut
import Derived.ShutString
import Derived.ChangeOld
import Derived.Below
import Derived.SizedLaws
import Derived.Test.YtomhkbhgpmcbiaaGreatSxOpen3
namespace Go.Proofs.YtomhkbhgpmcbiaaGreat.pruneSets
open Go.ChangeShapes Go.WideShapes Go.ChangeAt Go.RowKit
open Go.ChangeMaps (open_string shut_string)
set_option linter.unusedVariables false
theorem own : ownKnob Tryz.prog.godebug = none := by kernel_rfl
theorem laidOut : laidOutB Tryz.prog = true := by kernel_rfl
set_option maxRecDepth 100000 in
theorem lifted (os : Os) (started : os.Started) (H : Type) (enc : TypeId × Value → H) :
    ReturnsInHanded {} Tryz.checked os 4 .any (Rows.pruneSetsSpec.pre6 enc Tryz.prog Tryz.f4 Rows.pruneSetsRow.domain false) (Rows.pruneSetsSpec.post enc Tryz.prog Tryz.f4 false true false false) := by
  refine returnsInHanded_of_change_sized (C := Tryz.checked) own started (by kernel_rfl) Tryz.func4
    (ChangeSpec.witness6 (enc := enc) (C := Tryz.checked) false ⟨#[], #[.agg #[.int .i64 0, .int .i64 0, .int .i64 0, .int .i64 0, .int .i64 0, .int .i64 0, .int .i64 0], .slice none 0 0, .slice none 0 0], []⟩ 8 (by kernel_rfl) (by kernel_rfl) (by kernel_rfl) (by kernel_rfl)) ?_
  intro W base args ds gs before hval0 hW hcnd hsz0 _
  have hsz : (DataW.weightsEach Tryz.prog (Tryz.f4.params.toList ++ Rows.pruneSetsSpec.plain.varTypes Tryz.prog) (ds ++ gs)).all (· ≤ reachBytes) = true := hsz0
  have hval : ∀ (j : Nat) t v, Tryz.f4.params[j]? = some t → args[j]? = some v → Value.okWide Tryz.prog W .any base t v := hval0
  have hW' := hW
  obtain ⟨p, q, hA0, hV, rfl, hfz, hnd⟩ := hW
  have hA : DataW.TrodAll enc Tryz.prog W 0 (fun _ => true) true Tryz.f4.params.toList args.toList ds p := hA0
  rw [Tryz.params4] at hA hval hsz
  obtain ⟨v0, vs0, d0, ds0, p0, q0, hargs, rfl, rfl, h0, r0⟩ := trodAll_cons hA
  obtain ⟨v1, vs1, d1, ds1, p1, q1, rfl, rfl, rfl, h1, r1⟩ := trodAll_cons r0
  obtain ⟨v2, vs2, d2, ds2, p2, q2, rfl, rfl, rfl, h2, r2⟩ := trodAll_cons r1
  obtain ⟨rfl, rfl, rfl⟩ := trodAll_nil r2
  obtain rfl : args = #[v0, v1, v2] := by cases args; simp_all
  obtain ⟨rfl, rfl⟩ := trodVars_none hV
  have k0 := h0
  have lt0 : ∀ x ∈ p0, x.block < W.heap.size := by obtain ⟨m, hm⟩ := k0; exact DataW.trod_lt m _ _ _ hm
  obtain ⟨ns0, ln0, rfl, wn0⟩ := Sx.open_flat 9 [.i64, .i64, .i64, .i64, .i64, .i64, .i64] Tryz.underlying24 (by kernel_rfl) (hval 0 24 v0 rfl rfl) h0
  obtain ⟨a0_0, ns0_0, rfl, ln0_0⟩ := Sx.len_succ (n := 6) ln0
  obtain ⟨a0_1, ns0_1, rfl, ln0_1⟩ := Sx.len_succ (n := 5) ln0_0
  obtain ⟨a0_2, ns0_2, rfl, ln0_2⟩ := Sx.len_succ (n := 4) ln0_1
  obtain ⟨a0_3, ns0_3, rfl, ln0_3⟩ := Sx.len_succ (n := 3) ln0_2
  obtain ⟨a0_4, ns0_4, rfl, ln0_4⟩ := Sx.len_succ (n := 2) ln0_3
  obtain ⟨a0_5, ns0_5, rfl, ln0_5⟩ := Sx.len_succ (n := 1) ln0_4
  obtain ⟨a0_6, ns0_6, rfl, ln0_6⟩ := Sx.len_succ (n := 0) ln0_5
  obtain rfl := Sx.len_zero ln0_6
  have w0_0 := wn0 (.i64, a0_0) (by simp)
  have w0_1 := wn0 (.i64, a0_1) (by simp)
  have w0_2 := wn0 (.i64, a0_2) (by simp)
  have w0_3 := wn0 (.i64, a0_3) (by simp)
  have w0_4 := wn0 (.i64, a0_4) (by simp)
  have w0_5 := wn0 (.i64, a0_5) (by simp)
  have w0_6 := wn0 (.i64, a0_6) (by simp)
  have k1 := h1
  have lt1 : ∀ x ∈ p1, x.block < W.heap.size := by obtain ⟨m, hm⟩ := k1; exact DataW.trod_lt m _ _ _ hm
  obtain ⟨A1, l1, c1, rfl, hr1, hc1, hm1, wf1⟩ := Sx.open_rows 9 [.i64, .u32, .i64, .u32, .i64, .u16, .u16, .u16, .u16, .u8, .u8, .i64] Tryz.underlying42 (by kernel_rfl) (by kernel_rfl) (by decide) (hval 1 42 v1 rfl rfl) h1
  have k2 := h2
  have lt2 : ∀ x ∈ p2, x.block < W.heap.size := by obtain ⟨m, hm⟩ := k2; exact DataW.trod_lt m _ _ _ hm
  obtain ⟨A2, l2, c2, rfl, hr2, hc2, hm2, wf2⟩ := Sx.open_rows 9 [.u32, .u32, .u16, .u16, .u8] Tryz.underlying26 (by kernel_rfl) (by kernel_rfl) (by decide) (hval 2 26 v2 rfl rfl) h2
  clear hA0 hval0 hsz0 hsz
  refine (Go.Proofs.YtomhkbhgpmcbiaaGreat.PurePruneSets.walk a0_0 a0_1 a0_2 a0_3 a0_4 a0_5 a0_6 w0_0 w0_1 w0_2 w0_3 w0_4 w0_5 w0_6 A1 l1 c1 hr1 hc1 hm1 wf1 A2 l2 c2 hr2 hc2 hm2 wf2).mono fun e W' ⟨he, bel⟩ => ?_
  subst he
  exact ⟨_, rfl, _, _, _, [], _, [], hW', trodAll_mk1 (shut_bool Tryz.underlying4 _), (trodAll_cons_mk (Below.trod laidOut (by kernel_rfl) (of_decide_eq_true (by kernel_rfl)) k0 bel lt0) (trodAll_cons_mk (Below.trod laidOut (by kernel_rfl) (of_decide_eq_true (by kernel_rfl)) k1 bel lt1) (trodAll_cons_mk (Below.trod laidOut (by kernel_rfl) (of_decide_eq_true (by kernel_rfl)) k2 bel lt2) trodAll_mk0))), rfl, bel.frame _, fun h => by cases h⟩
theorem over : Rows.pruneSetsRow.holds Tryz.pinned (OpenSpec.ofChange Rows.pruneSetsSpec) :=
  OpenClaim.holds_of_wide 4 Tryz.f4 rfl rfl rfl rfl rfl rfl rfl ⟨rfl, rfl, rfl, rfl, rfl⟩ rfl rfl rfl rfl rfl (by kernel_rfl) Tryz.func4 (by kernel_rfl)
    (of_decide_eq_true (by kernel_rfl)) (by unfold Func.isWrapper; first | (rw [if_pos (by decide +kernel)]; kernel_rfl) | (rw [if_neg (by decide +kernel)]; exact ⟨rfl, rfl⟩))
    (fun os started H enc _ => lifted os started H enc)
theorem proved : Rows.PruneSetsSaid := over
#print axioms proved
end Go.Proofs.YtomhkbhgpmcbiaaGreat.pruneSets
namespace Go.Proofs.YtomhkbhgpmcbiaaGreat
theorem pruneSets_holds : Rows.PruneSetsSaid := pruneSets.proved
end Go.Proofs.YtomhkbhgpmcbiaaGreat
