/-
The row of the statement HashGrowsSaid: for every input the Go function quintet/quintetlaw15.HashGrows returns true, and each argument reads afterwards as it read before; out of the walk and the plain law of YtofjbbfnkefoaaaPureHashGrows.
Conditions: none beyond the statement's own.
-/
import Derived.Test.YtofjbbfnkefoaaaRows
import Derived.Test.YtofjbbfnkefoaaaPureHashGrows
import Derived.WalkKit
import Derived.ProofKit
import Derived.OpenShut
import Derived.ShutString
import Derived.ChangeOld
import Derived.Below
import Derived.SizedLaws
import Derived.Test.YtofjbbfnkefoaaaSxOpen
namespace Go.Proofs.Ytofjbbfnkefoaaa.hashGrows
open Go.ChangeShapes Go.WideShapes Go.ChangeAt Go.RowKit
open Go.ChangeMaps (open_string shut_string)
set_option linter.unusedVariables false
theorem own : ownKnob Try.prog.godebug = none := by kernel_rfl
theorem laidOut : laidOutB Try.prog = true := by kernel_rfl
set_option maxRecDepth 100000 in
theorem lifted (os : Os) (started : os.Started) (H : Type) (enc : TypeId × Value → H) :
    ReturnsInHanded {} Try.checked os 5 .any (Rows.hashGrowsSpec.pre6 enc Try.prog Try.f5 Rows.hashGrowsRow.domain false) (Rows.hashGrowsSpec.post enc Try.prog Try.f5 false true false false) := by
  refine returnsInHanded_of_change_sized (C := Try.checked) own started (by kernel_rfl) Try.func5
    (ChangeSpec.witness6 (enc := enc) (C := Try.checked) false ⟨#[], #[.agg #[.int .u32 0, .int .u32 0, .int .u16 0, .int .u16 0, .int .u8 0], .int .i64 0, .int .u32 0, .int .i64 0], []⟩ 8 (by kernel_rfl) (by kernel_rfl) (by kernel_rfl) (by kernel_rfl)) ?_
  intro W base args ds gs before hval0 hW hcnd hsz0 _
  have hsz : (DataW.weightsEach Try.prog (Try.f5.params.toList ++ Rows.hashGrowsSpec.plain.varTypes Try.prog) (ds ++ gs)).all (· ≤ reachBytes) = true := hsz0
  have hval : ∀ (j : Nat) t v, Try.f5.params[j]? = some t → args[j]? = some v → Value.okWide Try.prog W .any base t v := hval0
  have hW' := hW
  obtain ⟨p, q, hA0, hV, rfl, hfz, hnd⟩ := hW
  have hA : DataW.TrodAll enc Try.prog W 0 (fun _ => true) true Try.f5.params.toList args.toList ds p := hA0
  rw [Try.params5] at hA hval hsz
  obtain ⟨v0, vs0, d0, ds0, p0, q0, hargs, rfl, rfl, h0, r0⟩ := trodAll_cons hA
  obtain ⟨v1, vs1, d1, ds1, p1, q1, rfl, rfl, rfl, h1, r1⟩ := trodAll_cons r0
  obtain ⟨v2, vs2, d2, ds2, p2, q2, rfl, rfl, rfl, h2, r2⟩ := trodAll_cons r1
  obtain ⟨v3, vs3, d3, ds3, p3, q3, rfl, rfl, rfl, h3, r3⟩ := trodAll_cons r2
  obtain ⟨rfl, rfl, rfl⟩ := trodAll_nil r3
  obtain rfl : args = #[v0, v1, v2, v3] := by cases args; simp_all
  obtain ⟨rfl, rfl⟩ := trodVars_none hV
  have k0 := h0
  have lt0 : ∀ x ∈ p0, x.block < W.heap.size := by obtain ⟨m, hm⟩ := k0; exact DataW.trod_lt m _ _ _ hm
  obtain ⟨ns0, ln0, rfl, wn0⟩ := Sx.open_flat 9 [.u32, .u32, .u16, .u16, .u8] Try.underlying36 (by kernel_rfl) (hval 0 36 v0 rfl rfl) h0
  obtain ⟨a0_0, ns0_0, rfl, ln0_0⟩ := Sx.len_succ (n := 4) ln0
  obtain ⟨a0_1, ns0_1, rfl, ln0_1⟩ := Sx.len_succ (n := 3) ln0_0
  obtain ⟨a0_2, ns0_2, rfl, ln0_2⟩ := Sx.len_succ (n := 2) ln0_1
  obtain ⟨a0_3, ns0_3, rfl, ln0_3⟩ := Sx.len_succ (n := 1) ln0_2
  obtain ⟨a0_4, ns0_4, rfl, ln0_4⟩ := Sx.len_succ (n := 0) ln0_3
  obtain rfl := Sx.len_zero ln0_4
  have w0_0 := wn0 (.u32, a0_0) (by simp)
  have w0_1 := wn0 (.u32, a0_1) (by simp)
  have w0_2 := wn0 (.u16, a0_2) (by simp)
  have w0_3 := wn0 (.u16, a0_3) (by simp)
  have w0_4 := wn0 (.u8, a0_4) (by simp)
  obtain ⟨a1, rfl, rfl, rfl, w1⟩ := open_int Try.underlying3 (hval 1 3 v1 rfl rfl) h1
  obtain ⟨a2, rfl, rfl, rfl, w2⟩ := open_int Try.underlying33 (hval 2 33 v2 rfl rfl) h2
  obtain ⟨a3, rfl, rfl, rfl, w3⟩ := open_int Try.underlying3 (hval 3 3 v3 rfl rfl) h3
  clear hA0 hval0 hsz0 hsz
  refine (Go.Proofs.Ytofjbbfnkefoaaa.PureHashGrows.walk a0_0 a0_1 a0_2 a0_3 a0_4 w0_0 w0_1 w0_2 w0_3 w0_4 a1 w1 a2 w2 a3 w3 W).mono fun e W' ⟨he, bel⟩ => ?_
  subst he
  exact ⟨_, rfl, _, _, _, [], _, [], hW', trodAll_mk1 (shut_bool Try.underlying4 _), (trodAll_cons_mk (Below.trod laidOut (by kernel_rfl) (of_decide_eq_true (by kernel_rfl)) k0 bel lt0) (trodAll_cons_mk (shut_int Try.underlying3 w1) (trodAll_cons_mk (shut_int Try.underlying33 w2) (trodAll_cons_mk (shut_int Try.underlying3 w3) trodAll_mk0)))), rfl, bel.frame _, fun h => by cases h⟩
theorem over : Rows.hashGrowsRow.holds Try.pinned (OpenSpec.ofChange Rows.hashGrowsSpec) :=
  OpenClaim.holds_of_wide 5 Try.f5 rfl rfl rfl rfl rfl rfl rfl ⟨rfl, rfl, rfl, rfl, rfl⟩ rfl rfl rfl rfl rfl (by kernel_rfl) Try.func5 (by kernel_rfl)
    (of_decide_eq_true (by kernel_rfl)) (by unfold Func.isWrapper; first | (rw [if_pos (by decide +kernel)]; kernel_rfl) | (rw [if_neg (by decide +kernel)]; exact ⟨rfl, rfl⟩))
    (fun os started H enc _ => lifted os started H enc)
theorem proved : Rows.HashGrowsSaid := over
#print axioms proved
end Go.Proofs.Ytofjbbfnkefoaaa.hashGrows
namespace Go.Proofs.Ytofjbbfnkefoaaa
theorem hashGrows_holds : Rows.HashGrowsSaid := hashGrows.proved
end Go.Proofs.Ytofjbbfnkefoaaa
