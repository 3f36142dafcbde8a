/-
The row of the statement ExpandMeetsSaid: for every input the Go function quintet/quintetlaw05.ExpandMeets returns true, and each argument reads afterwards as it read before; out of the walk and the plain law of YtaacfhekjklipaaPureExpandMeets.
Conditions: none beyond the statement's own.
-/
import Derived.Test.YtaacfhekjklipaaRows
import Derived.Test.YtaacfhekjklipaaPureExpandMeets
import Derived.WalkKit
import Derived.ProofKit
import Derived.OpenShut
import Derived.ShutString
import Derived.ChangeOld
import Derived.Below
import Derived.SizedLaws
import Derived.Test.YtaacfhekjklipaaSxOpen3
namespace Go.Proofs.Ytaacfhekjklipaa.expandMeets
open Go.ChangeShapes Go.WideShapes Go.ChangeAt Go.RowKit
open Go.ChangeMaps (open_string shut_string)
set_option linter.unusedVariables false
theorem own : ownKnob Try.prog.godebug = none := by kernel_rfl
theorem laidOut : laidOutB Try.prog = true := by kernel_rfl
set_option maxRecDepth 100000 in
theorem lifted (os : Os) (started : os.Started) (H : Type) (enc : TypeId × Value → H) :
    ReturnsInHanded {} Try.checked os 11 .any (Rows.expandMeetsSpec.pre6 enc Try.prog Try.f11 Rows.expandMeetsRow.domain false) (Rows.expandMeetsSpec.post enc Try.prog Try.f11 false true false false) := by
  refine returnsInHanded_of_change_sized (C := Try.checked) own started (by kernel_rfl) Try.func11
    (ChangeSpec.witness6 (enc := enc) (C := Try.checked) false ⟨#[], #[.agg #[.int .u16 0, .int .i64 0], .agg #[.int .u16 0, .int .i64 0], .int .u16 0], []⟩ 8 (by kernel_rfl) (by kernel_rfl) (by kernel_rfl) (by kernel_rfl)) ?_
  intro W base args ds gs before hval0 hW hcnd hsz0 _
  have hsz : (DataW.weightsEach Try.prog (Try.f11.params.toList ++ Rows.expandMeetsSpec.plain.varTypes Try.prog) (ds ++ gs)).all (· ≤ reachBytes) = true := hsz0
  have hval : ∀ (j : Nat) t v, Try.f11.params[j]? = some t → args[j]? = some v → Value.okWide Try.prog W .any base t v := hval0
  have hW' := hW
  obtain ⟨p, q, hA0, hV, rfl, hfz, hnd⟩ := hW
  have hA : DataW.TrodAll enc Try.prog W 0 (fun _ => true) true Try.f11.params.toList args.toList ds p := hA0
  rw [Try.params11] at hA hval hsz
  obtain ⟨v0, vs0, d0, ds0, p0, q0, hargs, rfl, rfl, h0, r0⟩ := trodAll_cons hA
  obtain ⟨v1, vs1, d1, ds1, p1, q1, rfl, rfl, rfl, h1, r1⟩ := trodAll_cons r0
  obtain ⟨v2, vs2, d2, ds2, p2, q2, rfl, rfl, rfl, h2, r2⟩ := trodAll_cons r1
  obtain ⟨rfl, rfl, rfl⟩ := trodAll_nil r2
  obtain rfl : args = #[v0, v1, v2] := by cases args; simp_all
  obtain ⟨rfl, rfl⟩ := trodVars_none hV
  have k0 := h0
  have lt0 : ∀ x ∈ p0, x.block < W.heap.size := by obtain ⟨m, hm⟩ := k0; exact DataW.trod_lt m _ _ _ hm
  obtain ⟨ns0, ln0, rfl, wn0⟩ := Sx.open_flat 9 [.u16, .i64] Try.underlying49 (by kernel_rfl) (hval 0 49 v0 rfl rfl) h0
  obtain ⟨a0_0, ns0_0, rfl, ln0_0⟩ := Sx.len_succ (n := 1) ln0
  obtain ⟨a0_1, ns0_1, rfl, ln0_1⟩ := Sx.len_succ (n := 0) ln0_0
  obtain rfl := Sx.len_zero ln0_1
  have w0_0 := wn0 (.u16, a0_0) (by simp)
  have w0_1 := wn0 (.i64, a0_1) (by simp)
  have k1 := h1
  have lt1 : ∀ x ∈ p1, x.block < W.heap.size := by obtain ⟨m, hm⟩ := k1; exact DataW.trod_lt m _ _ _ hm
  obtain ⟨ns1, ln1, rfl, wn1⟩ := Sx.open_flat 9 [.u16, .i64] Try.underlying49 (by kernel_rfl) (hval 1 49 v1 rfl rfl) h1
  obtain ⟨a1_0, ns1_0, rfl, ln1_0⟩ := Sx.len_succ (n := 1) ln1
  obtain ⟨a1_1, ns1_1, rfl, ln1_1⟩ := Sx.len_succ (n := 0) ln1_0
  obtain rfl := Sx.len_zero ln1_1
  have w1_0 := wn1 (.u16, a1_0) (by simp)
  have w1_1 := wn1 (.i64, a1_1) (by simp)
  obtain ⟨a2, rfl, rfl, rfl, w2⟩ := open_int Try.underlying22 (hval 2 22 v2 rfl rfl) h2
  clear hA0 hval0 hsz0 hsz
  refine (Go.Proofs.Ytaacfhekjklipaa.PureExpandMeets.walk a0_0 a0_1 w0_0 w0_1 a1_0 a1_1 w1_0 w1_1 a2 w2 W).mono fun e W' ⟨he, bel⟩ => ?_
  subst he
  exact ⟨_, rfl, _, _, _, [], _, [], hW', trodAll_mk1 (shut_bool Try.underlying4 _), (trodAll_cons_mk (Below.trod laidOut (by kernel_rfl) (of_decide_eq_true (by kernel_rfl)) k0 bel lt0) (trodAll_cons_mk (Below.trod laidOut (by kernel_rfl) (of_decide_eq_true (by kernel_rfl)) k1 bel lt1) (trodAll_cons_mk (shut_int Try.underlying22 w2) trodAll_mk0))), rfl, bel.frame _, fun h => by cases h⟩
theorem over : Rows.expandMeetsRow.holds Try.pinned (OpenSpec.ofChange Rows.expandMeetsSpec) :=
  OpenClaim.holds_of_wide 11 Try.f11 rfl rfl rfl rfl rfl rfl rfl ⟨rfl, rfl, rfl, rfl, rfl⟩ rfl rfl rfl rfl rfl (by kernel_rfl) Try.func11 (by kernel_rfl)
    (of_decide_eq_true (by kernel_rfl)) (by unfold Func.isWrapper; first | (rw [if_pos (by decide +kernel)]; kernel_rfl) | (rw [if_neg (by decide +kernel)]; exact ⟨rfl, rfl⟩))
    (fun os started H enc _ => lifted os started H enc)
theorem proved : Rows.ExpandMeetsSaid := over
#print axioms proved
end Go.Proofs.Ytaacfhekjklipaa.expandMeets
namespace Go.Proofs.Ytaacfhekjklipaa
theorem expandMeets_holds : Rows.ExpandMeetsSaid := expandMeets.proved
end Go.Proofs.Ytaacfhekjklipaa
