/-
The row of the statement TableBackSaid: for every input the Go function quintet/quintetlaw11.TableBack returns true, and each argument reads afterwards as it read before; out of the walk and the plain law of YtgecabgcjfpenaaPureTableBack.
Conditions: none beyond the statement's own.
-/
import Derived.Test.YtgecabgcjfpenaaRows
import Derived.Test.YtgecabgcjfpenaaPureTableBack
import Derived.WalkKit
import Derived.ProofKit
import Derived.OpenShut
import Derived.ShutString
import Derived.ChangeOld
import Derived.Below
import Derived.SizedLaws
import Derived.Test.YtgecabgcjfpenaaSxOpen
namespace Go.Proofs.Ytgecabgcjfpenaa.tableBack
open Go.ChangeShapes Go.WideShapes Go.ChangeAt Go.RowKit
open Go.ChangeMaps (open_string shut_string)
set_option linter.unusedVariables false
theorem own : ownKnob Try.prog.godebug = none := by kernel_rfl
theorem laidOut : laidOutB Try.prog = true := by kernel_rfl
set_option maxRecDepth 100000 in
theorem lifted (os : Os) (started : os.Started) (H : Type) (enc : TypeId × Value → H) :
    ReturnsInHanded {} Try.checked os 6 .any (Rows.tableBackSpec.pre6 enc Try.prog Try.f6 Rows.tableBackRow.domain false) (Rows.tableBackSpec.post enc Try.prog Try.f6 false true false false) := by
  refine returnsInHanded_of_change_sized (C := Try.checked) own started (by kernel_rfl) Try.func6
    (ChangeSpec.witness6 (enc := enc) (C := Try.checked) false ⟨#[], #[.slice none 0 0, .int .i64 0, .agg #[.int .u32 0, .int .u32 0, .int .u16 0, .int .u16 0, .int .u8 0]], []⟩ 8 (by kernel_rfl) (by kernel_rfl) (by kernel_rfl) (by kernel_rfl)) ?_
  intro W base args ds gs before hval0 hW hcnd hsz0 _
  have hsz : (DataW.weightsEach Try.prog (Try.f6.params.toList ++ Rows.tableBackSpec.plain.varTypes Try.prog) (ds ++ gs)).all (· ≤ reachBytes) = true := hsz0
  have hval : ∀ (j : Nat) t v, Try.f6.params[j]? = some t → args[j]? = some v → Value.okWide Try.prog W .any base t v := hval0
  have hW' := hW
  obtain ⟨p, q, hA0, hV, rfl, hfz, hnd⟩ := hW
  have hA : DataW.TrodAll enc Try.prog W 0 (fun _ => true) true Try.f6.params.toList args.toList ds p := hA0
  rw [Try.params6] at hA hval hsz
  obtain ⟨v0, vs0, d0, ds0, p0, q0, hargs, rfl, rfl, h0, r0⟩ := trodAll_cons hA
  obtain ⟨v1, vs1, d1, ds1, p1, q1, rfl, rfl, rfl, h1, r1⟩ := trodAll_cons r0
  obtain ⟨v2, vs2, d2, ds2, p2, q2, rfl, rfl, rfl, h2, r2⟩ := trodAll_cons r1
  obtain ⟨rfl, rfl, rfl⟩ := trodAll_nil r2
  obtain rfl : args = #[v0, v1, v2] := by cases args; simp_all
  obtain ⟨rfl, rfl⟩ := trodVars_none hV
  have k0 := h0
  have lt0 : ∀ x ∈ p0, x.block < W.heap.size := by obtain ⟨m, hm⟩ := k0; exact DataW.trod_lt m _ _ _ hm
  obtain ⟨A0, l0, c0, rfl, hr0, hc0, hm0, wf0⟩ := Sx.open_rows 9 [.i64, .u32, .i64, .u32, .i64, .u16, .u16, .u16, .u16, .u8, .u8, .i64] Try.underlying32 (by kernel_rfl) (by kernel_rfl) (by decide) (hval 0 32 v0 rfl rfl) h0
  obtain ⟨a1, rfl, rfl, rfl, w1⟩ := open_int Try.underlying3 (hval 1 3 v1 rfl rfl) h1
  have k2 := h2
  have lt2 : ∀ x ∈ p2, x.block < W.heap.size := by obtain ⟨m, hm⟩ := k2; exact DataW.trod_lt m _ _ _ hm
  obtain ⟨ns2, ln2, rfl, wn2⟩ := Sx.open_flat 9 [.u32, .u32, .u16, .u16, .u8] Try.underlying36 (by kernel_rfl) (hval 2 36 v2 rfl rfl) h2
  obtain ⟨a2_0, ns2_0, rfl, ln2_0⟩ := Sx.len_succ (n := 4) ln2
  obtain ⟨a2_1, ns2_1, rfl, ln2_1⟩ := Sx.len_succ (n := 3) ln2_0
  obtain ⟨a2_2, ns2_2, rfl, ln2_2⟩ := Sx.len_succ (n := 2) ln2_1
  obtain ⟨a2_3, ns2_3, rfl, ln2_3⟩ := Sx.len_succ (n := 1) ln2_2
  obtain ⟨a2_4, ns2_4, rfl, ln2_4⟩ := Sx.len_succ (n := 0) ln2_3
  obtain rfl := Sx.len_zero ln2_4
  have w2_0 := wn2 (.u32, a2_0) (by simp)
  have w2_1 := wn2 (.u32, a2_1) (by simp)
  have w2_2 := wn2 (.u16, a2_2) (by simp)
  have w2_3 := wn2 (.u16, a2_3) (by simp)
  have w2_4 := wn2 (.u8, a2_4) (by simp)
  clear hA0 hval0 hsz0 hsz
  refine (Go.Proofs.Ytgecabgcjfpenaa.PureTableBack.walk A0 l0 c0 hr0 hc0 hm0 wf0 a1 w1 a2_0 a2_1 a2_2 a2_3 a2_4 w2_0 w2_1 w2_2 w2_3 w2_4).mono fun e W' ⟨he, bel⟩ => ?_
  subst he
  exact ⟨_, rfl, _, _, _, [], _, [], hW', trodAll_mk1 (shut_bool Try.underlying4 _), (trodAll_cons_mk (Below.trod laidOut (by kernel_rfl) (of_decide_eq_true (by kernel_rfl)) k0 bel lt0) (trodAll_cons_mk (shut_int Try.underlying3 w1) (trodAll_cons_mk (Below.trod laidOut (by kernel_rfl) (of_decide_eq_true (by kernel_rfl)) k2 bel lt2) trodAll_mk0))), rfl, bel.frame _, fun h => by cases h⟩
theorem over : Rows.tableBackRow.holds Try.pinned (OpenSpec.ofChange Rows.tableBackSpec) :=
  OpenClaim.holds_of_wide 6 Try.f6 rfl rfl rfl rfl rfl rfl rfl ⟨rfl, rfl, rfl, rfl, rfl⟩ rfl rfl rfl rfl rfl (by kernel_rfl) Try.func6 (by kernel_rfl)
    (of_decide_eq_true (by kernel_rfl)) (by unfold Func.isWrapper; first | (rw [if_pos (by decide +kernel)]; kernel_rfl) | (rw [if_neg (by decide +kernel)]; exact ⟨rfl, rfl⟩))
    (fun os started H enc _ => lifted os started H enc)
theorem proved : Rows.TableBackSaid := over
#print axioms proved
end Go.Proofs.Ytgecabgcjfpenaa.tableBack
namespace Go.Proofs.Ytgecabgcjfpenaa
theorem tableBack_holds : Rows.TableBackSaid := tableBack.proved
end Go.Proofs.Ytgecabgcjfpenaa
