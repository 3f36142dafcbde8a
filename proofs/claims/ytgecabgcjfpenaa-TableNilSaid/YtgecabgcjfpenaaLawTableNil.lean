/-
The row of the statement TableNilSaid: for every input the Go function quintet/quintetlaw11.TableNil returns true, and each argument reads afterwards as it read before; out of the walk and the plain law of YtgecabgcjfpenaaPureTableNil.
Conditions: none beyond the statement's own.
-/
import Derived.Test.YtgecabgcjfpenaaRows
import Derived.Test.YtgecabgcjfpenaaPureTableNil
import Derived.WalkKit
import Derived.ProofKit
import Derived.OpenShut
import Derived.ShutString
import Derived.ChangeOld
import Derived.Below
import Derived.SizedLaws
import Derived.Test.YtgecabgcjfpenaaSxOpen2
namespace Go.Proofs.Ytgecabgcjfpenaa.tableNil
open Go.ChangeShapes Go.WideShapes Go.ChangeAt Go.RowKit
open Go.ChangeMaps (open_string shut_string)
set_option linter.unusedVariables false
theorem own : ownKnob Try.prog.godebug = none := by kernel_rfl
theorem laidOut : laidOutB Try.prog = true := by kernel_rfl
set_option maxRecDepth 100000 in
theorem lifted (os : Os) (started : os.Started) (H : Type) (enc : TypeId × Value → H) :
    ReturnsInHanded {} Try.checked os 8 .any (Rows.tableNilSpec.pre6 enc Try.prog Try.f8 Rows.tableNilRow.domain false) (Rows.tableNilSpec.post enc Try.prog Try.f8 false true false false) := by
  refine returnsInHanded_of_change_sized (C := Try.checked) own started (by kernel_rfl) Try.func8
    (ChangeSpec.witness6 (enc := enc) (C := Try.checked) false ⟨#[], #[.agg #[.int .i64 0, .int .i64 0, .int .i64 0, .int .i64 0, .int .u32 0, .int .i64 0, .int .u32 0, .int .i64 0, .int .u16 0, .int .u16 0, .int .u16 0, .int .u16 0, .int .u8 0, .int .u8 0, .int .i64 0, .int .u32 0, .int .u32 0, .int .u16 0, .int .u16 0, .int .u8 0, .slice none 0 0]], []⟩ 8 (by kernel_rfl) (by kernel_rfl) (by kernel_rfl) (by kernel_rfl)) ?_
  intro W base args ds gs before hval0 hW hcnd hsz0 _
  have hsz : (DataW.weightsEach Try.prog (Try.f8.params.toList ++ Rows.tableNilSpec.plain.varTypes Try.prog) (ds ++ gs)).all (· ≤ reachBytes) = true := hsz0
  have hval : ∀ (j : Nat) t v, Try.f8.params[j]? = some t → args[j]? = some v → Value.okWide Try.prog W .any base t v := hval0
  have hW' := hW
  obtain ⟨p, q, hA0, hV, rfl, hfz, hnd⟩ := hW
  have hA : DataW.TrodAll enc Try.prog W 0 (fun _ => true) true Try.f8.params.toList args.toList ds p := hA0
  rw [Try.params8] at hA hval hsz
  obtain ⟨v0, vs0, d0, ds0, p0, q0, hargs, rfl, rfl, h0, r0⟩ := trodAll_cons hA
  obtain ⟨rfl, rfl, rfl⟩ := trodAll_nil r0
  obtain rfl : args = #[v0] := by cases args; simp_all
  obtain ⟨rfl, rfl⟩ := trodVars_none hV
  have k0 := h0
  have lt0 : ∀ x ∈ p0, x.block < W.heap.size := by obtain ⟨m, hm⟩ := k0; exact DataW.trod_lt m _ _ _ hm
  obtain ⟨cs0, ft0, rfl⟩ := Sx.open_mix 9 [some .i64, some .i64, some .i64, some .i64, some .u32, some .i64, some .u32, some .i64, some .u16, some .u16, some .u16, some .u16, some .u8, some .u8, some .i64, some .u32, some .u32, some .u16, some .u16, some .u8, none] Try.underlying66 (by kernel_rfl) (hval 0 66 v0 rfl rfl) h0
  obtain ⟨a0_0, cs0_0, rfl, w0_0, ft0_0⟩ := Sx.Fits.int_inv ft0
  obtain ⟨a0_1, cs0_1, rfl, w0_1, ft0_1⟩ := Sx.Fits.int_inv ft0_0
  obtain ⟨a0_2, cs0_2, rfl, w0_2, ft0_2⟩ := Sx.Fits.int_inv ft0_1
  obtain ⟨a0_3, cs0_3, rfl, w0_3, ft0_3⟩ := Sx.Fits.int_inv ft0_2
  obtain ⟨a0_4, cs0_4, rfl, w0_4, ft0_4⟩ := Sx.Fits.int_inv ft0_3
  obtain ⟨a0_5, cs0_5, rfl, w0_5, ft0_5⟩ := Sx.Fits.int_inv ft0_4
  obtain ⟨a0_6, cs0_6, rfl, w0_6, ft0_6⟩ := Sx.Fits.int_inv ft0_5
  obtain ⟨a0_7, cs0_7, rfl, w0_7, ft0_7⟩ := Sx.Fits.int_inv ft0_6
  obtain ⟨a0_8, cs0_8, rfl, w0_8, ft0_8⟩ := Sx.Fits.int_inv ft0_7
  obtain ⟨a0_9, cs0_9, rfl, w0_9, ft0_9⟩ := Sx.Fits.int_inv ft0_8
  obtain ⟨a0_10, cs0_10, rfl, w0_10, ft0_10⟩ := Sx.Fits.int_inv ft0_9
  obtain ⟨a0_11, cs0_11, rfl, w0_11, ft0_11⟩ := Sx.Fits.int_inv ft0_10
  obtain ⟨a0_12, cs0_12, rfl, w0_12, ft0_12⟩ := Sx.Fits.int_inv ft0_11
  obtain ⟨a0_13, cs0_13, rfl, w0_13, ft0_13⟩ := Sx.Fits.int_inv ft0_12
  obtain ⟨a0_14, cs0_14, rfl, w0_14, ft0_14⟩ := Sx.Fits.int_inv ft0_13
  obtain ⟨a0_15, cs0_15, rfl, w0_15, ft0_15⟩ := Sx.Fits.int_inv ft0_14
  obtain ⟨a0_16, cs0_16, rfl, w0_16, ft0_16⟩ := Sx.Fits.int_inv ft0_15
  obtain ⟨a0_17, cs0_17, rfl, w0_17, ft0_17⟩ := Sx.Fits.int_inv ft0_16
  obtain ⟨a0_18, cs0_18, rfl, w0_18, ft0_18⟩ := Sx.Fits.int_inv ft0_17
  obtain ⟨a0_19, cs0_19, rfl, w0_19, ft0_19⟩ := Sx.Fits.int_inv ft0_18
  obtain ⟨A0_20, l0_20, c0_20, cs0_20, rfl, ft0_20⟩ := Sx.Fits.sl_inv ft0_19
  obtain rfl := Sx.Fits.nil_inv ft0_20
  clear hA0 hval0 hsz0 hsz
  refine (Go.Proofs.Ytgecabgcjfpenaa.PureTableNil.walk a0_0 w0_0 a0_1 w0_1 a0_2 w0_2 a0_3 w0_3 a0_4 w0_4 a0_5 w0_5 a0_6 w0_6 a0_7 w0_7 a0_8 w0_8 a0_9 w0_9 a0_10 w0_10 a0_11 w0_11 a0_12 w0_12 a0_13 w0_13 a0_14 w0_14 a0_15 w0_15 a0_16 w0_16 a0_17 w0_17 a0_18 w0_18 a0_19 w0_19 A0_20 l0_20 c0_20 W).mono fun e W' ⟨he, bel⟩ => ?_
  subst he
  exact ⟨_, rfl, _, _, _, [], _, [], hW', trodAll_mk1 (shut_bool Try.underlying4 _), (trodAll_cons_mk (Below.trod laidOut (by kernel_rfl) (of_decide_eq_true (by kernel_rfl)) k0 bel lt0) trodAll_mk0), rfl, bel.frame _, fun h => by cases h⟩
theorem over : Rows.tableNilRow.holds Try.pinned (OpenSpec.ofChange Rows.tableNilSpec) :=
  OpenClaim.holds_of_wide 8 Try.f8 rfl rfl rfl rfl rfl rfl rfl ⟨rfl, rfl, rfl, rfl, rfl⟩ rfl rfl rfl rfl rfl (by kernel_rfl) Try.func8 (by kernel_rfl)
    (of_decide_eq_true (by kernel_rfl)) (by unfold Func.isWrapper; first | (rw [if_pos (by decide +kernel)]; kernel_rfl) | (rw [if_neg (by decide +kernel)]; exact ⟨rfl, rfl⟩))
    (fun os started H enc _ => lifted os started H enc)
theorem proved : Rows.TableNilSaid := over
#print axioms proved
end Go.Proofs.Ytgecabgcjfpenaa.tableNil
namespace Go.Proofs.Ytgecabgcjfpenaa
theorem tableNil_holds : Rows.TableNilSaid := tableNil.proved
end Go.Proofs.Ytgecabgcjfpenaa
