/-
The row of the statement PruneNilSaid: for every input the Go function quintet/quintetlaw16.PruneNil returns true, and each argument reads afterwards as it read before; out of the walk and the plain law of YtomhkbhgpmcbiaaPurePruneNil.
Conditions: none beyond the statement's own.
-/
import Derived.Test.YtomhkbhgpmcbiaaRows
import Derived.Test.YtomhkbhgpmcbiaaPurePruneNil
import Derived.WalkKit
import Derived.ProofKit
import Derived.OpenShut
import Derived.ShutString
import Derived.ChangeOld
import Derived.Below
import Derived.SizedLaws
import Derived.Test.YtomhkbhgpmcbiaaSxOpen
namespace Go.Proofs.Ytomhkbhgpmcbiaa.pruneNil
open Go.ChangeShapes Go.WideShapes Go.ChangeAt Go.RowKit
open Go.ChangeMaps (open_string shut_string)
set_option linter.unusedVariables false
theorem own : ownKnob Try.prog.godebug = none := by kernel_rfl
theorem laidOut : laidOutB Try.prog = true := by kernel_rfl
set_option maxRecDepth 100000 in
theorem lifted (os : Os) (started : os.Started) (H : Type) (enc : TypeId × Value → H) :
    ReturnsInHanded {} Try.checked os 6 .any (Rows.pruneNilSpec.pre6 enc Try.prog Try.f6 Rows.pruneNilRow.domain false) (Rows.pruneNilSpec.post enc Try.prog Try.f6 false true false false) := by
  refine returnsInHanded_of_change_sized (C := Try.checked) own started (by kernel_rfl) Try.func6
    (ChangeSpec.witness6 (enc := enc) (C := Try.checked) false ⟨#[], #[.agg #[.int .i64 0, .int .u32 0, .int .i64 0, .int .u32 0, .int .i64 0, .int .u16 0, .int .u16 0, .int .u16 0, .int .u16 0, .int .u8 0, .int .u8 0, .int .i64 0], .agg #[.int .u32 0, .int .u32 0, .int .u16 0, .int .u16 0, .int .u8 0]], []⟩ 8 (by kernel_rfl) (by kernel_rfl) (by kernel_rfl) (by kernel_rfl)) ?_
  intro W base args ds gs before hval0 hW hcnd hsz0 _
  have hsz : (DataW.weightsEach Try.prog (Try.f6.params.toList ++ Rows.pruneNilSpec.plain.varTypes Try.prog) (ds ++ gs)).all (· ≤ reachBytes) = true := hsz0
  have hval : ∀ (j : Nat) t v, Try.f6.params[j]? = some t → args[j]? = some v → Value.okWide Try.prog W .any base t v := hval0
  have hW' := hW
  obtain ⟨p, q, hA0, hV, rfl, hfz, hnd⟩ := hW
  have hA : DataW.TrodAll enc Try.prog W 0 (fun _ => true) true Try.f6.params.toList args.toList ds p := hA0
  rw [Try.params6] at hA hval hsz
  obtain ⟨v0, vs0, d0, ds0, p0, q0, hargs, rfl, rfl, h0, r0⟩ := trodAll_cons hA
  obtain ⟨v1, vs1, d1, ds1, p1, q1, rfl, rfl, rfl, h1, r1⟩ := trodAll_cons r0
  obtain ⟨rfl, rfl, rfl⟩ := trodAll_nil r1
  obtain rfl : args = #[v0, v1] := by cases args; simp_all
  obtain ⟨rfl, rfl⟩ := trodVars_none hV
  have k0 := h0
  have lt0 : ∀ x ∈ p0, x.block < W.heap.size := by obtain ⟨m, hm⟩ := k0; exact DataW.trod_lt m _ _ _ hm
  obtain ⟨ns0, ln0, rfl, wn0⟩ := Sx.open_flat 9 [.i64, .u32, .i64, .u32, .i64, .u16, .u16, .u16, .u16, .u8, .u8, .i64] Try.underlying60 (by kernel_rfl) (hval 0 60 v0 rfl rfl) h0
  obtain ⟨a0_0, ns0_0, rfl, ln0_0⟩ := Sx.len_succ (n := 11) ln0
  obtain ⟨a0_1, ns0_1, rfl, ln0_1⟩ := Sx.len_succ (n := 10) ln0_0
  obtain ⟨a0_2, ns0_2, rfl, ln0_2⟩ := Sx.len_succ (n := 9) ln0_1
  obtain ⟨a0_3, ns0_3, rfl, ln0_3⟩ := Sx.len_succ (n := 8) ln0_2
  obtain ⟨a0_4, ns0_4, rfl, ln0_4⟩ := Sx.len_succ (n := 7) ln0_3
  obtain ⟨a0_5, ns0_5, rfl, ln0_5⟩ := Sx.len_succ (n := 6) ln0_4
  obtain ⟨a0_6, ns0_6, rfl, ln0_6⟩ := Sx.len_succ (n := 5) ln0_5
  obtain ⟨a0_7, ns0_7, rfl, ln0_7⟩ := Sx.len_succ (n := 4) ln0_6
  obtain ⟨a0_8, ns0_8, rfl, ln0_8⟩ := Sx.len_succ (n := 3) ln0_7
  obtain ⟨a0_9, ns0_9, rfl, ln0_9⟩ := Sx.len_succ (n := 2) ln0_8
  obtain ⟨a0_10, ns0_10, rfl, ln0_10⟩ := Sx.len_succ (n := 1) ln0_9
  obtain ⟨a0_11, ns0_11, rfl, ln0_11⟩ := Sx.len_succ (n := 0) ln0_10
  obtain rfl := Sx.len_zero ln0_11
  have w0_0 := wn0 (.i64, a0_0) (by simp)
  have w0_1 := wn0 (.u32, a0_1) (by simp)
  have w0_2 := wn0 (.i64, a0_2) (by simp)
  have w0_3 := wn0 (.u32, a0_3) (by simp)
  have w0_4 := wn0 (.i64, a0_4) (by simp)
  have w0_5 := wn0 (.u16, a0_5) (by simp)
  have w0_6 := wn0 (.u16, a0_6) (by simp)
  have w0_7 := wn0 (.u16, a0_7) (by simp)
  have w0_8 := wn0 (.u16, a0_8) (by simp)
  have w0_9 := wn0 (.u8, a0_9) (by simp)
  have w0_10 := wn0 (.u8, a0_10) (by simp)
  have w0_11 := wn0 (.i64, a0_11) (by simp)
  have k1 := h1
  have lt1 : ∀ x ∈ p1, x.block < W.heap.size := by obtain ⟨m, hm⟩ := k1; exact DataW.trod_lt m _ _ _ hm
  obtain ⟨ns1, ln1, rfl, wn1⟩ := Sx.open_flat 9 [.u32, .u32, .u16, .u16, .u8] Try.underlying28 (by kernel_rfl) (hval 1 28 v1 rfl rfl) h1
  obtain ⟨a1_0, ns1_0, rfl, ln1_0⟩ := Sx.len_succ (n := 4) ln1
  obtain ⟨a1_1, ns1_1, rfl, ln1_1⟩ := Sx.len_succ (n := 3) ln1_0
  obtain ⟨a1_2, ns1_2, rfl, ln1_2⟩ := Sx.len_succ (n := 2) ln1_1
  obtain ⟨a1_3, ns1_3, rfl, ln1_3⟩ := Sx.len_succ (n := 1) ln1_2
  obtain ⟨a1_4, ns1_4, rfl, ln1_4⟩ := Sx.len_succ (n := 0) ln1_3
  obtain rfl := Sx.len_zero ln1_4
  have w1_0 := wn1 (.u32, a1_0) (by simp)
  have w1_1 := wn1 (.u32, a1_1) (by simp)
  have w1_2 := wn1 (.u16, a1_2) (by simp)
  have w1_3 := wn1 (.u16, a1_3) (by simp)
  have w1_4 := wn1 (.u8, a1_4) (by simp)
  clear hA0 hval0 hsz0 hsz
  refine (Go.Proofs.Ytomhkbhgpmcbiaa.PurePruneNil.walk a0_0 a0_1 a0_2 a0_3 a0_4 a0_5 a0_6 a0_7 a0_8 a0_9 a0_10 a0_11 w0_0 w0_1 w0_2 w0_3 w0_4 w0_5 w0_6 w0_7 w0_8 w0_9 w0_10 w0_11 a1_0 a1_1 a1_2 a1_3 a1_4 w1_0 w1_1 w1_2 w1_3 w1_4 W).mono fun e W' ⟨he, bel⟩ => ?_
  subst he
  exact ⟨_, rfl, _, _, _, [], _, [], hW', trodAll_mk1 (shut_bool Try.underlying4 _), (trodAll_cons_mk (Below.trod laidOut (by kernel_rfl) (of_decide_eq_true (by kernel_rfl)) k0 bel lt0) (trodAll_cons_mk (Below.trod laidOut (by kernel_rfl) (of_decide_eq_true (by kernel_rfl)) k1 bel lt1) trodAll_mk0)), rfl, bel.frame _, fun h => by cases h⟩
theorem over : Rows.pruneNilRow.holds Try.pinned (OpenSpec.ofChange Rows.pruneNilSpec) :=
  OpenClaim.holds_of_wide 6 Try.f6 rfl rfl rfl rfl rfl rfl rfl ⟨rfl, rfl, rfl, rfl, rfl⟩ rfl rfl rfl rfl rfl (by kernel_rfl) Try.func6 (by kernel_rfl)
    (of_decide_eq_true (by kernel_rfl)) (by unfold Func.isWrapper; first | (rw [if_pos (by decide +kernel)]; kernel_rfl) | (rw [if_neg (by decide +kernel)]; exact ⟨rfl, rfl⟩))
    (fun os started H enc _ => lifted os started H enc)
theorem proved : Rows.PruneNilSaid := over
#print axioms proved
end Go.Proofs.Ytomhkbhgpmcbiaa.pruneNil
namespace Go.Proofs.Ytomhkbhgpmcbiaa
theorem pruneNil_holds : Rows.PruneNilSaid := pruneNil.proved
end Go.Proofs.Ytomhkbhgpmcbiaa
