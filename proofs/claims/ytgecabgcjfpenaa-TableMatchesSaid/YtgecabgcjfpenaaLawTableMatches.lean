/-
The row of the statement TableMatchesSaid: for every input the Go function quintet/quintetlaw11.TableMatches returns true, and each argument reads afterwards as it read before; out of the walk and the plain law of YtgecabgcjfpenaaPureTableMatches.
Conditions: none beyond the statement's own.
-/
import Derived.Test.YtgecabgcjfpenaaRows
import Derived.Test.YtgecabgcjfpenaaPureTableMatches
import Derived.WalkKit
import Derived.ProofKit
import Derived.OpenShut
import Derived.ShutString
import Derived.ChangeOld
import Derived.Below
import Derived.SizedLaws
import Derived.Test.YtgecabgcjfpenaaSxOpen
namespace Go.Proofs.Ytgecabgcjfpenaa.tableMatches
open Go.ChangeShapes Go.WideShapes Go.ChangeAt Go.RowKit
open Go.ChangeMaps (open_string shut_string)
set_option linter.unusedVariables false
theorem own : ownKnob Try.prog.godebug = none := by kernel_rfl
theorem laidOut : laidOutB Try.prog = true := by kernel_rfl
set_option maxRecDepth 100000 in
theorem lifted (os : Os) (started : os.Started) (H : Type) (enc : TypeId × Value → H) :
    ReturnsInHanded {} Try.checked os 4 .any (Rows.tableMatchesSpec.pre6 enc Try.prog Try.f4 Rows.tableMatchesRow.domain false) (Rows.tableMatchesSpec.post enc Try.prog Try.f4 false true false false) := by
  refine returnsInHanded_of_change_sized (C := Try.checked) own started (by kernel_rfl) Try.func4
    (ChangeSpec.witness6 (enc := enc) (C := Try.checked) false ⟨#[], #[.agg #[.int .i64 0, .int .i64 0, .int .i64 0, .int .i64 0, .int .i64 0, .int .i64 0, .int .i64 0], .slice none 0 0, .agg #[.int .u32 0, .int .u32 0, .int .u16 0, .int .u16 0, .int .u8 0], .agg #[.int .u32 0, .int .u32 0, .int .u16 0, .int .u16 0, .int .u8 0]], []⟩ 8 (by kernel_rfl) (by kernel_rfl) (by kernel_rfl) (by kernel_rfl)) ?_
  intro W base args ds gs before hval0 hW hcnd hsz0 _
  have hsz : (DataW.weightsEach Try.prog (Try.f4.params.toList ++ Rows.tableMatchesSpec.plain.varTypes Try.prog) (ds ++ gs)).all (· ≤ reachBytes) = true := hsz0
  have hval : ∀ (j : Nat) t v, Try.f4.params[j]? = some t → args[j]? = some v → Value.okWide Try.prog W .any base t v := hval0
  have hW' := hW
  obtain ⟨p, q, hA0, hV, rfl, hfz, hnd⟩ := hW
  have hA : DataW.TrodAll enc Try.prog W 0 (fun _ => true) true Try.f4.params.toList args.toList ds p := hA0
  rw [Try.params4] at hA hval hsz
  obtain ⟨v0, vs0, d0, ds0, p0, q0, hargs, rfl, rfl, h0, r0⟩ := trodAll_cons hA
  obtain ⟨v1, vs1, d1, ds1, p1, q1, rfl, rfl, rfl, h1, r1⟩ := trodAll_cons r0
  obtain ⟨v2, vs2, d2, ds2, p2, q2, rfl, rfl, rfl, h2, r2⟩ := trodAll_cons r1
  obtain ⟨v3, vs3, d3, ds3, p3, q3, rfl, rfl, rfl, h3, r3⟩ := trodAll_cons r2
  obtain ⟨rfl, rfl, rfl⟩ := trodAll_nil r3
  obtain rfl : args = #[v0, v1, v2, v3] := by cases args; simp_all
  obtain ⟨rfl, rfl⟩ := trodVars_none hV
  have k0 := h0
  have lt0 : ∀ x ∈ p0, x.block < W.heap.size := by obtain ⟨m, hm⟩ := k0; exact DataW.trod_lt m _ _ _ hm
  obtain ⟨ns0, ln0, rfl, wn0⟩ := Sx.open_flat 9 [.i64, .i64, .i64, .i64, .i64, .i64, .i64] Try.underlying24 (by kernel_rfl) (hval 0 24 v0 rfl rfl) h0
  obtain ⟨a0_0, ns0_0, rfl, ln0_0⟩ := Sx.len_succ (n := 6) ln0
  obtain ⟨a0_1, ns0_1, rfl, ln0_1⟩ := Sx.len_succ (n := 5) ln0_0
  obtain ⟨a0_2, ns0_2, rfl, ln0_2⟩ := Sx.len_succ (n := 4) ln0_1
  obtain ⟨a0_3, ns0_3, rfl, ln0_3⟩ := Sx.len_succ (n := 3) ln0_2
  obtain ⟨a0_4, ns0_4, rfl, ln0_4⟩ := Sx.len_succ (n := 2) ln0_3
  obtain ⟨a0_5, ns0_5, rfl, ln0_5⟩ := Sx.len_succ (n := 1) ln0_4
  obtain ⟨a0_6, ns0_6, rfl, ln0_6⟩ := Sx.len_succ (n := 0) ln0_5
  obtain rfl := Sx.len_zero ln0_6
  have w0_0 := wn0 (.i64, a0_0) (by simp)
  have w0_1 := wn0 (.i64, a0_1) (by simp)
  have w0_2 := wn0 (.i64, a0_2) (by simp)
  have w0_3 := wn0 (.i64, a0_3) (by simp)
  have w0_4 := wn0 (.i64, a0_4) (by simp)
  have w0_5 := wn0 (.i64, a0_5) (by simp)
  have w0_6 := wn0 (.i64, a0_6) (by simp)
  have k1 := h1
  have lt1 : ∀ x ∈ p1, x.block < W.heap.size := by obtain ⟨m, hm⟩ := k1; exact DataW.trod_lt m _ _ _ hm
  obtain ⟨A1, l1, c1, rfl, hr1, hc1, hm1, wf1⟩ := Sx.open_rows 9 [.i64, .u32, .i64, .u32, .i64, .u16, .u16, .u16, .u16, .u8, .u8, .i64] Try.underlying32 (by kernel_rfl) (by kernel_rfl) (by decide) (hval 1 32 v1 rfl rfl) h1
  have k2 := h2
  have lt2 : ∀ x ∈ p2, x.block < W.heap.size := by obtain ⟨m, hm⟩ := k2; exact DataW.trod_lt m _ _ _ hm
  obtain ⟨ns2, ln2, rfl, wn2⟩ := Sx.open_flat 9 [.u32, .u32, .u16, .u16, .u8] Try.underlying36 (by kernel_rfl) (hval 2 36 v2 rfl rfl) h2
  obtain ⟨a2_0, ns2_0, rfl, ln2_0⟩ := Sx.len_succ (n := 4) ln2
  obtain ⟨a2_1, ns2_1, rfl, ln2_1⟩ := Sx.len_succ (n := 3) ln2_0
  obtain ⟨a2_2, ns2_2, rfl, ln2_2⟩ := Sx.len_succ (n := 2) ln2_1
  obtain ⟨a2_3, ns2_3, rfl, ln2_3⟩ := Sx.len_succ (n := 1) ln2_2
  obtain ⟨a2_4, ns2_4, rfl, ln2_4⟩ := Sx.len_succ (n := 0) ln2_3
  obtain rfl := Sx.len_zero ln2_4
  have w2_0 := wn2 (.u32, a2_0) (by simp)
  have w2_1 := wn2 (.u32, a2_1) (by simp)
  have w2_2 := wn2 (.u16, a2_2) (by simp)
  have w2_3 := wn2 (.u16, a2_3) (by simp)
  have w2_4 := wn2 (.u8, a2_4) (by simp)
  have k3 := h3
  have lt3 : ∀ x ∈ p3, x.block < W.heap.size := by obtain ⟨m, hm⟩ := k3; exact DataW.trod_lt m _ _ _ hm
  obtain ⟨ns3, ln3, rfl, wn3⟩ := Sx.open_flat 9 [.u32, .u32, .u16, .u16, .u8] Try.underlying36 (by kernel_rfl) (hval 3 36 v3 rfl rfl) h3
  obtain ⟨a3_0, ns3_0, rfl, ln3_0⟩ := Sx.len_succ (n := 4) ln3
  obtain ⟨a3_1, ns3_1, rfl, ln3_1⟩ := Sx.len_succ (n := 3) ln3_0
  obtain ⟨a3_2, ns3_2, rfl, ln3_2⟩ := Sx.len_succ (n := 2) ln3_1
  obtain ⟨a3_3, ns3_3, rfl, ln3_3⟩ := Sx.len_succ (n := 1) ln3_2
  obtain ⟨a3_4, ns3_4, rfl, ln3_4⟩ := Sx.len_succ (n := 0) ln3_3
  obtain rfl := Sx.len_zero ln3_4
  have w3_0 := wn3 (.u32, a3_0) (by simp)
  have w3_1 := wn3 (.u32, a3_1) (by simp)
  have w3_2 := wn3 (.u16, a3_2) (by simp)
  have w3_3 := wn3 (.u16, a3_3) (by simp)
  have w3_4 := wn3 (.u8, a3_4) (by simp)
  clear hA0 hval0 hsz0 hsz
  refine (Go.Proofs.Ytgecabgcjfpenaa.PureTableMatches.walk a0_0 a0_1 a0_2 a0_3 a0_4 a0_5 a0_6 w0_0 w0_1 w0_2 w0_3 w0_4 w0_5 w0_6 A1 l1 c1 hr1 hc1 hm1 wf1 a2_0 a2_1 a2_2 a2_3 a2_4 w2_0 w2_1 w2_2 w2_3 w2_4 a3_0 a3_1 a3_2 a3_3 a3_4 w3_0 w3_1 w3_2 w3_3 w3_4).mono fun e W' ⟨he, bel⟩ => ?_
  subst he
  exact ⟨_, rfl, _, _, _, [], _, [], hW', trodAll_mk1 (shut_bool Try.underlying4 _), (trodAll_cons_mk (Below.trod laidOut (by kernel_rfl) (of_decide_eq_true (by kernel_rfl)) k0 bel lt0) (trodAll_cons_mk (Below.trod laidOut (by kernel_rfl) (of_decide_eq_true (by kernel_rfl)) k1 bel lt1) (trodAll_cons_mk (Below.trod laidOut (by kernel_rfl) (of_decide_eq_true (by kernel_rfl)) k2 bel lt2) (trodAll_cons_mk (Below.trod laidOut (by kernel_rfl) (of_decide_eq_true (by kernel_rfl)) k3 bel lt3) trodAll_mk0)))), rfl, bel.frame _, fun h => by cases h⟩
theorem over : Rows.tableMatchesRow.holds Try.pinned (OpenSpec.ofChange Rows.tableMatchesSpec) :=
  OpenClaim.holds_of_wide 4 Try.f4 rfl rfl rfl rfl rfl rfl rfl ⟨rfl, rfl, rfl, rfl, rfl⟩ rfl rfl rfl rfl rfl (by kernel_rfl) Try.func4 (by kernel_rfl)
    (of_decide_eq_true (by kernel_rfl)) (by unfold Func.isWrapper; first | (rw [if_pos (by decide +kernel)]; kernel_rfl) | (rw [if_neg (by decide +kernel)]; exact ⟨rfl, rfl⟩))
    (fun os started H enc _ => lifted os started H enc)
theorem proved : Rows.TableMatchesSaid := over
#print axioms proved
end Go.Proofs.Ytgecabgcjfpenaa.tableMatches
namespace Go.Proofs.Ytgecabgcjfpenaa
theorem tableMatches_holds : Rows.TableMatchesSaid := tableMatches.proved
end Go.Proofs.Ytgecabgcjfpenaa
