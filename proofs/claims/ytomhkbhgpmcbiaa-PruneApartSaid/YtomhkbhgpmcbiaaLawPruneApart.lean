/-
The row of the statement PruneApartSaid: for every input the Go function quintet/quintetlaw16.PruneApart returns true, and each argument reads afterwards as it read before; out of the walk and the plain law of YtomhkbhgpmcbiaaPurePruneApart.
Conditions: none beyond the statement's own.
-/
import Derived.Test.YtomhkbhgpmcbiaaRows
import Derived.Test.YtomhkbhgpmcbiaaPurePruneApart
import Derived.WalkKit
import Derived.ProofKit
import Derived.OpenShut
import Derived.ShutString
import Derived.ChangeOld
import Derived.Below
import Derived.SizedLaws
import Derived.Test.YtomhkbhgpmcbiaaSxOpen
namespace Go.Proofs.Ytomhkbhgpmcbiaa.pruneApart
open Go.ChangeShapes Go.WideShapes Go.ChangeAt Go.RowKit
open Go.ChangeMaps (open_string shut_string)
set_option linter.unusedVariables false
theorem own : ownKnob Try.prog.godebug = none := by kernel_rfl
theorem laidOut : laidOutB Try.prog = true := by kernel_rfl
set_option maxRecDepth 100000 in
theorem lifted (os : Os) (started : os.Started) (H : Type) (enc : TypeId × Value → H) :
    ReturnsInHanded {} Try.checked os 5 .any (Rows.pruneApartSpec.pre6 enc Try.prog Try.f5 Rows.pruneApartRow.domain false) (Rows.pruneApartSpec.post enc Try.prog Try.f5 false true false false) := by
  refine returnsInHanded_of_change_sized (C := Try.checked) own started (by kernel_rfl) Try.func5
    (ChangeSpec.witness6 (enc := enc) (C := Try.checked) false ⟨#[], #[.slice none 0 0, .agg #[.int .i64 0, .int .u32 0, .int .i64 0, .int .u32 0, .int .i64 0, .int .u16 0, .int .u16 0, .int .u16 0, .int .u16 0, .int .u8 0, .int .u8 0, .int .i64 0], .int .i64 0, .agg #[.int .u32 0, .int .u32 0, .int .u16 0, .int .u16 0, .int .u8 0]], []⟩ 8 (by kernel_rfl) (by kernel_rfl) (by kernel_rfl) (by kernel_rfl)) ?_
  intro W base args ds gs before hval0 hW hcnd hsz0 _
  have hsz : (DataW.weightsEach Try.prog (Try.f5.params.toList ++ Rows.pruneApartSpec.plain.varTypes Try.prog) (ds ++ gs)).all (· ≤ reachBytes) = true := hsz0
  have hval : ∀ (j : Nat) t v, Try.f5.params[j]? = some t → args[j]? = some v → Value.okWide Try.prog W .any base t v := hval0
  have hW' := hW
  obtain ⟨p, q, hA0, hV, rfl, hfz, hnd⟩ := hW
  have hA : DataW.TrodAll enc Try.prog W 0 (fun _ => true) true Try.f5.params.toList args.toList ds p := hA0
  rw [Try.params5] at hA hval hsz
  obtain ⟨v0, vs0, d0, ds0, p0, q0, hargs, rfl, rfl, h0, r0⟩ := trodAll_cons hA
  obtain ⟨v1, vs1, d1, ds1, p1, q1, rfl, rfl, rfl, h1, r1⟩ := trodAll_cons r0
  obtain ⟨v2, vs2, d2, ds2, p2, q2, rfl, rfl, rfl, h2, r2⟩ := trodAll_cons r1
  obtain ⟨v3, vs3, d3, ds3, p3, q3, rfl, rfl, rfl, h3, r3⟩ := trodAll_cons r2
  obtain ⟨rfl, rfl, rfl⟩ := trodAll_nil r3
  obtain rfl : args = #[v0, v1, v2, v3] := by cases args; simp_all
  obtain ⟨rfl, rfl⟩ := trodVars_none hV
  have k0 := h0
  have lt0 : ∀ x ∈ p0, x.block < W.heap.size := by obtain ⟨m, hm⟩ := k0; exact DataW.trod_lt m _ _ _ hm
  obtain ⟨A0, l0, c0, rfl, hr0, hc0, hm0, wf0⟩ := Sx.open_rows 9 [.i64, .u32, .i64, .u32, .i64, .u16, .u16, .u16, .u16, .u8, .u8, .i64] Try.underlying46 (by kernel_rfl) (by kernel_rfl) (by decide) (hval 0 46 v0 rfl rfl) h0
  have k1 := h1
  have lt1 : ∀ x ∈ p1, x.block < W.heap.size := by obtain ⟨m, hm⟩ := k1; exact DataW.trod_lt m _ _ _ hm
  obtain ⟨ns1, ln1, rfl, wn1⟩ := Sx.open_flat 9 [.i64, .u32, .i64, .u32, .i64, .u16, .u16, .u16, .u16, .u8, .u8, .i64] Try.underlying60 (by kernel_rfl) (hval 1 60 v1 rfl rfl) h1
  obtain ⟨a1_0, ns1_0, rfl, ln1_0⟩ := Sx.len_succ (n := 11) ln1
  obtain ⟨a1_1, ns1_1, rfl, ln1_1⟩ := Sx.len_succ (n := 10) ln1_0
  obtain ⟨a1_2, ns1_2, rfl, ln1_2⟩ := Sx.len_succ (n := 9) ln1_1
  obtain ⟨a1_3, ns1_3, rfl, ln1_3⟩ := Sx.len_succ (n := 8) ln1_2
  obtain ⟨a1_4, ns1_4, rfl, ln1_4⟩ := Sx.len_succ (n := 7) ln1_3
  obtain ⟨a1_5, ns1_5, rfl, ln1_5⟩ := Sx.len_succ (n := 6) ln1_4
  obtain ⟨a1_6, ns1_6, rfl, ln1_6⟩ := Sx.len_succ (n := 5) ln1_5
  obtain ⟨a1_7, ns1_7, rfl, ln1_7⟩ := Sx.len_succ (n := 4) ln1_6
  obtain ⟨a1_8, ns1_8, rfl, ln1_8⟩ := Sx.len_succ (n := 3) ln1_7
  obtain ⟨a1_9, ns1_9, rfl, ln1_9⟩ := Sx.len_succ (n := 2) ln1_8
  obtain ⟨a1_10, ns1_10, rfl, ln1_10⟩ := Sx.len_succ (n := 1) ln1_9
  obtain ⟨a1_11, ns1_11, rfl, ln1_11⟩ := Sx.len_succ (n := 0) ln1_10
  obtain rfl := Sx.len_zero ln1_11
  have w1_0 := wn1 (.i64, a1_0) (by simp)
  have w1_1 := wn1 (.u32, a1_1) (by simp)
  have w1_2 := wn1 (.i64, a1_2) (by simp)
  have w1_3 := wn1 (.u32, a1_3) (by simp)
  have w1_4 := wn1 (.i64, a1_4) (by simp)
  have w1_5 := wn1 (.u16, a1_5) (by simp)
  have w1_6 := wn1 (.u16, a1_6) (by simp)
  have w1_7 := wn1 (.u16, a1_7) (by simp)
  have w1_8 := wn1 (.u16, a1_8) (by simp)
  have w1_9 := wn1 (.u8, a1_9) (by simp)
  have w1_10 := wn1 (.u8, a1_10) (by simp)
  have w1_11 := wn1 (.i64, a1_11) (by simp)
  obtain ⟨a2, rfl, rfl, rfl, w2⟩ := open_int Try.underlying3 (hval 2 3 v2 rfl rfl) h2
  have k3 := h3
  have lt3 : ∀ x ∈ p3, x.block < W.heap.size := by obtain ⟨m, hm⟩ := k3; exact DataW.trod_lt m _ _ _ hm
  obtain ⟨ns3, ln3, rfl, wn3⟩ := Sx.open_flat 9 [.u32, .u32, .u16, .u16, .u8] Try.underlying28 (by kernel_rfl) (hval 3 28 v3 rfl rfl) h3
  obtain ⟨a3_0, ns3_0, rfl, ln3_0⟩ := Sx.len_succ (n := 4) ln3
  obtain ⟨a3_1, ns3_1, rfl, ln3_1⟩ := Sx.len_succ (n := 3) ln3_0
  obtain ⟨a3_2, ns3_2, rfl, ln3_2⟩ := Sx.len_succ (n := 2) ln3_1
  obtain ⟨a3_3, ns3_3, rfl, ln3_3⟩ := Sx.len_succ (n := 1) ln3_2
  obtain ⟨a3_4, ns3_4, rfl, ln3_4⟩ := Sx.len_succ (n := 0) ln3_3
  obtain rfl := Sx.len_zero ln3_4
  have w3_0 := wn3 (.u32, a3_0) (by simp)
  have w3_1 := wn3 (.u32, a3_1) (by simp)
  have w3_2 := wn3 (.u16, a3_2) (by simp)
  have w3_3 := wn3 (.u16, a3_3) (by simp)
  have w3_4 := wn3 (.u8, a3_4) (by simp)
  clear hA0 hval0 hsz0 hsz
  refine (Go.Proofs.Ytomhkbhgpmcbiaa.PurePruneApart.walk A0 l0 c0 hr0 hc0 hm0 wf0 a1_0 a1_1 a1_2 a1_3 a1_4 a1_5 a1_6 a1_7 a1_8 a1_9 a1_10 a1_11 w1_0 w1_1 w1_2 w1_3 w1_4 w1_5 w1_6 w1_7 w1_8 w1_9 w1_10 w1_11 a2 w2 a3_0 a3_1 a3_2 a3_3 a3_4 w3_0 w3_1 w3_2 w3_3 w3_4).mono fun e W' ⟨he, bel⟩ => ?_
  subst he
  exact ⟨_, rfl, _, _, _, [], _, [], hW', trodAll_mk1 (shut_bool Try.underlying4 _), (trodAll_cons_mk (Below.trod laidOut (by kernel_rfl) (of_decide_eq_true (by kernel_rfl)) k0 bel lt0) (trodAll_cons_mk (Below.trod laidOut (by kernel_rfl) (of_decide_eq_true (by kernel_rfl)) k1 bel lt1) (trodAll_cons_mk (shut_int Try.underlying3 w2) (trodAll_cons_mk (Below.trod laidOut (by kernel_rfl) (of_decide_eq_true (by kernel_rfl)) k3 bel lt3) trodAll_mk0)))), rfl, bel.frame _, fun h => by cases h⟩
theorem over : Rows.pruneApartRow.holds Try.pinned (OpenSpec.ofChange Rows.pruneApartSpec) :=
  OpenClaim.holds_of_wide 5 Try.f5 rfl rfl rfl rfl rfl rfl rfl ⟨rfl, rfl, rfl, rfl, rfl⟩ rfl rfl rfl rfl rfl (by kernel_rfl) Try.func5 (by kernel_rfl)
    (of_decide_eq_true (by kernel_rfl)) (by unfold Func.isWrapper; first | (rw [if_pos (by decide +kernel)]; kernel_rfl) | (rw [if_neg (by decide +kernel)]; exact ⟨rfl, rfl⟩))
    (fun os started H enc _ => lifted os started H enc)
theorem proved : Rows.PruneApartSaid := over
#print axioms proved
end Go.Proofs.Ytomhkbhgpmcbiaa.pruneApart
namespace Go.Proofs.Ytomhkbhgpmcbiaa
theorem pruneApart_holds : Rows.PruneApartSaid := pruneApart.proved
end Go.Proofs.Ytomhkbhgpmcbiaa
