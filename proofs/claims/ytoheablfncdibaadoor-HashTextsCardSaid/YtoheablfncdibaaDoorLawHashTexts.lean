/-
The row of the statement HashTextsSaid: for every input the Go function quintet/quintetlaw15.HashTexts returns true, and each argument reads afterwards as it read before; out of the walk and the plain law of YtoheablfncdibaaDoorPureHashTexts.
Conditions: none beyond the statement's own.
-/
import Derived.Test.YtoheablfncdibaaDoorRows
import Derived.Test.YtoheablfncdibaaDoorPureHashTexts
import Derived.WalkKit
import Derived.ProofKit
import Derived.OpenShut
import Derived.ShutString
import Derived.ChangeOld
import Derived.Below
import Derived.SizedLaws
import Derived.LaidLaws
import Derived.Stop.LaidErr
import Derived.Test.YtoheablfncdibaaDoorSxOpen
namespace Go.Proofs.YtoheablfncdibaaDoor.hashTexts
open Go.ChangeShapes Go.WideShapes Go.ChangeAt Go.RowKit
open Go.ChangeMaps (open_string shut_string)
set_option linter.unusedVariables false
theorem own : ownKnob Tryd.prog.godebug = none := by kernel_rfl
theorem laidOut : laidOutB Tryd.prog = true := by kernel_rfl
/-- The cells of a datum of whole numbers. -/
def cellsD : DataW Unit → Array Value
  | .agg l => (l.map fun | .lit (.int k z) => Value.int k z | _ => .nilIface).toArray
  | _ => #[]
/-- A world that meets the row's list. -/
noncomputable def laidWorld (os : Os) : World :=
  let w0 := World.holding Tryd.prog os ⟨#[], #[], []⟩
  { w0 with heap := w0.heap
      |>.modify 1 (fun | .cells _ t frozen => .cells (cellsD Rows.laid_math_bits_deBruijn32tab) t frozen | o => o)
      |>.modify 2 (fun | .cells _ t frozen => .cells (cellsD Rows.laid_math_bits_deBruijn64tab) t frozen | o => o)
      |>.modify 0 (fun | .cells _ t frozen => .cells (cellsD Rows.laid_internal_strconv_uint64pow10) t frozen | o => o) }
theorem laidWorld_met (os : Os) (args : Array Value) : laidMet Tryd.prog Rows.hashTextsRow.laid ((laidWorld os).forCall (fun _ _ => 0) ⟨#[], args, []⟩).memory :=
  laidMet_of_run' 8 (by kernel_rfl) (by kernel_rfl)
set_option maxRecDepth 100000 in
theorem lifted (os : Os) (started : os.Started) (H : Type) (enc : TypeId × Value → H) :
    ReturnsInHanded {} Tryd.checked os 3 .any (fun w args => (Rows.hashTextsSpec.pre enc Tryd.prog Tryd.f3 Rows.hashTextsRow.domain false w args ∧ laidMet Tryd.prog Rows.hashTextsRow.laid w) ∧ sizedMet enc Tryd.prog Tryd.f3 (OpenSpec.ofChange Rows.hashTextsSpec) false w args) (Rows.hashTextsSpec.post enc Tryd.prog Tryd.f3 false true false false) := by
  refine returnsInHanded_of_change_and (C := Tryd.checked) (X := fun w _ => laidMet Tryd.prog Rows.hashTextsRow.laid w) (fun _ _ _ hh h => h.of_heap hh) own started (by kernel_rfl) Tryd.func3
    (ChangeSpec.witness_at (enc := enc) (C := Tryd.checked) (os := os) (X := fun w _ => laidMet Tryd.prog Rows.hashTextsRow.laid w) false (laidWorld os) #[.slice none 0 0, .agg #[.int .u32 0, .int .u32 0, .int .u16 0, .int .u16 0, .int .u8 0]] 8 rfl (by kernel_rfl) (by kernel_rfl) (by kernel_rfl) (by kernel_rfl) (by kernel_rfl) (laidWorld_met os _)) ?_
  intro W base args ds gs before hval0 hW hcnd hsz0 hL _
  have hsz : (DataW.weightsEach Tryd.prog (Tryd.f3.params.toList ++ Rows.hashTextsSpec.plain.varTypes Tryd.prog) (ds ++ gs)).all (· ≤ reachBytes) = true := hsz0
  have hval : ∀ (j : Nat) t v, Tryd.f3.params[j]? = some t → args[j]? = some v → Value.okWide Tryd.prog W .any base t v := hval0
  have hW' := hW
  obtain ⟨p, q, hA0, hV, rfl, hfz, hnd⟩ := hW
  have hA : DataW.TrodAll enc Tryd.prog W 0 (fun _ => true) true Tryd.f3.params.toList args.toList ds p := hA0
  rw [Tryd.params3] at hA hval hsz
  obtain ⟨v0, vs0, d0, ds0, p0, q0, hargs, rfl, rfl, h0, r0⟩ := trodAll_cons hA
  obtain ⟨v1, vs1, d1, ds1, p1, q1, rfl, rfl, rfl, h1, r1⟩ := trodAll_cons r0
  obtain ⟨rfl, rfl, rfl⟩ := trodAll_nil r1
  obtain rfl : args = #[v0, v1] := by cases args; simp_all
  obtain ⟨rfl, rfl⟩ := trodVars_none hV
  have k0 := h0
  have lt0 : ∀ x ∈ p0, x.block < W.heap.size := by obtain ⟨m, hm⟩ := k0; exact DataW.trod_lt m _ _ _ hm
  obtain ⟨A0, l0, c0, rfl, hr0, hc0, hm0, wf0⟩ := Sx.open_rows 9 [.i64, .u32, .u32, .u16, .u16, .u8, .i64] Tryd.underlying22 (by kernel_rfl) (by kernel_rfl) (by decide) (hval 0 22 v0 rfl rfl) h0
  have k1 := h1
  have lt1 : ∀ x ∈ p1, x.block < W.heap.size := by obtain ⟨m, hm⟩ := k1; exact DataW.trod_lt m _ _ _ hm
  obtain ⟨ns1, ln1, rfl, wn1⟩ := Sx.open_flat 9 [.u32, .u32, .u16, .u16, .u8] Tryd.underlying26 (by kernel_rfl) (hval 1 26 v1 rfl rfl) h1
  obtain ⟨a1_0, ns1_0, rfl, ln1_0⟩ := Sx.len_succ (n := 4) ln1
  obtain ⟨a1_1, ns1_1, rfl, ln1_1⟩ := Sx.len_succ (n := 3) ln1_0
  obtain ⟨a1_2, ns1_2, rfl, ln1_2⟩ := Sx.len_succ (n := 2) ln1_1
  obtain ⟨a1_3, ns1_3, rfl, ln1_3⟩ := Sx.len_succ (n := 1) ln1_2
  obtain ⟨a1_4, ns1_4, rfl, ln1_4⟩ := Sx.len_succ (n := 0) ln1_3
  obtain rfl := Sx.len_zero ln1_4
  have w1_0 := wn1 (.u32, a1_0) (by simp)
  have w1_1 := wn1 (.u32, a1_1) (by simp)
  have w1_2 := wn1 (.u16, a1_2) (by simp)
  have w1_3 := wn1 (.u16, a1_3) (by simp)
  have w1_4 := wn1 (.u8, a1_4) (by simp)
  clear hA0 hval0 hsz0 hsz
  refine (Go.Proofs.YtoheablfncdibaaDoor.PureHashTexts.walk A0 l0 c0 hr0 hc0 hm0 wf0 a1_0 a1_1 a1_2 a1_3 a1_4 w1_0 w1_1 w1_2 w1_3 w1_4 hL).mono fun e W' ⟨he, bel⟩ => ?_
  subst he
  exact ⟨_, rfl, _, _, _, [], _, [], hW', trodAll_mk1 (shut_bool Tryd.underlying4 _), (trodAll_cons_mk (Below.trod laidOut (by kernel_rfl) (of_decide_eq_true (by kernel_rfl)) k0 bel lt0) (trodAll_cons_mk (Below.trod laidOut (by kernel_rfl) (of_decide_eq_true (by kernel_rfl)) k1 bel lt1) trodAll_mk0)), rfl, bel.frame _, fun h => by cases h⟩
theorem over : Rows.hashTextsRow.holds Tryd.pinned (OpenSpec.ofChange Rows.hashTextsSpec) :=
  OpenClaim.holds_of_wide 3 Tryd.f3 rfl rfl rfl rfl rfl rfl rfl ⟨rfl, rfl, rfl, rfl, rfl⟩ rfl rfl rfl rfl rfl (by kernel_rfl) Tryd.func3 (by kernel_rfl)
    (of_decide_eq_true (by kernel_rfl)) (by unfold Func.isWrapper; first | (rw [if_pos (by decide +kernel)]; kernel_rfl) | (rw [if_neg (by decide +kernel)]; exact ⟨rfl, rfl⟩))
    (fun os started H enc _ => lifted os started H enc)
theorem proved : Rows.HashTextsSaid := over
#print axioms proved
end Go.Proofs.YtoheablfncdibaaDoor.hashTexts
namespace Go.Proofs.YtoheablfncdibaaDoor
theorem hashTexts_holds : Rows.HashTextsSaid := hashTexts.proved
end Go.Proofs.YtoheablfncdibaaDoor
