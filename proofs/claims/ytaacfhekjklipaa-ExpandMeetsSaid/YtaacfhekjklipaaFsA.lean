/- Printed by sx.py: words over the heap alone for Go functions, and that each call does what its word says. -/
import Derived.Test.YtaacfhekjklipaaSxSel
import Derived.Test.YtaacfhekjklipaaSxRound
import Derived.Test.YtaacfhekjklipaaProg
namespace Go.Proofs.Ytaacfhekjklipaa.Fs
open Go Go.RowKit Go.Proofs.Ytaacfhekjklipaa.Sx
set_option linter.unusedVariables false

/-! ### quintet/span.Less: function 12 -/
def span_Less_j1 (K0 : (Option Addr) → Nat → Nat → Hp → Prop) (a39 : Addr) (a40 : Addr) (A41 : Option Addr) (l41 : Nat) (c41 : Nat) (h : Hp) : Prop :=
  ∃ x52 : Int, HV Try.prog (Instr.loadAt 22 (.pointer (some (a40.add 1)))) h (.int .u16 x52) ∧ 
  ∃ x53 : Int, HV Try.prog (Instr.loadAt 22 (.pointer (some (a39.add 1)))) h (.int .u16 x53) ∧ 
  br (decide (x52 < x53))
  (∃ x54 : Int, HV Try.prog (Instr.loadAt 22 (.pointer (some (a40.add 1)))) h (.int .u16 x54) ∧ 
  ∃ x55 : Int, HV Try.prog (Instr.loadAt 22 (.pointer (some (a39.add 1)))) h (.int .u16 x55) ∧ 
  newC h (.cells #[(.int .u16 (IntKind.u16.wrap (x54 + 1))), (.int .u16 x55)] 24 (0, 0)) fun a57 h56 => 
  HW Try.prog (Builtin.append_ #[25, 25] 25 #[(.slice A41 l41 c41), (.slice (some a57) 1 1)]) h56 fun r59 h58 =>
  ∃ A60 : Option Addr, ∃ l60 : Nat, ∃ c60 : Nat, r59 = (.slice A60 l60 c60) ∧ 
  K0 A60 l60 c60 h58)
  (K0 A41 l41 c41 h)
def span_Less_j1_L (Q : Qx) (tm : Tm) (h : Hp) : Prop :=
  selA (tm 2) fun a39 =>
  selA (tm 5) fun a40 =>
  selS (tm 7) fun A41 l41 c41 =>
  span_Less_j1 (fun (A51 : Option Addr) (l51 : Nat) (c51 : Nat) h => Q (.ret) (mkTm [(4, some (.slice A51 l51 c51))]) h) a39 a40 A41 l41 c41 h
def span_Less (x1 : Int) (x2 : Int) (x3 : Int) (x4 : Int) (h : Hp) (K : Value → Hp → Prop) : Prop :=
  newC h (.cells #[(.int .u16 x1), (.int .u16 x2)] 24 (0, 0)) fun a6 h5 => 
  newC h5 (.cells #[(.int .u16 x3), (.int .u16 x4)] 24 (0, 0)) fun a8 h7 => 
  ∃ x9 : Int, ∃ x10 : Int, HV Try.prog (Instr.loadAt 24 (.pointer (some a6))) h7 (.agg #[(.int .u16 x9), (.int .u16 x10)]) ∧ 
  CallsH Try.prog 45 #[(.agg #[(.int .u16 x9), (.int .u16 x10)])] h7 fun r12 h11 =>
  ∃ b13 : Bool, r12 = (.bool b13) ∧ 
  br (!b13)
  (K (.slice none 0 0) h11)
  (∃ x14 : Int, ∃ x15 : Int, HV Try.prog (Instr.loadAt 24 (.pointer (some a6))) h11 (.agg #[(.int .u16 x14), (.int .u16 x15)]) ∧ 
  ∃ x16 : Int, ∃ x17 : Int, HV Try.prog (Instr.loadAt 24 (.pointer (some a8))) h11 (.agg #[(.int .u16 x16), (.int .u16 x17)]) ∧ 
  CallsH Try.prog 44 #[(.agg #[(.int .u16 x14), (.int .u16 x15)]), (.agg #[(.int .u16 x16), (.int .u16 x17)])] h11 fun r19 h18 =>
  ∃ x20 : Int, ∃ x21 : Int, ∃ b22 : Bool, r19 = (.tuple #[(.agg #[(.int .u16 x20), (.int .u16 x21)]), (.bool b22)]) ∧ 
  newC h18 (.cells #[(.int .u16 0), (.int .u16 0)] 24 (0, 0)) fun a24 h23 => 
  HU Try.prog (Instr.storeAt 24 (.pointer (some a24)) (.agg #[(.int .u16 x20), (.int .u16 x21)])) h23 fun h25 => 
  br (!b22)
  (∃ x26 : Int, ∃ x27 : Int, HV Try.prog (Instr.loadAt 24 (.pointer (some a6))) h25 (.agg #[(.int .u16 x26), (.int .u16 x27)]) ∧ 
  newC h25 (.cells #[(.int .u16 x26), (.int .u16 x27)] 24 (0, 0)) fun a29 h28 => 
  K (.slice (some a29) 1 1) h28)
  (∃ x61 : Int, HV Try.prog (Instr.loadAt 22 (.pointer (some a6))) h25 (.int .u16 x61) ∧ 
  ∃ x62 : Int, HV Try.prog (Instr.loadAt 22 (.pointer (some a24))) h25 (.int .u16 x62) ∧ 
  br (decide (x61 < x62))
  (∃ x63 : Int, HV Try.prog (Instr.loadAt 22 (.pointer (some a6))) h25 (.int .u16 x63) ∧ 
  ∃ x64 : Int, HV Try.prog (Instr.loadAt 22 (.pointer (some a24))) h25 (.int .u16 x64) ∧ 
  newC h25 (.cells #[(.int .u16 x63), (.int .u16 (IntKind.u16.wrap (x64 - 1)))] 24 (0, 0)) fun a66 h65 => 
  HW Try.prog (Builtin.append_ #[25, 25] 25 #[(.slice none 0 0), (.slice (some a66) 1 1)]) h65 fun r68 h67 =>
  ∃ A69 : Option Addr, ∃ l69 : Nat, ∃ c69 : Nat, r68 = (.slice A69 l69 c69) ∧ 
  span_Less_j1
  (fun (A70 : Option Addr) (l70 : Nat) (c70 : Nat) (h71 : Hp) =>
  K (.slice A70 l70 c70) h71)
  a6 a24 A69 l69 c69 h67)
  (span_Less_j1
  (fun (A72 : Option Addr) (l72 : Nat) (c72 : Nat) (h73 : Hp) =>
  K (.slice A72 l72 c72) h73)
  a6 a24 none 0 0 h25)))
def span_Less_lp (i : Nat) (Q : Qx) (tm : Tm) (h : Hp) : Prop := match Nat.beq i 63 with
  | true => span_Less_j1_L Q tm h
  | false => False
def span_Less_cut (i : Nat) : Option (List Nat) := match Nat.beq i 63 with
  | true => some [2, 5, 7]
  | false => none
set_option maxRecDepth 100000 in
theorem span_Less_j1_step (Q : Qx) (a39 : Addr) (a40 : Addr) (A41 : Option Addr) (l41 : Nat) (c41 : Nat) (h : Hp) : span_Less_j1_L Q (mkTm [(2, some (.pointer (some a39))), (5, some (.pointer (some a40))), (7, some (.slice A41 l41 c41))]) h =
    codeWp Try.prog 50 span_Less_lp span_Less_cut (sub (bodyOf Try.f12) [true, true, true, true, true, true]) 127 (maskQ (fun e => match e with | .ret => [4] | _ => []) Q) (mkTm [(2, some (.pointer (some a39))), (5, some (.pointer (some a40))), (7, some (.slice A41 l41 c41))]) h := by kernel_rfl
theorem span_Less_j1_mask (Q : Qx) (tm : Tm) (h : Hp) : span_Less_j1_L Q tm h ↔ span_Less_j1_L Q (mask [2, 5, 7] tm) h := Iff.rfl
set_option maxRecDepth 100000 in
theorem span_Less_j1_snd : SndAt Try.prog 50 none (sub (bodyOf Try.f12) [true, true, true, true, true, true]) (span_Less_lp 63) := by
  refine join_sound (lp := span_Less_lp) (cut := span_Less_cut) (i := 63) (c := (sub (bodyOf Try.f12) [true, true, true, true, true, true])) [2, 5, 7] (fun e => match e with | .ret => [4] | _ => []) span_Less_j1_L ?_ ?_
  · exact good_by (c := (sub (bodyOf Try.f12) [true, true, true, true, true, true])) (i := 127) (l := []) (by kernel_rfl) (fun _ h => by cases h)
  · intro Q tm h H
    have H0 := H
    obtain ⟨a39, e2, H⟩ := selA_ex H
    obtain ⟨a40, e5, H⟩ := selA_ex H
    obtain ⟨A41, l41, c41, e7, H⟩ := selS_ex H
    have e : mask [2, 5, 7] tm = mkTm [(2, some (.pointer (some a39))), (5, some (.pointer (some a40))), (7, some (.slice A41 l41 c41))] := by simp only [mask, List.map_cons, List.map_nil, e2, e5, e7] <;> rfl
    rw [e]
    refine Eq.mp (span_Less_j1_step Q a39 a40 A41 l41 c41 h) ?_
    rw [← e]
    exact (span_Less_j1_mask Q tm h).mp H0
set_option maxRecDepth 100000 in
theorem span_Less_eq (x1 : Int) (x2 : Int) (x3 : Int) (x4 : Int) (h : Hp) (K : Value → Hp → Prop) : span_Less x1 x2 x3 x4 h K =
    codeWp Try.prog 50 span_Less_lp span_Less_cut (bodyOf Try.f12) 1 (endQ Try.prog Try.f12.results.toList K) (argTm [(.agg #[(.int .u16 x1), (.int .u16 x2)]), (.agg #[(.int .u16 x3), (.int .u16 x4)])]) h := by kernel_rfl
set_option maxRecDepth 100000 in
theorem span_Less_ok (x1 : Int) (x2 : Int) (x3 : Int) (x4 : Int) {h : Hp} {K : Value → Hp → Prop} (H : span_Less x1 x2 x3 x4 h K) : CallsH Try.prog 12 #[(.agg #[(.int .u16 x1), (.int .u16 x2)]), (.agg #[(.int .u16 x3), (.int .u16 x4)])] h K :=
  calls_of (args := [(.agg #[(.int .u16 x1), (.int .u16 x2)]), (.agg #[(.int .u16 x3), (.int .u16 x4)])]) (n := 50) (lp := span_Less_lp) (cut := span_Less_cut) Try.func12 (c := bodyOf Try.f12) (by kernel_rfl) (by kernel_rfl) (by kernel_rfl) (good_by (c := (bodyOf Try.f12)) (i := 1) (l := [(63, (sub (bodyOf Try.f12) [true, true, true, true, true, true]))]) (by kernel_rfl) (List.forall_mem_cons.2 ⟨span_Less_j1_snd, (fun _ h => by cases h)⟩))
    (Eq.mp (span_Less_eq x1 x2 x3 x4 h K) H)

/-! ### quintet/quintetref03.Same: function 14 -/
def quintetref03_Same_l1 (A3 : Option Addr) (l3 : Nat) (c3 : Nat) (A4 : Option Addr) (l4 : Nat) (c4 : Nat) (K0 : Bool → Hp → Prop) (K1 : Hp → Prop)  : Nat → Int → Hp → Prop
  | 0, _, _ => False
  | k + 1, x5, h =>
    br (decide (x5 < (l3 : Int)))
    (∃ a14 : Addr, PV Try.prog (Instr.indexAt 25 (.slice A3 l3 c3) (.int .i64 x5)) (.pointer (some a14)) ∧
    ∃ x15 : Int, ∃ x16 : Int, HV Try.prog (Instr.loadAt 24 (.pointer (some a14))) h (.agg #[(.int .u16 x15), (.int .u16 x16)]) ∧ 
    ∃ a17 : Addr, PV Try.prog (Instr.indexAt 25 (.slice A4 l4 c4) (.int .i64 x5)) (.pointer (some a17)) ∧
    ∃ x18 : Int, ∃ x19 : Int, HV Try.prog (Instr.loadAt 24 (.pointer (some a17))) h (.agg #[(.int .u16 x18), (.int .u16 x19)]) ∧ 
    ∃ b20 : Bool, PV Try.prog (binOp .neq 24 (.agg #[(.int .u16 x15), (.int .u16 x16)]) (.agg #[(.int .u16 x18), (.int .u16 x19)])) (.bool b20) ∧
    br b20
    (K0 false h)
    (quintetref03_Same_l1 A3 l3 c3 A4 l4 c4 K0 K1 k (IntKind.i64.wrap (x5 + 1)) h))
    (K1 h)
def quintetref03_Same_l1_L (Q : Qx) (k : Nat) (tm : Tm) (h : Hp) : Prop :=
  selS (tm 0) fun A3 l3 c3 =>
  selS (tm 1) fun A4 l4 c4 =>
  selI .i64 (tm 5) fun x5 =>
  quintetref03_Same_l1 A3 l3 c3 A4 l4 c4 (fun (b13 : Bool) h => Q (.ret) (mkTm [(4, some (.bool b13))]) h) (fun  h => Q (.exit 0) (mkTm []) h) k x5 h
def quintetref03_Same (A1 : Option Addr) (l1 : Nat) (c1 : Nat) (A2 : Option Addr) (l2 : Nat) (c2 : Nat) (h : Hp) (K : Value → Hp → Prop) : Prop :=
  br ((l1 : Int) != (l2 : Int))
  (K (.bool false) h)
  (∃ k24, quintetref03_Same_l1 A1 l1 c1 A2 l2 c2
  (fun (b21 : Bool) (h22 : Hp) =>
  K (.bool b21) h22)
  (fun  (h23 : Hp) =>
  K (.bool true) h23)
  k24 0 h)
def quintetref03_Same_lp (i : Nat) (Q : Qx) (tm : Tm) (h : Hp) : Prop := match Nat.beq i 58 with
  | true => ∃ k, quintetref03_Same_l1_L Q k tm h
  | false => False
def quintetref03_Same_cut (i : Nat) : Option (List Nat) := none
set_option maxRecDepth 100000 in
theorem quintetref03_Same_l1_step (Q : Qx) (k : Nat) (A3 : Option Addr) (l3 : Nat) (c3 : Nat) (A4 : Option Addr) (l4 : Nat) (c4 : Nat) (x5 : Int) (h : Hp) : quintetref03_Same_l1_L Q (k + 1) (mkTm [(0, some (.slice A3 l3 c3)), (1, some (.slice A4 l4 c4)), (5, some (.int .i64 x5))]) h =
    codeWp Try.prog 26 quintetref03_Same_lp quintetref03_Same_cut (sub (bodyOf Try.f14) [true, true, false, true, false, false]) 116 (thenQ (fun tm h => quintetref03_Same_l1_L Q k (mask [0, 1, 5] tm) h) (maskQ (fun e => match e with | .ret => [4] | .exit 0 => [] | _ => []) Q)) (mkTm [(0, some (.slice A3 l3 c3)), (1, some (.slice A4 l4 c4)), (5, some (.int .i64 x5))]) h := by kernel_rfl
theorem quintetref03_Same_l1_mask (Q : Qx) (k : Nat) (tm : Tm) (h : Hp) : quintetref03_Same_l1_L Q k tm h ↔ quintetref03_Same_l1_L Q k (mask [0, 1, 5] tm) h := Iff.rfl
set_option maxRecDepth 100000 in
theorem quintetref03_Same_l1_snd : SndAt Try.prog 26 none (sub (bodyOf Try.f14) [true, true, false, true, false]) (quintetref03_Same_lp 58) := by
  refine loop_sound (lp := quintetref03_Same_lp) (cut := quintetref03_Same_cut) (i := 58) (c := (sub (bodyOf Try.f14) [true, true, false, true, false, false])) [0, 1, 5] (fun e => match e with | .ret => [4] | .exit 0 => [] | _ => []) quintetref03_Same_l1_L ?_ ?_ ?_
  · exact good_by (c := (sub (bodyOf Try.f14) [true, true, false, true, false, false])) (i := 116) (l := []) (by kernel_rfl) (fun _ h => by cases h)
  · intro Q tm h H
    obtain ⟨A3, l3, c3, e0, H⟩ := selS_ex H
    obtain ⟨A4, l4, c4, e1, H⟩ := selS_ex H
    obtain ⟨x5, e5, H⟩ := selI_ex H
    exact H
  · intro Q k tm h H
    have H0 := H
    obtain ⟨A3, l3, c3, e0, H⟩ := selS_ex H
    obtain ⟨A4, l4, c4, e1, H⟩ := selS_ex H
    obtain ⟨x5, e5, H⟩ := selI_ex H
    have e : mask [0, 1, 5] tm = mkTm [(0, some (.slice A3 l3 c3)), (1, some (.slice A4 l4 c4)), (5, some (.int .i64 x5))] := by simp only [mask, List.map_cons, List.map_nil, e0, e1, e5] <;> rfl
    rw [e]
    refine Eq.mp (quintetref03_Same_l1_step Q k A3 l3 c3 A4 l4 c4 x5 h) ?_
    rw [← e]
    exact (quintetref03_Same_l1_mask Q (k + 1) tm h).mp H0
set_option maxRecDepth 100000 in
theorem quintetref03_Same_eq (A1 : Option Addr) (l1 : Nat) (c1 : Nat) (A2 : Option Addr) (l2 : Nat) (c2 : Nat) (h : Hp) (K : Value → Hp → Prop) : quintetref03_Same A1 l1 c1 A2 l2 c2 h K =
    codeWp Try.prog 26 quintetref03_Same_lp quintetref03_Same_cut (bodyOf Try.f14) 1 (endQ Try.prog Try.f14.results.toList K) (argTm [(.slice A1 l1 c1), (.slice A2 l2 c2)]) h := by kernel_rfl
set_option maxRecDepth 100000 in
theorem quintetref03_Same_ok (A1 : Option Addr) (l1 : Nat) (c1 : Nat) (A2 : Option Addr) (l2 : Nat) (c2 : Nat) {h : Hp} {K : Value → Hp → Prop} (H : quintetref03_Same A1 l1 c1 A2 l2 c2 h K) : CallsH Try.prog 14 #[(.slice A1 l1 c1), (.slice A2 l2 c2)] h K :=
  calls_of (args := [(.slice A1 l1 c1), (.slice A2 l2 c2)]) (n := 26) (lp := quintetref03_Same_lp) (cut := quintetref03_Same_cut) Try.func14 (c := bodyOf Try.f14) (by kernel_rfl) (by kernel_rfl) (by kernel_rfl) (good_by (c := (bodyOf Try.f14)) (i := 1) (l := [(58, (sub (bodyOf Try.f14) [true, true, false, true, false]))]) (by kernel_rfl) (List.forall_mem_cons.2 ⟨quintetref03_Same_l1_snd, (fun _ h => by cases h)⟩))
    (Eq.mp (quintetref03_Same_eq A1 l1 c1 A2 l2 c2 h K) H)

/-! ### quintet/quintetlaw03.spoil: function 15 -/
def quintetlaw03_spoil_l1 (A3 : Option Addr) (l3 : Nat) (c3 : Nat) (K0 : Hp → Prop)  : Nat → Int → Hp → Prop
  | 0, _, _ => False
  | k + 1, x4, h =>
    br (decide (x4 < (l3 : Int)))
    (CallsH Try.prog 48 #[(.int .u16 5), (.int .u16 4)] h fun r12 h11 =>
    ∃ x13 : Int, ∃ x14 : Int, r12 = (.agg #[(.int .u16 x13), (.int .u16 x14)]) ∧ 
    ∃ a15 : Addr, PV Try.prog (Instr.indexAt 25 (.slice A3 l3 c3) (.int .i64 x4)) (.pointer (some a15)) ∧
    HU Try.prog (Instr.storeAt 24 (.pointer (some a15)) (.agg #[(.int .u16 x13), (.int .u16 x14)])) h11 fun h16 => 
    quintetlaw03_spoil_l1 A3 l3 c3 K0 k (IntKind.i64.wrap (x4 + 1)) h16)
    (K0 h)
def quintetlaw03_spoil_l1_L (Q : Qx) (k : Nat) (tm : Tm) (h : Hp) : Prop :=
  selS (tm 0) fun A3 l3 c3 =>
  selI .i64 (tm 2) fun x4 =>
  quintetlaw03_spoil_l1 A3 l3 c3 (fun  h => Q (.exit 0) (mkTm []) h) k x4 h
def quintetlaw03_spoil (A1 : Option Addr) (l1 : Nat) (c1 : Nat) (h : Hp) (K : Value → Hp → Prop) : Prop :=
  ∃ A2 : Option Addr, ∃ l2 : Nat, ∃ c2 : Nat, PV Try.prog (Instr.sliceAt 25 (.slice A1 l1 c1) none (some (.int .i64 (c1 : Int))) none) (.slice A2 l2 c2) ∧
  ∃ k18, quintetlaw03_spoil_l1 A2 l2 c2
  (fun  (h17 : Hp) =>
  K (.tuple #[]) h17)
  k18 0 h
def quintetlaw03_spoil_lp (i : Nat) (Q : Qx) (tm : Tm) (h : Hp) : Prop := match Nat.beq i 14 with
  | true => ∃ k, quintetlaw03_spoil_l1_L Q k tm h
  | false => False
def quintetlaw03_spoil_cut (i : Nat) : Option (List Nat) := none
set_option maxRecDepth 100000 in
theorem quintetlaw03_spoil_l1_step (Q : Qx) (k : Nat) (A3 : Option Addr) (l3 : Nat) (c3 : Nat) (x4 : Int) (h : Hp) : quintetlaw03_spoil_l1_L Q (k + 1) (mkTm [(0, some (.slice A3 l3 c3)), (2, some (.int .i64 x4))]) h =
    codeWp Try.prog 17 quintetlaw03_spoil_lp quintetlaw03_spoil_cut (sub (bodyOf Try.f15) [true, true, false, false]) 28 (thenQ (fun tm h => quintetlaw03_spoil_l1_L Q k (mask [0, 2] tm) h) (maskQ (fun e => match e with | .exit 0 => [] | _ => []) Q)) (mkTm [(0, some (.slice A3 l3 c3)), (2, some (.int .i64 x4))]) h := by kernel_rfl
theorem quintetlaw03_spoil_l1_mask (Q : Qx) (k : Nat) (tm : Tm) (h : Hp) : quintetlaw03_spoil_l1_L Q k tm h ↔ quintetlaw03_spoil_l1_L Q k (mask [0, 2] tm) h := Iff.rfl
set_option maxRecDepth 100000 in
theorem quintetlaw03_spoil_l1_snd : SndAt Try.prog 17 none (sub (bodyOf Try.f15) [true, true, false]) (quintetlaw03_spoil_lp 14) := by
  refine loop_sound (lp := quintetlaw03_spoil_lp) (cut := quintetlaw03_spoil_cut) (i := 14) (c := (sub (bodyOf Try.f15) [true, true, false, false])) [0, 2] (fun e => match e with | .exit 0 => [] | _ => []) quintetlaw03_spoil_l1_L ?_ ?_ ?_
  · exact good_by (c := (sub (bodyOf Try.f15) [true, true, false, false])) (i := 28) (l := []) (by kernel_rfl) (fun _ h => by cases h)
  · intro Q tm h H
    obtain ⟨A3, l3, c3, e0, H⟩ := selS_ex H
    obtain ⟨x4, e2, H⟩ := selI_ex H
    exact H
  · intro Q k tm h H
    have H0 := H
    obtain ⟨A3, l3, c3, e0, H⟩ := selS_ex H
    obtain ⟨x4, e2, H⟩ := selI_ex H
    have e : mask [0, 2] tm = mkTm [(0, some (.slice A3 l3 c3)), (2, some (.int .i64 x4))] := by simp only [mask, List.map_cons, List.map_nil, e0, e2] <;> rfl
    rw [e]
    refine Eq.mp (quintetlaw03_spoil_l1_step Q k A3 l3 c3 x4 h) ?_
    rw [← e]
    exact (quintetlaw03_spoil_l1_mask Q (k + 1) tm h).mp H0
set_option maxRecDepth 100000 in
theorem quintetlaw03_spoil_eq (A1 : Option Addr) (l1 : Nat) (c1 : Nat) (h : Hp) (K : Value → Hp → Prop) : quintetlaw03_spoil A1 l1 c1 h K =
    codeWp Try.prog 17 quintetlaw03_spoil_lp quintetlaw03_spoil_cut (bodyOf Try.f15) 1 (endQ Try.prog Try.f15.results.toList K) (argTm [(.slice A1 l1 c1)]) h := by kernel_rfl
set_option maxRecDepth 100000 in
theorem quintetlaw03_spoil_ok (A1 : Option Addr) (l1 : Nat) (c1 : Nat) {h : Hp} {K : Value → Hp → Prop} (H : quintetlaw03_spoil A1 l1 c1 h K) : CallsH Try.prog 15 #[(.slice A1 l1 c1)] h K :=
  calls_of (args := [(.slice A1 l1 c1)]) (n := 17) (lp := quintetlaw03_spoil_lp) (cut := quintetlaw03_spoil_cut) Try.func15 (c := bodyOf Try.f15) (by kernel_rfl) (by kernel_rfl) (by kernel_rfl) (good_by (c := (bodyOf Try.f15)) (i := 1) (l := [(14, (sub (bodyOf Try.f15) [true, true, false]))]) (by kernel_rfl) (List.forall_mem_cons.2 ⟨quintetlaw03_spoil_l1_snd, (fun _ h => by cases h)⟩))
    (Eq.mp (quintetlaw03_spoil_eq A1 l1 c1 h K) H)

/-! ### quintet/quintetlaw03.lent: function 18 -/
def quintetlaw03_lent (A1 : Option Addr) (l1 : Nat) (c1 : Nat) (h : Hp) (K : Value → Hp → Prop) : Prop :=
  HW Try.prog (Instr.makeSlice 25 (.int .i64 (IntKind.i64.wrap ((l1 : Int) + 2))) (.int .i64 (IntKind.i64.wrap ((l1 : Int) + 2)))) h fun r3 h2 =>
  ∃ A4 : Option Addr, ∃ l4 : Nat, ∃ c4 : Nat, r3 = (.slice A4 l4 c4) ∧ 
  HW Try.prog (Builtin.copy_ #[25, 25] 3 #[(.slice A4 l4 c4), (.slice A1 l1 c1)]) h2 fun r6 h5 =>
  ∃ x7 : Int, r6 = (.int .i64 x7) ∧ 
  CallsH Try.prog 48 #[(.int .u16 7), (.int .u16 3)] h5 fun r9 h8 =>
  ∃ x10 : Int, ∃ x11 : Int, r9 = (.agg #[(.int .u16 x10), (.int .u16 x11)]) ∧ 
  ∃ a12 : Addr, PV Try.prog (Instr.indexAt 25 (.slice A4 l4 c4) (.int .i64 (l1 : Int))) (.pointer (some a12)) ∧
  HU Try.prog (Instr.storeAt 24 (.pointer (some a12)) (.agg #[(.int .u16 x10), (.int .u16 x11)])) h8 fun h13 => 
  CallsH Try.prog 48 #[(.int .u16 8), (.int .u16 3)] h13 fun r15 h14 =>
  ∃ x16 : Int, ∃ x17 : Int, r15 = (.agg #[(.int .u16 x16), (.int .u16 x17)]) ∧ 
  ∃ a18 : Addr, PV Try.prog (Instr.indexAt 25 (.slice A4 l4 c4) (.int .i64 (IntKind.i64.wrap ((l1 : Int) + 1)))) (.pointer (some a18)) ∧
  HU Try.prog (Instr.storeAt 24 (.pointer (some a18)) (.agg #[(.int .u16 x16), (.int .u16 x17)])) h14 fun h19 => 
  ∃ A20 : Option Addr, ∃ l20 : Nat, ∃ c20 : Nat, PV Try.prog (Instr.sliceAt 25 (.slice A4 l4 c4) none (some (.int .i64 (l1 : Int))) none) (.slice A20 l20 c20) ∧
  K (.slice A20 l20 c20) h19
def quintetlaw03_lent_lp (i : Nat) (Q : Qx) (tm : Tm) (h : Hp) : Prop := False
def quintetlaw03_lent_cut (i : Nat) : Option (List Nat) := none
set_option maxRecDepth 100000 in
theorem quintetlaw03_lent_eq (A1 : Option Addr) (l1 : Nat) (c1 : Nat) (h : Hp) (K : Value → Hp → Prop) : quintetlaw03_lent A1 l1 c1 h K =
    codeWp Try.prog 26 quintetlaw03_lent_lp quintetlaw03_lent_cut (bodyOf Try.f18) 1 (endQ Try.prog Try.f18.results.toList K) (argTm [(.slice A1 l1 c1)]) h := by kernel_rfl
set_option maxRecDepth 100000 in
theorem quintetlaw03_lent_ok (A1 : Option Addr) (l1 : Nat) (c1 : Nat) {h : Hp} {K : Value → Hp → Prop} (H : quintetlaw03_lent A1 l1 c1 h K) : CallsH Try.prog 18 #[(.slice A1 l1 c1)] h K :=
  calls_of (args := [(.slice A1 l1 c1)]) (n := 26) (lp := quintetlaw03_lent_lp) (cut := quintetlaw03_lent_cut) Try.func18 (c := bodyOf Try.f18) (by kernel_rfl) (by kernel_rfl) (by kernel_rfl) (good_by (c := (bodyOf Try.f18)) (i := 1) (l := []) (by kernel_rfl) (fun _ h => by cases h))
    (Eq.mp (quintetlaw03_lent_eq A1 l1 c1 h K) H)

/-! ### quintet/span.Union: function 19 -/
def span_Union_j3 (K0 : (Option Addr) → Nat → Nat → (Option Addr) → Nat → Nat → Int → Int → Hp → Prop) (A93 : Option Addr) (l93 : Nat) (c93 : Nat) (a94 : Addr) (x95 : Int) (A96 : Option Addr) (l96 : Nat) (c96 : Nat) (x97 : Int) (x98 : Int) (b99 : Bool) (h : Hp) : Prop :=
  br b99
  (∃ a117 : Addr, PV Try.prog (Instr.indexAt 25 (.slice A93 l93 c93) (.int .i64 (IntKind.i64.wrap (x95 - 1)))) (.pointer (some a117)) ∧
  ∃ x118 : Int, HV Try.prog (Instr.loadAt 22 (.pointer (some (a117.add 1)))) h (.int .u16 x118) ∧ 
  ∃ x119 : Int, HV Try.prog (Instr.loadAt 22 (.pointer (some (a94.add 1)))) h (.int .u16 x119) ∧ 
  ∃ x120 : Int, PV Try.prog (Builtin.max_ #[22, 22] 22 #[(.int .u16 x118), (.int .u16 x119)]) (.int .u16 x120) ∧
  ∃ a121 : Addr, PV Try.prog (Instr.indexAt 25 (.slice A93 l93 c93) (.int .i64 (IntKind.i64.wrap (x95 - 1)))) (.pointer (some a121)) ∧
  HU Try.prog (Instr.storeAt 22 (.pointer (some (a121.add 1))) (.int .u16 x120)) h fun h122 => 
  K0 A93 l93 c93 A96 l96 c96 x97 x98 h122)
  (∃ x123 : Int, ∃ x124 : Int, HV Try.prog (Instr.loadAt 24 (.pointer (some a94))) h (.agg #[(.int .u16 x123), (.int .u16 x124)]) ∧ 
  newC h (.cells #[(.int .u16 x123), (.int .u16 x124)] 24 (0, 0)) fun a126 h125 => 
  HW Try.prog (Builtin.append_ #[25, 25] 25 #[(.slice A93 l93 c93), (.slice (some a126) 1 1)]) h125 fun r128 h127 =>
  ∃ A129 : Option Addr, ∃ l129 : Nat, ∃ c129 : Nat, r128 = (.slice A129 l129 c129) ∧ 
  K0 A129 l129 c129 A96 l96 c96 x97 x98 h127)
def span_Union_j3_L (Q : Qx) (tm : Tm) (h : Hp) : Prop :=
  selS (tm 4) fun A93 l93 c93 =>
  selA (tm 6) fun a94 =>
  selI .i64 (tm 7) fun x95 =>
  selS (tm 16) fun A96 l96 c96 =>
  selI .i64 (tm 17) fun x97 =>
  selI .i64 (tm 18) fun x98 =>
  selB (tm 32) fun b99 =>
  span_Union_j3 (fun (A113 : Option Addr) (l113 : Nat) (c113 : Nat) (A114 : Option Addr) (l114 : Nat) (c114 : Nat) (x115 : Int) (x116 : Int) h => Q (.normal) (mkTm [(4, some (.slice A113 l113 c113)), (16, some (.slice A114 l114 c114)), (17, some (.int .i64 x115)), (18, some (.int .i64 x116))]) h) A93 l93 c93 a94 x95 A96 l96 c96 x97 x98 b99 h
def span_Union_l2 (A11 : Option Addr) (l11 : Nat) (c11 : Nat) (x12 : Int) (K0 : (Option Addr) → Nat → Nat → Hp → Prop)  : Nat → (Option Addr) → Nat → Nat → Int → Hp → Prop
  | 0, _, _, _, _, _ => False
  | k + 1, A10, l10, c10, x13, h =>
    br (decide (x13 < x12))
    (∃ a79 : Addr, PV Try.prog (Instr.indexAt 25 (.slice A11 l11 c11) (.int .i64 x13)) (.pointer (some a79)) ∧
    ∃ x80 : Int, ∃ x81 : Int, HV Try.prog (Instr.loadAt 24 (.pointer (some a79))) h (.agg #[(.int .u16 x80), (.int .u16 x81)]) ∧ 
    newC h (.cells #[(.int .u16 0), (.int .u16 0)] 24 (0, 0)) fun a83 h82 => 
    HU Try.prog (Instr.storeAt 24 (.pointer (some a83)) (.agg #[(.int .u16 x80), (.int .u16 x81)])) h82 fun h84 => 
    ∃ x85 : Int, ∃ x86 : Int, HV Try.prog (Instr.loadAt 24 (.pointer (some a83))) h84 (.agg #[(.int .u16 x85), (.int .u16 x86)]) ∧ 
    CallsH Try.prog 45 #[(.agg #[(.int .u16 x85), (.int .u16 x86)])] h84 fun r88 h87 =>
    ∃ b89 : Bool, r88 = (.bool b89) ∧ 
    br (!b89)
    (span_Union_l2 A11 l11 c11 x12 K0 k A10 l10 c10 (IntKind.i64.wrap (x13 + 1)) h87)
    (br (decide ((l10 : Int) > 0))
    (∃ x130 : Int, HV Try.prog (Instr.loadAt 22 (.pointer (some a83))) h87 (.int .u16 x130) ∧ 
    ∃ a131 : Addr, PV Try.prog (Instr.indexAt 25 (.slice A10 l10 c10) (.int .i64 (IntKind.i64.wrap ((l10 : Int) - 1)))) (.pointer (some a131)) ∧
    ∃ x132 : Int, HV Try.prog (Instr.loadAt 22 (.pointer (some (a131.add 1)))) h87 (.int .u16 x132) ∧ 
    span_Union_j3
    (fun (A133 : Option Addr) (l133 : Nat) (c133 : Nat) (A134 : Option Addr) (l134 : Nat) (c134 : Nat) (x135 : Int) (x136 : Int) (h137 : Hp) =>
    span_Union_l2 A11 l11 c11 x12 K0 k A133 l133 c133 (IntKind.i64.wrap (x136 + 1)) h137)
    A10 l10 c10 a83 (l10 : Int) A11 l11 c11 x12 x13 (decide ((IntKind.i64.wrap (x130)) ≤ (IntKind.i64.wrap ((IntKind.i64.wrap (x132)) + 1)))) h87)
    (span_Union_j3
    (fun (A138 : Option Addr) (l138 : Nat) (c138 : Nat) (A139 : Option Addr) (l139 : Nat) (c139 : Nat) (x140 : Int) (x141 : Int) (h142 : Hp) =>
    span_Union_l2 A11 l11 c11 x12 K0 k A138 l138 c138 (IntKind.i64.wrap (x141 + 1)) h142)
    A10 l10 c10 a83 (l10 : Int) A11 l11 c11 x12 x13 false h87)))
    (K0 A10 l10 c10 h)
def span_Union_l2_L (Q : Qx) (k : Nat) (tm : Tm) (h : Hp) : Prop :=
  selS (tm 4) fun A10 l10 c10 =>
  selS (tm 16) fun A11 l11 c11 =>
  selI .i64 (tm 17) fun x12 =>
  selI .i64 (tm 18) fun x13 =>
  span_Union_l2 A11 l11 c11 x12 (fun (A78 : Option Addr) (l78 : Nat) (c78 : Nat) h => Q (.exit 0) (mkTm [(4, some (.slice A78 l78 c78))]) h) k A10 l10 c10 x13 h
def span_Union (A1 : Option Addr) (l1 : Nat) (c1 : Nat) (h : Hp) (K : Value → Hp → Prop) : Prop :=
  HW Try.prog (Instr.makeSlice 25 (.int .i64 (l1 : Int)) (.int .i64 (l1 : Int))) h fun r3 h2 =>
  ∃ A4 : Option Addr, ∃ l4 : Nat, ∃ c4 : Nat, r3 = (.slice A4 l4 c4) ∧ 
  HW Try.prog (Builtin.copy_ #[25, 25] 3 #[(.slice A4 l4 c4), (.slice A1 l1 c1)]) h2 fun r6 h5 =>
  ∃ x7 : Int, r6 = (.int .i64 x7) ∧ 
  CallsH Try.prog 51 #[(.slice A4 l4 c4), (.func (.func 49) #[] #[])] h5 fun r9 h8 =>
  r9 = (.tuple #[]) ∧ 
  ∃ k145, span_Union_l2 A4 l4 c4 (l4 : Int)
  (fun (A143 : Option Addr) (l143 : Nat) (c143 : Nat) (h144 : Hp) =>
  K (.slice A143 l143 c143) h144)
  k145 none 0 0 0 h8
def span_Union_lp (i : Nat) (Q : Qx) (tm : Tm) (h : Hp) : Prop := match Nat.beq i 518555 with
  | true => span_Union_j3_L Q tm h
  | false => match Nat.beq i 506 with
  | true => ∃ k, span_Union_l2_L Q k tm h
  | false => False
def span_Union_cut (i : Nat) : Option (List Nat) := match Nat.beq i 518555 with
  | true => some [4, 6, 7, 16, 17, 18, 32]
  | false => none
set_option maxRecDepth 100000 in
theorem span_Union_j3_step (Q : Qx) (A93 : Option Addr) (l93 : Nat) (c93 : Nat) (a94 : Addr) (x95 : Int) (A96 : Option Addr) (l96 : Nat) (c96 : Nat) (x97 : Int) (x98 : Int) (b99 : Bool) (h : Hp) : span_Union_j3_L Q (mkTm [(4, some (.slice A93 l93 c93)), (6, some (.pointer (some a94))), (7, some (.int .i64 x95)), (16, some (.slice A96 l96 c96)), (17, some (.int .i64 x97)), (18, some (.int .i64 x98)), (32, some (.bool b99))]) h =
    codeWp Try.prog 65 span_Union_lp span_Union_cut (sub (bodyOf Try.f19) [true, true, true, true, true, false, true, false, false, true, true, false, false, true, true, false, true, true, true]) 1037111 (maskQ (fun e => match e with | .normal => [4, 16, 17, 18] | _ => []) Q) (mkTm [(4, some (.slice A93 l93 c93)), (6, some (.pointer (some a94))), (7, some (.int .i64 x95)), (16, some (.slice A96 l96 c96)), (17, some (.int .i64 x97)), (18, some (.int .i64 x98)), (32, some (.bool b99))]) h := by kernel_rfl
theorem span_Union_j3_mask (Q : Qx) (tm : Tm) (h : Hp) : span_Union_j3_L Q tm h ↔ span_Union_j3_L Q (mask [4, 6, 7, 16, 17, 18, 32] tm) h := Iff.rfl
set_option maxRecDepth 100000 in
theorem span_Union_j3_snd : SndAt Try.prog 65 none (sub (bodyOf Try.f19) [true, true, true, true, true, false, true, false, false, true, true, false, false, true, true, false, true, true, true]) (span_Union_lp 518555) := by
  refine join_sound (lp := span_Union_lp) (cut := span_Union_cut) (i := 518555) (c := (sub (bodyOf Try.f19) [true, true, true, true, true, false, true, false, false, true, true, false, false, true, true, false, true, true, true])) [4, 6, 7, 16, 17, 18, 32] (fun e => match e with | .normal => [4, 16, 17, 18] | _ => []) span_Union_j3_L ?_ ?_
  · exact good_by (c := (sub (bodyOf Try.f19) [true, true, true, true, true, false, true, false, false, true, true, false, false, true, true, false, true, true, true])) (i := 1037111) (l := []) (by kernel_rfl) (fun _ h => by cases h)
  · intro Q tm h H
    have H0 := H
    obtain ⟨A93, l93, c93, e4, H⟩ := selS_ex H
    obtain ⟨a94, e6, H⟩ := selA_ex H
    obtain ⟨x95, e7, H⟩ := selI_ex H
    obtain ⟨A96, l96, c96, e16, H⟩ := selS_ex H
    obtain ⟨x97, e17, H⟩ := selI_ex H
    obtain ⟨x98, e18, H⟩ := selI_ex H
    obtain ⟨b99, e32, H⟩ := selB_ex H
    have e : mask [4, 6, 7, 16, 17, 18, 32] tm = mkTm [(4, some (.slice A93 l93 c93)), (6, some (.pointer (some a94))), (7, some (.int .i64 x95)), (16, some (.slice A96 l96 c96)), (17, some (.int .i64 x97)), (18, some (.int .i64 x98)), (32, some (.bool b99))] := by simp only [mask, List.map_cons, List.map_nil, e4, e6, e7, e16, e17, e18, e32] <;> rfl
    rw [e]
    refine Eq.mp (span_Union_j3_step Q A93 l93 c93 a94 x95 A96 l96 c96 x97 x98 b99 h) ?_
    rw [← e]
    exact (span_Union_j3_mask Q tm h).mp H0
set_option maxRecDepth 100000 in
theorem span_Union_l2_step (Q : Qx) (k : Nat) (A10 : Option Addr) (l10 : Nat) (c10 : Nat) (A11 : Option Addr) (l11 : Nat) (c11 : Nat) (x12 : Int) (x13 : Int) (h : Hp) : span_Union_l2_L Q (k + 1) (mkTm [(4, some (.slice A10 l10 c10)), (16, some (.slice A11 l11 c11)), (17, some (.int .i64 x12)), (18, some (.int .i64 x13))]) h =
    codeWp Try.prog 65 span_Union_lp span_Union_cut (sub (bodyOf Try.f19) [true, true, true, true, true, false, true, false, false]) 1012 (thenQ (fun tm h => span_Union_l2_L Q k (mask [4, 16, 17, 18] tm) h) (maskQ (fun e => match e with | .exit 0 => [4] | _ => []) Q)) (mkTm [(4, some (.slice A10 l10 c10)), (16, some (.slice A11 l11 c11)), (17, some (.int .i64 x12)), (18, some (.int .i64 x13))]) h := by kernel_rfl
theorem span_Union_l2_mask (Q : Qx) (k : Nat) (tm : Tm) (h : Hp) : span_Union_l2_L Q k tm h ↔ span_Union_l2_L Q k (mask [4, 16, 17, 18] tm) h := Iff.rfl
set_option maxRecDepth 100000 in
theorem span_Union_l2_snd : SndAt Try.prog 65 none (sub (bodyOf Try.f19) [true, true, true, true, true, false, true, false]) (span_Union_lp 506) := by
  refine loop_sound (lp := span_Union_lp) (cut := span_Union_cut) (i := 506) (c := (sub (bodyOf Try.f19) [true, true, true, true, true, false, true, false, false])) [4, 16, 17, 18] (fun e => match e with | .exit 0 => [4] | _ => []) span_Union_l2_L ?_ ?_ ?_
  · exact good_by (c := (sub (bodyOf Try.f19) [true, true, true, true, true, false, true, false, false])) (i := 1012) (l := [(518555, (sub (bodyOf Try.f19) [true, true, true, true, true, false, true, false, false, true, true, false, false, true, true, false, true, true, true]))]) (by kernel_rfl) (List.forall_mem_cons.2 ⟨span_Union_j3_snd, (fun _ h => by cases h)⟩)
  · intro Q tm h H
    obtain ⟨A10, l10, c10, e4, H⟩ := selS_ex H
    obtain ⟨A11, l11, c11, e16, H⟩ := selS_ex H
    obtain ⟨x12, e17, H⟩ := selI_ex H
    obtain ⟨x13, e18, H⟩ := selI_ex H
    exact H
  · intro Q k tm h H
    have H0 := H
    obtain ⟨A10, l10, c10, e4, H⟩ := selS_ex H
    obtain ⟨A11, l11, c11, e16, H⟩ := selS_ex H
    obtain ⟨x12, e17, H⟩ := selI_ex H
    obtain ⟨x13, e18, H⟩ := selI_ex H
    have e : mask [4, 16, 17, 18] tm = mkTm [(4, some (.slice A10 l10 c10)), (16, some (.slice A11 l11 c11)), (17, some (.int .i64 x12)), (18, some (.int .i64 x13))] := by simp only [mask, List.map_cons, List.map_nil, e4, e16, e17, e18] <;> rfl
    rw [e]
    refine Eq.mp (span_Union_l2_step Q k A10 l10 c10 A11 l11 c11 x12 x13 h) ?_
    rw [← e]
    exact (span_Union_l2_mask Q (k + 1) tm h).mp H0
set_option maxRecDepth 100000 in
theorem span_Union_eq (A1 : Option Addr) (l1 : Nat) (c1 : Nat) (h : Hp) (K : Value → Hp → Prop) : span_Union A1 l1 c1 h K =
    codeWp Try.prog 65 span_Union_lp span_Union_cut (bodyOf Try.f19) 1 (endQ Try.prog Try.f19.results.toList K) (argTm [(.slice A1 l1 c1)]) h := by kernel_rfl
set_option maxRecDepth 100000 in
theorem span_Union_ok (A1 : Option Addr) (l1 : Nat) (c1 : Nat) {h : Hp} {K : Value → Hp → Prop} (H : span_Union A1 l1 c1 h K) : CallsH Try.prog 19 #[(.slice A1 l1 c1)] h K :=
  calls_of (args := [(.slice A1 l1 c1)]) (n := 65) (lp := span_Union_lp) (cut := span_Union_cut) Try.func19 (c := bodyOf Try.f19) (by kernel_rfl) (by kernel_rfl) (by kernel_rfl) (good_by (c := (bodyOf Try.f19)) (i := 1) (l := [(506, (sub (bodyOf Try.f19) [true, true, true, true, true, false, true, false]))]) (by kernel_rfl) (List.forall_mem_cons.2 ⟨span_Union_l2_snd, (fun _ h => by cases h)⟩))
    (Eq.mp (span_Union_eq A1 l1 c1 h K) H)

/-! ### quintet/quintetlaw03.back: function 20 -/
def quintetlaw03_back_l3 (A45 : Option Addr) (l45 : Nat) (c45 : Nat) (b46 : Bool) (K0 : Bool → Hp → Prop)  : Nat → Int → Hp → Prop
  | 0, _, _ => False
  | k + 1, x47, h =>
    br (decide (x47 < (l45 : Int)))
    (CallsH Try.prog 48 #[(.int .u16 99), (.int .u16 98)] h fun r56 h55 =>
    ∃ x57 : Int, ∃ x58 : Int, r56 = (.agg #[(.int .u16 x57), (.int .u16 x58)]) ∧ 
    ∃ a59 : Addr, PV Try.prog (Instr.indexAt 25 (.slice A45 l45 c45) (.int .i64 x47)) (.pointer (some a59)) ∧
    HU Try.prog (Instr.storeAt 24 (.pointer (some a59)) (.agg #[(.int .u16 x57), (.int .u16 x58)])) h55 fun h60 => 
    quintetlaw03_back_l3 A45 l45 c45 b46 K0 k (IntKind.i64.wrap (x47 + 1)) h60)
    (K0 b46 h)
def quintetlaw03_back_l3_L (Q : Qx) (k : Nat) (tm : Tm) (h : Hp) : Prop :=
  selS (tm 5) fun A45 l45 c45 =>
  selB (tm 6) fun b46 =>
  selI .i64 (tm 7) fun x47 =>
  quintetlaw03_back_l3 A45 l45 c45 b46 (fun (b54 : Bool) h => Q (.exit 0) (mkTm [(6, some (.bool b54))]) h) k x47 h
def quintetlaw03_back_j2 (K0 : Bool → Hp → Prop) (A23 : Option Addr) (l23 : Nat) (c23 : Nat) (b24 : Bool) (h : Hp) : Prop :=
  ∃ k63, quintetlaw03_back_l3 A23 l23 c23 b24
  (fun (b61 : Bool) (h62 : Hp) =>
  K0 b61 h62)
  k63 0 h
def quintetlaw03_back_j2_L (Q : Qx) (tm : Tm) (h : Hp) : Prop :=
  selS (tm 5) fun A23 l23 c23 =>
  selB (tm 6) fun b24 =>
  quintetlaw03_back_j2 (fun (b44 : Bool) h => Q (.ret) (mkTm [(4, some (.bool b44))]) h) A23 l23 c23 b24 h
def quintetlaw03_back (A1 : Option Addr) (l1 : Nat) (c1 : Nat) (A2 : Option Addr) (l2 : Nat) (c2 : Nat) (h : Hp) (K : Value → Hp → Prop) : Prop :=
  ∃ A3 : Option Addr, ∃ l3 : Nat, ∃ c3 : Nat, PV Try.prog (Instr.sliceAt 25 (.slice A1 l1 c1) none (some (.int .i64 (IntKind.i64.wrap ((l2 : Int) + 2)))) none) (.slice A3 l3 c3) ∧
  ∃ a64 : Addr, PV Try.prog (Instr.indexAt 25 (.slice A3 l3 c3) (.int .i64 (l2 : Int))) (.pointer (some a64)) ∧
  ∃ x65 : Int, ∃ x66 : Int, HV Try.prog (Instr.loadAt 24 (.pointer (some a64))) h (.agg #[(.int .u16 x65), (.int .u16 x66)]) ∧ 
  CallsH Try.prog 48 #[(.int .u16 7), (.int .u16 3)] h fun r68 h67 =>
  ∃ x69 : Int, ∃ x70 : Int, r68 = (.agg #[(.int .u16 x69), (.int .u16 x70)]) ∧ HV Try.prog (Instr.loadAt 24 (.pointer (some a64))) h67 (.agg #[(.int .u16 x65), (.int .u16 x66)]) ∧ 
  ∃ b71 : Bool, PV Try.prog (binOp .eql 24 (.agg #[(.int .u16 x65), (.int .u16 x66)]) (.agg #[(.int .u16 x69), (.int .u16 x70)])) (.bool b71) ∧
  br b71
  (∃ a72 : Addr, PV Try.prog (Instr.indexAt 25 (.slice A3 l3 c3) (.int .i64 (IntKind.i64.wrap ((l2 : Int) + 1)))) (.pointer (some a72)) ∧
  ∃ x73 : Int, ∃ x74 : Int, HV Try.prog (Instr.loadAt 24 (.pointer (some a72))) h67 (.agg #[(.int .u16 x73), (.int .u16 x74)]) ∧ 
  CallsH Try.prog 48 #[(.int .u16 8), (.int .u16 3)] h67 fun r76 h75 =>
  ∃ x77 : Int, ∃ x78 : Int, r76 = (.agg #[(.int .u16 x77), (.int .u16 x78)]) ∧ HV Try.prog (Instr.loadAt 24 (.pointer (some a72))) h75 (.agg #[(.int .u16 x73), (.int .u16 x74)]) ∧ 
  ∃ b79 : Bool, PV Try.prog (binOp .eql 24 (.agg #[(.int .u16 x73), (.int .u16 x74)]) (.agg #[(.int .u16 x77), (.int .u16 x78)])) (.bool b79) ∧
  br b79
  (CallsH Try.prog 14 #[(.slice A1 l1 c1), (.slice A2 l2 c2)] h75 fun r81 h80 =>
  ∃ b82 : Bool, r81 = (.bool b82) ∧ 
  quintetlaw03_back_j2
  (fun (b83 : Bool) (h84 : Hp) =>
  K (.bool b83) h84)
  A3 l3 c3 b82 h80)
  (quintetlaw03_back_j2
  (fun (b85 : Bool) (h86 : Hp) =>
  K (.bool b85) h86)
  A3 l3 c3 false h75))
  (quintetlaw03_back_j2
  (fun (b87 : Bool) (h88 : Hp) =>
  K (.bool b87) h88)
  A3 l3 c3 false h67)
def quintetlaw03_back_lp (i : Nat) (Q : Qx) (tm : Tm) (h : Hp) : Prop := match Nat.beq i 122 with
  | true => ∃ k, quintetlaw03_back_l3_L Q k tm h
  | false => match Nat.beq i 7 with
  | true => quintetlaw03_back_j2_L Q tm h
  | false => False
def quintetlaw03_back_cut (i : Nat) : Option (List Nat) := match Nat.beq i 7 with
  | true => some [5, 6]
  | false => none
set_option maxRecDepth 100000 in
theorem quintetlaw03_back_l3_step (Q : Qx) (k : Nat) (A45 : Option Addr) (l45 : Nat) (c45 : Nat) (b46 : Bool) (x47 : Int) (h : Hp) : quintetlaw03_back_l3_L Q (k + 1) (mkTm [(5, some (.slice A45 l45 c45)), (6, some (.bool b46)), (7, some (.int .i64 x47))]) h =
    codeWp Try.prog 46 quintetlaw03_back_lp quintetlaw03_back_cut (sub (bodyOf Try.f20) [true, true, true, false, true, false, false]) 244 (thenQ (fun tm h => quintetlaw03_back_l3_L Q k (mask [5, 6, 7] tm) h) (maskQ (fun e => match e with | .exit 0 => [6] | _ => []) Q)) (mkTm [(5, some (.slice A45 l45 c45)), (6, some (.bool b46)), (7, some (.int .i64 x47))]) h := by kernel_rfl
theorem quintetlaw03_back_l3_mask (Q : Qx) (k : Nat) (tm : Tm) (h : Hp) : quintetlaw03_back_l3_L Q k tm h ↔ quintetlaw03_back_l3_L Q k (mask [5, 6, 7] tm) h := Iff.rfl
set_option maxRecDepth 100000 in
theorem quintetlaw03_back_l3_snd : SndAt Try.prog 46 none (sub (bodyOf Try.f20) [true, true, true, false, true, false]) (quintetlaw03_back_lp 122) := by
  refine loop_sound (lp := quintetlaw03_back_lp) (cut := quintetlaw03_back_cut) (i := 122) (c := (sub (bodyOf Try.f20) [true, true, true, false, true, false, false])) [5, 6, 7] (fun e => match e with | .exit 0 => [6] | _ => []) quintetlaw03_back_l3_L ?_ ?_ ?_
  · exact good_by (c := (sub (bodyOf Try.f20) [true, true, true, false, true, false, false])) (i := 244) (l := []) (by kernel_rfl) (fun _ h => by cases h)
  · intro Q tm h H
    obtain ⟨A45, l45, c45, e5, H⟩ := selS_ex H
    obtain ⟨b46, e6, H⟩ := selB_ex H
    obtain ⟨x47, e7, H⟩ := selI_ex H
    exact H
  · intro Q k tm h H
    have H0 := H
    obtain ⟨A45, l45, c45, e5, H⟩ := selS_ex H
    obtain ⟨b46, e6, H⟩ := selB_ex H
    obtain ⟨x47, e7, H⟩ := selI_ex H
    have e : mask [5, 6, 7] tm = mkTm [(5, some (.slice A45 l45 c45)), (6, some (.bool b46)), (7, some (.int .i64 x47))] := by simp only [mask, List.map_cons, List.map_nil, e5, e6, e7] <;> rfl
    rw [e]
    refine Eq.mp (quintetlaw03_back_l3_step Q k A45 l45 c45 b46 x47 h) ?_
    rw [← e]
    exact (quintetlaw03_back_l3_mask Q (k + 1) tm h).mp H0
set_option maxRecDepth 100000 in
theorem quintetlaw03_back_j2_step (Q : Qx) (A23 : Option Addr) (l23 : Nat) (c23 : Nat) (b24 : Bool) (h : Hp) : quintetlaw03_back_j2_L Q (mkTm [(5, some (.slice A23 l23 c23)), (6, some (.bool b24))]) h =
    codeWp Try.prog 46 quintetlaw03_back_lp quintetlaw03_back_cut (sub (bodyOf Try.f20) [true, true, true]) 15 (maskQ (fun e => match e with | .ret => [4] | _ => []) Q) (mkTm [(5, some (.slice A23 l23 c23)), (6, some (.bool b24))]) h := by kernel_rfl
theorem quintetlaw03_back_j2_mask (Q : Qx) (tm : Tm) (h : Hp) : quintetlaw03_back_j2_L Q tm h ↔ quintetlaw03_back_j2_L Q (mask [5, 6] tm) h := Iff.rfl
set_option maxRecDepth 100000 in
theorem quintetlaw03_back_j2_snd : SndAt Try.prog 46 none (sub (bodyOf Try.f20) [true, true, true]) (quintetlaw03_back_lp 7) := by
  refine join_sound (lp := quintetlaw03_back_lp) (cut := quintetlaw03_back_cut) (i := 7) (c := (sub (bodyOf Try.f20) [true, true, true])) [5, 6] (fun e => match e with | .ret => [4] | _ => []) quintetlaw03_back_j2_L ?_ ?_
  · exact good_by (c := (sub (bodyOf Try.f20) [true, true, true])) (i := 15) (l := [(122, (sub (bodyOf Try.f20) [true, true, true, false, true, false]))]) (by kernel_rfl) (List.forall_mem_cons.2 ⟨quintetlaw03_back_l3_snd, (fun _ h => by cases h)⟩)
  · intro Q tm h H
    have H0 := H
    obtain ⟨A23, l23, c23, e5, H⟩ := selS_ex H
    obtain ⟨b24, e6, H⟩ := selB_ex H
    have e : mask [5, 6] tm = mkTm [(5, some (.slice A23 l23 c23)), (6, some (.bool b24))] := by simp only [mask, List.map_cons, List.map_nil, e5, e6] <;> rfl
    rw [e]
    refine Eq.mp (quintetlaw03_back_j2_step Q A23 l23 c23 b24 h) ?_
    rw [← e]
    exact (quintetlaw03_back_j2_mask Q tm h).mp H0
set_option maxRecDepth 100000 in
theorem quintetlaw03_back_eq (A1 : Option Addr) (l1 : Nat) (c1 : Nat) (A2 : Option Addr) (l2 : Nat) (c2 : Nat) (h : Hp) (K : Value → Hp → Prop) : quintetlaw03_back A1 l1 c1 A2 l2 c2 h K =
    codeWp Try.prog 46 quintetlaw03_back_lp quintetlaw03_back_cut (bodyOf Try.f20) 1 (endQ Try.prog Try.f20.results.toList K) (argTm [(.slice A1 l1 c1), (.slice A2 l2 c2)]) h := by kernel_rfl
set_option maxRecDepth 100000 in
theorem quintetlaw03_back_ok (A1 : Option Addr) (l1 : Nat) (c1 : Nat) (A2 : Option Addr) (l2 : Nat) (c2 : Nat) {h : Hp} {K : Value → Hp → Prop} (H : quintetlaw03_back A1 l1 c1 A2 l2 c2 h K) : CallsH Try.prog 20 #[(.slice A1 l1 c1), (.slice A2 l2 c2)] h K :=
  calls_of (args := [(.slice A1 l1 c1), (.slice A2 l2 c2)]) (n := 46) (lp := quintetlaw03_back_lp) (cut := quintetlaw03_back_cut) Try.func20 (c := bodyOf Try.f20) (by kernel_rfl) (by kernel_rfl) (by kernel_rfl) (good_by (c := (bodyOf Try.f20)) (i := 1) (l := [(7, (sub (bodyOf Try.f20) [true, true, true]))]) (by kernel_rfl) (List.forall_mem_cons.2 ⟨quintetlaw03_back_j2_snd, (fun _ h => by cases h)⟩))
    (Eq.mp (quintetlaw03_back_eq A1 l1 c1 A2 l2 c2 h K) H)

/-! ### quintet/span.Gaps: function 22 -/
def span_Gaps_l1 (A7 : Option Addr) (l7 : Nat) (c7 : Nat) (x8 : Int) (K0 : (Option Addr) → Nat → Nat → Int → Hp → Prop)  : Nat → (Option Addr) → Nat → Nat → Int → Int → Hp → Prop
  | 0, _, _, _, _, _, _ => False
  | k + 1, A5, l5, c5, x6, x9, h =>
    br (decide (x9 < x8))
    (∃ a27 : Addr, PV Try.prog (Instr.indexAt 25 (.slice A7 l7 c7) (.int .i64 x9)) (.pointer (some a27)) ∧
    ∃ x28 : Int, ∃ x29 : Int, HV Try.prog (Instr.loadAt 24 (.pointer (some a27))) h (.agg #[(.int .u16 x28), (.int .u16 x29)]) ∧ 
    newC h (.cells #[(.int .u16 0), (.int .u16 0)] 24 (0, 0)) fun a31 h30 => 
    HU Try.prog (Instr.storeAt 24 (.pointer (some a31)) (.agg #[(.int .u16 x28), (.int .u16 x29)])) h30 fun h32 => 
    ∃ x33 : Int, HV Try.prog (Instr.loadAt 22 (.pointer (some a31))) h32 (.int .u16 x33) ∧ 
    br (decide (x6 < (IntKind.i64.wrap (x33))))
    (∃ x34 : Int, HV Try.prog (Instr.loadAt 22 (.pointer (some a31))) h32 (.int .u16 x34) ∧ 
    newC h32 (.cells #[(.int .u16 (IntKind.u16.wrap (x6))), (.int .u16 (IntKind.u16.wrap (x34 - 1)))] 24 (0, 0)) fun a36 h35 => 
    HW Try.prog (Builtin.append_ #[25, 25] 25 #[(.slice A5 l5 c5), (.slice (some a36) 1 1)]) h35 fun r38 h37 =>
    ∃ A39 : Option Addr, ∃ l39 : Nat, ∃ c39 : Nat, r38 = (.slice A39 l39 c39) ∧ 
    ∃ x40 : Int, HV Try.prog (Instr.loadAt 22 (.pointer (some (a31.add 1)))) h37 (.int .u16 x40) ∧ 
    span_Gaps_l1 A7 l7 c7 x8 K0 k A39 l39 c39 (IntKind.i64.wrap ((IntKind.i64.wrap (x40)) + 1)) (IntKind.i64.wrap (x9 + 1)) h37)
    (∃ x41 : Int, HV Try.prog (Instr.loadAt 22 (.pointer (some (a31.add 1)))) h32 (.int .u16 x41) ∧ 
    span_Gaps_l1 A7 l7 c7 x8 K0 k A5 l5 c5 (IntKind.i64.wrap ((IntKind.i64.wrap (x41)) + 1)) (IntKind.i64.wrap (x9 + 1)) h32))
    (K0 A5 l5 c5 x6 h)
def span_Gaps_l1_L (Q : Qx) (k : Nat) (tm : Tm) (h : Hp) : Prop :=
  selS (tm 3) fun A5 l5 c5 =>
  selI .i64 (tm 4) fun x6 =>
  selS (tm 8) fun A7 l7 c7 =>
  selI .i64 (tm 9) fun x8 =>
  selI .i64 (tm 10) fun x9 =>
  span_Gaps_l1 A7 l7 c7 x8 (fun (A25 : Option Addr) (l25 : Nat) (c25 : Nat) (x26 : Int) h => Q (.exit 0) (mkTm [(3, some (.slice A25 l25 c25)), (4, some (.int .i64 x26))]) h) k A5 l5 c5 x6 x9 h
def span_Gaps (A1 : Option Addr) (l1 : Nat) (c1 : Nat) (h : Hp) (K : Value → Hp → Prop) : Prop :=
  CallsH Try.prog 19 #[(.slice A1 l1 c1)] h fun r3 h2 =>
  ∃ A4 : Option Addr, ∃ l4 : Nat, ∃ c4 : Nat, r3 = (.slice A4 l4 c4) ∧ 
  ∃ k50, span_Gaps_l1 A4 l4 c4 (l4 : Int)
  (fun (A42 : Option Addr) (l42 : Nat) (c42 : Nat) (x43 : Int) (h44 : Hp) =>
  br (decide (x43 < 65536))
  (newC h44 (.cells #[(.int .u16 (IntKind.u16.wrap (x43))), (.int .u16 65535)] 24 (0, 0)) fun a46 h45 => 
  HW Try.prog (Builtin.append_ #[25, 25] 25 #[(.slice A42 l42 c42), (.slice (some a46) 1 1)]) h45 fun r48 h47 =>
  ∃ A49 : Option Addr, ∃ l49 : Nat, ∃ c49 : Nat, r48 = (.slice A49 l49 c49) ∧ 
  K (.slice A49 l49 c49) h47)
  (K (.slice A42 l42 c42) h44))
  k50 none 0 0 0 0 h2
def span_Gaps_lp (i : Nat) (Q : Qx) (tm : Tm) (h : Hp) : Prop := match Nat.beq i 122 with
  | true => ∃ k, span_Gaps_l1_L Q k tm h
  | false => False
def span_Gaps_cut (i : Nat) : Option (List Nat) := none
set_option maxRecDepth 100000 in
theorem span_Gaps_l1_step (Q : Qx) (k : Nat) (A5 : Option Addr) (l5 : Nat) (c5 : Nat) (x6 : Int) (A7 : Option Addr) (l7 : Nat) (c7 : Nat) (x8 : Int) (x9 : Int) (h : Hp) : span_Gaps_l1_L Q (k + 1) (mkTm [(3, some (.slice A5 l5 c5)), (4, some (.int .i64 x6)), (8, some (.slice A7 l7 c7)), (9, some (.int .i64 x8)), (10, some (.int .i64 x9))]) h =
    codeWp Try.prog 42 span_Gaps_lp span_Gaps_cut (sub (bodyOf Try.f22) [true, true, true, false, true, false, false]) 244 (thenQ (fun tm h => span_Gaps_l1_L Q k (mask [3, 4, 8, 9, 10] tm) h) (maskQ (fun e => match e with | .exit 0 => [3, 4] | _ => []) Q)) (mkTm [(3, some (.slice A5 l5 c5)), (4, some (.int .i64 x6)), (8, some (.slice A7 l7 c7)), (9, some (.int .i64 x8)), (10, some (.int .i64 x9))]) h := by kernel_rfl
theorem span_Gaps_l1_mask (Q : Qx) (k : Nat) (tm : Tm) (h : Hp) : span_Gaps_l1_L Q k tm h ↔ span_Gaps_l1_L Q k (mask [3, 4, 8, 9, 10] tm) h := Iff.rfl
set_option maxRecDepth 100000 in
theorem span_Gaps_l1_snd : SndAt Try.prog 42 none (sub (bodyOf Try.f22) [true, true, true, false, true, false]) (span_Gaps_lp 122) := by
  refine loop_sound (lp := span_Gaps_lp) (cut := span_Gaps_cut) (i := 122) (c := (sub (bodyOf Try.f22) [true, true, true, false, true, false, false])) [3, 4, 8, 9, 10] (fun e => match e with | .exit 0 => [3, 4] | _ => []) span_Gaps_l1_L ?_ ?_ ?_
  · exact good_by (c := (sub (bodyOf Try.f22) [true, true, true, false, true, false, false])) (i := 244) (l := []) (by kernel_rfl) (fun _ h => by cases h)
  · intro Q tm h H
    obtain ⟨A5, l5, c5, e3, H⟩ := selS_ex H
    obtain ⟨x6, e4, H⟩ := selI_ex H
    obtain ⟨A7, l7, c7, e8, H⟩ := selS_ex H
    obtain ⟨x8, e9, H⟩ := selI_ex H
    obtain ⟨x9, e10, H⟩ := selI_ex H
    exact H
  · intro Q k tm h H
    have H0 := H
    obtain ⟨A5, l5, c5, e3, H⟩ := selS_ex H
    obtain ⟨x6, e4, H⟩ := selI_ex H
    obtain ⟨A7, l7, c7, e8, H⟩ := selS_ex H
    obtain ⟨x8, e9, H⟩ := selI_ex H
    obtain ⟨x9, e10, H⟩ := selI_ex H
    have e : mask [3, 4, 8, 9, 10] tm = mkTm [(3, some (.slice A5 l5 c5)), (4, some (.int .i64 x6)), (8, some (.slice A7 l7 c7)), (9, some (.int .i64 x8)), (10, some (.int .i64 x9))] := by simp only [mask, List.map_cons, List.map_nil, e3, e4, e8, e9, e10] <;> rfl
    rw [e]
    refine Eq.mp (span_Gaps_l1_step Q k A5 l5 c5 x6 A7 l7 c7 x8 x9 h) ?_
    rw [← e]
    exact (span_Gaps_l1_mask Q (k + 1) tm h).mp H0
set_option maxRecDepth 100000 in
theorem span_Gaps_eq (A1 : Option Addr) (l1 : Nat) (c1 : Nat) (h : Hp) (K : Value → Hp → Prop) : span_Gaps A1 l1 c1 h K =
    codeWp Try.prog 42 span_Gaps_lp span_Gaps_cut (bodyOf Try.f22) 1 (endQ Try.prog Try.f22.results.toList K) (argTm [(.slice A1 l1 c1)]) h := by kernel_rfl
set_option maxRecDepth 100000 in
theorem span_Gaps_ok (A1 : Option Addr) (l1 : Nat) (c1 : Nat) {h : Hp} {K : Value → Hp → Prop} (H : span_Gaps A1 l1 c1 h K) : CallsH Try.prog 22 #[(.slice A1 l1 c1)] h K :=
  calls_of (args := [(.slice A1 l1 c1)]) (n := 42) (lp := span_Gaps_lp) (cut := span_Gaps_cut) Try.func22 (c := bodyOf Try.f22) (by kernel_rfl) (by kernel_rfl) (by kernel_rfl) (good_by (c := (bodyOf Try.f22)) (i := 1) (l := [(122, (sub (bodyOf Try.f22) [true, true, true, false, true, false]))]) (by kernel_rfl) (List.forall_mem_cons.2 ⟨span_Gaps_l1_snd, (fun _ h => by cases h)⟩))
    (Eq.mp (span_Gaps_eq A1 l1 c1 h K) H)

/-! ### quintet/expand.Count: function 24 -/
def expand_Count (x1 : Int) (x2 : Int) (h : Hp) (K : Value → Hp → Prop) : Prop :=
  newC h (.cells #[(.int .u16 x1), (.int .u16 x2)] 24 (0, 0)) fun a4 h3 => 
  ∃ x5 : Int, ∃ x6 : Int, HV Try.prog (Instr.loadAt 24 (.pointer (some a4))) h3 (.agg #[(.int .u16 x5), (.int .u16 x6)]) ∧ 
  CallsH Try.prog 25 #[(.agg #[(.int .u16 x5), (.int .u16 x6)])] h3 fun r8 h7 =>
  ∃ A9 : Option Addr, ∃ l9 : Nat, ∃ c9 : Nat, ∃ x10 : Int, r8 = (.tuple #[(.slice A9 l9 c9), (.int .i64 x10)]) ∧ 
  K (.tuple #[(.int .i64 (l9 : Int)), (.int .i64 x10)]) h7
def expand_Count_lp (i : Nat) (Q : Qx) (tm : Tm) (h : Hp) : Prop := False
def expand_Count_cut (i : Nat) : Option (List Nat) := none
set_option maxRecDepth 100000 in
theorem expand_Count_eq (x1 : Int) (x2 : Int) (h : Hp) (K : Value → Hp → Prop) : expand_Count x1 x2 h K =
    codeWp Try.prog 14 expand_Count_lp expand_Count_cut (bodyOf Try.f24) 1 (endQ Try.prog Try.f24.results.toList K) (argTm [(.agg #[(.int .u16 x1), (.int .u16 x2)])]) h := by kernel_rfl
set_option maxRecDepth 100000 in
theorem expand_Count_ok (x1 : Int) (x2 : Int) {h : Hp} {K : Value → Hp → Prop} (H : expand_Count x1 x2 h K) : CallsH Try.prog 24 #[(.agg #[(.int .u16 x1), (.int .u16 x2)])] h K :=
  calls_of (args := [(.agg #[(.int .u16 x1), (.int .u16 x2)])]) (n := 14) (lp := expand_Count_lp) (cut := expand_Count_cut) Try.func24 (c := bodyOf Try.f24) (by kernel_rfl) (by kernel_rfl) (by kernel_rfl) (good_by (c := (bodyOf Try.f24)) (i := 1) (l := []) (by kernel_rfl) (fun _ h => by cases h))
    (Eq.mp (expand_Count_eq x1 x2 h K) H)

/-! ### quintet/expand.Of: function 25 -/
def expand_Of_l3 (a56 : Addr) (a57 : Addr) (v58 : Value) (x59 : Int) (K0 : Addr → Addr → Value → Int → Int → Hp → Prop)  : Nat → Int → Hp → Prop
  | 0, _, _ => False
  | k + 1, x60, h =>
    br (x60 == 0)
    (K0 a56 a57 v58 x59 x60 h)
    (CallsH Try.prog 54 #[(.int .i64 (IntKind.i64.wrap (x60 - 1)))] h fun r75 h74 =>
    ∃ x76 : Int, r75 = (.int .i64 x76) ∧ 
    ∃ x77 : Int, PV Try.prog (binOp .rem 3 (.int .i64 x59) (.int .i64 x76)) (.int .i64 x77) ∧
    br (x77 != 0)
    (K0 a56 a57 v58 x59 x60 h74)
    (CallsH Try.prog 54 #[(.int .i64 (IntKind.i64.wrap (x60 - 1)))] h74 fun r79 h78 =>
    ∃ x80 : Int, r79 = (.int .i64 x80) ∧ 
    ∃ x81 : Int, HV Try.prog (Instr.loadAt 22 (.pointer (some (a56.add 1)))) h78 (.int .u16 x81) ∧ HV Try.prog (Instr.loadAt 22 (.pointer (some (a56.add 1)))) h74 (.int .u16 x81) ∧ 
    br (decide ((IntKind.i64.wrap ((IntKind.i64.wrap (x59 + x80)) - 1)) > (IntKind.i64.wrap (x81))))
    (K0 a56 a57 v58 x59 x60 h78)
    (expand_Of_l3 a56 a57 v58 x59 K0 k (IntKind.i64.wrap (x60 - 1)) h78)))
def expand_Of_l3_L (Q : Qx) (k : Nat) (tm : Tm) (h : Hp) : Prop :=
  selA (tm 1) fun a56 =>
  selA (tm 5) fun a57 =>
  selV (tm 6) fun v58 =>
  selI .i64 (tm 7) fun x59 =>
  selI .i64 (tm 8) fun x60 =>
  expand_Of_l3 a56 a57 v58 x59 (fun (a69 : Addr) (a70 : Addr) (v71 : Value) (x72 : Int) (x73 : Int) h => Q (.exit 2) (mkTm [(1, some (.pointer (some a69))), (5, some (.pointer (some a70))), (6, some v71), (7, some (.int .i64 x72)), (8, some (.int .i64 x73))]) h) k x60 h
def expand_Of_l2 (a13 : Addr) (a14 : Addr) (v15 : Value) (K0 : Addr → Hp → Prop)  : Nat → Int → Hp → Prop
  | 0, _, _ => False
  | k + 1, x16, h =>
    ∃ x55 : Int, HV Try.prog (Instr.loadAt 22 (.pointer (some (a13.add 1)))) h (.int .u16 x55) ∧ 
    br (decide (x16 ≤ (IntKind.i64.wrap (x55))))
    (∃ k91, expand_Of_l3 a13 a14 v15 x16
    (fun (a82 : Addr) (a83 : Addr) (v84 : Value) (x85 : Int) (x86 : Int) (h87 : Hp) =>
    HN Try.prog (callS v84 #[(.int .i64 x85), (.int .i64 x86)]) h87 fun r89 h88 =>
    ∃ x90 : Int, r89 = (.int .i64 x90) ∧ 
    expand_Of_l2 a13 a14 v15 K0 k x90 h88)
    k91 16 h)
    (K0 a14 h)
def expand_Of_l2_L (Q : Qx) (k : Nat) (tm : Tm) (h : Hp) : Prop :=
  selA (tm 1) fun a13 =>
  selA (tm 5) fun a14 =>
  selV (tm 6) fun v15 =>
  selI .i64 (tm 7) fun x16 =>
  expand_Of_l2 a13 a14 v15 (fun (a54 : Addr) h => Q (.exit 0) (mkTm [(5, some (.pointer (some a54)))]) h) k x16 h
def expand_Of (x1 : Int) (x2 : Int) (h : Hp) (K : Value → Hp → Prop) : Prop :=
  newC h (.cells #[(.int .u16 x1), (.int .u16 x2)] 24 (0, 0)) fun a4 h3 => 
  ∃ x5 : Int, ∃ x6 : Int, HV Try.prog (Instr.loadAt 24 (.pointer (some a4))) h3 (.agg #[(.int .u16 x5), (.int .u16 x6)]) ∧ 
  CallsH Try.prog 50 #[(.agg #[(.int .u16 x5), (.int .u16 x6)])] h3 fun r8 h7 =>
  ∃ x9 : Int, r8 = (.int .i64 x9) ∧ 
  br (x9 != 0)
  (K (.tuple #[(.slice none 0 0), (.int .i64 x9)]) h7)
  (newC h7 (.cells #[(.slice none 0 0)] 34 (0, 0)) fun a11 h10 => 
  ∃ x12 : Int, HV Try.prog (Instr.loadAt 22 (.pointer (some a4))) h10 (.int .u16 x12) ∧ 
  ∃ k95, expand_Of_l2 a4 a11 (.func (.func 53) #[] #[(.pointer (some a11))])
  (fun (a92 : Addr) (h93 : Hp) =>
  ∃ A94 : Option Addr, ∃ l94 : Nat, ∃ c94 : Nat, HV Try.prog (Instr.loadAt 34 (.pointer (some a92))) h93 (.slice A94 l94 c94) ∧ 
  K (.tuple #[(.slice A94 l94 c94), (.int .i64 0)]) h93)
  k95 (IntKind.i64.wrap (x12)) h10)
def expand_Of_lp (i : Nat) (Q : Qx) (tm : Tm) (h : Hp) : Prop := match Nat.beq i 64076 with
  | true => ∃ k, expand_Of_l3_L Q k tm h
  | false => match Nat.beq i 250 with
  | true => ∃ k, expand_Of_l2_L Q k tm h
  | false => False
def expand_Of_cut (i : Nat) : Option (List Nat) := none
set_option maxRecDepth 100000 in
theorem expand_Of_l3_step (Q : Qx) (k : Nat) (a56 : Addr) (a57 : Addr) (v58 : Value) (x59 : Int) (x60 : Int) (h : Hp) : expand_Of_l3_L Q (k + 1) (mkTm [(1, some (.pointer (some a56))), (5, some (.pointer (some a57))), (6, some v58), (7, some (.int .i64 x59)), (8, some (.int .i64 x60))]) h =
    codeWp Try.prog 52 expand_Of_lp expand_Of_cut (sub (bodyOf Try.f25) [true, true, true, true, false, true, false, false, true, false, false, true, true, false, false, false]) 128152 (thenQ (fun tm h => expand_Of_l3_L Q k (mask [1, 5, 6, 7, 8] tm) h) (maskQ (fun e => match e with | .exit 2 => [1, 5, 6, 7, 8] | _ => []) Q)) (mkTm [(1, some (.pointer (some a56))), (5, some (.pointer (some a57))), (6, some v58), (7, some (.int .i64 x59)), (8, some (.int .i64 x60))]) h := by kernel_rfl
theorem expand_Of_l3_mask (Q : Qx) (k : Nat) (tm : Tm) (h : Hp) : expand_Of_l3_L Q k tm h ↔ expand_Of_l3_L Q k (mask [1, 5, 6, 7, 8] tm) h := Iff.rfl
set_option maxRecDepth 100000 in
theorem expand_Of_l3_snd : SndAt Try.prog 52 none (sub (bodyOf Try.f25) [true, true, true, true, false, true, false, false, true, false, false, true, true, false, false]) (expand_Of_lp 64076) := by
  refine loop_sound (lp := expand_Of_lp) (cut := expand_Of_cut) (i := 64076) (c := (sub (bodyOf Try.f25) [true, true, true, true, false, true, false, false, true, false, false, true, true, false, false, false])) [1, 5, 6, 7, 8] (fun e => match e with | .exit 2 => [1, 5, 6, 7, 8] | _ => []) expand_Of_l3_L ?_ ?_ ?_
  · exact good_by (c := (sub (bodyOf Try.f25) [true, true, true, true, false, true, false, false, true, false, false, true, true, false, false, false])) (i := 128152) (l := []) (by kernel_rfl) (fun _ h => by cases h)
  · intro Q tm h H
    obtain ⟨a56, e1, H⟩ := selA_ex H
    obtain ⟨a57, e5, H⟩ := selA_ex H
    obtain ⟨v58, e6, H⟩ := selV_ex H
    obtain ⟨x59, e7, H⟩ := selI_ex H
    obtain ⟨x60, e8, H⟩ := selI_ex H
    exact H
  · intro Q k tm h H
    have H0 := H
    obtain ⟨a56, e1, H⟩ := selA_ex H
    obtain ⟨a57, e5, H⟩ := selA_ex H
    obtain ⟨v58, e6, H⟩ := selV_ex H
    obtain ⟨x59, e7, H⟩ := selI_ex H
    obtain ⟨x60, e8, H⟩ := selI_ex H
    have e : mask [1, 5, 6, 7, 8] tm = mkTm [(1, some (.pointer (some a56))), (5, some (.pointer (some a57))), (6, some v58), (7, some (.int .i64 x59)), (8, some (.int .i64 x60))] := by simp only [mask, List.map_cons, List.map_nil, e1, e5, e6, e7, e8] <;> rfl
    rw [e]
    refine Eq.mp (expand_Of_l3_step Q k a56 a57 v58 x59 x60 h) ?_
    rw [← e]
    exact (expand_Of_l3_mask Q (k + 1) tm h).mp H0
set_option maxRecDepth 100000 in
theorem expand_Of_l2_step (Q : Qx) (k : Nat) (a13 : Addr) (a14 : Addr) (v15 : Value) (x16 : Int) (h : Hp) : expand_Of_l2_L Q (k + 1) (mkTm [(1, some (.pointer (some a13))), (5, some (.pointer (some a14))), (6, some v15), (7, some (.int .i64 x16))]) h =
    codeWp Try.prog 52 expand_Of_lp expand_Of_cut (sub (bodyOf Try.f25) [true, true, true, true, false, true, false, false]) 500 (thenQ (fun tm h => expand_Of_l2_L Q k (mask [1, 5, 6, 7] tm) h) (maskQ (fun e => match e with | .exit 0 => [5] | _ => []) Q)) (mkTm [(1, some (.pointer (some a13))), (5, some (.pointer (some a14))), (6, some v15), (7, some (.int .i64 x16))]) h := by kernel_rfl
theorem expand_Of_l2_mask (Q : Qx) (k : Nat) (tm : Tm) (h : Hp) : expand_Of_l2_L Q k tm h ↔ expand_Of_l2_L Q k (mask [1, 5, 6, 7] tm) h := Iff.rfl
set_option maxRecDepth 100000 in
theorem expand_Of_l2_snd : SndAt Try.prog 52 none (sub (bodyOf Try.f25) [true, true, true, true, false, true, false]) (expand_Of_lp 250) := by
  refine loop_sound (lp := expand_Of_lp) (cut := expand_Of_cut) (i := 250) (c := (sub (bodyOf Try.f25) [true, true, true, true, false, true, false, false])) [1, 5, 6, 7] (fun e => match e with | .exit 0 => [5] | _ => []) expand_Of_l2_L ?_ ?_ ?_
  · exact good_by (c := (sub (bodyOf Try.f25) [true, true, true, true, false, true, false, false])) (i := 500) (l := [(64076, (sub (bodyOf Try.f25) [true, true, true, true, false, true, false, false, true, false, false, true, true, false, false]))]) (by kernel_rfl) (List.forall_mem_cons.2 ⟨expand_Of_l3_snd, (fun _ h => by cases h)⟩)
  · intro Q tm h H
    obtain ⟨a13, e1, H⟩ := selA_ex H
    obtain ⟨a14, e5, H⟩ := selA_ex H
    obtain ⟨v15, e6, H⟩ := selV_ex H
    obtain ⟨x16, e7, H⟩ := selI_ex H
    exact H
  · intro Q k tm h H
    have H0 := H
    obtain ⟨a13, e1, H⟩ := selA_ex H
    obtain ⟨a14, e5, H⟩ := selA_ex H
    obtain ⟨v15, e6, H⟩ := selV_ex H
    obtain ⟨x16, e7, H⟩ := selI_ex H
    have e : mask [1, 5, 6, 7] tm = mkTm [(1, some (.pointer (some a13))), (5, some (.pointer (some a14))), (6, some v15), (7, some (.int .i64 x16))] := by simp only [mask, List.map_cons, List.map_nil, e1, e5, e6, e7] <;> rfl
    rw [e]
    refine Eq.mp (expand_Of_l2_step Q k a13 a14 v15 x16 h) ?_
    rw [← e]
    exact (expand_Of_l2_mask Q (k + 1) tm h).mp H0
set_option maxRecDepth 100000 in
theorem expand_Of_eq (x1 : Int) (x2 : Int) (h : Hp) (K : Value → Hp → Prop) : expand_Of x1 x2 h K =
    codeWp Try.prog 52 expand_Of_lp expand_Of_cut (bodyOf Try.f25) 1 (endQ Try.prog Try.f25.results.toList K) (argTm [(.agg #[(.int .u16 x1), (.int .u16 x2)])]) h := by kernel_rfl
set_option maxRecDepth 100000 in
theorem expand_Of_ok (x1 : Int) (x2 : Int) {h : Hp} {K : Value → Hp → Prop} (H : expand_Of x1 x2 h K) : CallsH Try.prog 25 #[(.agg #[(.int .u16 x1), (.int .u16 x2)])] h K :=
  calls_of (args := [(.agg #[(.int .u16 x1), (.int .u16 x2)])]) (n := 52) (lp := expand_Of_lp) (cut := expand_Of_cut) Try.func25 (c := bodyOf Try.f25) (by kernel_rfl) (by kernel_rfl) (by kernel_rfl) (good_by (c := (bodyOf Try.f25)) (i := 1) (l := [(250, (sub (bodyOf Try.f25) [true, true, true, true, false, true, false]))]) (by kernel_rfl) (List.forall_mem_cons.2 ⟨expand_Of_l2_snd, (fun _ h => by cases h)⟩))
    (Eq.mp (expand_Of_eq x1 x2 h K) H)

/-! ### quintet/quintetref05.Same: function 26 -/
def quintetref05_Same_l1 (A3 : Option Addr) (l3 : Nat) (c3 : Nat) (A4 : Option Addr) (l4 : Nat) (c4 : Nat) (K0 : Bool → Hp → Prop) (K1 : Hp → Prop)  : Nat → Int → Hp → Prop
  | 0, _, _ => False
  | k + 1, x5, h =>
    br (decide (x5 < (l3 : Int)))
    (∃ a14 : Addr, PV Try.prog (Instr.indexAt 34 (.slice A3 l3 c3) (.int .i64 x5)) (.pointer (some a14)) ∧
    ∃ x15 : Int, ∃ x16 : Int, HV Try.prog (Instr.loadAt 49 (.pointer (some a14))) h (.agg #[(.int .u16 x15), (.int .i64 x16)]) ∧ 
    ∃ a17 : Addr, PV Try.prog (Instr.indexAt 34 (.slice A4 l4 c4) (.int .i64 x5)) (.pointer (some a17)) ∧
    ∃ x18 : Int, ∃ x19 : Int, HV Try.prog (Instr.loadAt 49 (.pointer (some a17))) h (.agg #[(.int .u16 x18), (.int .i64 x19)]) ∧ 
    ∃ b20 : Bool, PV Try.prog (binOp .neq 49 (.agg #[(.int .u16 x15), (.int .i64 x16)]) (.agg #[(.int .u16 x18), (.int .i64 x19)])) (.bool b20) ∧
    br b20
    (K0 false h)
    (quintetref05_Same_l1 A3 l3 c3 A4 l4 c4 K0 K1 k (IntKind.i64.wrap (x5 + 1)) h))
    (K1 h)
def quintetref05_Same_l1_L (Q : Qx) (k : Nat) (tm : Tm) (h : Hp) : Prop :=
  selS (tm 0) fun A3 l3 c3 =>
  selS (tm 1) fun A4 l4 c4 =>
  selI .i64 (tm 5) fun x5 =>
  quintetref05_Same_l1 A3 l3 c3 A4 l4 c4 (fun (b13 : Bool) h => Q (.ret) (mkTm [(4, some (.bool b13))]) h) (fun  h => Q (.exit 0) (mkTm []) h) k x5 h
def quintetref05_Same (A1 : Option Addr) (l1 : Nat) (c1 : Nat) (A2 : Option Addr) (l2 : Nat) (c2 : Nat) (h : Hp) (K : Value → Hp → Prop) : Prop :=
  br ((l1 : Int) != (l2 : Int))
  (K (.bool false) h)
  (∃ k24, quintetref05_Same_l1 A1 l1 c1 A2 l2 c2
  (fun (b21 : Bool) (h22 : Hp) =>
  K (.bool b21) h22)
  (fun  (h23 : Hp) =>
  K (.bool true) h23)
  k24 0 h)
def quintetref05_Same_lp (i : Nat) (Q : Qx) (tm : Tm) (h : Hp) : Prop := match Nat.beq i 58 with
  | true => ∃ k, quintetref05_Same_l1_L Q k tm h
  | false => False
def quintetref05_Same_cut (i : Nat) : Option (List Nat) := none
set_option maxRecDepth 100000 in
theorem quintetref05_Same_l1_step (Q : Qx) (k : Nat) (A3 : Option Addr) (l3 : Nat) (c3 : Nat) (A4 : Option Addr) (l4 : Nat) (c4 : Nat) (x5 : Int) (h : Hp) : quintetref05_Same_l1_L Q (k + 1) (mkTm [(0, some (.slice A3 l3 c3)), (1, some (.slice A4 l4 c4)), (5, some (.int .i64 x5))]) h =
    codeWp Try.prog 26 quintetref05_Same_lp quintetref05_Same_cut (sub (bodyOf Try.f26) [true, true, false, true, false, false]) 116 (thenQ (fun tm h => quintetref05_Same_l1_L Q k (mask [0, 1, 5] tm) h) (maskQ (fun e => match e with | .ret => [4] | .exit 0 => [] | _ => []) Q)) (mkTm [(0, some (.slice A3 l3 c3)), (1, some (.slice A4 l4 c4)), (5, some (.int .i64 x5))]) h := by kernel_rfl
theorem quintetref05_Same_l1_mask (Q : Qx) (k : Nat) (tm : Tm) (h : Hp) : quintetref05_Same_l1_L Q k tm h ↔ quintetref05_Same_l1_L Q k (mask [0, 1, 5] tm) h := Iff.rfl
set_option maxRecDepth 100000 in
theorem quintetref05_Same_l1_snd : SndAt Try.prog 26 none (sub (bodyOf Try.f26) [true, true, false, true, false]) (quintetref05_Same_lp 58) := by
  refine loop_sound (lp := quintetref05_Same_lp) (cut := quintetref05_Same_cut) (i := 58) (c := (sub (bodyOf Try.f26) [true, true, false, true, false, false])) [0, 1, 5] (fun e => match e with | .ret => [4] | .exit 0 => [] | _ => []) quintetref05_Same_l1_L ?_ ?_ ?_
  · exact good_by (c := (sub (bodyOf Try.f26) [true, true, false, true, false, false])) (i := 116) (l := []) (by kernel_rfl) (fun _ h => by cases h)
  · intro Q tm h H
    obtain ⟨A3, l3, c3, e0, H⟩ := selS_ex H
    obtain ⟨A4, l4, c4, e1, H⟩ := selS_ex H
    obtain ⟨x5, e5, H⟩ := selI_ex H
    exact H
  · intro Q k tm h H
    have H0 := H
    obtain ⟨A3, l3, c3, e0, H⟩ := selS_ex H
    obtain ⟨A4, l4, c4, e1, H⟩ := selS_ex H
    obtain ⟨x5, e5, H⟩ := selI_ex H
    have e : mask [0, 1, 5] tm = mkTm [(0, some (.slice A3 l3 c3)), (1, some (.slice A4 l4 c4)), (5, some (.int .i64 x5))] := by simp only [mask, List.map_cons, List.map_nil, e0, e1, e5] <;> rfl
    rw [e]
    refine Eq.mp (quintetref05_Same_l1_step Q k A3 l3 c3 A4 l4 c4 x5 h) ?_
    rw [← e]
    exact (quintetref05_Same_l1_mask Q (k + 1) tm h).mp H0
set_option maxRecDepth 100000 in
theorem quintetref05_Same_eq (A1 : Option Addr) (l1 : Nat) (c1 : Nat) (A2 : Option Addr) (l2 : Nat) (c2 : Nat) (h : Hp) (K : Value → Hp → Prop) : quintetref05_Same A1 l1 c1 A2 l2 c2 h K =
    codeWp Try.prog 26 quintetref05_Same_lp quintetref05_Same_cut (bodyOf Try.f26) 1 (endQ Try.prog Try.f26.results.toList K) (argTm [(.slice A1 l1 c1), (.slice A2 l2 c2)]) h := by kernel_rfl
set_option maxRecDepth 100000 in
theorem quintetref05_Same_ok (A1 : Option Addr) (l1 : Nat) (c1 : Nat) (A2 : Option Addr) (l2 : Nat) (c2 : Nat) {h : Hp} {K : Value → Hp → Prop} (H : quintetref05_Same A1 l1 c1 A2 l2 c2 h K) : CallsH Try.prog 26 #[(.slice A1 l1 c1), (.slice A2 l2 c2)] h K :=
  calls_of (args := [(.slice A1 l1 c1), (.slice A2 l2 c2)]) (n := 26) (lp := quintetref05_Same_lp) (cut := quintetref05_Same_cut) Try.func26 (c := bodyOf Try.f26) (by kernel_rfl) (by kernel_rfl) (by kernel_rfl) (good_by (c := (bodyOf Try.f26)) (i := 1) (l := [(58, (sub (bodyOf Try.f26) [true, true, false, true, false]))]) (by kernel_rfl) (List.forall_mem_cons.2 ⟨quintetref05_Same_l1_snd, (fun _ h => by cases h)⟩))
    (Eq.mp (quintetref05_Same_eq A1 l1 c1 A2 l2 c2 h K) H)

/-! ### quintet/quintetlaw05.spoil: function 27 -/
def quintetlaw05_spoil_l1 (A3 : Option Addr) (l3 : Nat) (c3 : Nat) (K0 : Hp → Prop)  : Nat → Int → Hp → Prop
  | 0, _, _ => False
  | k + 1, x4, h =>
    br (decide (x4 < (l3 : Int)))
    (CallsH Try.prog 55 #[(.int .u16 5), (.int .i64 (-4))] h fun r12 h11 =>
    ∃ x13 : Int, ∃ x14 : Int, r12 = (.agg #[(.int .u16 x13), (.int .i64 x14)]) ∧ 
    ∃ a15 : Addr, PV Try.prog (Instr.indexAt 34 (.slice A3 l3 c3) (.int .i64 x4)) (.pointer (some a15)) ∧
    HU Try.prog (Instr.storeAt 49 (.pointer (some a15)) (.agg #[(.int .u16 x13), (.int .i64 x14)])) h11 fun h16 => 
    quintetlaw05_spoil_l1 A3 l3 c3 K0 k (IntKind.i64.wrap (x4 + 1)) h16)
    (K0 h)
def quintetlaw05_spoil_l1_L (Q : Qx) (k : Nat) (tm : Tm) (h : Hp) : Prop :=
  selS (tm 0) fun A3 l3 c3 =>
  selI .i64 (tm 2) fun x4 =>
  quintetlaw05_spoil_l1 A3 l3 c3 (fun  h => Q (.exit 0) (mkTm []) h) k x4 h
def quintetlaw05_spoil (A1 : Option Addr) (l1 : Nat) (c1 : Nat) (h : Hp) (K : Value → Hp → Prop) : Prop :=
  ∃ A2 : Option Addr, ∃ l2 : Nat, ∃ c2 : Nat, PV Try.prog (Instr.sliceAt 34 (.slice A1 l1 c1) none (some (.int .i64 (c1 : Int))) none) (.slice A2 l2 c2) ∧
  ∃ k18, quintetlaw05_spoil_l1 A2 l2 c2
  (fun  (h17 : Hp) =>
  K (.tuple #[]) h17)
  k18 0 h
def quintetlaw05_spoil_lp (i : Nat) (Q : Qx) (tm : Tm) (h : Hp) : Prop := match Nat.beq i 14 with
  | true => ∃ k, quintetlaw05_spoil_l1_L Q k tm h
  | false => False
def quintetlaw05_spoil_cut (i : Nat) : Option (List Nat) := none
set_option maxRecDepth 100000 in
theorem quintetlaw05_spoil_l1_step (Q : Qx) (k : Nat) (A3 : Option Addr) (l3 : Nat) (c3 : Nat) (x4 : Int) (h : Hp) : quintetlaw05_spoil_l1_L Q (k + 1) (mkTm [(0, some (.slice A3 l3 c3)), (2, some (.int .i64 x4))]) h =
    codeWp Try.prog 17 quintetlaw05_spoil_lp quintetlaw05_spoil_cut (sub (bodyOf Try.f27) [true, true, false, false]) 28 (thenQ (fun tm h => quintetlaw05_spoil_l1_L Q k (mask [0, 2] tm) h) (maskQ (fun e => match e with | .exit 0 => [] | _ => []) Q)) (mkTm [(0, some (.slice A3 l3 c3)), (2, some (.int .i64 x4))]) h := by kernel_rfl
theorem quintetlaw05_spoil_l1_mask (Q : Qx) (k : Nat) (tm : Tm) (h : Hp) : quintetlaw05_spoil_l1_L Q k tm h ↔ quintetlaw05_spoil_l1_L Q k (mask [0, 2] tm) h := Iff.rfl
set_option maxRecDepth 100000 in
theorem quintetlaw05_spoil_l1_snd : SndAt Try.prog 17 none (sub (bodyOf Try.f27) [true, true, false]) (quintetlaw05_spoil_lp 14) := by
  refine loop_sound (lp := quintetlaw05_spoil_lp) (cut := quintetlaw05_spoil_cut) (i := 14) (c := (sub (bodyOf Try.f27) [true, true, false, false])) [0, 2] (fun e => match e with | .exit 0 => [] | _ => []) quintetlaw05_spoil_l1_L ?_ ?_ ?_
  · exact good_by (c := (sub (bodyOf Try.f27) [true, true, false, false])) (i := 28) (l := []) (by kernel_rfl) (fun _ h => by cases h)
  · intro Q tm h H
    obtain ⟨A3, l3, c3, e0, H⟩ := selS_ex H
    obtain ⟨x4, e2, H⟩ := selI_ex H
    exact H
  · intro Q k tm h H
    have H0 := H
    obtain ⟨A3, l3, c3, e0, H⟩ := selS_ex H
    obtain ⟨x4, e2, H⟩ := selI_ex H
    have e : mask [0, 2] tm = mkTm [(0, some (.slice A3 l3 c3)), (2, some (.int .i64 x4))] := by simp only [mask, List.map_cons, List.map_nil, e0, e2] <;> rfl
    rw [e]
    refine Eq.mp (quintetlaw05_spoil_l1_step Q k A3 l3 c3 x4 h) ?_
    rw [← e]
    exact (quintetlaw05_spoil_l1_mask Q (k + 1) tm h).mp H0
set_option maxRecDepth 100000 in
theorem quintetlaw05_spoil_eq (A1 : Option Addr) (l1 : Nat) (c1 : Nat) (h : Hp) (K : Value → Hp → Prop) : quintetlaw05_spoil A1 l1 c1 h K =
    codeWp Try.prog 17 quintetlaw05_spoil_lp quintetlaw05_spoil_cut (bodyOf Try.f27) 1 (endQ Try.prog Try.f27.results.toList K) (argTm [(.slice A1 l1 c1)]) h := by kernel_rfl
set_option maxRecDepth 100000 in
theorem quintetlaw05_spoil_ok (A1 : Option Addr) (l1 : Nat) (c1 : Nat) {h : Hp} {K : Value → Hp → Prop} (H : quintetlaw05_spoil A1 l1 c1 h K) : CallsH Try.prog 27 #[(.slice A1 l1 c1)] h K :=
  calls_of (args := [(.slice A1 l1 c1)]) (n := 17) (lp := quintetlaw05_spoil_lp) (cut := quintetlaw05_spoil_cut) Try.func27 (c := bodyOf Try.f27) (by kernel_rfl) (by kernel_rfl) (by kernel_rfl) (good_by (c := (bodyOf Try.f27)) (i := 1) (l := [(14, (sub (bodyOf Try.f27) [true, true, false]))]) (by kernel_rfl) (List.forall_mem_cons.2 ⟨quintetlaw05_spoil_l1_snd, (fun _ h => by cases h)⟩))
    (Eq.mp (quintetlaw05_spoil_eq A1 l1 c1 h K) H)

/-! ### quintet/quintetlaw05.lent: function 30 -/
def quintetlaw05_lent (A1 : Option Addr) (l1 : Nat) (c1 : Nat) (h : Hp) (K : Value → Hp → Prop) : Prop :=
  HW Try.prog (Instr.makeSlice 34 (.int .i64 (IntKind.i64.wrap ((l1 : Int) + 2))) (.int .i64 (IntKind.i64.wrap ((l1 : Int) + 2)))) h fun r3 h2 =>
  ∃ A4 : Option Addr, ∃ l4 : Nat, ∃ c4 : Nat, r3 = (.slice A4 l4 c4) ∧ 
  HW Try.prog (Builtin.copy_ #[34, 34] 3 #[(.slice A4 l4 c4), (.slice A1 l1 c1)]) h2 fun r6 h5 =>
  ∃ x7 : Int, r6 = (.int .i64 x7) ∧ 
  CallsH Try.prog 55 #[(.int .u16 7), (.int .i64 77)] h5 fun r9 h8 =>
  ∃ x10 : Int, ∃ x11 : Int, r9 = (.agg #[(.int .u16 x10), (.int .i64 x11)]) ∧ 
  ∃ a12 : Addr, PV Try.prog (Instr.indexAt 34 (.slice A4 l4 c4) (.int .i64 (l1 : Int))) (.pointer (some a12)) ∧
  HU Try.prog (Instr.storeAt 49 (.pointer (some a12)) (.agg #[(.int .u16 x10), (.int .i64 x11)])) h8 fun h13 => 
  CallsH Try.prog 55 #[(.int .u16 8), (.int .i64 77)] h13 fun r15 h14 =>
  ∃ x16 : Int, ∃ x17 : Int, r15 = (.agg #[(.int .u16 x16), (.int .i64 x17)]) ∧ 
  ∃ a18 : Addr, PV Try.prog (Instr.indexAt 34 (.slice A4 l4 c4) (.int .i64 (IntKind.i64.wrap ((l1 : Int) + 1)))) (.pointer (some a18)) ∧
  HU Try.prog (Instr.storeAt 49 (.pointer (some a18)) (.agg #[(.int .u16 x16), (.int .i64 x17)])) h14 fun h19 => 
  ∃ A20 : Option Addr, ∃ l20 : Nat, ∃ c20 : Nat, PV Try.prog (Instr.sliceAt 34 (.slice A4 l4 c4) none (some (.int .i64 (l1 : Int))) none) (.slice A20 l20 c20) ∧
  K (.slice A20 l20 c20) h19
def quintetlaw05_lent_lp (i : Nat) (Q : Qx) (tm : Tm) (h : Hp) : Prop := False
def quintetlaw05_lent_cut (i : Nat) : Option (List Nat) := none
set_option maxRecDepth 100000 in
theorem quintetlaw05_lent_eq (A1 : Option Addr) (l1 : Nat) (c1 : Nat) (h : Hp) (K : Value → Hp → Prop) : quintetlaw05_lent A1 l1 c1 h K =
    codeWp Try.prog 26 quintetlaw05_lent_lp quintetlaw05_lent_cut (bodyOf Try.f30) 1 (endQ Try.prog Try.f30.results.toList K) (argTm [(.slice A1 l1 c1)]) h := by kernel_rfl
set_option maxRecDepth 100000 in
theorem quintetlaw05_lent_ok (A1 : Option Addr) (l1 : Nat) (c1 : Nat) {h : Hp} {K : Value → Hp → Prop} (H : quintetlaw05_lent A1 l1 c1 h K) : CallsH Try.prog 30 #[(.slice A1 l1 c1)] h K :=
  calls_of (args := [(.slice A1 l1 c1)]) (n := 26) (lp := quintetlaw05_lent_lp) (cut := quintetlaw05_lent_cut) Try.func30 (c := bodyOf Try.f30) (by kernel_rfl) (by kernel_rfl) (by kernel_rfl) (good_by (c := (bodyOf Try.f30)) (i := 1) (l := []) (by kernel_rfl) (fun _ h => by cases h))
    (Eq.mp (quintetlaw05_lent_eq A1 l1 c1 h K) H)

/-! ### quintet/expand.Back: function 31 -/
def expand_Back_l1 (A6 : Option Addr) (l6 : Nat) (c6 : Nat) (x7 : Int) (K0 : (Option Addr) → Nat → Nat → Int → Hp → Prop) (K1 : (Option Addr) → Nat → Nat → Hp → Prop)  : Nat → (Option Addr) → Nat → Nat → Int → Hp → Prop
  | 0, _, _, _, _, _ => False
  | k + 1, A5, l5, c5, x8, h =>
    br (decide (x8 < x7))
    (∃ a35 : Addr, PV Try.prog (Instr.indexAt 34 (.slice A6 l6 c6) (.int .i64 x8)) (.pointer (some a35)) ∧
    ∃ x36 : Int, ∃ x37 : Int, HV Try.prog (Instr.loadAt 49 (.pointer (some a35))) h (.agg #[(.int .u16 x36), (.int .i64 x37)]) ∧ 
    newC h (.cells #[(.int .u16 0), (.int .i64 0)] 49 (0, 0)) fun a39 h38 => 
    HU Try.prog (Instr.storeAt 49 (.pointer (some a39)) (.agg #[(.int .u16 x36), (.int .i64 x37)])) h38 fun h40 => 
    ∃ x41 : Int, ∃ x42 : Int, HV Try.prog (Instr.loadAt 49 (.pointer (some a39))) h40 (.agg #[(.int .u16 x41), (.int .i64 x42)]) ∧ 
    CallsH Try.prog 35 #[(.agg #[(.int .u16 x41), (.int .i64 x42)])] h40 fun r44 h43 =>
    ∃ x45 : Int, ∃ x46 : Int, ∃ x47 : Int, r44 = (.tuple #[(.agg #[(.int .u16 x45), (.int .u16 x46)]), (.int .i64 x47)]) ∧ 
    newC h43 (.cells #[(.int .u16 0), (.int .u16 0)] 24 (0, 0)) fun a49 h48 => 
    HU Try.prog (Instr.storeAt 24 (.pointer (some a49)) (.agg #[(.int .u16 x45), (.int .u16 x46)])) h48 fun h50 => 
    br (x47 != 0)
    (K0 none 0 0 x47 h50)
    (∃ x51 : Int, ∃ x52 : Int, HV Try.prog (Instr.loadAt 24 (.pointer (some a49))) h50 (.agg #[(.int .u16 x51), (.int .u16 x52)]) ∧ 
    newC h50 (.cells #[(.int .u16 x51), (.int .u16 x52)] 24 (0, 0)) fun a54 h53 => 
    HW Try.prog (Builtin.append_ #[25, 25] 25 #[(.slice A5 l5 c5), (.slice (some a54) 1 1)]) h53 fun r56 h55 =>
    ∃ A57 : Option Addr, ∃ l57 : Nat, ∃ c57 : Nat, r56 = (.slice A57 l57 c57) ∧ 
    expand_Back_l1 A6 l6 c6 x7 K0 K1 k A57 l57 c57 (IntKind.i64.wrap (x8 + 1)) h55))
    (K1 A5 l5 c5 h)
def expand_Back_l1_L (Q : Qx) (k : Nat) (tm : Tm) (h : Hp) : Prop :=
  selS (tm 4) fun A5 l5 c5 =>
  selS (tm 12) fun A6 l6 c6 =>
  selI .i64 (tm 13) fun x7 =>
  selI .i64 (tm 14) fun x8 =>
  expand_Back_l1 A6 l6 c6 x7 (fun (A32 : Option Addr) (l32 : Nat) (c32 : Nat) (x33 : Int) h => Q (.ret) (mkTm [(2, some (.slice A32 l32 c32)), (3, some (.int .i64 x33))]) h) (fun (A34 : Option Addr) (l34 : Nat) (c34 : Nat) h => Q (.exit 0) (mkTm [(4, some (.slice A34 l34 c34))]) h) k A5 l5 c5 x8 h
def expand_Back (A1 : Option Addr) (l1 : Nat) (c1 : Nat) (h : Hp) (K : Value → Hp → Prop) : Prop :=
  HW Try.prog (Instr.makeSlice 25 (.int .i64 0) (.int .i64 (l1 : Int))) h fun r3 h2 =>
  ∃ A4 : Option Addr, ∃ l4 : Nat, ∃ c4 : Nat, r3 = (.slice A4 l4 c4) ∧ 
  ∃ k66, expand_Back_l1 A1 l1 c1 (l1 : Int)
  (fun (A58 : Option Addr) (l58 : Nat) (c58 : Nat) (x59 : Int) (h60 : Hp) =>
  K (.tuple #[(.slice A58 l58 c58), (.int .i64 x59)]) h60)
  (fun (A61 : Option Addr) (l61 : Nat) (c61 : Nat) (h62 : Hp) =>
  CallsH Try.prog 19 #[(.slice A61 l61 c61)] h62 fun r64 h63 =>
  ∃ A65 : Option Addr, ∃ l65 : Nat, ∃ c65 : Nat, r64 = (.slice A65 l65 c65) ∧ 
  K (.tuple #[(.slice A65 l65 c65), (.int .i64 0)]) h63)
  k66 A4 l4 c4 0 h2
def expand_Back_lp (i : Nat) (Q : Qx) (tm : Tm) (h : Hp) : Prop := match Nat.beq i 58 with
  | true => ∃ k, expand_Back_l1_L Q k tm h
  | false => False
def expand_Back_cut (i : Nat) : Option (List Nat) := none
set_option maxRecDepth 100000 in
theorem expand_Back_l1_step (Q : Qx) (k : Nat) (A5 : Option Addr) (l5 : Nat) (c5 : Nat) (A6 : Option Addr) (l6 : Nat) (c6 : Nat) (x7 : Int) (x8 : Int) (h : Hp) : expand_Back_l1_L Q (k + 1) (mkTm [(4, some (.slice A5 l5 c5)), (12, some (.slice A6 l6 c6)), (13, some (.int .i64 x7)), (14, some (.int .i64 x8))]) h =
    codeWp Try.prog 33 expand_Back_lp expand_Back_cut (sub (bodyOf Try.f31) [true, true, false, true, false, false]) 116 (thenQ (fun tm h => expand_Back_l1_L Q k (mask [4, 12, 13, 14] tm) h) (maskQ (fun e => match e with | .ret => [2, 3] | .exit 0 => [4] | _ => []) Q)) (mkTm [(4, some (.slice A5 l5 c5)), (12, some (.slice A6 l6 c6)), (13, some (.int .i64 x7)), (14, some (.int .i64 x8))]) h := by kernel_rfl
theorem expand_Back_l1_mask (Q : Qx) (k : Nat) (tm : Tm) (h : Hp) : expand_Back_l1_L Q k tm h ↔ expand_Back_l1_L Q k (mask [4, 12, 13, 14] tm) h := Iff.rfl
set_option maxRecDepth 100000 in
theorem expand_Back_l1_snd : SndAt Try.prog 33 none (sub (bodyOf Try.f31) [true, true, false, true, false]) (expand_Back_lp 58) := by
  refine loop_sound (lp := expand_Back_lp) (cut := expand_Back_cut) (i := 58) (c := (sub (bodyOf Try.f31) [true, true, false, true, false, false])) [4, 12, 13, 14] (fun e => match e with | .ret => [2, 3] | .exit 0 => [4] | _ => []) expand_Back_l1_L ?_ ?_ ?_
  · exact good_by (c := (sub (bodyOf Try.f31) [true, true, false, true, false, false])) (i := 116) (l := []) (by kernel_rfl) (fun _ h => by cases h)
  · intro Q tm h H
    obtain ⟨A5, l5, c5, e4, H⟩ := selS_ex H
    obtain ⟨A6, l6, c6, e12, H⟩ := selS_ex H
    obtain ⟨x7, e13, H⟩ := selI_ex H
    obtain ⟨x8, e14, H⟩ := selI_ex H
    exact H
  · intro Q k tm h H
    have H0 := H
    obtain ⟨A5, l5, c5, e4, H⟩ := selS_ex H
    obtain ⟨A6, l6, c6, e12, H⟩ := selS_ex H
    obtain ⟨x7, e13, H⟩ := selI_ex H
    obtain ⟨x8, e14, H⟩ := selI_ex H
    have e : mask [4, 12, 13, 14] tm = mkTm [(4, some (.slice A5 l5 c5)), (12, some (.slice A6 l6 c6)), (13, some (.int .i64 x7)), (14, some (.int .i64 x8))] := by simp only [mask, List.map_cons, List.map_nil, e4, e12, e13, e14] <;> rfl
    rw [e]
    refine Eq.mp (expand_Back_l1_step Q k A5 l5 c5 A6 l6 c6 x7 x8 h) ?_
    rw [← e]
    exact (expand_Back_l1_mask Q (k + 1) tm h).mp H0
set_option maxRecDepth 100000 in
theorem expand_Back_eq (A1 : Option Addr) (l1 : Nat) (c1 : Nat) (h : Hp) (K : Value → Hp → Prop) : expand_Back A1 l1 c1 h K =
    codeWp Try.prog 33 expand_Back_lp expand_Back_cut (bodyOf Try.f31) 1 (endQ Try.prog Try.f31.results.toList K) (argTm [(.slice A1 l1 c1)]) h := by kernel_rfl
set_option maxRecDepth 100000 in
theorem expand_Back_ok (A1 : Option Addr) (l1 : Nat) (c1 : Nat) {h : Hp} {K : Value → Hp → Prop} (H : expand_Back A1 l1 c1 h K) : CallsH Try.prog 31 #[(.slice A1 l1 c1)] h K :=
  calls_of (args := [(.slice A1 l1 c1)]) (n := 33) (lp := expand_Back_lp) (cut := expand_Back_cut) Try.func31 (c := bodyOf Try.f31) (by kernel_rfl) (by kernel_rfl) (by kernel_rfl) (good_by (c := (bodyOf Try.f31)) (i := 1) (l := [(58, (sub (bodyOf Try.f31) [true, true, false, true, false]))]) (by kernel_rfl) (List.forall_mem_cons.2 ⟨expand_Back_l1_snd, (fun _ h => by cases h)⟩))
    (Eq.mp (expand_Back_eq A1 l1 c1 h K) H)

/-! ### quintet/quintetlaw05.back: function 32 -/
def quintetlaw05_back_l3 (A45 : Option Addr) (l45 : Nat) (c45 : Nat) (b46 : Bool) (K0 : Bool → Hp → Prop)  : Nat → Int → Hp → Prop
  | 0, _, _ => False
  | k + 1, x47, h =>
    br (decide (x47 < (l45 : Int)))
    (CallsH Try.prog 55 #[(.int .u16 99), (.int .i64 98)] h fun r56 h55 =>
    ∃ x57 : Int, ∃ x58 : Int, r56 = (.agg #[(.int .u16 x57), (.int .i64 x58)]) ∧ 
    ∃ a59 : Addr, PV Try.prog (Instr.indexAt 34 (.slice A45 l45 c45) (.int .i64 x47)) (.pointer (some a59)) ∧
    HU Try.prog (Instr.storeAt 49 (.pointer (some a59)) (.agg #[(.int .u16 x57), (.int .i64 x58)])) h55 fun h60 => 
    quintetlaw05_back_l3 A45 l45 c45 b46 K0 k (IntKind.i64.wrap (x47 + 1)) h60)
    (K0 b46 h)
def quintetlaw05_back_l3_L (Q : Qx) (k : Nat) (tm : Tm) (h : Hp) : Prop :=
  selS (tm 5) fun A45 l45 c45 =>
  selB (tm 6) fun b46 =>
  selI .i64 (tm 7) fun x47 =>
  quintetlaw05_back_l3 A45 l45 c45 b46 (fun (b54 : Bool) h => Q (.exit 0) (mkTm [(6, some (.bool b54))]) h) k x47 h
def quintetlaw05_back_j2 (K0 : Bool → Hp → Prop) (A23 : Option Addr) (l23 : Nat) (c23 : Nat) (b24 : Bool) (h : Hp) : Prop :=
  ∃ k63, quintetlaw05_back_l3 A23 l23 c23 b24
  (fun (b61 : Bool) (h62 : Hp) =>
  K0 b61 h62)
  k63 0 h
def quintetlaw05_back_j2_L (Q : Qx) (tm : Tm) (h : Hp) : Prop :=
  selS (tm 5) fun A23 l23 c23 =>
  selB (tm 6) fun b24 =>
  quintetlaw05_back_j2 (fun (b44 : Bool) h => Q (.ret) (mkTm [(4, some (.bool b44))]) h) A23 l23 c23 b24 h
def quintetlaw05_back (A1 : Option Addr) (l1 : Nat) (c1 : Nat) (A2 : Option Addr) (l2 : Nat) (c2 : Nat) (h : Hp) (K : Value → Hp → Prop) : Prop :=
  ∃ A3 : Option Addr, ∃ l3 : Nat, ∃ c3 : Nat, PV Try.prog (Instr.sliceAt 34 (.slice A1 l1 c1) none (some (.int .i64 (IntKind.i64.wrap ((l2 : Int) + 2)))) none) (.slice A3 l3 c3) ∧
  ∃ a64 : Addr, PV Try.prog (Instr.indexAt 34 (.slice A3 l3 c3) (.int .i64 (l2 : Int))) (.pointer (some a64)) ∧
  ∃ x65 : Int, ∃ x66 : Int, HV Try.prog (Instr.loadAt 49 (.pointer (some a64))) h (.agg #[(.int .u16 x65), (.int .i64 x66)]) ∧ 
  CallsH Try.prog 55 #[(.int .u16 7), (.int .i64 77)] h fun r68 h67 =>
  ∃ x69 : Int, ∃ x70 : Int, r68 = (.agg #[(.int .u16 x69), (.int .i64 x70)]) ∧ HV Try.prog (Instr.loadAt 49 (.pointer (some a64))) h67 (.agg #[(.int .u16 x65), (.int .i64 x66)]) ∧ 
  ∃ b71 : Bool, PV Try.prog (binOp .eql 49 (.agg #[(.int .u16 x65), (.int .i64 x66)]) (.agg #[(.int .u16 x69), (.int .i64 x70)])) (.bool b71) ∧
  br b71
  (∃ a72 : Addr, PV Try.prog (Instr.indexAt 34 (.slice A3 l3 c3) (.int .i64 (IntKind.i64.wrap ((l2 : Int) + 1)))) (.pointer (some a72)) ∧
  ∃ x73 : Int, ∃ x74 : Int, HV Try.prog (Instr.loadAt 49 (.pointer (some a72))) h67 (.agg #[(.int .u16 x73), (.int .i64 x74)]) ∧ 
  CallsH Try.prog 55 #[(.int .u16 8), (.int .i64 77)] h67 fun r76 h75 =>
  ∃ x77 : Int, ∃ x78 : Int, r76 = (.agg #[(.int .u16 x77), (.int .i64 x78)]) ∧ HV Try.prog (Instr.loadAt 49 (.pointer (some a72))) h75 (.agg #[(.int .u16 x73), (.int .i64 x74)]) ∧ 
  ∃ b79 : Bool, PV Try.prog (binOp .eql 49 (.agg #[(.int .u16 x73), (.int .i64 x74)]) (.agg #[(.int .u16 x77), (.int .i64 x78)])) (.bool b79) ∧
  br b79
  (CallsH Try.prog 26 #[(.slice A1 l1 c1), (.slice A2 l2 c2)] h75 fun r81 h80 =>
  ∃ b82 : Bool, r81 = (.bool b82) ∧ 
  quintetlaw05_back_j2
  (fun (b83 : Bool) (h84 : Hp) =>
  K (.bool b83) h84)
  A3 l3 c3 b82 h80)
  (quintetlaw05_back_j2
  (fun (b85 : Bool) (h86 : Hp) =>
  K (.bool b85) h86)
  A3 l3 c3 false h75))
  (quintetlaw05_back_j2
  (fun (b87 : Bool) (h88 : Hp) =>
  K (.bool b87) h88)
  A3 l3 c3 false h67)
def quintetlaw05_back_lp (i : Nat) (Q : Qx) (tm : Tm) (h : Hp) : Prop := match Nat.beq i 122 with
  | true => ∃ k, quintetlaw05_back_l3_L Q k tm h
  | false => match Nat.beq i 7 with
  | true => quintetlaw05_back_j2_L Q tm h
  | false => False
def quintetlaw05_back_cut (i : Nat) : Option (List Nat) := match Nat.beq i 7 with
  | true => some [5, 6]
  | false => none
set_option maxRecDepth 100000 in
theorem quintetlaw05_back_l3_step (Q : Qx) (k : Nat) (A45 : Option Addr) (l45 : Nat) (c45 : Nat) (b46 : Bool) (x47 : Int) (h : Hp) : quintetlaw05_back_l3_L Q (k + 1) (mkTm [(5, some (.slice A45 l45 c45)), (6, some (.bool b46)), (7, some (.int .i64 x47))]) h =
    codeWp Try.prog 46 quintetlaw05_back_lp quintetlaw05_back_cut (sub (bodyOf Try.f32) [true, true, true, false, true, false, false]) 244 (thenQ (fun tm h => quintetlaw05_back_l3_L Q k (mask [5, 6, 7] tm) h) (maskQ (fun e => match e with | .exit 0 => [6] | _ => []) Q)) (mkTm [(5, some (.slice A45 l45 c45)), (6, some (.bool b46)), (7, some (.int .i64 x47))]) h := by kernel_rfl
theorem quintetlaw05_back_l3_mask (Q : Qx) (k : Nat) (tm : Tm) (h : Hp) : quintetlaw05_back_l3_L Q k tm h ↔ quintetlaw05_back_l3_L Q k (mask [5, 6, 7] tm) h := Iff.rfl
set_option maxRecDepth 100000 in
theorem quintetlaw05_back_l3_snd : SndAt Try.prog 46 none (sub (bodyOf Try.f32) [true, true, true, false, true, false]) (quintetlaw05_back_lp 122) := by
  refine loop_sound (lp := quintetlaw05_back_lp) (cut := quintetlaw05_back_cut) (i := 122) (c := (sub (bodyOf Try.f32) [true, true, true, false, true, false, false])) [5, 6, 7] (fun e => match e with | .exit 0 => [6] | _ => []) quintetlaw05_back_l3_L ?_ ?_ ?_
  · exact good_by (c := (sub (bodyOf Try.f32) [true, true, true, false, true, false, false])) (i := 244) (l := []) (by kernel_rfl) (fun _ h => by cases h)
  · intro Q tm h H
    obtain ⟨A45, l45, c45, e5, H⟩ := selS_ex H
    obtain ⟨b46, e6, H⟩ := selB_ex H
    obtain ⟨x47, e7, H⟩ := selI_ex H
    exact H
  · intro Q k tm h H
    have H0 := H
    obtain ⟨A45, l45, c45, e5, H⟩ := selS_ex H
    obtain ⟨b46, e6, H⟩ := selB_ex H
    obtain ⟨x47, e7, H⟩ := selI_ex H
    have e : mask [5, 6, 7] tm = mkTm [(5, some (.slice A45 l45 c45)), (6, some (.bool b46)), (7, some (.int .i64 x47))] := by simp only [mask, List.map_cons, List.map_nil, e5, e6, e7] <;> rfl
    rw [e]
    refine Eq.mp (quintetlaw05_back_l3_step Q k A45 l45 c45 b46 x47 h) ?_
    rw [← e]
    exact (quintetlaw05_back_l3_mask Q (k + 1) tm h).mp H0
set_option maxRecDepth 100000 in
theorem quintetlaw05_back_j2_step (Q : Qx) (A23 : Option Addr) (l23 : Nat) (c23 : Nat) (b24 : Bool) (h : Hp) : quintetlaw05_back_j2_L Q (mkTm [(5, some (.slice A23 l23 c23)), (6, some (.bool b24))]) h =
    codeWp Try.prog 46 quintetlaw05_back_lp quintetlaw05_back_cut (sub (bodyOf Try.f32) [true, true, true]) 15 (maskQ (fun e => match e with | .ret => [4] | _ => []) Q) (mkTm [(5, some (.slice A23 l23 c23)), (6, some (.bool b24))]) h := by kernel_rfl
theorem quintetlaw05_back_j2_mask (Q : Qx) (tm : Tm) (h : Hp) : quintetlaw05_back_j2_L Q tm h ↔ quintetlaw05_back_j2_L Q (mask [5, 6] tm) h := Iff.rfl
set_option maxRecDepth 100000 in
theorem quintetlaw05_back_j2_snd : SndAt Try.prog 46 none (sub (bodyOf Try.f32) [true, true, true]) (quintetlaw05_back_lp 7) := by
  refine join_sound (lp := quintetlaw05_back_lp) (cut := quintetlaw05_back_cut) (i := 7) (c := (sub (bodyOf Try.f32) [true, true, true])) [5, 6] (fun e => match e with | .ret => [4] | _ => []) quintetlaw05_back_j2_L ?_ ?_
  · exact good_by (c := (sub (bodyOf Try.f32) [true, true, true])) (i := 15) (l := [(122, (sub (bodyOf Try.f32) [true, true, true, false, true, false]))]) (by kernel_rfl) (List.forall_mem_cons.2 ⟨quintetlaw05_back_l3_snd, (fun _ h => by cases h)⟩)
  · intro Q tm h H
    have H0 := H
    obtain ⟨A23, l23, c23, e5, H⟩ := selS_ex H
    obtain ⟨b24, e6, H⟩ := selB_ex H
    have e : mask [5, 6] tm = mkTm [(5, some (.slice A23 l23 c23)), (6, some (.bool b24))] := by simp only [mask, List.map_cons, List.map_nil, e5, e6] <;> rfl
    rw [e]
    refine Eq.mp (quintetlaw05_back_j2_step Q A23 l23 c23 b24 h) ?_
    rw [← e]
    exact (quintetlaw05_back_j2_mask Q tm h).mp H0
set_option maxRecDepth 100000 in
theorem quintetlaw05_back_eq (A1 : Option Addr) (l1 : Nat) (c1 : Nat) (A2 : Option Addr) (l2 : Nat) (c2 : Nat) (h : Hp) (K : Value → Hp → Prop) : quintetlaw05_back A1 l1 c1 A2 l2 c2 h K =
    codeWp Try.prog 46 quintetlaw05_back_lp quintetlaw05_back_cut (bodyOf Try.f32) 1 (endQ Try.prog Try.f32.results.toList K) (argTm [(.slice A1 l1 c1), (.slice A2 l2 c2)]) h := by kernel_rfl
set_option maxRecDepth 100000 in
theorem quintetlaw05_back_ok (A1 : Option Addr) (l1 : Nat) (c1 : Nat) (A2 : Option Addr) (l2 : Nat) (c2 : Nat) {h : Hp} {K : Value → Hp → Prop} (H : quintetlaw05_back A1 l1 c1 A2 l2 c2 h K) : CallsH Try.prog 32 #[(.slice A1 l1 c1), (.slice A2 l2 c2)] h K :=
  calls_of (args := [(.slice A1 l1 c1), (.slice A2 l2 c2)]) (n := 46) (lp := quintetlaw05_back_lp) (cut := quintetlaw05_back_cut) Try.func32 (c := bodyOf Try.f32) (by kernel_rfl) (by kernel_rfl) (by kernel_rfl) (good_by (c := (bodyOf Try.f32)) (i := 1) (l := [(7, (sub (bodyOf Try.f32) [true, true, true]))]) (by kernel_rfl) (List.forall_mem_cons.2 ⟨quintetlaw05_back_j2_snd, (fun _ h => by cases h)⟩))
    (Eq.mp (quintetlaw05_back_eq A1 l1 c1 A2 l2 c2 h K) H)

/-! ### quintet/expand.Least: function 34 -/
def expand_Least_l1 (x6 : Int) (A8 : Option Addr) (l8 : Nat) (c8 : Nat) (x9 : Int) (K0 : Int → (Option Addr) → Nat → Nat → Hp → Prop)  : Nat → (Option Addr) → Nat → Nat → Int → Hp → Prop
  | 0, _, _, _, _, _ => False
  | k + 1, A7, l7, c7, x10, h =>
    br (decide (x10 < x9))
    (∃ a28 : Addr, PV Try.prog (Instr.indexAt 25 (.slice A8 l8 c8) (.int .i64 x10)) (.pointer (some a28)) ∧
    ∃ x29 : Int, ∃ x30 : Int, HV Try.prog (Instr.loadAt 24 (.pointer (some a28))) h (.agg #[(.int .u16 x29), (.int .u16 x30)]) ∧ 
    newC h (.cells #[(.int .u16 0), (.int .u16 0)] 24 (0, 0)) fun a32 h31 => 
    HU Try.prog (Instr.storeAt 24 (.pointer (some a32)) (.agg #[(.int .u16 x29), (.int .u16 x30)])) h31 fun h33 => 
    ∃ x34 : Int, ∃ x35 : Int, HV Try.prog (Instr.loadAt 24 (.pointer (some a32))) h33 (.agg #[(.int .u16 x34), (.int .u16 x35)]) ∧ 
    CallsH Try.prog 25 #[(.agg #[(.int .u16 x34), (.int .u16 x35)])] h33 fun r37 h36 =>
    ∃ A38 : Option Addr, ∃ l38 : Nat, ∃ c38 : Nat, ∃ x39 : Int, r37 = (.tuple #[(.slice A38 l38 c38), (.int .i64 x39)]) ∧ 
    HW Try.prog (Builtin.append_ #[34, 34] 34 #[(.slice A7 l7 c7), (.slice A38 l38 c38)]) h36 fun r41 h40 =>
    ∃ A42 : Option Addr, ∃ l42 : Nat, ∃ c42 : Nat, r41 = (.slice A42 l42 c42) ∧ 
    expand_Least_l1 x6 A8 l8 c8 x9 K0 k A42 l42 c42 (IntKind.i64.wrap (x10 + 1)) h40)
    (K0 x6 A7 l7 c7 h)
def expand_Least_l1_L (Q : Qx) (k : Nat) (tm : Tm) (h : Hp) : Prop :=
  selI .i64 (tm 5) fun x6 =>
  selS (tm 6) fun A7 l7 c7 =>
  selS (tm 16) fun A8 l8 c8 =>
  selI .i64 (tm 17) fun x9 =>
  selI .i64 (tm 18) fun x10 =>
  expand_Least_l1 x6 A8 l8 c8 x9 (fun (x26 : Int) (A27 : Option Addr) (l27 : Nat) (c27 : Nat) h => Q (.exit 0) (mkTm [(5, some (.int .i64 x26)), (6, some (.slice A27 l27 c27))]) h) k A7 l7 c7 x10 h
def expand_Least (A1 : Option Addr) (l1 : Nat) (c1 : Nat) (h : Hp) (K : Value → Hp → Prop) : Prop :=
  CallsH Try.prog 31 #[(.slice A1 l1 c1)] h fun r3 h2 =>
  ∃ A4 : Option Addr, ∃ l4 : Nat, ∃ c4 : Nat, ∃ x5 : Int, r3 = (.tuple #[(.slice A4 l4 c4), (.int .i64 x5)]) ∧ 
  ∃ k46, expand_Least_l1 x5 A4 l4 c4 (l4 : Int)
  (fun (x43 : Int) (A44 : Option Addr) (l44 : Nat) (c44 : Nat) (h45 : Hp) =>
  K (.tuple #[(.slice A44 l44 c44), (.int .i64 x43)]) h45)
  k46 none 0 0 0 h2
def expand_Least_lp (i : Nat) (Q : Qx) (tm : Tm) (h : Hp) : Prop := match Nat.beq i 122 with
  | true => ∃ k, expand_Least_l1_L Q k tm h
  | false => False
def expand_Least_cut (i : Nat) : Option (List Nat) := none
set_option maxRecDepth 100000 in
theorem expand_Least_l1_step (Q : Qx) (k : Nat) (x6 : Int) (A7 : Option Addr) (l7 : Nat) (c7 : Nat) (A8 : Option Addr) (l8 : Nat) (c8 : Nat) (x9 : Int) (x10 : Int) (h : Hp) : expand_Least_l1_L Q (k + 1) (mkTm [(5, some (.int .i64 x6)), (6, some (.slice A7 l7 c7)), (16, some (.slice A8 l8 c8)), (17, some (.int .i64 x9)), (18, some (.int .i64 x10))]) h =
    codeWp Try.prog 33 expand_Least_lp expand_Least_cut (sub (bodyOf Try.f34) [true, true, true, false, true, false, false]) 244 (thenQ (fun tm h => expand_Least_l1_L Q k (mask [5, 6, 16, 17, 18] tm) h) (maskQ (fun e => match e with | .exit 0 => [5, 6] | _ => []) Q)) (mkTm [(5, some (.int .i64 x6)), (6, some (.slice A7 l7 c7)), (16, some (.slice A8 l8 c8)), (17, some (.int .i64 x9)), (18, some (.int .i64 x10))]) h := by kernel_rfl
theorem expand_Least_l1_mask (Q : Qx) (k : Nat) (tm : Tm) (h : Hp) : expand_Least_l1_L Q k tm h ↔ expand_Least_l1_L Q k (mask [5, 6, 16, 17, 18] tm) h := Iff.rfl
set_option maxRecDepth 100000 in
theorem expand_Least_l1_snd : SndAt Try.prog 33 none (sub (bodyOf Try.f34) [true, true, true, false, true, false]) (expand_Least_lp 122) := by
  refine loop_sound (lp := expand_Least_lp) (cut := expand_Least_cut) (i := 122) (c := (sub (bodyOf Try.f34) [true, true, true, false, true, false, false])) [5, 6, 16, 17, 18] (fun e => match e with | .exit 0 => [5, 6] | _ => []) expand_Least_l1_L ?_ ?_ ?_
  · exact good_by (c := (sub (bodyOf Try.f34) [true, true, true, false, true, false, false])) (i := 244) (l := []) (by kernel_rfl) (fun _ h => by cases h)
  · intro Q tm h H
    obtain ⟨x6, e5, H⟩ := selI_ex H
    obtain ⟨A7, l7, c7, e6, H⟩ := selS_ex H
    obtain ⟨A8, l8, c8, e16, H⟩ := selS_ex H
    obtain ⟨x9, e17, H⟩ := selI_ex H
    obtain ⟨x10, e18, H⟩ := selI_ex H
    exact H
  · intro Q k tm h H
    have H0 := H
    obtain ⟨x6, e5, H⟩ := selI_ex H
    obtain ⟨A7, l7, c7, e6, H⟩ := selS_ex H
    obtain ⟨A8, l8, c8, e16, H⟩ := selS_ex H
    obtain ⟨x9, e17, H⟩ := selI_ex H
    obtain ⟨x10, e18, H⟩ := selI_ex H
    have e : mask [5, 6, 16, 17, 18] tm = mkTm [(5, some (.int .i64 x6)), (6, some (.slice A7 l7 c7)), (16, some (.slice A8 l8 c8)), (17, some (.int .i64 x9)), (18, some (.int .i64 x10))] := by simp only [mask, List.map_cons, List.map_nil, e5, e6, e16, e17, e18] <;> rfl
    rw [e]
    refine Eq.mp (expand_Least_l1_step Q k x6 A7 l7 c7 A8 l8 c8 x9 x10 h) ?_
    rw [← e]
    exact (expand_Least_l1_mask Q (k + 1) tm h).mp H0
set_option maxRecDepth 100000 in
theorem expand_Least_eq (A1 : Option Addr) (l1 : Nat) (c1 : Nat) (h : Hp) (K : Value → Hp → Prop) : expand_Least A1 l1 c1 h K =
    codeWp Try.prog 33 expand_Least_lp expand_Least_cut (bodyOf Try.f34) 1 (endQ Try.prog Try.f34.results.toList K) (argTm [(.slice A1 l1 c1)]) h := by kernel_rfl
set_option maxRecDepth 100000 in
theorem expand_Least_ok (A1 : Option Addr) (l1 : Nat) (c1 : Nat) {h : Hp} {K : Value → Hp → Prop} (H : expand_Least A1 l1 c1 h K) : CallsH Try.prog 34 #[(.slice A1 l1 c1)] h K :=
  calls_of (args := [(.slice A1 l1 c1)]) (n := 33) (lp := expand_Least_lp) (cut := expand_Least_cut) Try.func34 (c := bodyOf Try.f34) (by kernel_rfl) (by kernel_rfl) (by kernel_rfl) (good_by (c := (bodyOf Try.f34)) (i := 1) (l := [(122, (sub (bodyOf Try.f34) [true, true, true, false, true, false]))]) (by kernel_rfl) (List.forall_mem_cons.2 ⟨expand_Least_l1_snd, (fun _ h => by cases h)⟩))
    (Eq.mp (expand_Least_eq A1 l1 c1 h K) H)

/-! ### quintet/expand.Span: function 35 -/
def expand_Span (x1 : Int) (x2 : Int) (h : Hp) (K : Value → Hp → Prop) : Prop :=
  newC h (.cells #[(.int .u16 x1), (.int .i64 x2)] 49 (0, 0)) fun a4 h3 => 
  newC h3 (.cells #[(.int .u16 0), (.int .u16 0)] 24 (0, 0)) fun a6 h5 => 
  ∃ x7 : Int, ∃ x8 : Int, HV Try.prog (Instr.loadAt 49 (.pointer (some a4))) h5 (.agg #[(.int .u16 x7), (.int .i64 x8)]) ∧ 
  CallsH Try.prog 37 #[(.agg #[(.int .u16 x7), (.int .i64 x8)])] h5 fun r10 h9 =>
  ∃ x11 : Int, r10 = (.int .i64 x11) ∧ 
  br (x11 != 0)
  (HU Try.prog (Instr.storeAt 24 (.pointer (some a6)) (.agg #[(.int .u16 0), (.int .u16 0)])) h9 fun h12 => 
  ∃ x13 : Int, ∃ x14 : Int, HV Try.prog (Instr.loadAt 24 (.pointer (some a6))) h12 (.agg #[(.int .u16 x13), (.int .u16 x14)]) ∧ K (.tuple #[(.agg #[(.int .u16 x13), (.int .u16 x14)]), (.int .i64 x11)]) h12)
  (∃ x15 : Int, HV Try.prog (Instr.loadAt 22 (.pointer (some a4))) h9 (.int .u16 x15) ∧ 
  ∃ x16 : Int, HV Try.prog (Instr.loadAt 22 (.pointer (some a4))) h9 (.int .u16 x16) ∧ 
  ∃ x17 : Int, HV Try.prog (Instr.loadAt 3 (.pointer (some (a4.add 1)))) h9 (.int .i64 x17) ∧ 
  CallsH Try.prog 54 #[(.int .i64 x17)] h9 fun r19 h18 =>
  ∃ x20 : Int, r19 = (.int .i64 x20) ∧ HV Try.prog (Instr.loadAt 22 (.pointer (some a4))) h18 (.int .u16 x16) ∧ HV Try.prog (Instr.loadAt 22 (.pointer (some a4))) h18 (.int .u16 x15) ∧ 
  HU Try.prog (Instr.storeAt 24 (.pointer (some a6)) (.agg #[(.int .u16 x15), (.int .u16 (IntKind.u16.wrap (x16 + (IntKind.u16.wrap (IntKind.i64.wrap (x20 - 1))))))])) h18 fun h21 => 
  ∃ x22 : Int, ∃ x23 : Int, HV Try.prog (Instr.loadAt 24 (.pointer (some a6))) h21 (.agg #[(.int .u16 x22), (.int .u16 x23)]) ∧ K (.tuple #[(.agg #[(.int .u16 x22), (.int .u16 x23)]), (.int .i64 0)]) h21)
def expand_Span_lp (i : Nat) (Q : Qx) (tm : Tm) (h : Hp) : Prop := False
def expand_Span_cut (i : Nat) : Option (List Nat) := none
set_option maxRecDepth 100000 in
theorem expand_Span_eq (x1 : Int) (x2 : Int) (h : Hp) (K : Value → Hp → Prop) : expand_Span x1 x2 h K =
    codeWp Try.prog 22 expand_Span_lp expand_Span_cut (bodyOf Try.f35) 1 (endQ Try.prog Try.f35.results.toList K) (argTm [(.agg #[(.int .u16 x1), (.int .i64 x2)])]) h := by kernel_rfl
set_option maxRecDepth 100000 in
theorem expand_Span_ok (x1 : Int) (x2 : Int) {h : Hp} {K : Value → Hp → Prop} (H : expand_Span x1 x2 h K) : CallsH Try.prog 35 #[(.agg #[(.int .u16 x1), (.int .i64 x2)])] h K :=
  calls_of (args := [(.agg #[(.int .u16 x1), (.int .i64 x2)])]) (n := 22) (lp := expand_Span_lp) (cut := expand_Span_cut) Try.func35 (c := bodyOf Try.f35) (by kernel_rfl) (by kernel_rfl) (by kernel_rfl) (good_by (c := (bodyOf Try.f35)) (i := 1) (l := []) (by kernel_rfl) (fun _ h => by cases h))
    (Eq.mp (expand_Span_eq x1 x2 h K) H)

/-! ### quintet/quintetref05.Span: function 36 -/
def quintetref05_Span (x1 : Int) (x2 : Int) (h : Hp) (K : Value → Hp → Prop) : Prop :=
  newC h (.cells #[(.int .u16 x1), (.int .i64 x2)] 49 (0, 0)) fun a4 h3 => 
  newC h3 (.cells #[(.int .u16 0), (.int .u16 0)] 24 (0, 0)) fun a6 h5 => 
  ∃ x7 : Int, ∃ x8 : Int, HV Try.prog (Instr.loadAt 49 (.pointer (some a4))) h5 (.agg #[(.int .u16 x7), (.int .i64 x8)]) ∧ 
  CallsH Try.prog 57 #[(.agg #[(.int .u16 x7), (.int .i64 x8)])] h5 fun r10 h9 =>
  ∃ b11 : Bool, r10 = (.bool b11) ∧ 
  br (!b11)
  (HU Try.prog (Instr.storeAt 24 (.pointer (some a6)) (.agg #[(.int .u16 0), (.int .u16 0)])) h9 fun h12 => 
  ∃ x13 : Int, ∃ x14 : Int, HV Try.prog (Instr.loadAt 24 (.pointer (some a6))) h12 (.agg #[(.int .u16 x13), (.int .u16 x14)]) ∧ K (.tuple #[(.agg #[(.int .u16 x13), (.int .u16 x14)]), (.int .i64 50)]) h12)
  (∃ x15 : Int, HV Try.prog (Instr.loadAt 3 (.pointer (some (a4.add 1)))) h9 (.int .i64 x15) ∧ 
  ∃ x16 : Int, PV Try.prog (binOp .shl 3 (.int .i64 1) (.int .i64 (IntKind.i64.wrap (16 - x15)))) (.int .i64 x16) ∧
  ∃ x17 : Int, HV Try.prog (Instr.loadAt 22 (.pointer (some a4))) h9 (.int .u16 x17) ∧ 
  ∃ x18 : Int, HV Try.prog (Instr.loadAt 22 (.pointer (some a4))) h9 (.int .u16 x18) ∧ 
  HU Try.prog (Instr.storeAt 24 (.pointer (some a6)) (.agg #[(.int .u16 x17), (.int .u16 (IntKind.u16.wrap (IntKind.i64.wrap ((IntKind.i64.wrap ((IntKind.i64.wrap (x18)) + x16)) - 1))))])) h9 fun h19 => 
  ∃ x20 : Int, ∃ x21 : Int, HV Try.prog (Instr.loadAt 24 (.pointer (some a6))) h19 (.agg #[(.int .u16 x20), (.int .u16 x21)]) ∧ K (.tuple #[(.agg #[(.int .u16 x20), (.int .u16 x21)]), (.int .i64 0)]) h19)
def quintetref05_Span_lp (i : Nat) (Q : Qx) (tm : Tm) (h : Hp) : Prop := False
def quintetref05_Span_cut (i : Nat) : Option (List Nat) := none
set_option maxRecDepth 100000 in
theorem quintetref05_Span_eq (x1 : Int) (x2 : Int) (h : Hp) (K : Value → Hp → Prop) : quintetref05_Span x1 x2 h K =
    codeWp Try.prog 23 quintetref05_Span_lp quintetref05_Span_cut (bodyOf Try.f36) 1 (endQ Try.prog Try.f36.results.toList K) (argTm [(.agg #[(.int .u16 x1), (.int .i64 x2)])]) h := by kernel_rfl
set_option maxRecDepth 100000 in
theorem quintetref05_Span_ok (x1 : Int) (x2 : Int) {h : Hp} {K : Value → Hp → Prop} (H : quintetref05_Span x1 x2 h K) : CallsH Try.prog 36 #[(.agg #[(.int .u16 x1), (.int .i64 x2)])] h K :=
  calls_of (args := [(.agg #[(.int .u16 x1), (.int .i64 x2)])]) (n := 23) (lp := quintetref05_Span_lp) (cut := quintetref05_Span_cut) Try.func36 (c := bodyOf Try.f36) (by kernel_rfl) (by kernel_rfl) (by kernel_rfl) (good_by (c := (bodyOf Try.f36)) (i := 1) (l := []) (by kernel_rfl) (fun _ h => by cases h))
    (Eq.mp (quintetref05_Span_eq x1 x2 h K) H)

/-! ### quintet/expand.Check: function 37 -/
def expand_Check (x1 : Int) (x2 : Int) (h : Hp) (K : Value → Hp → Prop) : Prop :=
  newC h (.cells #[(.int .u16 x1), (.int .i64 x2)] 49 (0, 0)) fun a4 h3 => 
  ∃ x5 : Int, HV Try.prog (Instr.loadAt 3 (.pointer (some (a4.add 1)))) h3 (.int .i64 x5) ∧ 
  br (decide (x5 < 0))
  (K (.int .i64 50) h3)
  (∃ x6 : Int, HV Try.prog (Instr.loadAt 3 (.pointer (some (a4.add 1)))) h3 (.int .i64 x6) ∧ 
  br (decide (x6 > 16))
  (K (.int .i64 50) h3)
  (∃ x7 : Int, HV Try.prog (Instr.loadAt 22 (.pointer (some a4))) h3 (.int .u16 x7) ∧ 
  ∃ x8 : Int, HV Try.prog (Instr.loadAt 3 (.pointer (some (a4.add 1)))) h3 (.int .i64 x8) ∧ 
  CallsH Try.prog 54 #[(.int .i64 x8)] h3 fun r10 h9 =>
  ∃ x11 : Int, r10 = (.int .i64 x11) ∧ HV Try.prog (Instr.loadAt 22 (.pointer (some a4))) h9 (.int .u16 x7) ∧ 
  ∃ x12 : Int, PV Try.prog (binOp .rem 3 (.int .i64 (IntKind.i64.wrap (x7))) (.int .i64 x11)) (.int .i64 x12) ∧
  br (x12 != 0)
  (K (.int .i64 50) h9)
  (K (.int .i64 0) h9)))
def expand_Check_lp (i : Nat) (Q : Qx) (tm : Tm) (h : Hp) : Prop := False
def expand_Check_cut (i : Nat) : Option (List Nat) := none
set_option maxRecDepth 100000 in
theorem expand_Check_eq (x1 : Int) (x2 : Int) (h : Hp) (K : Value → Hp → Prop) : expand_Check x1 x2 h K =
    codeWp Try.prog 21 expand_Check_lp expand_Check_cut (bodyOf Try.f37) 1 (endQ Try.prog Try.f37.results.toList K) (argTm [(.agg #[(.int .u16 x1), (.int .i64 x2)])]) h := by kernel_rfl
set_option maxRecDepth 100000 in
theorem expand_Check_ok (x1 : Int) (x2 : Int) {h : Hp} {K : Value → Hp → Prop} (H : expand_Check x1 x2 h K) : CallsH Try.prog 37 #[(.agg #[(.int .u16 x1), (.int .i64 x2)])] h K :=
  calls_of (args := [(.agg #[(.int .u16 x1), (.int .i64 x2)])]) (n := 21) (lp := expand_Check_lp) (cut := expand_Check_cut) Try.func37 (c := bodyOf Try.f37) (by kernel_rfl) (by kernel_rfl) (by kernel_rfl) (good_by (c := (bodyOf Try.f37)) (i := 1) (l := []) (by kernel_rfl) (fun _ h => by cases h))
    (Eq.mp (expand_Check_eq x1 x2 h K) H)

/-! ### quintet/quintetref05.Check: function 38 -/
def quintetref05_Check (x1 : Int) (x2 : Int) (h : Hp) (K : Value → Hp → Prop) : Prop :=
  newC h (.cells #[(.int .u16 x1), (.int .i64 x2)] 49 (0, 0)) fun a4 h3 => 
  ∃ x5 : Int, ∃ x6 : Int, HV Try.prog (Instr.loadAt 49 (.pointer (some a4))) h3 (.agg #[(.int .u16 x5), (.int .i64 x6)]) ∧ 
  CallsH Try.prog 57 #[(.agg #[(.int .u16 x5), (.int .i64 x6)])] h3 fun r8 h7 =>
  ∃ b9 : Bool, r8 = (.bool b9) ∧ 
  br (!b9)
  (K (.int .i64 50) h7)
  (K (.int .i64 0) h7)
def quintetref05_Check_lp (i : Nat) (Q : Qx) (tm : Tm) (h : Hp) : Prop := False
def quintetref05_Check_cut (i : Nat) : Option (List Nat) := none
set_option maxRecDepth 100000 in
theorem quintetref05_Check_eq (x1 : Int) (x2 : Int) (h : Hp) (K : Value → Hp → Prop) : quintetref05_Check x1 x2 h K =
    codeWp Try.prog 6 quintetref05_Check_lp quintetref05_Check_cut (bodyOf Try.f38) 1 (endQ Try.prog Try.f38.results.toList K) (argTm [(.agg #[(.int .u16 x1), (.int .i64 x2)])]) h := by kernel_rfl
set_option maxRecDepth 100000 in
theorem quintetref05_Check_ok (x1 : Int) (x2 : Int) {h : Hp} {K : Value → Hp → Prop} (H : quintetref05_Check x1 x2 h K) : CallsH Try.prog 38 #[(.agg #[(.int .u16 x1), (.int .i64 x2)])] h K :=
  calls_of (args := [(.agg #[(.int .u16 x1), (.int .i64 x2)])]) (n := 6) (lp := quintetref05_Check_lp) (cut := quintetref05_Check_cut) Try.func38 (c := bodyOf Try.f38) (by kernel_rfl) (by kernel_rfl) (by kernel_rfl) (good_by (c := (bodyOf Try.f38)) (i := 1) (l := []) (by kernel_rfl) (fun _ h => by cases h))
    (Eq.mp (quintetref05_Check_eq x1 x2 h K) H)

/-! ### quintet/expand.Has: function 39 -/
def expand_Has (x1 : Int) (x2 : Int) (x3 : Int) (h : Hp) (K : Value → Hp → Prop) : Prop :=
  newC h (.cells #[(.int .u16 x1), (.int .i64 x2)] 49 (0, 0)) fun a5 h4 => 
  ∃ x6 : Int, ∃ x7 : Int, HV Try.prog (Instr.loadAt 49 (.pointer (some a5))) h4 (.agg #[(.int .u16 x6), (.int .i64 x7)]) ∧ 
  CallsH Try.prog 35 #[(.agg #[(.int .u16 x6), (.int .i64 x7)])] h4 fun r9 h8 =>
  ∃ x10 : Int, ∃ x11 : Int, ∃ x12 : Int, r9 = (.tuple #[(.agg #[(.int .u16 x10), (.int .u16 x11)]), (.int .i64 x12)]) ∧ 
  newC h8 (.cells #[(.int .u16 0), (.int .u16 0)] 24 (0, 0)) fun a14 h13 => 
  HU Try.prog (Instr.storeAt 24 (.pointer (some a14)) (.agg #[(.int .u16 x10), (.int .u16 x11)])) h13 fun h15 => 
  br (x12 == 0)
  (∃ x16 : Int, ∃ x17 : Int, HV Try.prog (Instr.loadAt 24 (.pointer (some a14))) h15 (.agg #[(.int .u16 x16), (.int .u16 x17)]) ∧ 
  CallsH Try.prog 43 #[(.agg #[(.int .u16 x16), (.int .u16 x17)]), (.int .u16 x3)] h15 fun r19 h18 =>
  ∃ b20 : Bool, r19 = (.bool b20) ∧ 
  K (.bool b20) h18)
  (K (.bool false) h15)
def expand_Has_lp (i : Nat) (Q : Qx) (tm : Tm) (h : Hp) : Prop := False
def expand_Has_cut (i : Nat) : Option (List Nat) := none
set_option maxRecDepth 100000 in
theorem expand_Has_eq (x1 : Int) (x2 : Int) (x3 : Int) (h : Hp) (K : Value → Hp → Prop) : expand_Has x1 x2 x3 h K =
    codeWp Try.prog 19 expand_Has_lp expand_Has_cut (bodyOf Try.f39) 1 (endQ Try.prog Try.f39.results.toList K) (argTm [(.agg #[(.int .u16 x1), (.int .i64 x2)]), (.int .u16 x3)]) h := by kernel_rfl
set_option maxRecDepth 100000 in
theorem expand_Has_ok (x1 : Int) (x2 : Int) (x3 : Int) {h : Hp} {K : Value → Hp → Prop} (H : expand_Has x1 x2 x3 h K) : CallsH Try.prog 39 #[(.agg #[(.int .u16 x1), (.int .i64 x2)]), (.int .u16 x3)] h K :=
  calls_of (args := [(.agg #[(.int .u16 x1), (.int .i64 x2)]), (.int .u16 x3)]) (n := 19) (lp := expand_Has_lp) (cut := expand_Has_cut) Try.func39 (c := bodyOf Try.f39) (by kernel_rfl) (by kernel_rfl) (by kernel_rfl) (good_by (c := (bodyOf Try.f39)) (i := 1) (l := []) (by kernel_rfl) (fun _ h => by cases h))
    (Eq.mp (expand_Has_eq x1 x2 x3 h K) H)

/-! ### quintet/quintetref05.Has: function 40 -/
def quintetref05_Has_l1 (x11 : Int) (a12 : Addr) (K0 : Bool → Hp → Prop) (K1 : Hp → Prop)  : Nat → Int → Hp → Prop
  | 0, _, _ => False
  | k + 1, x13, h =>
    ∃ x19 : Int, HV Try.prog (Instr.loadAt 3 (.pointer (some (a12.add 1)))) h (.int .i64 x19) ∧ 
    br (decide (x13 < x19))
    (∃ x20 : Int, HV Try.prog (Instr.loadAt 22 (.pointer (some a12))) h (.int .u16 x20) ∧ 
    ∃ x21 : Int, PV Try.prog (binOp .shr 22 (.int .u16 x20) (.int .i64 (IntKind.i64.wrap (15 - x13)))) (.int .u16 x21) ∧
    ∃ x22 : Int, PV Try.prog (binOp .shr 22 (.int .u16 x11) (.int .i64 (IntKind.i64.wrap (15 - x13)))) (.int .u16 x22) ∧
    br ((bAnd .u16 x21 1) != (bAnd .u16 x22 1))
    (K0 false h)
    (quintetref05_Has_l1 x11 a12 K0 K1 k (IntKind.i64.wrap (x13 + 1)) h))
    (K1 h)
def quintetref05_Has_l1_L (Q : Qx) (k : Nat) (tm : Tm) (h : Hp) : Prop :=
  selI .u16 (tm 1) fun x11 =>
  selA (tm 2) fun a12 =>
  selI .i64 (tm 5) fun x13 =>
  quintetref05_Has_l1 x11 a12 (fun (b18 : Bool) h => Q (.ret) (mkTm [(4, some (.bool b18))]) h) (fun  h => Q (.exit 0) (mkTm []) h) k x13 h
def quintetref05_Has (x1 : Int) (x2 : Int) (x3 : Int) (h : Hp) (K : Value → Hp → Prop) : Prop :=
  newC h (.cells #[(.int .u16 x1), (.int .i64 x2)] 49 (0, 0)) fun a5 h4 => 
  ∃ x6 : Int, ∃ x7 : Int, HV Try.prog (Instr.loadAt 49 (.pointer (some a5))) h4 (.agg #[(.int .u16 x6), (.int .i64 x7)]) ∧ 
  CallsH Try.prog 57 #[(.agg #[(.int .u16 x6), (.int .i64 x7)])] h4 fun r9 h8 =>
  ∃ b10 : Bool, r9 = (.bool b10) ∧ 
  br (!b10)
  (K (.bool false) h8)
  (∃ k26, quintetref05_Has_l1 x3 a5
  (fun (b23 : Bool) (h24 : Hp) =>
  K (.bool b23) h24)
  (fun  (h25 : Hp) =>
  K (.bool true) h25)
  k26 0 h8)
def quintetref05_Has_lp (i : Nat) (Q : Qx) (tm : Tm) (h : Hp) : Prop := match Nat.beq i 58 with
  | true => ∃ k, quintetref05_Has_l1_L Q k tm h
  | false => False
def quintetref05_Has_cut (i : Nat) : Option (List Nat) := none
set_option maxRecDepth 100000 in
theorem quintetref05_Has_l1_step (Q : Qx) (k : Nat) (x11 : Int) (a12 : Addr) (x13 : Int) (h : Hp) : quintetref05_Has_l1_L Q (k + 1) (mkTm [(1, some (.int .u16 x11)), (2, some (.pointer (some a12))), (5, some (.int .i64 x13))]) h =
    codeWp Try.prog 27 quintetref05_Has_lp quintetref05_Has_cut (sub (bodyOf Try.f40) [true, true, false, true, false, false]) 116 (thenQ (fun tm h => quintetref05_Has_l1_L Q k (mask [1, 2, 5] tm) h) (maskQ (fun e => match e with | .ret => [4] | .exit 0 => [] | _ => []) Q)) (mkTm [(1, some (.int .u16 x11)), (2, some (.pointer (some a12))), (5, some (.int .i64 x13))]) h := by kernel_rfl
theorem quintetref05_Has_l1_mask (Q : Qx) (k : Nat) (tm : Tm) (h : Hp) : quintetref05_Has_l1_L Q k tm h ↔ quintetref05_Has_l1_L Q k (mask [1, 2, 5] tm) h := Iff.rfl
set_option maxRecDepth 100000 in
theorem quintetref05_Has_l1_snd : SndAt Try.prog 27 none (sub (bodyOf Try.f40) [true, true, false, true, false]) (quintetref05_Has_lp 58) := by
  refine loop_sound (lp := quintetref05_Has_lp) (cut := quintetref05_Has_cut) (i := 58) (c := (sub (bodyOf Try.f40) [true, true, false, true, false, false])) [1, 2, 5] (fun e => match e with | .ret => [4] | .exit 0 => [] | _ => []) quintetref05_Has_l1_L ?_ ?_ ?_
  · exact good_by (c := (sub (bodyOf Try.f40) [true, true, false, true, false, false])) (i := 116) (l := []) (by kernel_rfl) (fun _ h => by cases h)
  · intro Q tm h H
    obtain ⟨x11, e1, H⟩ := selI_ex H
    obtain ⟨a12, e2, H⟩ := selA_ex H
    obtain ⟨x13, e5, H⟩ := selI_ex H
    exact H
  · intro Q k tm h H
    have H0 := H
    obtain ⟨x11, e1, H⟩ := selI_ex H
    obtain ⟨a12, e2, H⟩ := selA_ex H
    obtain ⟨x13, e5, H⟩ := selI_ex H
    have e : mask [1, 2, 5] tm = mkTm [(1, some (.int .u16 x11)), (2, some (.pointer (some a12))), (5, some (.int .i64 x13))] := by simp only [mask, List.map_cons, List.map_nil, e1, e2, e5] <;> rfl
    rw [e]
    refine Eq.mp (quintetref05_Has_l1_step Q k x11 a12 x13 h) ?_
    rw [← e]
    exact (quintetref05_Has_l1_mask Q (k + 1) tm h).mp H0
set_option maxRecDepth 100000 in
theorem quintetref05_Has_eq (x1 : Int) (x2 : Int) (x3 : Int) (h : Hp) (K : Value → Hp → Prop) : quintetref05_Has x1 x2 x3 h K =
    codeWp Try.prog 27 quintetref05_Has_lp quintetref05_Has_cut (bodyOf Try.f40) 1 (endQ Try.prog Try.f40.results.toList K) (argTm [(.agg #[(.int .u16 x1), (.int .i64 x2)]), (.int .u16 x3)]) h := by kernel_rfl
set_option maxRecDepth 100000 in
theorem quintetref05_Has_ok (x1 : Int) (x2 : Int) (x3 : Int) {h : Hp} {K : Value → Hp → Prop} (H : quintetref05_Has x1 x2 x3 h K) : CallsH Try.prog 40 #[(.agg #[(.int .u16 x1), (.int .i64 x2)]), (.int .u16 x3)] h K :=
  calls_of (args := [(.agg #[(.int .u16 x1), (.int .i64 x2)]), (.int .u16 x3)]) (n := 27) (lp := quintetref05_Has_lp) (cut := quintetref05_Has_cut) Try.func40 (c := bodyOf Try.f40) (by kernel_rfl) (by kernel_rfl) (by kernel_rfl) (good_by (c := (bodyOf Try.f40)) (i := 1) (l := [(58, (sub (bodyOf Try.f40) [true, true, false, true, false]))]) (by kernel_rfl) (List.forall_mem_cons.2 ⟨quintetref05_Has_l1_snd, (fun _ h => by cases h)⟩))
    (Eq.mp (quintetref05_Has_eq x1 x2 x3 h K) H)

/-! ### quintet/span.Count: function 41 -/
def span_Count (x1 : Int) (x2 : Int) (h : Hp) (K : Value → Hp → Prop) : Prop :=
  newC h (.cells #[(.int .u16 x1), (.int .u16 x2)] 24 (0, 0)) fun a4 h3 => 
  ∃ x5 : Int, HV Try.prog (Instr.loadAt 22 (.pointer (some (a4.add 1)))) h3 (.int .u16 x5) ∧ 
  ∃ x6 : Int, HV Try.prog (Instr.loadAt 22 (.pointer (some a4))) h3 (.int .u16 x6) ∧ 
  ∃ x7 : Int, PV Try.prog (Builtin.max_ #[3, 3] 3 #[(.int .i64 0), (.int .i64 (IntKind.i64.wrap ((IntKind.i64.wrap ((IntKind.i64.wrap (x5)) - (IntKind.i64.wrap (x6)))) + 1)))]) (.int .i64 x7) ∧
  K (.int .i64 x7) h3
def span_Count_lp (i : Nat) (Q : Qx) (tm : Tm) (h : Hp) : Prop := False
def span_Count_cut (i : Nat) : Option (List Nat) := none
set_option maxRecDepth 100000 in
theorem span_Count_eq (x1 : Int) (x2 : Int) (h : Hp) (K : Value → Hp → Prop) : span_Count x1 x2 h K =
    codeWp Try.prog 12 span_Count_lp span_Count_cut (bodyOf Try.f41) 1 (endQ Try.prog Try.f41.results.toList K) (argTm [(.agg #[(.int .u16 x1), (.int .u16 x2)])]) h := by kernel_rfl
set_option maxRecDepth 100000 in
theorem span_Count_ok (x1 : Int) (x2 : Int) {h : Hp} {K : Value → Hp → Prop} (H : span_Count x1 x2 h K) : CallsH Try.prog 41 #[(.agg #[(.int .u16 x1), (.int .u16 x2)])] h K :=
  calls_of (args := [(.agg #[(.int .u16 x1), (.int .u16 x2)])]) (n := 12) (lp := span_Count_lp) (cut := span_Count_cut) Try.func41 (c := bodyOf Try.f41) (by kernel_rfl) (by kernel_rfl) (by kernel_rfl) (good_by (c := (bodyOf Try.f41)) (i := 1) (l := []) (by kernel_rfl) (fun _ h => by cases h))
    (Eq.mp (span_Count_eq x1 x2 h K) H)

/-! ### quintet/span.Within: function 42 -/
def span_Within (x1 : Int) (x2 : Int) (x3 : Int) (x4 : Int) (h : Hp) (K : Value → Hp → Prop) : Prop :=
  newC h (.cells #[(.int .u16 x1), (.int .u16 x2)] 24 (0, 0)) fun a6 h5 => 
  newC h5 (.cells #[(.int .u16 x3), (.int .u16 x4)] 24 (0, 0)) fun a8 h7 => 
  ∃ x9 : Int, ∃ x10 : Int, HV Try.prog (Instr.loadAt 24 (.pointer (some a6))) h7 (.agg #[(.int .u16 x9), (.int .u16 x10)]) ∧ 
  CallsH Try.prog 45 #[(.agg #[(.int .u16 x9), (.int .u16 x10)])] h7 fun r12 h11 =>
  ∃ b13 : Bool, r12 = (.bool b13) ∧ 
  br b13
  (∃ x14 : Int, ∃ x15 : Int, HV Try.prog (Instr.loadAt 24 (.pointer (some a8))) h11 (.agg #[(.int .u16 x14), (.int .u16 x15)]) ∧ 
  CallsH Try.prog 45 #[(.agg #[(.int .u16 x14), (.int .u16 x15)])] h11 fun r17 h16 =>
  ∃ b18 : Bool, r17 = (.bool b18) ∧ 
  br b18
  (∃ x19 : Int, ∃ x20 : Int, HV Try.prog (Instr.loadAt 24 (.pointer (some a8))) h16 (.agg #[(.int .u16 x19), (.int .u16 x20)]) ∧ 
  ∃ x21 : Int, HV Try.prog (Instr.loadAt 22 (.pointer (some a6))) h16 (.int .u16 x21) ∧ 
  CallsH Try.prog 43 #[(.agg #[(.int .u16 x19), (.int .u16 x20)]), (.int .u16 x21)] h16 fun r23 h22 =>
  ∃ b24 : Bool, r23 = (.bool b24) ∧ 
  br b24
  (∃ x25 : Int, ∃ x26 : Int, HV Try.prog (Instr.loadAt 24 (.pointer (some a8))) h22 (.agg #[(.int .u16 x25), (.int .u16 x26)]) ∧ 
  ∃ x27 : Int, HV Try.prog (Instr.loadAt 22 (.pointer (some (a6.add 1)))) h22 (.int .u16 x27) ∧ 
  CallsH Try.prog 43 #[(.agg #[(.int .u16 x25), (.int .u16 x26)]), (.int .u16 x27)] h22 fun r29 h28 =>
  ∃ b30 : Bool, r29 = (.bool b30) ∧ 
  K (.bool b30) h28)
  (K (.bool false) h22))
  (K (.bool false) h16))
  (K (.bool false) h11)
def span_Within_lp (i : Nat) (Q : Qx) (tm : Tm) (h : Hp) : Prop := False
def span_Within_cut (i : Nat) : Option (List Nat) := none
set_option maxRecDepth 100000 in
theorem span_Within_eq (x1 : Int) (x2 : Int) (x3 : Int) (x4 : Int) (h : Hp) (K : Value → Hp → Prop) : span_Within x1 x2 x3 x4 h K =
    codeWp Try.prog 23 span_Within_lp span_Within_cut (bodyOf Try.f42) 1 (endQ Try.prog Try.f42.results.toList K) (argTm [(.agg #[(.int .u16 x1), (.int .u16 x2)]), (.agg #[(.int .u16 x3), (.int .u16 x4)])]) h := by kernel_rfl
set_option maxRecDepth 100000 in
theorem span_Within_ok (x1 : Int) (x2 : Int) (x3 : Int) (x4 : Int) {h : Hp} {K : Value → Hp → Prop} (H : span_Within x1 x2 x3 x4 h K) : CallsH Try.prog 42 #[(.agg #[(.int .u16 x1), (.int .u16 x2)]), (.agg #[(.int .u16 x3), (.int .u16 x4)])] h K :=
  calls_of (args := [(.agg #[(.int .u16 x1), (.int .u16 x2)]), (.agg #[(.int .u16 x3), (.int .u16 x4)])]) (n := 23) (lp := span_Within_lp) (cut := span_Within_cut) Try.func42 (c := bodyOf Try.f42) (by kernel_rfl) (by kernel_rfl) (by kernel_rfl) (good_by (c := (bodyOf Try.f42)) (i := 1) (l := []) (by kernel_rfl) (fun _ h => by cases h))
    (Eq.mp (span_Within_eq x1 x2 x3 x4 h K) H)

/-! ### quintet/span.Has: function 43 -/
def span_Has (x1 : Int) (x2 : Int) (x3 : Int) (h : Hp) (K : Value → Hp → Prop) : Prop :=
  newC h (.cells #[(.int .u16 x1), (.int .u16 x2)] 24 (0, 0)) fun a5 h4 => 
  ∃ x6 : Int, HV Try.prog (Instr.loadAt 22 (.pointer (some a5))) h4 (.int .u16 x6) ∧ 
  br (decide (x3 ≥ x6))
  (∃ x7 : Int, HV Try.prog (Instr.loadAt 22 (.pointer (some (a5.add 1)))) h4 (.int .u16 x7) ∧ 
  K (.bool (decide (x3 ≤ x7))) h4)
  (K (.bool false) h4)
def span_Has_lp (i : Nat) (Q : Qx) (tm : Tm) (h : Hp) : Prop := False
def span_Has_cut (i : Nat) : Option (List Nat) := none
set_option maxRecDepth 100000 in
theorem span_Has_eq (x1 : Int) (x2 : Int) (x3 : Int) (h : Hp) (K : Value → Hp → Prop) : span_Has x1 x2 x3 h K =
    codeWp Try.prog 15 span_Has_lp span_Has_cut (bodyOf Try.f43) 1 (endQ Try.prog Try.f43.results.toList K) (argTm [(.agg #[(.int .u16 x1), (.int .u16 x2)]), (.int .u16 x3)]) h := by kernel_rfl
set_option maxRecDepth 100000 in
theorem span_Has_ok (x1 : Int) (x2 : Int) (x3 : Int) {h : Hp} {K : Value → Hp → Prop} (H : span_Has x1 x2 x3 h K) : CallsH Try.prog 43 #[(.agg #[(.int .u16 x1), (.int .u16 x2)]), (.int .u16 x3)] h K :=
  calls_of (args := [(.agg #[(.int .u16 x1), (.int .u16 x2)]), (.int .u16 x3)]) (n := 15) (lp := span_Has_lp) (cut := span_Has_cut) Try.func43 (c := bodyOf Try.f43) (by kernel_rfl) (by kernel_rfl) (by kernel_rfl) (good_by (c := (bodyOf Try.f43)) (i := 1) (l := []) (by kernel_rfl) (fun _ h => by cases h))
    (Eq.mp (span_Has_eq x1 x2 x3 h K) H)

/-! ### quintet/span.Meet: function 44 -/
def span_Meet (x1 : Int) (x2 : Int) (x3 : Int) (x4 : Int) (h : Hp) (K : Value → Hp → Prop) : Prop :=
  newC h (.cells #[(.int .u16 x1), (.int .u16 x2)] 24 (0, 0)) fun a6 h5 => 
  newC h5 (.cells #[(.int .u16 x3), (.int .u16 x4)] 24 (0, 0)) fun a8 h7 => 
  newC h7 (.cells #[(.int .u16 0), (.int .u16 0)] 24 (0, 0)) fun a10 h9 => 
  ∃ x11 : Int, HV Try.prog (Instr.loadAt 22 (.pointer (some a6))) h9 (.int .u16 x11) ∧ 
  ∃ x12 : Int, HV Try.prog (Instr.loadAt 22 (.pointer (some a8))) h9 (.int .u16 x12) ∧ 
  ∃ x13 : Int, PV Try.prog (Builtin.max_ #[22, 22] 22 #[(.int .u16 x11), (.int .u16 x12)]) (.int .u16 x13) ∧
  ∃ x14 : Int, HV Try.prog (Instr.loadAt 22 (.pointer (some (a6.add 1)))) h9 (.int .u16 x14) ∧ 
  ∃ x15 : Int, HV Try.prog (Instr.loadAt 22 (.pointer (some (a8.add 1)))) h9 (.int .u16 x15) ∧ 
  ∃ x16 : Int, PV Try.prog (Builtin.min_ #[22, 22] 22 #[(.int .u16 x14), (.int .u16 x15)]) (.int .u16 x16) ∧
  newC h9 (.cells #[(.int .u16 0), (.int .u16 0)] 24 (0, 0)) fun a18 h17 => 
  HU Try.prog (Instr.storeAt 24 (.pointer (some a18)) (.agg #[(.int .u16 x13), (.int .u16 x16)])) h17 fun h19 => 
  ∃ x20 : Int, ∃ x21 : Int, HV Try.prog (Instr.loadAt 24 (.pointer (some a6))) h19 (.agg #[(.int .u16 x20), (.int .u16 x21)]) ∧ 
  CallsH Try.prog 45 #[(.agg #[(.int .u16 x20), (.int .u16 x21)])] h19 fun r23 h22 =>
  ∃ b24 : Bool, r23 = (.bool b24) ∧ 
  br (!b24)
  (HU Try.prog (Instr.storeAt 24 (.pointer (some a10)) (.agg #[(.int .u16 0), (.int .u16 0)])) h22 fun h25 => 
  ∃ x26 : Int, ∃ x27 : Int, HV Try.prog (Instr.loadAt 24 (.pointer (some a10))) h25 (.agg #[(.int .u16 x26), (.int .u16 x27)]) ∧ K (.tuple #[(.agg #[(.int .u16 x26), (.int .u16 x27)]), (.bool false)]) h25)
  (∃ x28 : Int, ∃ x29 : Int, HV Try.prog (Instr.loadAt 24 (.pointer (some a8))) h22 (.agg #[(.int .u16 x28), (.int .u16 x29)]) ∧ 
  CallsH Try.prog 45 #[(.agg #[(.int .u16 x28), (.int .u16 x29)])] h22 fun r31 h30 =>
  ∃ b32 : Bool, r31 = (.bool b32) ∧ 
  br (!b32)
  (HU Try.prog (Instr.storeAt 24 (.pointer (some a10)) (.agg #[(.int .u16 0), (.int .u16 0)])) h30 fun h33 => 
  ∃ x34 : Int, ∃ x35 : Int, HV Try.prog (Instr.loadAt 24 (.pointer (some a10))) h33 (.agg #[(.int .u16 x34), (.int .u16 x35)]) ∧ K (.tuple #[(.agg #[(.int .u16 x34), (.int .u16 x35)]), (.bool false)]) h33)
  (∃ x36 : Int, ∃ x37 : Int, HV Try.prog (Instr.loadAt 24 (.pointer (some a18))) h30 (.agg #[(.int .u16 x36), (.int .u16 x37)]) ∧ 
  CallsH Try.prog 45 #[(.agg #[(.int .u16 x36), (.int .u16 x37)])] h30 fun r39 h38 =>
  ∃ b40 : Bool, r39 = (.bool b40) ∧ 
  br (!b40)
  (HU Try.prog (Instr.storeAt 24 (.pointer (some a10)) (.agg #[(.int .u16 0), (.int .u16 0)])) h38 fun h41 => 
  ∃ x42 : Int, ∃ x43 : Int, HV Try.prog (Instr.loadAt 24 (.pointer (some a10))) h41 (.agg #[(.int .u16 x42), (.int .u16 x43)]) ∧ K (.tuple #[(.agg #[(.int .u16 x42), (.int .u16 x43)]), (.bool false)]) h41)
  (∃ x44 : Int, ∃ x45 : Int, HV Try.prog (Instr.loadAt 24 (.pointer (some a18))) h38 (.agg #[(.int .u16 x44), (.int .u16 x45)]) ∧ 
  HU Try.prog (Instr.storeAt 24 (.pointer (some a10)) (.agg #[(.int .u16 x44), (.int .u16 x45)])) h38 fun h46 => 
  ∃ x47 : Int, ∃ x48 : Int, HV Try.prog (Instr.loadAt 24 (.pointer (some a10))) h46 (.agg #[(.int .u16 x47), (.int .u16 x48)]) ∧ K (.tuple #[(.agg #[(.int .u16 x47), (.int .u16 x48)]), (.bool true)]) h46)))
def span_Meet_lp (i : Nat) (Q : Qx) (tm : Tm) (h : Hp) : Prop := False
def span_Meet_cut (i : Nat) : Option (List Nat) := none
set_option maxRecDepth 100000 in
theorem span_Meet_eq (x1 : Int) (x2 : Int) (x3 : Int) (x4 : Int) (h : Hp) (K : Value → Hp → Prop) : span_Meet x1 x2 x3 x4 h K =
    codeWp Try.prog 33 span_Meet_lp span_Meet_cut (bodyOf Try.f44) 1 (endQ Try.prog Try.f44.results.toList K) (argTm [(.agg #[(.int .u16 x1), (.int .u16 x2)]), (.agg #[(.int .u16 x3), (.int .u16 x4)])]) h := by kernel_rfl
set_option maxRecDepth 100000 in
theorem span_Meet_ok (x1 : Int) (x2 : Int) (x3 : Int) (x4 : Int) {h : Hp} {K : Value → Hp → Prop} (H : span_Meet x1 x2 x3 x4 h K) : CallsH Try.prog 44 #[(.agg #[(.int .u16 x1), (.int .u16 x2)]), (.agg #[(.int .u16 x3), (.int .u16 x4)])] h K :=
  calls_of (args := [(.agg #[(.int .u16 x1), (.int .u16 x2)]), (.agg #[(.int .u16 x3), (.int .u16 x4)])]) (n := 33) (lp := span_Meet_lp) (cut := span_Meet_cut) Try.func44 (c := bodyOf Try.f44) (by kernel_rfl) (by kernel_rfl) (by kernel_rfl) (good_by (c := (bodyOf Try.f44)) (i := 1) (l := []) (by kernel_rfl) (fun _ h => by cases h))
    (Eq.mp (span_Meet_eq x1 x2 x3 x4 h K) H)

/-! ### quintet/span.may: function 45 -/
def span_may (x1 : Int) (x2 : Int) (h : Hp) (K : Value → Hp → Prop) : Prop :=
  newC h (.cells #[(.int .u16 x1), (.int .u16 x2)] 24 (0, 0)) fun a4 h3 => 
  ∃ x5 : Int, HV Try.prog (Instr.loadAt 22 (.pointer (some a4))) h3 (.int .u16 x5) ∧ 
  ∃ x6 : Int, HV Try.prog (Instr.loadAt 22 (.pointer (some (a4.add 1)))) h3 (.int .u16 x6) ∧ 
  K (.bool (decide (x5 ≤ x6))) h3
def span_may_lp (i : Nat) (Q : Qx) (tm : Tm) (h : Hp) : Prop := False
def span_may_cut (i : Nat) : Option (List Nat) := none
set_option maxRecDepth 100000 in
theorem span_may_eq (x1 : Int) (x2 : Int) (h : Hp) (K : Value → Hp → Prop) : span_may x1 x2 h K =
    codeWp Try.prog 8 span_may_lp span_may_cut (bodyOf Try.f45) 1 (endQ Try.prog Try.f45.results.toList K) (argTm [(.agg #[(.int .u16 x1), (.int .u16 x2)])]) h := by kernel_rfl
set_option maxRecDepth 100000 in
theorem span_may_ok (x1 : Int) (x2 : Int) {h : Hp} {K : Value → Hp → Prop} (H : span_may x1 x2 h K) : CallsH Try.prog 45 #[(.agg #[(.int .u16 x1), (.int .u16 x2)])] h K :=
  calls_of (args := [(.agg #[(.int .u16 x1), (.int .u16 x2)])]) (n := 8) (lp := span_may_lp) (cut := span_may_cut) Try.func45 (c := bodyOf Try.f45) (by kernel_rfl) (by kernel_rfl) (by kernel_rfl) (good_by (c := (bodyOf Try.f45)) (i := 1) (l := []) (by kernel_rfl) (fun _ h => by cases h))
    (Eq.mp (span_may_eq x1 x2 h K) H)

/-! ### (*quintet/quintetref03.Ports).Add: function 46 -/
def quintetref03_Ports_Add_l1 (p7 : Option Addr) (a8 : Addr) (K0 : Hp → Prop)  : Nat → Int → Hp → Prop
  | 0, _, _ => False
  | k + 1, x9, h =>
    ∃ x14 : Int, HV Try.prog (Instr.loadAt 22 (.pointer (some (a8.add 1)))) h (.int .u16 x14) ∧ 
    br (decide (x9 ≤ (IntKind.i64.wrap (x14))))
    (drf p7 fun a15 =>
    ∃ a16 : Addr, PV Try.prog (Instr.indexAt 61 (.pointer (some a15)) (.int .i64 x9)) (.pointer (some a16)) ∧
    HU Try.prog (Instr.storeAt 4 (.pointer (some a16)) (.bool true)) h fun h17 => 
    quintetref03_Ports_Add_l1 p7 a8 K0 k (IntKind.i64.wrap (x9 + 1)) h17)
    (K0 h)
def quintetref03_Ports_Add_l1_L (Q : Qx) (k : Nat) (tm : Tm) (h : Hp) : Prop :=
  selP (tm 0) fun p7 =>
  selA (tm 3) fun a8 =>
  selI .i64 (tm 4) fun x9 =>
  quintetref03_Ports_Add_l1 p7 a8 (fun  h => Q (.exit 0) (mkTm []) h) k x9 h
def quintetref03_Ports_Add (p1 : Option Addr) (x2 : Int) (x3 : Int) (h : Hp) (K : Value → Hp → Prop) : Prop :=
  newC h (.cells #[(.int .u16 x2), (.int .u16 x3)] 24 (0, 0)) fun a5 h4 => 
  ∃ x6 : Int, HV Try.prog (Instr.loadAt 22 (.pointer (some a5))) h4 (.int .u16 x6) ∧ 
  ∃ k19, quintetref03_Ports_Add_l1 p1 a5
  (fun  (h18 : Hp) =>
  K (.tuple #[]) h18)
  k19 (IntKind.i64.wrap (x6)) h4
def quintetref03_Ports_Add_lp (i : Nat) (Q : Qx) (tm : Tm) (h : Hp) : Prop := match Nat.beq i 14 with
  | true => ∃ k, quintetref03_Ports_Add_l1_L Q k tm h
  | false => False
def quintetref03_Ports_Add_cut (i : Nat) : Option (List Nat) := none
set_option maxRecDepth 100000 in
theorem quintetref03_Ports_Add_l1_step (Q : Qx) (k : Nat) (p7 : Option Addr) (a8 : Addr) (x9 : Int) (h : Hp) : quintetref03_Ports_Add_l1_L Q (k + 1) (mkTm [(0, some (.pointer p7)), (3, some (.pointer (some a8))), (4, some (.int .i64 x9))]) h =
    codeWp Try.prog 19 quintetref03_Ports_Add_lp quintetref03_Ports_Add_cut (sub (bodyOf Try.f46) [true, true, false, false]) 28 (thenQ (fun tm h => quintetref03_Ports_Add_l1_L Q k (mask [0, 3, 4] tm) h) (maskQ (fun e => match e with | .exit 0 => [] | _ => []) Q)) (mkTm [(0, some (.pointer p7)), (3, some (.pointer (some a8))), (4, some (.int .i64 x9))]) h := by kernel_rfl
theorem quintetref03_Ports_Add_l1_mask (Q : Qx) (k : Nat) (tm : Tm) (h : Hp) : quintetref03_Ports_Add_l1_L Q k tm h ↔ quintetref03_Ports_Add_l1_L Q k (mask [0, 3, 4] tm) h := Iff.rfl
set_option maxRecDepth 100000 in
theorem quintetref03_Ports_Add_l1_snd : SndAt Try.prog 19 none (sub (bodyOf Try.f46) [true, true, false]) (quintetref03_Ports_Add_lp 14) := by
  refine loop_sound (lp := quintetref03_Ports_Add_lp) (cut := quintetref03_Ports_Add_cut) (i := 14) (c := (sub (bodyOf Try.f46) [true, true, false, false])) [0, 3, 4] (fun e => match e with | .exit 0 => [] | _ => []) quintetref03_Ports_Add_l1_L ?_ ?_ ?_
  · exact good_by (c := (sub (bodyOf Try.f46) [true, true, false, false])) (i := 28) (l := []) (by kernel_rfl) (fun _ h => by cases h)
  · intro Q tm h H
    obtain ⟨p7, e0, H⟩ := selP_ex H
    obtain ⟨a8, e3, H⟩ := selA_ex H
    obtain ⟨x9, e4, H⟩ := selI_ex H
    exact H
  · intro Q k tm h H
    have H0 := H
    obtain ⟨p7, e0, H⟩ := selP_ex H
    obtain ⟨a8, e3, H⟩ := selA_ex H
    obtain ⟨x9, e4, H⟩ := selI_ex H
    have e : mask [0, 3, 4] tm = mkTm [(0, some (.pointer p7)), (3, some (.pointer (some a8))), (4, some (.int .i64 x9))] := by simp only [mask, List.map_cons, List.map_nil, e0, e3, e4] <;> rfl
    rw [e]
    refine Eq.mp (quintetref03_Ports_Add_l1_step Q k p7 a8 x9 h) ?_
    rw [← e]
    exact (quintetref03_Ports_Add_l1_mask Q (k + 1) tm h).mp H0
set_option maxRecDepth 100000 in
theorem quintetref03_Ports_Add_eq (p1 : Option Addr) (x2 : Int) (x3 : Int) (h : Hp) (K : Value → Hp → Prop) : quintetref03_Ports_Add p1 x2 x3 h K =
    codeWp Try.prog 19 quintetref03_Ports_Add_lp quintetref03_Ports_Add_cut (bodyOf Try.f46) 1 (endQ Try.prog Try.f46.results.toList K) (argTm [(.pointer p1), (.agg #[(.int .u16 x2), (.int .u16 x3)])]) h := by kernel_rfl
set_option maxRecDepth 100000 in
theorem quintetref03_Ports_Add_ok (p1 : Option Addr) (x2 : Int) (x3 : Int) {h : Hp} {K : Value → Hp → Prop} (H : quintetref03_Ports_Add p1 x2 x3 h K) : CallsH Try.prog 46 #[(.pointer p1), (.agg #[(.int .u16 x2), (.int .u16 x3)])] h K :=
  calls_of (args := [(.pointer p1), (.agg #[(.int .u16 x2), (.int .u16 x3)])]) (n := 19) (lp := quintetref03_Ports_Add_lp) (cut := quintetref03_Ports_Add_cut) Try.func46 (c := bodyOf Try.f46) (by kernel_rfl) (by kernel_rfl) (by kernel_rfl) (good_by (c := (bodyOf Try.f46)) (i := 1) (l := [(14, (sub (bodyOf Try.f46) [true, true, false]))]) (by kernel_rfl) (List.forall_mem_cons.2 ⟨quintetref03_Ports_Add_l1_snd, (fun _ h => by cases h)⟩))
    (Eq.mp (quintetref03_Ports_Add_eq p1 x2 x3 h K) H)

/-! ### (*quintet/quintetref03.Ports).Spans: function 47 -/
def quintetref03_Ports_Spans_j3 (K0 : (Option Addr) → (Option Addr) → Nat → Nat → Int → Hp → Prop) (p50 : Option Addr) (A51 : Option Addr) (l51 : Nat) (c51 : Nat) (x52 : Int) (b53 : Bool) (h : Hp) : Prop :=
  br b53
  (∃ a64 : Addr, PV Try.prog (Instr.indexAt 25 (.slice A51 l51 c51) (.int .i64 (IntKind.i64.wrap ((l51 : Int) - 1)))) (.pointer (some a64)) ∧
  HU Try.prog (Instr.storeAt 22 (.pointer (some (a64.add 1))) (.int .u16 (IntKind.u16.wrap (x52)))) h fun h65 => 
  K0 p50 A51 l51 c51 x52 h65)
  (newC h (.cells #[(.int .u16 (IntKind.u16.wrap (x52))), (.int .u16 (IntKind.u16.wrap (x52)))] 24 (0, 0)) fun a67 h66 => 
  HW Try.prog (Builtin.append_ #[25, 25] 25 #[(.slice A51 l51 c51), (.slice (some a67) 1 1)]) h66 fun r69 h68 =>
  ∃ A70 : Option Addr, ∃ l70 : Nat, ∃ c70 : Nat, r69 = (.slice A70 l70 c70) ∧ 
  K0 p50 A70 l70 c70 x52 h68)
def quintetref03_Ports_Spans_j3_L (Q : Qx) (tm : Tm) (h : Hp) : Prop :=
  selP (tm 0) fun p50 =>
  selS (tm 3) fun A51 l51 c51 =>
  selI .i64 (tm 4) fun x52 =>
  selB (tm 24) fun b53 =>
  quintetref03_Ports_Spans_j3 (fun (p61 : Option Addr) (A62 : Option Addr) (l62 : Nat) (c62 : Nat) (x63 : Int) h => Q (.normal) (mkTm [(0, some (.pointer p61)), (3, some (.slice A62 l62 c62)), (4, some (.int .i64 x63))]) h) p50 A51 l51 c51 x52 b53 h
def quintetref03_Ports_Spans_l2 (p2 : Option Addr) (K0 : (Option Addr) → Nat → Nat → Hp → Prop)  : Nat → (Option Addr) → Nat → Nat → Int → Hp → Prop
  | 0, _, _, _, _, _ => False
  | k + 1, A3, l3, c3, x4, h =>
    br (decide (x4 < 65536))
    (drf p2 fun a44 =>
    ∃ a45 : Addr, PV Try.prog (Instr.indexAt 61 (.pointer (some a44)) (.int .i64 x4)) (.pointer (some a45)) ∧
    ∃ b46 : Bool, HV Try.prog (Instr.loadAt 4 (.pointer (some a45))) h (.bool b46) ∧ 
    br (!b46)
    (quintetref03_Ports_Spans_l2 p2 K0 k A3 l3 c3 (IntKind.i64.wrap (x4 + 1)) h)
    (br (decide (x4 > 0))
    (drf p2 fun a71 =>
    ∃ a72 : Addr, PV Try.prog (Instr.indexAt 61 (.pointer (some a71)) (.int .i64 (IntKind.i64.wrap (x4 - 1)))) (.pointer (some a72)) ∧
    ∃ b73 : Bool, HV Try.prog (Instr.loadAt 4 (.pointer (some a72))) h (.bool b73) ∧ 
    quintetref03_Ports_Spans_j3
    (fun (p74 : Option Addr) (A75 : Option Addr) (l75 : Nat) (c75 : Nat) (x76 : Int) (h77 : Hp) =>
    quintetref03_Ports_Spans_l2 p2 K0 k A75 l75 c75 (IntKind.i64.wrap (x76 + 1)) h77)
    p2 A3 l3 c3 x4 b73 h)
    (quintetref03_Ports_Spans_j3
    (fun (p78 : Option Addr) (A79 : Option Addr) (l79 : Nat) (c79 : Nat) (x80 : Int) (h81 : Hp) =>
    quintetref03_Ports_Spans_l2 p2 K0 k A79 l79 c79 (IntKind.i64.wrap (x80 + 1)) h81)
    p2 A3 l3 c3 x4 false h)))
    (K0 A3 l3 c3 h)
def quintetref03_Ports_Spans_l2_L (Q : Qx) (k : Nat) (tm : Tm) (h : Hp) : Prop :=
  selP (tm 0) fun p2 =>
  selS (tm 3) fun A3 l3 c3 =>
  selI .i64 (tm 4) fun x4 =>
  quintetref03_Ports_Spans_l2 p2 (fun (A43 : Option Addr) (l43 : Nat) (c43 : Nat) h => Q (.exit 0) (mkTm [(3, some (.slice A43 l43 c43))]) h) k A3 l3 c3 x4 h
def quintetref03_Ports_Spans (p1 : Option Addr) (h : Hp) (K : Value → Hp → Prop) : Prop :=
  ∃ k84, quintetref03_Ports_Spans_l2 p1
  (fun (A82 : Option Addr) (l82 : Nat) (c82 : Nat) (h83 : Hp) =>
  K (.slice A82 l82 c82) h83)
  k84 none 0 0 0 h
def quintetref03_Ports_Spans_lp (i : Nat) (Q : Qx) (tm : Tm) (h : Hp) : Prop := match Nat.beq i 1865 with
  | true => quintetref03_Ports_Spans_j3_L Q tm h
  | false => match Nat.beq i 58 with
  | true => ∃ k, quintetref03_Ports_Spans_l2_L Q k tm h
  | false => False
def quintetref03_Ports_Spans_cut (i : Nat) : Option (List Nat) := match Nat.beq i 1865 with
  | true => some [0, 3, 4, 24]
  | false => none
set_option maxRecDepth 100000 in
theorem quintetref03_Ports_Spans_j3_step (Q : Qx) (p50 : Option Addr) (A51 : Option Addr) (l51 : Nat) (c51 : Nat) (x52 : Int) (b53 : Bool) (h : Hp) : quintetref03_Ports_Spans_j3_L Q (mkTm [(0, some (.pointer p50)), (3, some (.slice A51 l51 c51)), (4, some (.int .i64 x52)), (24, some (.bool b53))]) h =
    codeWp Try.prog 42 quintetref03_Ports_Spans_lp quintetref03_Ports_Spans_cut (sub (bodyOf Try.f47) [true, true, false, true, false, false, true, false, false, true, true]) 3731 (maskQ (fun e => match e with | .normal => [0, 3, 4] | _ => []) Q) (mkTm [(0, some (.pointer p50)), (3, some (.slice A51 l51 c51)), (4, some (.int .i64 x52)), (24, some (.bool b53))]) h := by kernel_rfl
theorem quintetref03_Ports_Spans_j3_mask (Q : Qx) (tm : Tm) (h : Hp) : quintetref03_Ports_Spans_j3_L Q tm h ↔ quintetref03_Ports_Spans_j3_L Q (mask [0, 3, 4, 24] tm) h := Iff.rfl
set_option maxRecDepth 100000 in
theorem quintetref03_Ports_Spans_j3_snd : SndAt Try.prog 42 none (sub (bodyOf Try.f47) [true, true, false, true, false, false, true, false, false, true, true]) (quintetref03_Ports_Spans_lp 1865) := by
  refine join_sound (lp := quintetref03_Ports_Spans_lp) (cut := quintetref03_Ports_Spans_cut) (i := 1865) (c := (sub (bodyOf Try.f47) [true, true, false, true, false, false, true, false, false, true, true])) [0, 3, 4, 24] (fun e => match e with | .normal => [0, 3, 4] | _ => []) quintetref03_Ports_Spans_j3_L ?_ ?_
  · exact good_by (c := (sub (bodyOf Try.f47) [true, true, false, true, false, false, true, false, false, true, true])) (i := 3731) (l := []) (by kernel_rfl) (fun _ h => by cases h)
  · intro Q tm h H
    have H0 := H
    obtain ⟨p50, e0, H⟩ := selP_ex H
    obtain ⟨A51, l51, c51, e3, H⟩ := selS_ex H
    obtain ⟨x52, e4, H⟩ := selI_ex H
    obtain ⟨b53, e24, H⟩ := selB_ex H
    have e : mask [0, 3, 4, 24] tm = mkTm [(0, some (.pointer p50)), (3, some (.slice A51 l51 c51)), (4, some (.int .i64 x52)), (24, some (.bool b53))] := by simp only [mask, List.map_cons, List.map_nil, e0, e3, e4, e24] <;> rfl
    rw [e]
    refine Eq.mp (quintetref03_Ports_Spans_j3_step Q p50 A51 l51 c51 x52 b53 h) ?_
    rw [← e]
    exact (quintetref03_Ports_Spans_j3_mask Q tm h).mp H0
set_option maxRecDepth 100000 in
theorem quintetref03_Ports_Spans_l2_step (Q : Qx) (k : Nat) (p2 : Option Addr) (A3 : Option Addr) (l3 : Nat) (c3 : Nat) (x4 : Int) (h : Hp) : quintetref03_Ports_Spans_l2_L Q (k + 1) (mkTm [(0, some (.pointer p2)), (3, some (.slice A3 l3 c3)), (4, some (.int .i64 x4))]) h =
    codeWp Try.prog 42 quintetref03_Ports_Spans_lp quintetref03_Ports_Spans_cut (sub (bodyOf Try.f47) [true, true, false, true, false, false]) 116 (thenQ (fun tm h => quintetref03_Ports_Spans_l2_L Q k (mask [0, 3, 4] tm) h) (maskQ (fun e => match e with | .exit 0 => [3] | _ => []) Q)) (mkTm [(0, some (.pointer p2)), (3, some (.slice A3 l3 c3)), (4, some (.int .i64 x4))]) h := by kernel_rfl
theorem quintetref03_Ports_Spans_l2_mask (Q : Qx) (k : Nat) (tm : Tm) (h : Hp) : quintetref03_Ports_Spans_l2_L Q k tm h ↔ quintetref03_Ports_Spans_l2_L Q k (mask [0, 3, 4] tm) h := Iff.rfl
set_option maxRecDepth 100000 in
theorem quintetref03_Ports_Spans_l2_snd : SndAt Try.prog 42 none (sub (bodyOf Try.f47) [true, true, false, true, false]) (quintetref03_Ports_Spans_lp 58) := by
  refine loop_sound (lp := quintetref03_Ports_Spans_lp) (cut := quintetref03_Ports_Spans_cut) (i := 58) (c := (sub (bodyOf Try.f47) [true, true, false, true, false, false])) [0, 3, 4] (fun e => match e with | .exit 0 => [3] | _ => []) quintetref03_Ports_Spans_l2_L ?_ ?_ ?_
  · exact good_by (c := (sub (bodyOf Try.f47) [true, true, false, true, false, false])) (i := 116) (l := [(1865, (sub (bodyOf Try.f47) [true, true, false, true, false, false, true, false, false, true, true]))]) (by kernel_rfl) (List.forall_mem_cons.2 ⟨quintetref03_Ports_Spans_j3_snd, (fun _ h => by cases h)⟩)
  · intro Q tm h H
    obtain ⟨p2, e0, H⟩ := selP_ex H
    obtain ⟨A3, l3, c3, e3, H⟩ := selS_ex H
    obtain ⟨x4, e4, H⟩ := selI_ex H
    exact H
  · intro Q k tm h H
    have H0 := H
    obtain ⟨p2, e0, H⟩ := selP_ex H
    obtain ⟨A3, l3, c3, e3, H⟩ := selS_ex H
    obtain ⟨x4, e4, H⟩ := selI_ex H
    have e : mask [0, 3, 4] tm = mkTm [(0, some (.pointer p2)), (3, some (.slice A3 l3 c3)), (4, some (.int .i64 x4))] := by simp only [mask, List.map_cons, List.map_nil, e0, e3, e4] <;> rfl
    rw [e]
    refine Eq.mp (quintetref03_Ports_Spans_l2_step Q k p2 A3 l3 c3 x4 h) ?_
    rw [← e]
    exact (quintetref03_Ports_Spans_l2_mask Q (k + 1) tm h).mp H0
set_option maxRecDepth 100000 in
theorem quintetref03_Ports_Spans_eq (p1 : Option Addr) (h : Hp) (K : Value → Hp → Prop) : quintetref03_Ports_Spans p1 h K =
    codeWp Try.prog 42 quintetref03_Ports_Spans_lp quintetref03_Ports_Spans_cut (bodyOf Try.f47) 1 (endQ Try.prog Try.f47.results.toList K) (argTm [(.pointer p1)]) h := by kernel_rfl
set_option maxRecDepth 100000 in
theorem quintetref03_Ports_Spans_ok (p1 : Option Addr) {h : Hp} {K : Value → Hp → Prop} (H : quintetref03_Ports_Spans p1 h K) : CallsH Try.prog 47 #[(.pointer p1)] h K :=
  calls_of (args := [(.pointer p1)]) (n := 42) (lp := quintetref03_Ports_Spans_lp) (cut := quintetref03_Ports_Spans_cut) Try.func47 (c := bodyOf Try.f47) (by kernel_rfl) (by kernel_rfl) (by kernel_rfl) (good_by (c := (bodyOf Try.f47)) (i := 1) (l := [(58, (sub (bodyOf Try.f47) [true, true, false, true, false]))]) (by kernel_rfl) (List.forall_mem_cons.2 ⟨quintetref03_Ports_Spans_l2_snd, (fun _ h => by cases h)⟩))
    (Eq.mp (quintetref03_Ports_Spans_eq p1 h K) H)

/-! ### quintet/quintetlaw03.of: function 48 -/
def quintetlaw03_of (x1 : Int) (x2 : Int) (h : Hp) (K : Value → Hp → Prop) : Prop :=
  newC h (.cells #[(.int .u16 0), (.int .u16 0)] 24 (0, 0)) fun a4 h3 => 
  HU Try.prog (Instr.storeAt 24 (.pointer (some a4)) (.agg #[(.int .u16 x1), (.int .u16 x2)])) h3 fun h5 => 
  ∃ x6 : Int, ∃ x7 : Int, HV Try.prog (Instr.loadAt 24 (.pointer (some a4))) h5 (.agg #[(.int .u16 x6), (.int .u16 x7)]) ∧ K (.agg #[(.int .u16 x6), (.int .u16 x7)]) h5
def quintetlaw03_of_lp (i : Nat) (Q : Qx) (tm : Tm) (h : Hp) : Prop := False
def quintetlaw03_of_cut (i : Nat) : Option (List Nat) := none
set_option maxRecDepth 100000 in
theorem quintetlaw03_of_eq (x1 : Int) (x2 : Int) (h : Hp) (K : Value → Hp → Prop) : quintetlaw03_of x1 x2 h K =
    codeWp Try.prog 8 quintetlaw03_of_lp quintetlaw03_of_cut (bodyOf Try.f48) 1 (endQ Try.prog Try.f48.results.toList K) (argTm [(.int .u16 x1), (.int .u16 x2)]) h := by kernel_rfl
set_option maxRecDepth 100000 in
theorem quintetlaw03_of_ok (x1 : Int) (x2 : Int) {h : Hp} {K : Value → Hp → Prop} (H : quintetlaw03_of x1 x2 h K) : CallsH Try.prog 48 #[(.int .u16 x1), (.int .u16 x2)] h K :=
  calls_of (args := [(.int .u16 x1), (.int .u16 x2)]) (n := 8) (lp := quintetlaw03_of_lp) (cut := quintetlaw03_of_cut) Try.func48 (c := bodyOf Try.f48) (by kernel_rfl) (by kernel_rfl) (by kernel_rfl) (good_by (c := (bodyOf Try.f48)) (i := 1) (l := []) (by kernel_rfl) (fun _ h => by cases h))
    (Eq.mp (quintetlaw03_of_eq x1 x2 h K) H)

/-! ### quintet/span.Compare: function 49 -/
def span_Compare (x1 : Int) (x2 : Int) (x3 : Int) (x4 : Int) (h : Hp) (K : Value → Hp → Prop) : Prop :=
  newC h (.cells #[(.int .u16 x1), (.int .u16 x2)] 24 (0, 0)) fun a6 h5 => 
  newC h5 (.cells #[(.int .u16 x3), (.int .u16 x4)] 24 (0, 0)) fun a8 h7 => 
  ∃ x9 : Int, ∃ x10 : Int, HV Try.prog (Instr.loadAt 24 (.pointer (some a6))) h7 (.agg #[(.int .u16 x9), (.int .u16 x10)]) ∧ 
  ∃ x11 : Int, ∃ x12 : Int, HV Try.prog (Instr.loadAt 24 (.pointer (some a8))) h7 (.agg #[(.int .u16 x11), (.int .u16 x12)]) ∧ 
  ∃ b13 : Bool, PV Try.prog (binOp .eql 24 (.agg #[(.int .u16 x9), (.int .u16 x10)]) (.agg #[(.int .u16 x11), (.int .u16 x12)])) (.bool b13) ∧
  br b13
  (K (.int .i64 0) h7)
  (∃ x14 : Int, HV Try.prog (Instr.loadAt 22 (.pointer (some a6))) h7 (.int .u16 x14) ∧ 
  ∃ x15 : Int, HV Try.prog (Instr.loadAt 22 (.pointer (some a8))) h7 (.int .u16 x15) ∧ 
  br (decide (x14 < x15))
  (K (.int .i64 (-1)) h7)
  (∃ x16 : Int, HV Try.prog (Instr.loadAt 22 (.pointer (some a6))) h7 (.int .u16 x16) ∧ 
  ∃ x17 : Int, HV Try.prog (Instr.loadAt 22 (.pointer (some a8))) h7 (.int .u16 x17) ∧ 
  br (x16 == x17)
  (∃ x18 : Int, HV Try.prog (Instr.loadAt 22 (.pointer (some (a6.add 1)))) h7 (.int .u16 x18) ∧ 
  ∃ x19 : Int, HV Try.prog (Instr.loadAt 22 (.pointer (some (a8.add 1)))) h7 (.int .u16 x19) ∧ 
  br (decide (x18 < x19))
  (K (.int .i64 (-1)) h7)
  (K (.int .i64 1) h7))
  (K (.int .i64 1) h7)))
def span_Compare_lp (i : Nat) (Q : Qx) (tm : Tm) (h : Hp) : Prop := False
def span_Compare_cut (i : Nat) : Option (List Nat) := none
set_option maxRecDepth 100000 in
theorem span_Compare_eq (x1 : Int) (x2 : Int) (x3 : Int) (x4 : Int) (h : Hp) (K : Value → Hp → Prop) : span_Compare x1 x2 x3 x4 h K =
    codeWp Try.prog 29 span_Compare_lp span_Compare_cut (bodyOf Try.f49) 1 (endQ Try.prog Try.f49.results.toList K) (argTm [(.agg #[(.int .u16 x1), (.int .u16 x2)]), (.agg #[(.int .u16 x3), (.int .u16 x4)])]) h := by kernel_rfl
set_option maxRecDepth 100000 in
theorem span_Compare_ok (x1 : Int) (x2 : Int) (x3 : Int) (x4 : Int) {h : Hp} {K : Value → Hp → Prop} (H : span_Compare x1 x2 x3 x4 h K) : CallsH Try.prog 49 #[(.agg #[(.int .u16 x1), (.int .u16 x2)]), (.agg #[(.int .u16 x3), (.int .u16 x4)])] h K :=
  calls_of (args := [(.agg #[(.int .u16 x1), (.int .u16 x2)]), (.agg #[(.int .u16 x3), (.int .u16 x4)])]) (n := 29) (lp := span_Compare_lp) (cut := span_Compare_cut) Try.func49 (c := bodyOf Try.f49) (by kernel_rfl) (by kernel_rfl) (by kernel_rfl) (good_by (c := (bodyOf Try.f49)) (i := 1) (l := []) (by kernel_rfl) (fun _ h => by cases h))
    (Eq.mp (span_Compare_eq x1 x2 x3 x4 h K) H)

/-! ### quintet/span.Check: function 50 -/
def span_Check (x1 : Int) (x2 : Int) (h : Hp) (K : Value → Hp → Prop) : Prop :=
  newC h (.cells #[(.int .u16 x1), (.int .u16 x2)] 24 (0, 0)) fun a4 h3 => 
  ∃ x5 : Int, HV Try.prog (Instr.loadAt 22 (.pointer (some a4))) h3 (.int .u16 x5) ∧ 
  ∃ x6 : Int, HV Try.prog (Instr.loadAt 22 (.pointer (some (a4.add 1)))) h3 (.int .u16 x6) ∧ 
  br (decide (x5 > x6))
  (K (.int .i64 30) h3)
  (K (.int .i64 0) h3)
def span_Check_lp (i : Nat) (Q : Qx) (tm : Tm) (h : Hp) : Prop := False
def span_Check_cut (i : Nat) : Option (List Nat) := none
set_option maxRecDepth 100000 in
theorem span_Check_eq (x1 : Int) (x2 : Int) (h : Hp) (K : Value → Hp → Prop) : span_Check x1 x2 h K =
    codeWp Try.prog 8 span_Check_lp span_Check_cut (bodyOf Try.f50) 1 (endQ Try.prog Try.f50.results.toList K) (argTm [(.agg #[(.int .u16 x1), (.int .u16 x2)])]) h := by kernel_rfl
set_option maxRecDepth 100000 in
theorem span_Check_ok (x1 : Int) (x2 : Int) {h : Hp} {K : Value → Hp → Prop} (H : span_Check x1 x2 h K) : CallsH Try.prog 50 #[(.agg #[(.int .u16 x1), (.int .u16 x2)])] h K :=
  calls_of (args := [(.agg #[(.int .u16 x1), (.int .u16 x2)])]) (n := 8) (lp := span_Check_lp) (cut := span_Check_cut) Try.func50 (c := bodyOf Try.f50) (by kernel_rfl) (by kernel_rfl) (by kernel_rfl) (good_by (c := (bodyOf Try.f50)) (i := 1) (l := []) (by kernel_rfl) (fun _ h => by cases h))
    (Eq.mp (span_Check_eq x1 x2 h K) H)

/-! ### quintet/expand.Of$1: function 53 -/
def expand_Of_1 (x1 : Int) (x2 : Int) (a3 : Addr) (h : Hp) (K : Value → Hp → Prop) : Prop :=
  ∃ A4 : Option Addr, ∃ l4 : Nat, ∃ c4 : Nat, HV Try.prog (Instr.loadAt 34 (.pointer (some a3))) h (.slice A4 l4 c4) ∧ 
  newC h (.cells #[(.int .u16 (IntKind.u16.wrap (x1))), (.int .i64 x2)] 49 (0, 0)) fun a6 h5 => 
  HW Try.prog (Builtin.append_ #[34, 34] 34 #[(.slice A4 l4 c4), (.slice (some a6) 1 1)]) h5 fun r8 h7 =>
  ∃ A9 : Option Addr, ∃ l9 : Nat, ∃ c9 : Nat, r8 = (.slice A9 l9 c9) ∧ 
  HU Try.prog (Instr.storeAt 34 (.pointer (some a3)) (.slice A9 l9 c9)) h7 fun h10 => 
  CallsH Try.prog 54 #[(.int .i64 x2)] h10 fun r12 h11 =>
  ∃ x13 : Int, r12 = (.int .i64 x13) ∧ 
  K (.int .i64 (IntKind.i64.wrap (x1 + x13))) h11
def expand_Of_1_lp (i : Nat) (Q : Qx) (tm : Tm) (h : Hp) : Prop := False
def expand_Of_1_cut (i : Nat) : Option (List Nat) := none
set_option maxRecDepth 100000 in
theorem expand_Of_1_eq (x1 : Int) (x2 : Int) (a3 : Addr) (h : Hp) (K : Value → Hp → Prop) : expand_Of_1 x1 x2 a3 h K =
    codeWp Try.prog 17 expand_Of_1_lp expand_Of_1_cut (bodyOf Try.f53) 1 (endQ Try.prog Try.f53.results.toList K) (argTm [(.int .i64 x1), (.int .i64 x2), (.pointer (some a3))]) h := by kernel_rfl
set_option maxRecDepth 100000 in
theorem expand_Of_1_ok (x1 : Int) (x2 : Int) (a3 : Addr) {h : Hp} {K : Value → Hp → Prop} (H : expand_Of_1 x1 x2 a3 h K) : CallsH Try.prog 53 #[(.int .i64 x1), (.int .i64 x2), (.pointer (some a3))] h K :=
  calls_of (args := [(.int .i64 x1), (.int .i64 x2), (.pointer (some a3))]) (n := 17) (lp := expand_Of_1_lp) (cut := expand_Of_1_cut) Try.func53 (c := bodyOf Try.f53) (by kernel_rfl) (by kernel_rfl) (by kernel_rfl) (good_by (c := (bodyOf Try.f53)) (i := 1) (l := []) (by kernel_rfl) (fun _ h => by cases h))
    (Eq.mp (expand_Of_1_eq x1 x2 a3 h K) H)

/-! ### quintet/expand.size: function 54 -/
def expand_size (x1 : Int) (h : Hp) (K : Value → Hp → Prop) : Prop :=
  ∃ x2 : Int, PV Try.prog (binOp .shl 3 (.int .i64 1) (.int .i64 (IntKind.i64.wrap (16 - x1)))) (.int .i64 x2) ∧
  K (.int .i64 x2) h
def expand_size_lp (i : Nat) (Q : Qx) (tm : Tm) (h : Hp) : Prop := False
def expand_size_cut (i : Nat) : Option (List Nat) := none
set_option maxRecDepth 100000 in
theorem expand_size_eq (x1 : Int) (h : Hp) (K : Value → Hp → Prop) : expand_size x1 h K =
    codeWp Try.prog 6 expand_size_lp expand_size_cut (bodyOf Try.f54) 1 (endQ Try.prog Try.f54.results.toList K) (argTm [(.int .i64 x1)]) h := by kernel_rfl
set_option maxRecDepth 100000 in
theorem expand_size_ok (x1 : Int) {h : Hp} {K : Value → Hp → Prop} (H : expand_size x1 h K) : CallsH Try.prog 54 #[(.int .i64 x1)] h K :=
  calls_of (args := [(.int .i64 x1)]) (n := 6) (lp := expand_size_lp) (cut := expand_size_cut) Try.func54 (c := bodyOf Try.f54) (by kernel_rfl) (by kernel_rfl) (by kernel_rfl) (good_by (c := (bodyOf Try.f54)) (i := 1) (l := []) (by kernel_rfl) (fun _ h => by cases h))
    (Eq.mp (expand_size_eq x1 h K) H)

/-! ### quintet/quintetlaw05.stem: function 55 -/
def quintetlaw05_stem (x1 : Int) (x2 : Int) (h : Hp) (K : Value → Hp → Prop) : Prop :=
  newC h (.cells #[(.int .u16 0), (.int .i64 0)] 49 (0, 0)) fun a4 h3 => 
  HU Try.prog (Instr.storeAt 49 (.pointer (some a4)) (.agg #[(.int .u16 x1), (.int .i64 x2)])) h3 fun h5 => 
  ∃ x6 : Int, ∃ x7 : Int, HV Try.prog (Instr.loadAt 49 (.pointer (some a4))) h5 (.agg #[(.int .u16 x6), (.int .i64 x7)]) ∧ K (.agg #[(.int .u16 x6), (.int .i64 x7)]) h5
def quintetlaw05_stem_lp (i : Nat) (Q : Qx) (tm : Tm) (h : Hp) : Prop := False
def quintetlaw05_stem_cut (i : Nat) : Option (List Nat) := none
set_option maxRecDepth 100000 in
theorem quintetlaw05_stem_eq (x1 : Int) (x2 : Int) (h : Hp) (K : Value → Hp → Prop) : quintetlaw05_stem x1 x2 h K =
    codeWp Try.prog 8 quintetlaw05_stem_lp quintetlaw05_stem_cut (bodyOf Try.f55) 1 (endQ Try.prog Try.f55.results.toList K) (argTm [(.int .u16 x1), (.int .i64 x2)]) h := by kernel_rfl
set_option maxRecDepth 100000 in
theorem quintetlaw05_stem_ok (x1 : Int) (x2 : Int) {h : Hp} {K : Value → Hp → Prop} (H : quintetlaw05_stem x1 x2 h K) : CallsH Try.prog 55 #[(.int .u16 x1), (.int .i64 x2)] h K :=
  calls_of (args := [(.int .u16 x1), (.int .i64 x2)]) (n := 8) (lp := quintetlaw05_stem_lp) (cut := quintetlaw05_stem_cut) Try.func55 (c := bodyOf Try.f55) (by kernel_rfl) (by kernel_rfl) (by kernel_rfl) (good_by (c := (bodyOf Try.f55)) (i := 1) (l := []) (by kernel_rfl) (fun _ h => by cases h))
    (Eq.mp (quintetlaw05_stem_eq x1 x2 h K) H)

/-! ### quintet/quintetref05.May: function 57 -/
def quintetref05_May_l3 (a22 : Addr) (K0 : Bool → Hp → Prop) (K1 : Hp → Prop)  : Nat → Int → Hp → Prop
  | 0, _, _ => False
  | k + 1, x23, h =>
    br (decide (x23 < 16))
    (∃ x27 : Int, HV Try.prog (Instr.loadAt 22 (.pointer (some a22))) h (.int .u16 x27) ∧ 
    ∃ x28 : Int, PV Try.prog (binOp .shr 22 (.int .u16 x27) (.int .i64 (IntKind.i64.wrap (15 - x23)))) (.int .u16 x28) ∧
    br ((bAnd .u16 x28 1) == 1)
    (K0 false h)
    (quintetref05_May_l3 a22 K0 K1 k (IntKind.i64.wrap (x23 + 1)) h))
    (K1 h)
def quintetref05_May_l3_L (Q : Qx) (k : Nat) (tm : Tm) (h : Hp) : Prop :=
  selA (tm 1) fun a22 =>
  selI .i64 (tm 3) fun x23 =>
  quintetref05_May_l3 a22 (fun (b26 : Bool) h => Q (.ret) (mkTm [(2, some (.bool b26))]) h) (fun  h => Q (.exit 0) (mkTm []) h) k x23 h
def quintetref05_May_j2 (K0 : Bool → Hp → Prop) (a7 : Addr) (h : Hp) : Prop :=
  ∃ x21 : Int, HV Try.prog (Instr.loadAt 3 (.pointer (some (a7.add 1)))) h (.int .i64 x21) ∧ 
  ∃ k32, quintetref05_May_l3 a7
  (fun (b29 : Bool) (h30 : Hp) =>
  K0 b29 h30)
  (fun  (h31 : Hp) =>
  K0 true h31)
  k32 x21 h
def quintetref05_May_j2_L (Q : Qx) (tm : Tm) (h : Hp) : Prop :=
  selA (tm 1) fun a7 =>
  quintetref05_May_j2 (fun (b20 : Bool) h => Q (.ret) (mkTm [(2, some (.bool b20))]) h) a7 h
def quintetref05_May (x1 : Int) (x2 : Int) (h : Hp) (K : Value → Hp → Prop) : Prop :=
  newC h (.cells #[(.int .u16 x1), (.int .i64 x2)] 49 (0, 0)) fun a4 h3 => 
  ∃ x33 : Int, HV Try.prog (Instr.loadAt 3 (.pointer (some (a4.add 1)))) h3 (.int .i64 x33) ∧ 
  br (decide (x33 < 0))
  (K (.bool false) h3)
  (∃ x34 : Int, HV Try.prog (Instr.loadAt 3 (.pointer (some (a4.add 1)))) h3 (.int .i64 x34) ∧ 
  br (decide (x34 > 16))
  (K (.bool false) h3)
  (quintetref05_May_j2
  (fun (b35 : Bool) (h36 : Hp) =>
  K (.bool b35) h36)
  a4 h3))
def quintetref05_May_lp (i : Nat) (Q : Qx) (tm : Tm) (h : Hp) : Prop := match Nat.beq i 58 with
  | true => ∃ k, quintetref05_May_l3_L Q k tm h
  | false => match Nat.beq i 3 with
  | true => quintetref05_May_j2_L Q tm h
  | false => False
def quintetref05_May_cut (i : Nat) : Option (List Nat) := match Nat.beq i 3 with
  | true => some [1]
  | false => none
set_option maxRecDepth 100000 in
theorem quintetref05_May_l3_step (Q : Qx) (k : Nat) (a22 : Addr) (x23 : Int) (h : Hp) : quintetref05_May_l3_L Q (k + 1) (mkTm [(1, some (.pointer (some a22))), (3, some (.int .i64 x23))]) h =
    codeWp Try.prog 25 quintetref05_May_lp quintetref05_May_cut (sub (bodyOf Try.f57) [true, true, false, true, false, false]) 116 (thenQ (fun tm h => quintetref05_May_l3_L Q k (mask [1, 3] tm) h) (maskQ (fun e => match e with | .ret => [2] | .exit 0 => [] | _ => []) Q)) (mkTm [(1, some (.pointer (some a22))), (3, some (.int .i64 x23))]) h := by kernel_rfl
theorem quintetref05_May_l3_mask (Q : Qx) (k : Nat) (tm : Tm) (h : Hp) : quintetref05_May_l3_L Q k tm h ↔ quintetref05_May_l3_L Q k (mask [1, 3] tm) h := Iff.rfl
set_option maxRecDepth 100000 in
theorem quintetref05_May_l3_snd : SndAt Try.prog 25 none (sub (bodyOf Try.f57) [true, true, false, true, false]) (quintetref05_May_lp 58) := by
  refine loop_sound (lp := quintetref05_May_lp) (cut := quintetref05_May_cut) (i := 58) (c := (sub (bodyOf Try.f57) [true, true, false, true, false, false])) [1, 3] (fun e => match e with | .ret => [2] | .exit 0 => [] | _ => []) quintetref05_May_l3_L ?_ ?_ ?_
  · exact good_by (c := (sub (bodyOf Try.f57) [true, true, false, true, false, false])) (i := 116) (l := []) (by kernel_rfl) (fun _ h => by cases h)
  · intro Q tm h H
    obtain ⟨a22, e1, H⟩ := selA_ex H
    obtain ⟨x23, e3, H⟩ := selI_ex H
    exact H
  · intro Q k tm h H
    have H0 := H
    obtain ⟨a22, e1, H⟩ := selA_ex H
    obtain ⟨x23, e3, H⟩ := selI_ex H
    have e : mask [1, 3] tm = mkTm [(1, some (.pointer (some a22))), (3, some (.int .i64 x23))] := by simp only [mask, List.map_cons, List.map_nil, e1, e3] <;> rfl
    rw [e]
    refine Eq.mp (quintetref05_May_l3_step Q k a22 x23 h) ?_
    rw [← e]
    exact (quintetref05_May_l3_mask Q (k + 1) tm h).mp H0
set_option maxRecDepth 100000 in
theorem quintetref05_May_j2_step (Q : Qx) (a7 : Addr) (h : Hp) : quintetref05_May_j2_L Q (mkTm [(1, some (.pointer (some a7)))]) h =
    codeWp Try.prog 25 quintetref05_May_lp quintetref05_May_cut (sub (bodyOf Try.f57) [true, true]) 7 (maskQ (fun e => match e with | .ret => [2] | _ => []) Q) (mkTm [(1, some (.pointer (some a7)))]) h := by kernel_rfl
theorem quintetref05_May_j2_mask (Q : Qx) (tm : Tm) (h : Hp) : quintetref05_May_j2_L Q tm h ↔ quintetref05_May_j2_L Q (mask [1] tm) h := Iff.rfl
set_option maxRecDepth 100000 in
theorem quintetref05_May_j2_snd : SndAt Try.prog 25 none (sub (bodyOf Try.f57) [true, true]) (quintetref05_May_lp 3) := by
  refine join_sound (lp := quintetref05_May_lp) (cut := quintetref05_May_cut) (i := 3) (c := (sub (bodyOf Try.f57) [true, true])) [1] (fun e => match e with | .ret => [2] | _ => []) quintetref05_May_j2_L ?_ ?_
  · exact good_by (c := (sub (bodyOf Try.f57) [true, true])) (i := 7) (l := [(58, (sub (bodyOf Try.f57) [true, true, false, true, false]))]) (by kernel_rfl) (List.forall_mem_cons.2 ⟨quintetref05_May_l3_snd, (fun _ h => by cases h)⟩)
  · intro Q tm h H
    have H0 := H
    obtain ⟨a7, e1, H⟩ := selA_ex H
    have e : mask [1] tm = mkTm [(1, some (.pointer (some a7)))] := by simp only [mask, List.map_cons, List.map_nil, e1] <;> rfl
    rw [e]
    refine Eq.mp (quintetref05_May_j2_step Q a7 h) ?_
    rw [← e]
    exact (quintetref05_May_j2_mask Q tm h).mp H0
set_option maxRecDepth 100000 in
theorem quintetref05_May_eq (x1 : Int) (x2 : Int) (h : Hp) (K : Value → Hp → Prop) : quintetref05_May x1 x2 h K =
    codeWp Try.prog 25 quintetref05_May_lp quintetref05_May_cut (bodyOf Try.f57) 1 (endQ Try.prog Try.f57.results.toList K) (argTm [(.agg #[(.int .u16 x1), (.int .i64 x2)])]) h := by kernel_rfl
set_option maxRecDepth 100000 in
theorem quintetref05_May_ok (x1 : Int) (x2 : Int) {h : Hp} {K : Value → Hp → Prop} (H : quintetref05_May x1 x2 h K) : CallsH Try.prog 57 #[(.agg #[(.int .u16 x1), (.int .i64 x2)])] h K :=
  calls_of (args := [(.agg #[(.int .u16 x1), (.int .i64 x2)])]) (n := 25) (lp := quintetref05_May_lp) (cut := quintetref05_May_cut) Try.func57 (c := bodyOf Try.f57) (by kernel_rfl) (by kernel_rfl) (by kernel_rfl) (good_by (c := (bodyOf Try.f57)) (i := 1) (l := [(3, (sub (bodyOf Try.f57) [true, true]))]) (by kernel_rfl) (List.forall_mem_cons.2 ⟨quintetref05_May_j2_snd, (fun _ h => by cases h)⟩))
    (Eq.mp (quintetref05_May_eq x1 x2 h K) H)

end Go.Proofs.Ytaacfhekjklipaa.Fs
