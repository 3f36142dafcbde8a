/- Printed by sx.py: words over the heap alone for Go functions, and that each call does what its word says. -/
import Derived.Test.YtgahbkbmolfpnaaGreatSxSel
import Derived.Test.YtgahbkbmolfpnaaGreatSxNest
import Derived.Test.YtgahbkbmolfpnaaGreatProg
namespace Go.Proofs.YtgahbkbmolfpnaaGreat.Fs
open Go Go.RowKit Go.Proofs.YtgahbkbmolfpnaaGreat.Sx
set_option linter.unusedVariables false

/-! ### slices.Repeat[[]int,int]: function 38 -/
def slices_Repeat_int_l7 (A94 : Option Addr) (l94 : Nat) (c94 : Nat) (K0 : (Option Addr) → Nat → Nat → Hp → Prop)  : Nat → Int → Hp → Prop
  | 0, _, _ => False
  | k + 1, x95, h =>
    br (decide (x95 < (l94 : Int)))
    (∃ A102 : Option Addr, ∃ l102 : Nat, ∃ c102 : Nat, PV Tryz.prog (Instr.sliceAt 38 (.slice A94 l94 c94) (some (.int .i64 x95)) none none) (.slice A102 l102 c102) ∧
    ∃ A103 : Option Addr, ∃ l103 : Nat, ∃ c103 : Nat, PV Tryz.prog (Instr.sliceAt 38 (.slice A94 l94 c94) none (some (.int .i64 x95)) none) (.slice A103 l103 c103) ∧
    HW Tryz.prog (Builtin.copy_ #[38, 38] 3 #[(.slice A102 l102 c102), (.slice A103 l103 c103)]) h fun r105 h104 =>
    ∃ x106 : Int, r105 = (.int .i64 x106) ∧ 
    slices_Repeat_int_l7 A94 l94 c94 K0 k (IntKind.i64.wrap (x95 + x106)) h104)
    (K0 A94 l94 c94 h)
def slices_Repeat_int_l7_L (Q : Qx) (k : Nat) (tm : Tm) (h : Hp) : Prop :=
  selS (tm 7) fun A94 l94 c94 =>
  selI .i64 (tm 8) fun x95 =>
  slices_Repeat_int_l7 A94 l94 c94 (fun (A101 : Option Addr) (l101 : Nat) (c101 : Nat) h => Q (.exit 0) (mkTm [(7, some (.slice A101 l101 c101))]) h) k x95 h
def slices_Repeat_int_j6 (K0 : (Option Addr) → Nat → Nat → Hp → Prop) (A63 : Option Addr) (l63 : Nat) (c63 : Nat) (x64 : Int) (h : Hp) : Prop :=
  HW Tryz.prog (Instr.makeSlice 38 (.int .i64 (IntKind.i64.wrap (x64))) (.int .i64 (IntKind.i64.wrap (x64)))) h fun r89 h88 =>
  ∃ A90 : Option Addr, ∃ l90 : Nat, ∃ c90 : Nat, r89 = (.slice A90 l90 c90) ∧ 
  HW Tryz.prog (Builtin.copy_ #[38, 38] 3 #[(.slice A90 l90 c90), (.slice A63 l63 c63)]) h88 fun r92 h91 =>
  ∃ x93 : Int, r92 = (.int .i64 x93) ∧ 
  ∃ k109, slices_Repeat_int_l7 A90 l90 c90
  (fun (A107 : Option Addr) (l107 : Nat) (c107 : Nat) (h108 : Hp) =>
  K0 A107 l107 c107 h108)
  k109 x93 h91
def slices_Repeat_int_j6_L (Q : Qx) (tm : Tm) (h : Hp) : Prop :=
  selS (tm 0) fun A63 l63 c63 =>
  selI .u64 (tm 6) fun x64 =>
  slices_Repeat_int_j6 (fun (A87 : Option Addr) (l87 : Nat) (c87 : Nat) h => Q (.ret) (mkTm [(4, some (.slice A87 l87 c87))]) h) A63 l63 c63 x64 h
def slices_Repeat_int_j4 (K0 : (Option Addr) → Nat → Nat → Hp → Prop) (A3 : Option Addr) (l3 : Nat) (c3 : Nat) (x4 : Int) (h : Hp) : Prop :=
  CallsH Tryz.prog 60 #[(.int .u64 (IntKind.u64.wrap ((l3 : Int)))), (.int .u64 (IntKind.u64.wrap (x4)))] h fun r60 h59 =>
  ∃ x61 : Int, ∃ x62 : Int, r60 = (.tuple #[(.int .u64 x61), (.int .u64 x62)]) ∧ 
  br (decide (x61 > 0))
  (False)
  (br (decide (x62 > 9223372036854775807))
  (False)
  (slices_Repeat_int_j6
  (fun (A110 : Option Addr) (l110 : Nat) (c110 : Nat) (h111 : Hp) =>
  K0 A110 l110 c110 h111)
  A3 l3 c3 x62 h59))
def slices_Repeat_int_j4_L (Q : Qx) (tm : Tm) (h : Hp) : Prop :=
  selS (tm 0) fun A3 l3 c3 =>
  selI .i64 (tm 1) fun x4 =>
  slices_Repeat_int_j4 (fun (A58 : Option Addr) (l58 : Nat) (c58 : Nat) h => Q (.ret) (mkTm [(4, some (.slice A58 l58 c58))]) h) A3 l3 c3 x4 h
def slices_Repeat_int (A1 : Option Addr) (l1 : Nat) (c1 : Nat) (x2 : Int) (h : Hp) (K : Value → Hp → Prop) : Prop :=
  br (decide (x2 < 0))
  (False)
  (slices_Repeat_int_j4
  (fun (A112 : Option Addr) (l112 : Nat) (c112 : Nat) (h113 : Hp) =>
  K (.slice A112 l112 c112) h113)
  A1 l1 c1 x2 h)
def slices_Repeat_int_lp (i : Nat) (Q : Qx) (tm : Tm) (h : Hp) : Prop := match Nat.beq i 508 with
  | true => ∃ k, slices_Repeat_int_l7_L Q k tm h
  | false => match Nat.beq i 15 with
  | true => slices_Repeat_int_j6_L Q tm h
  | false => match Nat.beq i 3 with
  | true => slices_Repeat_int_j4_L Q tm h
  | false => False
def slices_Repeat_int_cut (i : Nat) : Option (List Nat) := match Nat.beq i 3 with
  | true => some [0, 1]
  | false => match Nat.beq i 15 with
  | true => some [0, 6]
  | false => none
set_option maxRecDepth 100000 in
theorem slices_Repeat_int_l7_step (Q : Qx) (k : Nat) (A94 : Option Addr) (l94 : Nat) (c94 : Nat) (x95 : Int) (h : Hp) : slices_Repeat_int_l7_L Q (k + 1) (mkTm [(7, some (.slice A94 l94 c94)), (8, some (.int .i64 x95))]) h =
    codeWp Tryz.prog 48 slices_Repeat_int_lp slices_Repeat_int_cut (sub (bodyOf Tryz.f38) [true, true, true, true, true, true, false, false, false]) 1016 (thenQ (fun tm h => slices_Repeat_int_l7_L Q k (mask [7, 8] tm) h) (maskQ (fun e => match e with | .exit 0 => [7] | _ => []) Q)) (mkTm [(7, some (.slice A94 l94 c94)), (8, some (.int .i64 x95))]) h := by kernel_rfl
theorem slices_Repeat_int_l7_mask (Q : Qx) (k : Nat) (tm : Tm) (h : Hp) : slices_Repeat_int_l7_L Q k tm h ↔ slices_Repeat_int_l7_L Q k (mask [7, 8] tm) h := Iff.rfl
set_option maxRecDepth 100000 in
theorem slices_Repeat_int_l7_snd : SndAt Tryz.prog 48 none (sub (bodyOf Tryz.f38) [true, true, true, true, true, true, false, false]) (slices_Repeat_int_lp 508) := by
  refine loop_sound (lp := slices_Repeat_int_lp) (cut := slices_Repeat_int_cut) (i := 508) (c := (sub (bodyOf Tryz.f38) [true, true, true, true, true, true, false, false, false])) [7, 8] (fun e => match e with | .exit 0 => [7] | _ => []) slices_Repeat_int_l7_L ?_ ?_ ?_
  · exact good_by (c := (sub (bodyOf Tryz.f38) [true, true, true, true, true, true, false, false, false])) (i := 1016) (l := []) (by kernel_rfl) (fun _ h => by cases h)
  · intro Q tm h H
    obtain ⟨A94, l94, c94, e7, H⟩ := selS_ex H
    obtain ⟨x95, e8, H⟩ := selI_ex H
    exact H
  · intro Q k tm h H
    have H0 := H
    obtain ⟨A94, l94, c94, e7, H⟩ := selS_ex H
    obtain ⟨x95, e8, H⟩ := selI_ex H
    have e : mask [7, 8] tm = mkTm [(7, some (.slice A94 l94 c94)), (8, some (.int .i64 x95))] := by simp only [mask, List.map_cons, List.map_nil, e7, e8] <;> rfl
    rw [e]
    refine Eq.mp (slices_Repeat_int_l7_step Q k A94 l94 c94 x95 h) ?_
    rw [← e]
    exact (slices_Repeat_int_l7_mask Q (k + 1) tm h).mp H0
set_option maxRecDepth 100000 in
theorem slices_Repeat_int_j6_step (Q : Qx) (A63 : Option Addr) (l63 : Nat) (c63 : Nat) (x64 : Int) (h : Hp) : slices_Repeat_int_j6_L Q (mkTm [(0, some (.slice A63 l63 c63)), (6, some (.int .u64 x64))]) h =
    codeWp Tryz.prog 48 slices_Repeat_int_lp slices_Repeat_int_cut (sub (bodyOf Tryz.f38) [true, true, true, true]) 31 (maskQ (fun e => match e with | .ret => [4] | _ => []) Q) (mkTm [(0, some (.slice A63 l63 c63)), (6, some (.int .u64 x64))]) h := by kernel_rfl
theorem slices_Repeat_int_j6_mask (Q : Qx) (tm : Tm) (h : Hp) : slices_Repeat_int_j6_L Q tm h ↔ slices_Repeat_int_j6_L Q (mask [0, 6] tm) h := Iff.rfl
set_option maxRecDepth 100000 in
theorem slices_Repeat_int_j6_snd : SndAt Tryz.prog 48 none (sub (bodyOf Tryz.f38) [true, true, true, true]) (slices_Repeat_int_lp 15) := by
  refine join_sound (lp := slices_Repeat_int_lp) (cut := slices_Repeat_int_cut) (i := 15) (c := (sub (bodyOf Tryz.f38) [true, true, true, true])) [0, 6] (fun e => match e with | .ret => [4] | _ => []) slices_Repeat_int_j6_L ?_ ?_
  · exact good_by (c := (sub (bodyOf Tryz.f38) [true, true, true, true])) (i := 31) (l := [(508, (sub (bodyOf Tryz.f38) [true, true, true, true, true, true, false, false]))]) (by kernel_rfl) (List.forall_mem_cons.2 ⟨slices_Repeat_int_l7_snd, (fun _ h => by cases h)⟩)
  · intro Q tm h H
    have H0 := H
    obtain ⟨A63, l63, c63, e0, H⟩ := selS_ex H
    obtain ⟨x64, e6, H⟩ := selI_ex H
    have e : mask [0, 6] tm = mkTm [(0, some (.slice A63 l63 c63)), (6, some (.int .u64 x64))] := by simp only [mask, List.map_cons, List.map_nil, e0, e6] <;> rfl
    rw [e]
    refine Eq.mp (slices_Repeat_int_j6_step Q A63 l63 c63 x64 h) ?_
    rw [← e]
    exact (slices_Repeat_int_j6_mask Q tm h).mp H0
set_option maxRecDepth 100000 in
theorem slices_Repeat_int_j4_step (Q : Qx) (A3 : Option Addr) (l3 : Nat) (c3 : Nat) (x4 : Int) (h : Hp) : slices_Repeat_int_j4_L Q (mkTm [(0, some (.slice A3 l3 c3)), (1, some (.int .i64 x4))]) h =
    codeWp Tryz.prog 48 slices_Repeat_int_lp slices_Repeat_int_cut (sub (bodyOf Tryz.f38) [true, true]) 7 (maskQ (fun e => match e with | .ret => [4] | _ => []) Q) (mkTm [(0, some (.slice A3 l3 c3)), (1, some (.int .i64 x4))]) h := by kernel_rfl
theorem slices_Repeat_int_j4_mask (Q : Qx) (tm : Tm) (h : Hp) : slices_Repeat_int_j4_L Q tm h ↔ slices_Repeat_int_j4_L Q (mask [0, 1] tm) h := Iff.rfl
set_option maxRecDepth 100000 in
theorem slices_Repeat_int_j4_snd : SndAt Tryz.prog 48 none (sub (bodyOf Tryz.f38) [true, true]) (slices_Repeat_int_lp 3) := by
  refine join_sound (lp := slices_Repeat_int_lp) (cut := slices_Repeat_int_cut) (i := 3) (c := (sub (bodyOf Tryz.f38) [true, true])) [0, 1] (fun e => match e with | .ret => [4] | _ => []) slices_Repeat_int_j4_L ?_ ?_
  · exact good_by (c := (sub (bodyOf Tryz.f38) [true, true])) (i := 7) (l := [(15, (sub (bodyOf Tryz.f38) [true, true, true, true]))]) (by kernel_rfl) (List.forall_mem_cons.2 ⟨slices_Repeat_int_j6_snd, (fun _ h => by cases h)⟩)
  · intro Q tm h H
    have H0 := H
    obtain ⟨A3, l3, c3, e0, H⟩ := selS_ex H
    obtain ⟨x4, e1, H⟩ := selI_ex H
    have e : mask [0, 1] tm = mkTm [(0, some (.slice A3 l3 c3)), (1, some (.int .i64 x4))] := by simp only [mask, List.map_cons, List.map_nil, e0, e1] <;> rfl
    rw [e]
    refine Eq.mp (slices_Repeat_int_j4_step Q A3 l3 c3 x4 h) ?_
    rw [← e]
    exact (slices_Repeat_int_j4_mask Q tm h).mp H0
set_option maxRecDepth 100000 in
theorem slices_Repeat_int_eq (A1 : Option Addr) (l1 : Nat) (c1 : Nat) (x2 : Int) (h : Hp) (K : Value → Hp → Prop) : slices_Repeat_int A1 l1 c1 x2 h K =
    codeWp Tryz.prog 48 slices_Repeat_int_lp slices_Repeat_int_cut (bodyOf Tryz.f38) 1 (endQ Tryz.prog Tryz.f38.results.toList K) (argTm [(.slice A1 l1 c1), (.int .i64 x2)]) h := by kernel_rfl
set_option maxRecDepth 100000 in
theorem slices_Repeat_int_ok (A1 : Option Addr) (l1 : Nat) (c1 : Nat) (x2 : Int) {h : Hp} {K : Value → Hp → Prop} (H : slices_Repeat_int A1 l1 c1 x2 h K) : CallsH Tryz.prog 38 #[(.slice A1 l1 c1), (.int .i64 x2)] h K :=
  calls_of (args := [(.slice A1 l1 c1), (.int .i64 x2)]) (n := 48) (lp := slices_Repeat_int_lp) (cut := slices_Repeat_int_cut) Tryz.func38 (c := bodyOf Tryz.f38) (by kernel_rfl) (by kernel_rfl) (by kernel_rfl) (good_by (c := (bodyOf Tryz.f38)) (i := 1) (l := [(3, (sub (bodyOf Tryz.f38) [true, true]))]) (by kernel_rfl) (List.forall_mem_cons.2 ⟨slices_Repeat_int_j4_snd, (fun _ h => by cases h)⟩))
    (Eq.mp (slices_Repeat_int_eq A1 l1 c1 x2 h K) H)

/-! ### slices.ContainsFunc[[]quintet/api.Rule,quintet/api.Rule]: function 40 -/
def slices_ContainsFunc_api_Rule (A1 : Option Addr) (l1 : Nat) (c1 : Nat) (f2 : Fn) (f2r : Array Value) (f2c : Array Value) (h : Hp) (K : Value → Hp → Prop) : Prop :=
  CallsH Tryz.prog 61 #[(.slice A1 l1 c1), (.func f2 f2r f2c)] h fun r4 h3 =>
  ∃ x5 : Int, r4 = (.int .i64 x5) ∧ 
  K (.bool (decide (x5 ≥ 0))) h3
def slices_ContainsFunc_api_Rule_lp (i : Nat) (Q : Qx) (tm : Tm) (h : Hp) : Prop := False
def slices_ContainsFunc_api_Rule_cut (i : Nat) : Option (List Nat) := none
set_option maxRecDepth 100000 in
theorem slices_ContainsFunc_api_Rule_eq (A1 : Option Addr) (l1 : Nat) (c1 : Nat) (f2 : Fn) (f2r : Array Value) (f2c : Array Value) (h : Hp) (K : Value → Hp → Prop) : slices_ContainsFunc_api_Rule A1 l1 c1 f2 f2r f2c h K =
    codeWp Tryz.prog 9 slices_ContainsFunc_api_Rule_lp slices_ContainsFunc_api_Rule_cut (bodyOf Tryz.f40) 1 (endQ Tryz.prog Tryz.f40.results.toList K) (argTm [(.slice A1 l1 c1), (.func f2 f2r f2c)]) h := by kernel_rfl
set_option maxRecDepth 100000 in
theorem slices_ContainsFunc_api_Rule_ok (A1 : Option Addr) (l1 : Nat) (c1 : Nat) (f2 : Fn) (f2r : Array Value) (f2c : Array Value) {h : Hp} {K : Value → Hp → Prop} (H : slices_ContainsFunc_api_Rule A1 l1 c1 f2 f2r f2c h K) : CallsH Tryz.prog 40 #[(.slice A1 l1 c1), (.func f2 f2r f2c)] h K :=
  calls_of (args := [(.slice A1 l1 c1), (.func f2 f2r f2c)]) (n := 9) (lp := slices_ContainsFunc_api_Rule_lp) (cut := slices_ContainsFunc_api_Rule_cut) Tryz.func40 (c := bodyOf Tryz.f40) (by kernel_rfl) (by kernel_rfl) (by kernel_rfl) (good_by (c := (bodyOf Tryz.f40)) (i := 1) (l := []) (by kernel_rfl) (fun _ h => by cases h))
    (Eq.mp (slices_ContainsFunc_api_Rule_eq A1 l1 c1 f2 f2r f2c h K) H)

/-! ### slices.Compact[[]quintet/api.Prefix,quintet/api.Prefix]: function 44 -/
def slices_Compact_api_Prefix_l3 (A60 : Option Addr) (l60 : Nat) (c60 : Nat) (A62 : Option Addr) (l62 : Nat) (c62 : Nat) (K0 : (Option Addr) → Nat → Nat → Int → Hp → Prop)  : Nat → Int → Int → Hp → Prop
  | 0, _, _, _ => False
  | k + 1, x61, x63, h =>
    br (decide (x63 < (l62 : Int)))
    (∃ a78 : Addr, PV Tryz.prog (Instr.indexAt 53 (.slice A62 l62 c62) (.int .i64 x63)) (.pointer (some a78)) ∧
    ∃ x79 : Int, ∃ x80 : Int, HV Tryz.prog (Instr.loadAt 45 (.pointer (some a78))) h (.agg #[(.int .u32 x79), (.int .i64 x80)]) ∧ 
    ∃ a81 : Addr, PV Tryz.prog (Instr.indexAt 53 (.slice A62 l62 c62) (.int .i64 (IntKind.i64.wrap (x63 - 1)))) (.pointer (some a81)) ∧
    ∃ x82 : Int, ∃ x83 : Int, HV Tryz.prog (Instr.loadAt 45 (.pointer (some a81))) h (.agg #[(.int .u32 x82), (.int .i64 x83)]) ∧ 
    ∃ b84 : Bool, PV Tryz.prog (binOp .neq 45 (.agg #[(.int .u32 x79), (.int .i64 x80)]) (.agg #[(.int .u32 x82), (.int .i64 x83)])) (.bool b84) ∧
    br b84
    (∃ a85 : Addr, PV Tryz.prog (Instr.indexAt 53 (.slice A62 l62 c62) (.int .i64 x63)) (.pointer (some a85)) ∧
    ∃ x86 : Int, ∃ x87 : Int, HV Tryz.prog (Instr.loadAt 45 (.pointer (some a85))) h (.agg #[(.int .u32 x86), (.int .i64 x87)]) ∧ 
    ∃ a88 : Addr, PV Tryz.prog (Instr.indexAt 53 (.slice A60 l60 c60) (.int .i64 x61)) (.pointer (some a88)) ∧
    HU Tryz.prog (Instr.storeAt 45 (.pointer (some a88)) (.agg #[(.int .u32 x86), (.int .i64 x87)])) h fun h89 => 
    slices_Compact_api_Prefix_l3 A60 l60 c60 A62 l62 c62 K0 k (IntKind.i64.wrap (x61 + 1)) (IntKind.i64.wrap (x63 + 1)) h89)
    (slices_Compact_api_Prefix_l3 A60 l60 c60 A62 l62 c62 K0 k x61 (IntKind.i64.wrap (x63 + 1)) h))
    (K0 A60 l60 c60 x61 h)
def slices_Compact_api_Prefix_l3_L (Q : Qx) (k : Nat) (tm : Tm) (h : Hp) : Prop :=
  selS (tm 0) fun A60 l60 c60 =>
  selI .i64 (tm 3) fun x61 =>
  selS (tm 4) fun A62 l62 c62 =>
  selI .i64 (tm 5) fun x63 =>
  slices_Compact_api_Prefix_l3 A60 l60 c60 A62 l62 c62 (fun (A76 : Option Addr) (l76 : Nat) (c76 : Nat) (x77 : Int) h => Q (.exit 2) (mkTm [(0, some (.slice A76 l76 c76)), (3, some (.int .i64 x77))]) h) k x61 x63 h
def slices_Compact_api_Prefix_l2 (A2 : Option Addr) (l2 : Nat) (c2 : Nat) (K0 : (Option Addr) → Nat → Nat → Hp → Prop) (K1 : (Option Addr) → Nat → Nat → Hp → Prop)  : Nat → Int → Hp → Prop
  | 0, _, _ => False
  | k + 1, x3, h =>
    br (decide (x3 < (l2 : Int)))
    (∃ a52 : Addr, PV Tryz.prog (Instr.indexAt 53 (.slice A2 l2 c2) (.int .i64 x3)) (.pointer (some a52)) ∧
    ∃ x53 : Int, ∃ x54 : Int, HV Tryz.prog (Instr.loadAt 45 (.pointer (some a52))) h (.agg #[(.int .u32 x53), (.int .i64 x54)]) ∧ 
    ∃ a55 : Addr, PV Tryz.prog (Instr.indexAt 53 (.slice A2 l2 c2) (.int .i64 (IntKind.i64.wrap (x3 - 1)))) (.pointer (some a55)) ∧
    ∃ x56 : Int, ∃ x57 : Int, HV Tryz.prog (Instr.loadAt 45 (.pointer (some a55))) h (.agg #[(.int .u32 x56), (.int .i64 x57)]) ∧ 
    ∃ b58 : Bool, PV Tryz.prog (binOp .eql 45 (.agg #[(.int .u32 x53), (.int .i64 x54)]) (.agg #[(.int .u32 x56), (.int .i64 x57)])) (.bool b58) ∧
    br b58
    (∃ A59 : Option Addr, ∃ l59 : Nat, ∃ c59 : Nat, PV Tryz.prog (Instr.sliceAt 53 (.slice A2 l2 c2) (some (.int .i64 x3)) none none) (.slice A59 l59 c59) ∧
    ∃ k97, slices_Compact_api_Prefix_l3 A2 l2 c2 A59 l59 c59
    (fun (A90 : Option Addr) (l90 : Nat) (c90 : Nat) (x91 : Int) (h92 : Hp) =>
    ∃ A93 : Option Addr, ∃ l93 : Nat, ∃ c93 : Nat, PV Tryz.prog (Instr.sliceAt 53 (.slice A90 l90 c90) (some (.int .i64 x91)) none none) (.slice A93 l93 c93) ∧
    HW Tryz.prog (Builtin.clear_ #[53] 0 #[(.slice A93 l93 c93)]) h92 fun r95 h94 =>
    r95 = (.tuple #[]) ∧ 
    ∃ A96 : Option Addr, ∃ l96 : Nat, ∃ c96 : Nat, PV Tryz.prog (Instr.sliceAt 53 (.slice A90 l90 c90) none (some (.int .i64 x91)) none) (.slice A96 l96 c96) ∧
    K0 A96 l96 c96 h94)
    k97 x3 1 h)
    (slices_Compact_api_Prefix_l2 A2 l2 c2 K0 K1 k (IntKind.i64.wrap (x3 + 1)) h))
    (K1 A2 l2 c2 h)
def slices_Compact_api_Prefix_l2_L (Q : Qx) (k : Nat) (tm : Tm) (h : Hp) : Prop :=
  selS (tm 0) fun A2 l2 c2 =>
  selI .i64 (tm 3) fun x3 =>
  slices_Compact_api_Prefix_l2 A2 l2 c2 (fun (A50 : Option Addr) (l50 : Nat) (c50 : Nat) h => Q (.ret) (mkTm [(2, some (.slice A50 l50 c50))]) h) (fun (A51 : Option Addr) (l51 : Nat) (c51 : Nat) h => Q (.exit 0) (mkTm [(0, some (.slice A51 l51 c51))]) h) k x3 h
def slices_Compact_api_Prefix (A1 : Option Addr) (l1 : Nat) (c1 : Nat) (h : Hp) (K : Value → Hp → Prop) : Prop :=
  br (decide ((l1 : Int) < 2))
  (K (.slice A1 l1 c1) h)
  (∃ k102, slices_Compact_api_Prefix_l2 A1 l1 c1
  (fun (A98 : Option Addr) (l98 : Nat) (c98 : Nat) (h99 : Hp) =>
  K (.slice A98 l98 c98) h99)
  (fun (A100 : Option Addr) (l100 : Nat) (c100 : Nat) (h101 : Hp) =>
  K (.slice A100 l100 c100) h101)
  k102 1 h)
def slices_Compact_api_Prefix_lp (i : Nat) (Q : Qx) (tm : Tm) (h : Hp) : Prop := match Nat.beq i 59690 with
  | true => ∃ k, slices_Compact_api_Prefix_l3_L Q k tm h
  | false => match Nat.beq i 58 with
  | true => ∃ k, slices_Compact_api_Prefix_l2_L Q k tm h
  | false => False
def slices_Compact_api_Prefix_cut (i : Nat) : Option (List Nat) := none
set_option maxRecDepth 100000 in
theorem slices_Compact_api_Prefix_l3_step (Q : Qx) (k : Nat) (A60 : Option Addr) (l60 : Nat) (c60 : Nat) (x61 : Int) (A62 : Option Addr) (l62 : Nat) (c62 : Nat) (x63 : Int) (h : Hp) : slices_Compact_api_Prefix_l3_L Q (k + 1) (mkTm [(0, some (.slice A60 l60 c60)), (3, some (.int .i64 x61)), (4, some (.slice A62 l62 c62)), (5, some (.int .i64 x63))]) h =
    codeWp Tryz.prog 61 slices_Compact_api_Prefix_lp slices_Compact_api_Prefix_cut (sub (bodyOf Tryz.f44) [true, true, false, true, false, false, true, false, false, true, false, true, false, true, false, false]) 119380 (thenQ (fun tm h => slices_Compact_api_Prefix_l3_L Q k (mask [0, 3, 4, 5] tm) h) (maskQ (fun e => match e with | .exit 2 => [0, 3] | _ => []) Q)) (mkTm [(0, some (.slice A60 l60 c60)), (3, some (.int .i64 x61)), (4, some (.slice A62 l62 c62)), (5, some (.int .i64 x63))]) h := by kernel_rfl
theorem slices_Compact_api_Prefix_l3_mask (Q : Qx) (k : Nat) (tm : Tm) (h : Hp) : slices_Compact_api_Prefix_l3_L Q k tm h ↔ slices_Compact_api_Prefix_l3_L Q k (mask [0, 3, 4, 5] tm) h := Iff.rfl
set_option maxRecDepth 100000 in
theorem slices_Compact_api_Prefix_l3_snd : SndAt Tryz.prog 61 none (sub (bodyOf Tryz.f44) [true, true, false, true, false, false, true, false, false, true, false, true, false, true, false]) (slices_Compact_api_Prefix_lp 59690) := by
  refine loop_sound (lp := slices_Compact_api_Prefix_lp) (cut := slices_Compact_api_Prefix_cut) (i := 59690) (c := (sub (bodyOf Tryz.f44) [true, true, false, true, false, false, true, false, false, true, false, true, false, true, false, false])) [0, 3, 4, 5] (fun e => match e with | .exit 2 => [0, 3] | _ => []) slices_Compact_api_Prefix_l3_L ?_ ?_ ?_
  · exact good_by (c := (sub (bodyOf Tryz.f44) [true, true, false, true, false, false, true, false, false, true, false, true, false, true, false, false])) (i := 119380) (l := []) (by kernel_rfl) (fun _ h => by cases h)
  · intro Q tm h H
    obtain ⟨A60, l60, c60, e0, H⟩ := selS_ex H
    obtain ⟨x61, e3, H⟩ := selI_ex H
    obtain ⟨A62, l62, c62, e4, H⟩ := selS_ex H
    obtain ⟨x63, e5, H⟩ := selI_ex H
    exact H
  · intro Q k tm h H
    have H0 := H
    obtain ⟨A60, l60, c60, e0, H⟩ := selS_ex H
    obtain ⟨x61, e3, H⟩ := selI_ex H
    obtain ⟨A62, l62, c62, e4, H⟩ := selS_ex H
    obtain ⟨x63, e5, H⟩ := selI_ex H
    have e : mask [0, 3, 4, 5] tm = mkTm [(0, some (.slice A60 l60 c60)), (3, some (.int .i64 x61)), (4, some (.slice A62 l62 c62)), (5, some (.int .i64 x63))] := by simp only [mask, List.map_cons, List.map_nil, e0, e3, e4, e5] <;> rfl
    rw [e]
    refine Eq.mp (slices_Compact_api_Prefix_l3_step Q k A60 l60 c60 x61 A62 l62 c62 x63 h) ?_
    rw [← e]
    exact (slices_Compact_api_Prefix_l3_mask Q (k + 1) tm h).mp H0
set_option maxRecDepth 100000 in
theorem slices_Compact_api_Prefix_l2_step (Q : Qx) (k : Nat) (A2 : Option Addr) (l2 : Nat) (c2 : Nat) (x3 : Int) (h : Hp) : slices_Compact_api_Prefix_l2_L Q (k + 1) (mkTm [(0, some (.slice A2 l2 c2)), (3, some (.int .i64 x3))]) h =
    codeWp Tryz.prog 61 slices_Compact_api_Prefix_lp slices_Compact_api_Prefix_cut (sub (bodyOf Tryz.f44) [true, true, false, true, false, false]) 116 (thenQ (fun tm h => slices_Compact_api_Prefix_l2_L Q k (mask [0, 3] tm) h) (maskQ (fun e => match e with | .ret => [2] | .exit 0 => [0] | _ => []) Q)) (mkTm [(0, some (.slice A2 l2 c2)), (3, some (.int .i64 x3))]) h := by kernel_rfl
theorem slices_Compact_api_Prefix_l2_mask (Q : Qx) (k : Nat) (tm : Tm) (h : Hp) : slices_Compact_api_Prefix_l2_L Q k tm h ↔ slices_Compact_api_Prefix_l2_L Q k (mask [0, 3] tm) h := Iff.rfl
set_option maxRecDepth 100000 in
theorem slices_Compact_api_Prefix_l2_snd : SndAt Tryz.prog 61 none (sub (bodyOf Tryz.f44) [true, true, false, true, false]) (slices_Compact_api_Prefix_lp 58) := by
  refine loop_sound (lp := slices_Compact_api_Prefix_lp) (cut := slices_Compact_api_Prefix_cut) (i := 58) (c := (sub (bodyOf Tryz.f44) [true, true, false, true, false, false])) [0, 3] (fun e => match e with | .ret => [2] | .exit 0 => [0] | _ => []) slices_Compact_api_Prefix_l2_L ?_ ?_ ?_
  · exact good_by (c := (sub (bodyOf Tryz.f44) [true, true, false, true, false, false])) (i := 116) (l := [(59690, (sub (bodyOf Tryz.f44) [true, true, false, true, false, false, true, false, false, true, false, true, false, true, false]))]) (by kernel_rfl) (List.forall_mem_cons.2 ⟨slices_Compact_api_Prefix_l3_snd, (fun _ h => by cases h)⟩)
  · intro Q tm h H
    obtain ⟨A2, l2, c2, e0, H⟩ := selS_ex H
    obtain ⟨x3, e3, H⟩ := selI_ex H
    exact H
  · intro Q k tm h H
    have H0 := H
    obtain ⟨A2, l2, c2, e0, H⟩ := selS_ex H
    obtain ⟨x3, e3, H⟩ := selI_ex H
    have e : mask [0, 3] tm = mkTm [(0, some (.slice A2 l2 c2)), (3, some (.int .i64 x3))] := by simp only [mask, List.map_cons, List.map_nil, e0, e3] <;> rfl
    rw [e]
    refine Eq.mp (slices_Compact_api_Prefix_l2_step Q k A2 l2 c2 x3 h) ?_
    rw [← e]
    exact (slices_Compact_api_Prefix_l2_mask Q (k + 1) tm h).mp H0
set_option maxRecDepth 100000 in
theorem slices_Compact_api_Prefix_eq (A1 : Option Addr) (l1 : Nat) (c1 : Nat) (h : Hp) (K : Value → Hp → Prop) : slices_Compact_api_Prefix A1 l1 c1 h K =
    codeWp Tryz.prog 61 slices_Compact_api_Prefix_lp slices_Compact_api_Prefix_cut (bodyOf Tryz.f44) 1 (endQ Tryz.prog Tryz.f44.results.toList K) (argTm [(.slice A1 l1 c1)]) h := by kernel_rfl
set_option maxRecDepth 100000 in
theorem slices_Compact_api_Prefix_ok (A1 : Option Addr) (l1 : Nat) (c1 : Nat) {h : Hp} {K : Value → Hp → Prop} (H : slices_Compact_api_Prefix A1 l1 c1 h K) : CallsH Tryz.prog 44 #[(.slice A1 l1 c1)] h K :=
  calls_of (args := [(.slice A1 l1 c1)]) (n := 61) (lp := slices_Compact_api_Prefix_lp) (cut := slices_Compact_api_Prefix_cut) Tryz.func44 (c := bodyOf Tryz.f44) (by kernel_rfl) (by kernel_rfl) (by kernel_rfl) (good_by (c := (bodyOf Tryz.f44)) (i := 1) (l := [(58, (sub (bodyOf Tryz.f44) [true, true, false, true, false]))]) (by kernel_rfl) (List.forall_mem_cons.2 ⟨slices_Compact_api_Prefix_l2_snd, (fun _ h => by cases h)⟩))
    (Eq.mp (slices_Compact_api_Prefix_eq A1 l1 c1 h K) H)

/-! ### slices.IndexFunc[[]uint16,uint16]: function 58 -/
def slices_IndexFunc_uint16_l1 (A3 : Option Addr) (l3 : Nat) (c3 : Nat) (v4 : Value) (x5 : Int) (K0 : Int → Hp → Prop) (K1 : Hp → Prop)  : Nat → Int → Hp → Prop
  | 0, _, _ => False
  | k + 1, x6, h =>
    br (decide (x6 < x5))
    (∃ a13 : Addr, PV Tryz.prog (Instr.indexAt 86 (.slice A3 l3 c3) (.int .i64 x6)) (.pointer (some a13)) ∧
    ∃ x14 : Int, HV Tryz.prog (Instr.loadAt 24 (.pointer (some a13))) h (.int .u16 x14) ∧ 
    HN Tryz.prog (callS v4 #[(.int .u16 x14)]) h fun r16 h15 =>
    ∃ b17 : Bool, r16 = (.bool b17) ∧ 
    br b17
    (K0 x6 h15)
    (slices_IndexFunc_uint16_l1 A3 l3 c3 v4 x5 K0 K1 k (IntKind.i64.wrap (x6 + 1)) h15))
    (K1 h)
def slices_IndexFunc_uint16_l1_L (Q : Qx) (k : Nat) (tm : Tm) (h : Hp) : Prop :=
  selS (tm 0) fun A3 l3 c3 =>
  selV (tm 1) fun v4 =>
  selI .i64 (tm 7) fun x5 =>
  selI .i64 (tm 8) fun x6 =>
  slices_IndexFunc_uint16_l1 A3 l3 c3 v4 x5 (fun (x12 : Int) h => Q (.ret) (mkTm [(4, some (.int .i64 x12))]) h) (fun  h => Q (.exit 0) (mkTm []) h) k x6 h
def slices_IndexFunc_uint16 (A1 : Option Addr) (l1 : Nat) (c1 : Nat) (f2 : Fn) (f2r : Array Value) (f2c : Array Value) (h : Hp) (K : Value → Hp → Prop) : Prop :=
  ∃ k21, slices_IndexFunc_uint16_l1 A1 l1 c1 (.func f2 f2r f2c) (l1 : Int)
  (fun (x18 : Int) (h19 : Hp) =>
  K (.int .i64 x18) h19)
  (fun  (h20 : Hp) =>
  K (.int .i64 (-1)) h20)
  k21 0 h
def slices_IndexFunc_uint16_lp (i : Nat) (Q : Qx) (tm : Tm) (h : Hp) : Prop := match Nat.beq i 26 with
  | true => ∃ k, slices_IndexFunc_uint16_l1_L Q k tm h
  | false => False
def slices_IndexFunc_uint16_cut (i : Nat) : Option (List Nat) := none
set_option maxRecDepth 100000 in
theorem slices_IndexFunc_uint16_l1_step (Q : Qx) (k : Nat) (A3 : Option Addr) (l3 : Nat) (c3 : Nat) (v4 : Value) (x5 : Int) (x6 : Int) (h : Hp) : slices_IndexFunc_uint16_l1_L Q (k + 1) (mkTm [(0, some (.slice A3 l3 c3)), (1, some v4), (7, some (.int .i64 x5)), (8, some (.int .i64 x6))]) h =
    codeWp Tryz.prog 19 slices_IndexFunc_uint16_lp slices_IndexFunc_uint16_cut (sub (bodyOf Tryz.f58) [true, false, true, false, false]) 52 (thenQ (fun tm h => slices_IndexFunc_uint16_l1_L Q k (mask [0, 1, 7, 8] tm) h) (maskQ (fun e => match e with | .ret => [4] | .exit 0 => [] | _ => []) Q)) (mkTm [(0, some (.slice A3 l3 c3)), (1, some v4), (7, some (.int .i64 x5)), (8, some (.int .i64 x6))]) h := by kernel_rfl
theorem slices_IndexFunc_uint16_l1_mask (Q : Qx) (k : Nat) (tm : Tm) (h : Hp) : slices_IndexFunc_uint16_l1_L Q k tm h ↔ slices_IndexFunc_uint16_l1_L Q k (mask [0, 1, 7, 8] tm) h := Iff.rfl
set_option maxRecDepth 100000 in
theorem slices_IndexFunc_uint16_l1_snd : SndAt Tryz.prog 19 none (sub (bodyOf Tryz.f58) [true, false, true, false]) (slices_IndexFunc_uint16_lp 26) := by
  refine loop_sound (lp := slices_IndexFunc_uint16_lp) (cut := slices_IndexFunc_uint16_cut) (i := 26) (c := (sub (bodyOf Tryz.f58) [true, false, true, false, false])) [0, 1, 7, 8] (fun e => match e with | .ret => [4] | .exit 0 => [] | _ => []) slices_IndexFunc_uint16_l1_L ?_ ?_ ?_
  · exact good_by (c := (sub (bodyOf Tryz.f58) [true, false, true, false, false])) (i := 52) (l := []) (by kernel_rfl) (fun _ h => by cases h)
  · intro Q tm h H
    obtain ⟨A3, l3, c3, e0, H⟩ := selS_ex H
    obtain ⟨v4, e1, H⟩ := selV_ex H
    obtain ⟨x5, e7, H⟩ := selI_ex H
    obtain ⟨x6, e8, H⟩ := selI_ex H
    exact H
  · intro Q k tm h H
    have H0 := H
    obtain ⟨A3, l3, c3, e0, H⟩ := selS_ex H
    obtain ⟨v4, e1, H⟩ := selV_ex H
    obtain ⟨x5, e7, H⟩ := selI_ex H
    obtain ⟨x6, e8, H⟩ := selI_ex H
    have e : mask [0, 1, 7, 8] tm = mkTm [(0, some (.slice A3 l3 c3)), (1, some v4), (7, some (.int .i64 x5)), (8, some (.int .i64 x6))] := by simp only [mask, List.map_cons, List.map_nil, e0, e1, e7, e8] <;> rfl
    rw [e]
    refine Eq.mp (slices_IndexFunc_uint16_l1_step Q k A3 l3 c3 v4 x5 x6 h) ?_
    rw [← e]
    exact (slices_IndexFunc_uint16_l1_mask Q (k + 1) tm h).mp H0
set_option maxRecDepth 100000 in
theorem slices_IndexFunc_uint16_eq (A1 : Option Addr) (l1 : Nat) (c1 : Nat) (f2 : Fn) (f2r : Array Value) (f2c : Array Value) (h : Hp) (K : Value → Hp → Prop) : slices_IndexFunc_uint16 A1 l1 c1 f2 f2r f2c h K =
    codeWp Tryz.prog 19 slices_IndexFunc_uint16_lp slices_IndexFunc_uint16_cut (bodyOf Tryz.f58) 1 (endQ Tryz.prog Tryz.f58.results.toList K) (argTm [(.slice A1 l1 c1), (.func f2 f2r f2c)]) h := by kernel_rfl
set_option maxRecDepth 100000 in
theorem slices_IndexFunc_uint16_ok (A1 : Option Addr) (l1 : Nat) (c1 : Nat) (f2 : Fn) (f2r : Array Value) (f2c : Array Value) {h : Hp} {K : Value → Hp → Prop} (H : slices_IndexFunc_uint16 A1 l1 c1 f2 f2r f2c h K) : CallsH Tryz.prog 58 #[(.slice A1 l1 c1), (.func f2 f2r f2c)] h K :=
  calls_of (args := [(.slice A1 l1 c1), (.func f2 f2r f2c)]) (n := 19) (lp := slices_IndexFunc_uint16_lp) (cut := slices_IndexFunc_uint16_cut) Tryz.func58 (c := bodyOf Tryz.f58) (by kernel_rfl) (by kernel_rfl) (by kernel_rfl) (good_by (c := (bodyOf Tryz.f58)) (i := 1) (l := [(26, (sub (bodyOf Tryz.f58) [true, false, true, false]))]) (by kernel_rfl) (List.forall_mem_cons.2 ⟨slices_IndexFunc_uint16_l1_snd, (fun _ h => by cases h)⟩))
    (Eq.mp (slices_IndexFunc_uint16_eq A1 l1 c1 f2 f2r f2c h K) H)

/-! ### slices.IndexFunc[[]quintet/api.Rule,quintet/api.Rule]: function 61 -/
def slices_IndexFunc_api_Rule_l1 (A3 : Option Addr) (l3 : Nat) (c3 : Nat) (v4 : Value) (x5 : Int) (K0 : Int → Hp → Prop) (K1 : Hp → Prop)  : Nat → Int → Hp → Prop
  | 0, _, _ => False
  | k + 1, x6, h =>
    br (decide (x6 < x5))
    (∃ a24 : Addr, PV Tryz.prog (Instr.indexAt 22 (.slice A3 l3 c3) (.int .i64 x6)) (.pointer (some a24)) ∧
    ∃ x25 : Int, ∃ x26 : Int, ∃ x27 : Int, ∃ x28 : Int, ∃ x29 : Int, ∃ x30 : Int, ∃ x31 : Int, ∃ x32 : Int, ∃ x33 : Int, ∃ x34 : Int, ∃ x35 : Int, ∃ x36 : Int, HV Tryz.prog (Instr.loadAt 49 (.pointer (some a24))) h (.agg #[(.int .i64 x25), (.int .u32 x26), (.int .i64 x27), (.int .u32 x28), (.int .i64 x29), (.int .u16 x30), (.int .u16 x31), (.int .u16 x32), (.int .u16 x33), (.int .u8 x34), (.int .u8 x35), (.int .i64 x36)]) ∧ 
    HN Tryz.prog (callS v4 #[(.agg #[(.int .i64 x25), (.int .u32 x26), (.int .i64 x27), (.int .u32 x28), (.int .i64 x29), (.int .u16 x30), (.int .u16 x31), (.int .u16 x32), (.int .u16 x33), (.int .u8 x34), (.int .u8 x35), (.int .i64 x36)])]) h fun r38 h37 =>
    ∃ b39 : Bool, r38 = (.bool b39) ∧ 
    br b39
    (K0 x6 h37)
    (slices_IndexFunc_api_Rule_l1 A3 l3 c3 v4 x5 K0 K1 k (IntKind.i64.wrap (x6 + 1)) h37))
    (K1 h)
def slices_IndexFunc_api_Rule_l1_L (Q : Qx) (k : Nat) (tm : Tm) (h : Hp) : Prop :=
  selS (tm 0) fun A3 l3 c3 =>
  selV (tm 1) fun v4 =>
  selI .i64 (tm 7) fun x5 =>
  selI .i64 (tm 8) fun x6 =>
  slices_IndexFunc_api_Rule_l1 A3 l3 c3 v4 x5 (fun (x23 : Int) h => Q (.ret) (mkTm [(4, some (.int .i64 x23))]) h) (fun  h => Q (.exit 0) (mkTm []) h) k x6 h
def slices_IndexFunc_api_Rule (A1 : Option Addr) (l1 : Nat) (c1 : Nat) (f2 : Fn) (f2r : Array Value) (f2c : Array Value) (h : Hp) (K : Value → Hp → Prop) : Prop :=
  ∃ k43, slices_IndexFunc_api_Rule_l1 A1 l1 c1 (.func f2 f2r f2c) (l1 : Int)
  (fun (x40 : Int) (h41 : Hp) =>
  K (.int .i64 x40) h41)
  (fun  (h42 : Hp) =>
  K (.int .i64 (-1)) h42)
  k43 0 h
def slices_IndexFunc_api_Rule_lp (i : Nat) (Q : Qx) (tm : Tm) (h : Hp) : Prop := match Nat.beq i 26 with
  | true => ∃ k, slices_IndexFunc_api_Rule_l1_L Q k tm h
  | false => False
def slices_IndexFunc_api_Rule_cut (i : Nat) : Option (List Nat) := none
set_option maxRecDepth 100000 in
theorem slices_IndexFunc_api_Rule_l1_step (Q : Qx) (k : Nat) (A3 : Option Addr) (l3 : Nat) (c3 : Nat) (v4 : Value) (x5 : Int) (x6 : Int) (h : Hp) : slices_IndexFunc_api_Rule_l1_L Q (k + 1) (mkTm [(0, some (.slice A3 l3 c3)), (1, some v4), (7, some (.int .i64 x5)), (8, some (.int .i64 x6))]) h =
    codeWp Tryz.prog 19 slices_IndexFunc_api_Rule_lp slices_IndexFunc_api_Rule_cut (sub (bodyOf Tryz.f61) [true, false, true, false, false]) 52 (thenQ (fun tm h => slices_IndexFunc_api_Rule_l1_L Q k (mask [0, 1, 7, 8] tm) h) (maskQ (fun e => match e with | .ret => [4] | .exit 0 => [] | _ => []) Q)) (mkTm [(0, some (.slice A3 l3 c3)), (1, some v4), (7, some (.int .i64 x5)), (8, some (.int .i64 x6))]) h := by kernel_rfl
theorem slices_IndexFunc_api_Rule_l1_mask (Q : Qx) (k : Nat) (tm : Tm) (h : Hp) : slices_IndexFunc_api_Rule_l1_L Q k tm h ↔ slices_IndexFunc_api_Rule_l1_L Q k (mask [0, 1, 7, 8] tm) h := Iff.rfl
set_option maxRecDepth 100000 in
theorem slices_IndexFunc_api_Rule_l1_snd : SndAt Tryz.prog 19 none (sub (bodyOf Tryz.f61) [true, false, true, false]) (slices_IndexFunc_api_Rule_lp 26) := by
  refine loop_sound (lp := slices_IndexFunc_api_Rule_lp) (cut := slices_IndexFunc_api_Rule_cut) (i := 26) (c := (sub (bodyOf Tryz.f61) [true, false, true, false, false])) [0, 1, 7, 8] (fun e => match e with | .ret => [4] | .exit 0 => [] | _ => []) slices_IndexFunc_api_Rule_l1_L ?_ ?_ ?_
  · exact good_by (c := (sub (bodyOf Tryz.f61) [true, false, true, false, false])) (i := 52) (l := []) (by kernel_rfl) (fun _ h => by cases h)
  · intro Q tm h H
    obtain ⟨A3, l3, c3, e0, H⟩ := selS_ex H
    obtain ⟨v4, e1, H⟩ := selV_ex H
    obtain ⟨x5, e7, H⟩ := selI_ex H
    obtain ⟨x6, e8, H⟩ := selI_ex H
    exact H
  · intro Q k tm h H
    have H0 := H
    obtain ⟨A3, l3, c3, e0, H⟩ := selS_ex H
    obtain ⟨v4, e1, H⟩ := selV_ex H
    obtain ⟨x5, e7, H⟩ := selI_ex H
    obtain ⟨x6, e8, H⟩ := selI_ex H
    have e : mask [0, 1, 7, 8] tm = mkTm [(0, some (.slice A3 l3 c3)), (1, some v4), (7, some (.int .i64 x5)), (8, some (.int .i64 x6))] := by simp only [mask, List.map_cons, List.map_nil, e0, e1, e7, e8] <;> rfl
    rw [e]
    refine Eq.mp (slices_IndexFunc_api_Rule_l1_step Q k A3 l3 c3 v4 x5 x6 h) ?_
    rw [← e]
    exact (slices_IndexFunc_api_Rule_l1_mask Q (k + 1) tm h).mp H0
set_option maxRecDepth 100000 in
theorem slices_IndexFunc_api_Rule_eq (A1 : Option Addr) (l1 : Nat) (c1 : Nat) (f2 : Fn) (f2r : Array Value) (f2c : Array Value) (h : Hp) (K : Value → Hp → Prop) : slices_IndexFunc_api_Rule A1 l1 c1 f2 f2r f2c h K =
    codeWp Tryz.prog 19 slices_IndexFunc_api_Rule_lp slices_IndexFunc_api_Rule_cut (bodyOf Tryz.f61) 1 (endQ Tryz.prog Tryz.f61.results.toList K) (argTm [(.slice A1 l1 c1), (.func f2 f2r f2c)]) h := by kernel_rfl
set_option maxRecDepth 100000 in
theorem slices_IndexFunc_api_Rule_ok (A1 : Option Addr) (l1 : Nat) (c1 : Nat) (f2 : Fn) (f2r : Array Value) (f2c : Array Value) {h : Hp} {K : Value → Hp → Prop} (H : slices_IndexFunc_api_Rule A1 l1 c1 f2 f2r f2c h K) : CallsH Tryz.prog 61 #[(.slice A1 l1 c1), (.func f2 f2r f2c)] h K :=
  calls_of (args := [(.slice A1 l1 c1), (.func f2 f2r f2c)]) (n := 19) (lp := slices_IndexFunc_api_Rule_lp) (cut := slices_IndexFunc_api_Rule_cut) Tryz.func61 (c := bodyOf Tryz.f61) (by kernel_rfl) (by kernel_rfl) (by kernel_rfl) (good_by (c := (bodyOf Tryz.f61)) (i := 1) (l := [(26, (sub (bodyOf Tryz.f61) [true, false, true, false]))]) (by kernel_rfl) (List.forall_mem_cons.2 ⟨slices_IndexFunc_api_Rule_l1_snd, (fun _ h => by cases h)⟩))
    (Eq.mp (slices_IndexFunc_api_Rule_eq A1 l1 c1 f2 f2r f2c h K) H)

/-! ### cmp.Or[int]: function 56 -/
def cmp_Or_int_l1 (x2 : Int) (A3 : Option Addr) (l3 : Nat) (c3 : Nat) (x4 : Int) (K0 : Int → Hp → Prop) (K1 : Int → Hp → Prop)  : Nat → Int → Hp → Prop
  | 0, _, _ => False
  | k + 1, x5, h =>
    br (decide (x5 < x4))
    (∃ a10 : Addr, PV Tryz.prog (Instr.indexAt 38 (.slice A3 l3 c3) (.int .i64 x5)) (.pointer (some a10)) ∧
    ∃ x11 : Int, HV Tryz.prog (Instr.loadAt 3 (.pointer (some a10))) h (.int .i64 x11) ∧ 
    br (x11 != x2)
    (K0 x11 h)
    (cmp_Or_int_l1 x2 A3 l3 c3 x4 K0 K1 k (IntKind.i64.wrap (x5 + 1)) h))
    (K1 x2 h)
def cmp_Or_int_l1_L (Q : Qx) (k : Nat) (tm : Tm) (h : Hp) : Prop :=
  selI .i64 (tm 3) fun x2 =>
  selS (tm 6) fun A3 l3 c3 =>
  selI .i64 (tm 7) fun x4 =>
  selI .i64 (tm 8) fun x5 =>
  cmp_Or_int_l1 x2 A3 l3 c3 x4 (fun (x8 : Int) h => Q (.ret) (mkTm [(2, some (.int .i64 x8))]) h) (fun (x9 : Int) h => Q (.exit 0) (mkTm [(3, some (.int .i64 x9))]) h) k x5 h
def cmp_Or_int (A1 : Option Addr) (l1 : Nat) (c1 : Nat) (h : Hp) (K : Value → Hp → Prop) : Prop :=
  ∃ k16, cmp_Or_int_l1 0 A1 l1 c1 (l1 : Int)
  (fun (x12 : Int) (h13 : Hp) =>
  K (.int .i64 x12) h13)
  (fun (x14 : Int) (h15 : Hp) =>
  K (.int .i64 x14) h15)
  k16 0 h
def cmp_Or_int_lp (i : Nat) (Q : Qx) (tm : Tm) (h : Hp) : Prop := match Nat.beq i 58 with
  | true => ∃ k, cmp_Or_int_l1_L Q k tm h
  | false => False
def cmp_Or_int_cut (i : Nat) : Option (List Nat) := none
set_option maxRecDepth 100000 in
theorem cmp_Or_int_l1_step (Q : Qx) (k : Nat) (x2 : Int) (A3 : Option Addr) (l3 : Nat) (c3 : Nat) (x4 : Int) (x5 : Int) (h : Hp) : cmp_Or_int_l1_L Q (k + 1) (mkTm [(3, some (.int .i64 x2)), (6, some (.slice A3 l3 c3)), (7, some (.int .i64 x4)), (8, some (.int .i64 x5))]) h =
    codeWp Tryz.prog 18 cmp_Or_int_lp cmp_Or_int_cut (sub (bodyOf Tryz.f56) [true, true, false, true, false, false]) 116 (thenQ (fun tm h => cmp_Or_int_l1_L Q k (mask [3, 6, 7, 8] tm) h) (maskQ (fun e => match e with | .ret => [2] | .exit 0 => [3] | _ => []) Q)) (mkTm [(3, some (.int .i64 x2)), (6, some (.slice A3 l3 c3)), (7, some (.int .i64 x4)), (8, some (.int .i64 x5))]) h := by kernel_rfl
theorem cmp_Or_int_l1_mask (Q : Qx) (k : Nat) (tm : Tm) (h : Hp) : cmp_Or_int_l1_L Q k tm h ↔ cmp_Or_int_l1_L Q k (mask [3, 6, 7, 8] tm) h := Iff.rfl
set_option maxRecDepth 100000 in
theorem cmp_Or_int_l1_snd : SndAt Tryz.prog 18 none (sub (bodyOf Tryz.f56) [true, true, false, true, false]) (cmp_Or_int_lp 58) := by
  refine loop_sound (lp := cmp_Or_int_lp) (cut := cmp_Or_int_cut) (i := 58) (c := (sub (bodyOf Tryz.f56) [true, true, false, true, false, false])) [3, 6, 7, 8] (fun e => match e with | .ret => [2] | .exit 0 => [3] | _ => []) cmp_Or_int_l1_L ?_ ?_ ?_
  · exact good_by (c := (sub (bodyOf Tryz.f56) [true, true, false, true, false, false])) (i := 116) (l := []) (by kernel_rfl) (fun _ h => by cases h)
  · intro Q tm h H
    obtain ⟨x2, e3, H⟩ := selI_ex H
    obtain ⟨A3, l3, c3, e6, H⟩ := selS_ex H
    obtain ⟨x4, e7, H⟩ := selI_ex H
    obtain ⟨x5, e8, H⟩ := selI_ex H
    exact H
  · intro Q k tm h H
    have H0 := H
    obtain ⟨x2, e3, H⟩ := selI_ex H
    obtain ⟨A3, l3, c3, e6, H⟩ := selS_ex H
    obtain ⟨x4, e7, H⟩ := selI_ex H
    obtain ⟨x5, e8, H⟩ := selI_ex H
    have e : mask [3, 6, 7, 8] tm = mkTm [(3, some (.int .i64 x2)), (6, some (.slice A3 l3 c3)), (7, some (.int .i64 x4)), (8, some (.int .i64 x5))] := by simp only [mask, List.map_cons, List.map_nil, e3, e6, e7, e8] <;> rfl
    rw [e]
    refine Eq.mp (cmp_Or_int_l1_step Q k x2 A3 l3 c3 x4 x5 h) ?_
    rw [← e]
    exact (cmp_Or_int_l1_mask Q (k + 1) tm h).mp H0
set_option maxRecDepth 100000 in
theorem cmp_Or_int_eq (A1 : Option Addr) (l1 : Nat) (c1 : Nat) (h : Hp) (K : Value → Hp → Prop) : cmp_Or_int A1 l1 c1 h K =
    codeWp Tryz.prog 18 cmp_Or_int_lp cmp_Or_int_cut (bodyOf Tryz.f56) 1 (endQ Tryz.prog Tryz.f56.results.toList K) (argTm [(.slice A1 l1 c1)]) h := by kernel_rfl
set_option maxRecDepth 100000 in
theorem cmp_Or_int_ok (A1 : Option Addr) (l1 : Nat) (c1 : Nat) {h : Hp} {K : Value → Hp → Prop} (H : cmp_Or_int A1 l1 c1 h K) : CallsH Tryz.prog 56 #[(.slice A1 l1 c1)] h K :=
  calls_of (args := [(.slice A1 l1 c1)]) (n := 18) (lp := cmp_Or_int_lp) (cut := cmp_Or_int_cut) Tryz.func56 (c := bodyOf Tryz.f56) (by kernel_rfl) (by kernel_rfl) (by kernel_rfl) (good_by (c := (bodyOf Tryz.f56)) (i := 1) (l := [(58, (sub (bodyOf Tryz.f56) [true, true, false, true, false]))]) (by kernel_rfl) (List.forall_mem_cons.2 ⟨cmp_Or_int_l1_snd, (fun _ h => by cases h)⟩))
    (Eq.mp (cmp_Or_int_eq A1 l1 c1 h K) H)

/-! ### cmp.Compare[uint16]: function 57 -/
def cmp_Compare_uint16 (x1 : Int) (x2 : Int) (h : Hp) (K : Value → Hp → Prop) : Prop :=
  CallsH Tryz.prog 73 #[(.int .u16 x1)] h fun r4 h3 =>
  ∃ b5 : Bool, r4 = (.bool b5) ∧ 
  CallsH Tryz.prog 73 #[(.int .u16 x2)] h3 fun r7 h6 =>
  ∃ b8 : Bool, r7 = (.bool b8) ∧ 
  br b5
  (br b8
  (K (.int .i64 0) h6)
  (K (.int .i64 (-1)) h6))
  (br b8
  (K (.int .i64 1) h6)
  (br (decide (x1 < x2))
  (K (.int .i64 (-1)) h6)
  (br (decide (x1 > x2))
  (K (.int .i64 1) h6)
  (K (.int .i64 0) h6))))
def cmp_Compare_uint16_lp (i : Nat) (Q : Qx) (tm : Tm) (h : Hp) : Prop := False
def cmp_Compare_uint16_cut (i : Nat) : Option (List Nat) := none
set_option maxRecDepth 100000 in
theorem cmp_Compare_uint16_eq (x1 : Int) (x2 : Int) (h : Hp) (K : Value → Hp → Prop) : cmp_Compare_uint16 x1 x2 h K =
    codeWp Tryz.prog 20 cmp_Compare_uint16_lp cmp_Compare_uint16_cut (bodyOf Tryz.f57) 1 (endQ Tryz.prog Tryz.f57.results.toList K) (argTm [(.int .u16 x1), (.int .u16 x2)]) h := by kernel_rfl
set_option maxRecDepth 100000 in
theorem cmp_Compare_uint16_ok (x1 : Int) (x2 : Int) {h : Hp} {K : Value → Hp → Prop} (H : cmp_Compare_uint16 x1 x2 h K) : CallsH Tryz.prog 57 #[(.int .u16 x1), (.int .u16 x2)] h K :=
  calls_of (args := [(.int .u16 x1), (.int .u16 x2)]) (n := 20) (lp := cmp_Compare_uint16_lp) (cut := cmp_Compare_uint16_cut) Tryz.func57 (c := bodyOf Tryz.f57) (by kernel_rfl) (by kernel_rfl) (by kernel_rfl) (good_by (c := (bodyOf Tryz.f57)) (i := 1) (l := []) (by kernel_rfl) (fun _ h => by cases h))
    (Eq.mp (cmp_Compare_uint16_eq x1 x2 h K) H)

/-! ### cmp.Compare[uint32]: function 64 -/
def cmp_Compare_uint32 (x1 : Int) (x2 : Int) (h : Hp) (K : Value → Hp → Prop) : Prop :=
  CallsH Tryz.prog 86 #[(.int .u32 x1)] h fun r4 h3 =>
  ∃ b5 : Bool, r4 = (.bool b5) ∧ 
  CallsH Tryz.prog 86 #[(.int .u32 x2)] h3 fun r7 h6 =>
  ∃ b8 : Bool, r7 = (.bool b8) ∧ 
  br b5
  (br b8
  (K (.int .i64 0) h6)
  (K (.int .i64 (-1)) h6))
  (br b8
  (K (.int .i64 1) h6)
  (br (decide (x1 < x2))
  (K (.int .i64 (-1)) h6)
  (br (decide (x1 > x2))
  (K (.int .i64 1) h6)
  (K (.int .i64 0) h6))))
def cmp_Compare_uint32_lp (i : Nat) (Q : Qx) (tm : Tm) (h : Hp) : Prop := False
def cmp_Compare_uint32_cut (i : Nat) : Option (List Nat) := none
set_option maxRecDepth 100000 in
theorem cmp_Compare_uint32_eq (x1 : Int) (x2 : Int) (h : Hp) (K : Value → Hp → Prop) : cmp_Compare_uint32 x1 x2 h K =
    codeWp Tryz.prog 20 cmp_Compare_uint32_lp cmp_Compare_uint32_cut (bodyOf Tryz.f64) 1 (endQ Tryz.prog Tryz.f64.results.toList K) (argTm [(.int .u32 x1), (.int .u32 x2)]) h := by kernel_rfl
set_option maxRecDepth 100000 in
theorem cmp_Compare_uint32_ok (x1 : Int) (x2 : Int) {h : Hp} {K : Value → Hp → Prop} (H : cmp_Compare_uint32 x1 x2 h K) : CallsH Tryz.prog 64 #[(.int .u32 x1), (.int .u32 x2)] h K :=
  calls_of (args := [(.int .u32 x1), (.int .u32 x2)]) (n := 20) (lp := cmp_Compare_uint32_lp) (cut := cmp_Compare_uint32_cut) Tryz.func64 (c := bodyOf Tryz.f64) (by kernel_rfl) (by kernel_rfl) (by kernel_rfl) (good_by (c := (bodyOf Tryz.f64)) (i := 1) (l := []) (by kernel_rfl) (fun _ h => by cases h))
    (Eq.mp (cmp_Compare_uint32_eq x1 x2 h K) H)

/-! ### cmp.Compare[int]: function 65 -/
def cmp_Compare_int (x1 : Int) (x2 : Int) (h : Hp) (K : Value → Hp → Prop) : Prop :=
  CallsH Tryz.prog 87 #[(.int .i64 x1)] h fun r4 h3 =>
  ∃ b5 : Bool, r4 = (.bool b5) ∧ 
  CallsH Tryz.prog 87 #[(.int .i64 x2)] h3 fun r7 h6 =>
  ∃ b8 : Bool, r7 = (.bool b8) ∧ 
  br b5
  (br b8
  (K (.int .i64 0) h6)
  (K (.int .i64 (-1)) h6))
  (br b8
  (K (.int .i64 1) h6)
  (br (decide (x1 < x2))
  (K (.int .i64 (-1)) h6)
  (br (decide (x1 > x2))
  (K (.int .i64 1) h6)
  (K (.int .i64 0) h6))))
def cmp_Compare_int_lp (i : Nat) (Q : Qx) (tm : Tm) (h : Hp) : Prop := False
def cmp_Compare_int_cut (i : Nat) : Option (List Nat) := none
set_option maxRecDepth 100000 in
theorem cmp_Compare_int_eq (x1 : Int) (x2 : Int) (h : Hp) (K : Value → Hp → Prop) : cmp_Compare_int x1 x2 h K =
    codeWp Tryz.prog 20 cmp_Compare_int_lp cmp_Compare_int_cut (bodyOf Tryz.f65) 1 (endQ Tryz.prog Tryz.f65.results.toList K) (argTm [(.int .i64 x1), (.int .i64 x2)]) h := by kernel_rfl
set_option maxRecDepth 100000 in
theorem cmp_Compare_int_ok (x1 : Int) (x2 : Int) {h : Hp} {K : Value → Hp → Prop} (H : cmp_Compare_int x1 x2 h K) : CallsH Tryz.prog 65 #[(.int .i64 x1), (.int .i64 x2)] h K :=
  calls_of (args := [(.int .i64 x1), (.int .i64 x2)]) (n := 20) (lp := cmp_Compare_int_lp) (cut := cmp_Compare_int_cut) Tryz.func65 (c := bodyOf Tryz.f65) (by kernel_rfl) (by kernel_rfl) (by kernel_rfl) (good_by (c := (bodyOf Tryz.f65)) (i := 1) (l := []) (by kernel_rfl) (fun _ h => by cases h))
    (Eq.mp (cmp_Compare_int_eq x1 x2 h K) H)

/-! ### cmp.isNaN[uint16]: function 73 -/
def cmp_isNaN_uint16 (x1 : Int) (h : Hp) (K : Value → Hp → Prop) : Prop :=
  K (.bool (x1 != x1)) h
def cmp_isNaN_uint16_lp (i : Nat) (Q : Qx) (tm : Tm) (h : Hp) : Prop := False
def cmp_isNaN_uint16_cut (i : Nat) : Option (List Nat) := none
set_option maxRecDepth 100000 in
theorem cmp_isNaN_uint16_eq (x1 : Int) (h : Hp) (K : Value → Hp → Prop) : cmp_isNaN_uint16 x1 h K =
    codeWp Tryz.prog 6 cmp_isNaN_uint16_lp cmp_isNaN_uint16_cut (bodyOf Tryz.f73) 1 (endQ Tryz.prog Tryz.f73.results.toList K) (argTm [(.int .u16 x1)]) h := by kernel_rfl
set_option maxRecDepth 100000 in
theorem cmp_isNaN_uint16_ok (x1 : Int) {h : Hp} {K : Value → Hp → Prop} (H : cmp_isNaN_uint16 x1 h K) : CallsH Tryz.prog 73 #[(.int .u16 x1)] h K :=
  calls_of (args := [(.int .u16 x1)]) (n := 6) (lp := cmp_isNaN_uint16_lp) (cut := cmp_isNaN_uint16_cut) Tryz.func73 (c := bodyOf Tryz.f73) (by kernel_rfl) (by kernel_rfl) (by kernel_rfl) (good_by (c := (bodyOf Tryz.f73)) (i := 1) (l := []) (by kernel_rfl) (fun _ h => by cases h))
    (Eq.mp (cmp_isNaN_uint16_eq x1 h K) H)

/-! ### cmp.isNaN[uint32]: function 86 -/
def cmp_isNaN_uint32 (x1 : Int) (h : Hp) (K : Value → Hp → Prop) : Prop :=
  K (.bool (x1 != x1)) h
def cmp_isNaN_uint32_lp (i : Nat) (Q : Qx) (tm : Tm) (h : Hp) : Prop := False
def cmp_isNaN_uint32_cut (i : Nat) : Option (List Nat) := none
set_option maxRecDepth 100000 in
theorem cmp_isNaN_uint32_eq (x1 : Int) (h : Hp) (K : Value → Hp → Prop) : cmp_isNaN_uint32 x1 h K =
    codeWp Tryz.prog 6 cmp_isNaN_uint32_lp cmp_isNaN_uint32_cut (bodyOf Tryz.f86) 1 (endQ Tryz.prog Tryz.f86.results.toList K) (argTm [(.int .u32 x1)]) h := by kernel_rfl
set_option maxRecDepth 100000 in
theorem cmp_isNaN_uint32_ok (x1 : Int) {h : Hp} {K : Value → Hp → Prop} (H : cmp_isNaN_uint32 x1 h K) : CallsH Tryz.prog 86 #[(.int .u32 x1)] h K :=
  calls_of (args := [(.int .u32 x1)]) (n := 6) (lp := cmp_isNaN_uint32_lp) (cut := cmp_isNaN_uint32_cut) Tryz.func86 (c := bodyOf Tryz.f86) (by kernel_rfl) (by kernel_rfl) (by kernel_rfl) (good_by (c := (bodyOf Tryz.f86)) (i := 1) (l := []) (by kernel_rfl) (fun _ h => by cases h))
    (Eq.mp (cmp_isNaN_uint32_eq x1 h K) H)

/-! ### cmp.isNaN[int]: function 87 -/
def cmp_isNaN_int (x1 : Int) (h : Hp) (K : Value → Hp → Prop) : Prop :=
  K (.bool (x1 != x1)) h
def cmp_isNaN_int_lp (i : Nat) (Q : Qx) (tm : Tm) (h : Hp) : Prop := False
def cmp_isNaN_int_cut (i : Nat) : Option (List Nat) := none
set_option maxRecDepth 100000 in
theorem cmp_isNaN_int_eq (x1 : Int) (h : Hp) (K : Value → Hp → Prop) : cmp_isNaN_int x1 h K =
    codeWp Tryz.prog 6 cmp_isNaN_int_lp cmp_isNaN_int_cut (bodyOf Tryz.f87) 1 (endQ Tryz.prog Tryz.f87.results.toList K) (argTm [(.int .i64 x1)]) h := by kernel_rfl
set_option maxRecDepth 100000 in
theorem cmp_isNaN_int_ok (x1 : Int) {h : Hp} {K : Value → Hp → Prop} (H : cmp_isNaN_int x1 h K) : CallsH Tryz.prog 87 #[(.int .i64 x1)] h K :=
  calls_of (args := [(.int .i64 x1)]) (n := 6) (lp := cmp_isNaN_int_lp) (cut := cmp_isNaN_int_cut) Tryz.func87 (c := bodyOf Tryz.f87) (by kernel_rfl) (by kernel_rfl) (by kernel_rfl) (good_by (c := (bodyOf Tryz.f87)) (i := 1) (l := []) (by kernel_rfl) (fun _ h => by cases h))
    (Eq.mp (cmp_isNaN_int_eq x1 h K) H)

/-! ### math/bits.Mul: function 60 -/
def bits_Mul (x1 : Int) (x2 : Int) (h : Hp) (K : Value → Hp → Prop) : Prop :=
  CallsH Tryz.prog 75 #[(.int .u64 x1), (.int .u64 x2)] h fun r4 h3 =>
  ∃ x5 : Int, ∃ x6 : Int, r4 = (.tuple #[(.int .u64 x5), (.int .u64 x6)]) ∧ 
  K (.tuple #[(.int .u64 x5), (.int .u64 x6)]) h3
def bits_Mul_lp (i : Nat) (Q : Qx) (tm : Tm) (h : Hp) : Prop := False
def bits_Mul_cut (i : Nat) : Option (List Nat) := none
set_option maxRecDepth 100000 in
theorem bits_Mul_eq (x1 : Int) (x2 : Int) (h : Hp) (K : Value → Hp → Prop) : bits_Mul x1 x2 h K =
    codeWp Tryz.prog 30 bits_Mul_lp bits_Mul_cut (bodyOf Tryz.f60) 1 (endQ Tryz.prog Tryz.f60.results.toList K) (argTm [(.int .u64 x1), (.int .u64 x2)]) h := by kernel_rfl
set_option maxRecDepth 100000 in
theorem bits_Mul_ok (x1 : Int) (x2 : Int) {h : Hp} {K : Value → Hp → Prop} (H : bits_Mul x1 x2 h K) : CallsH Tryz.prog 60 #[(.int .u64 x1), (.int .u64 x2)] h K :=
  calls_of (args := [(.int .u64 x1), (.int .u64 x2)]) (n := 30) (lp := bits_Mul_lp) (cut := bits_Mul_cut) Tryz.func60 (c := bodyOf Tryz.f60) (by kernel_rfl) (by kernel_rfl) (by kernel_rfl) (good_by (c := (bodyOf Tryz.f60)) (i := 1) (l := []) (by kernel_rfl) (fun _ h => by cases h))
    (Eq.mp (bits_Mul_eq x1 x2 h K) H)

/-! ### math/bits.Mul32: function 74 -/
def bits_Mul32 (x1 : Int) (x2 : Int) (h : Hp) (K : Value → Hp → Prop) : Prop :=
  K (.tuple #[(.int .u32 (IntKind.u32.wrap (Int.fdiv (IntKind.u64.wrap ((IntKind.u64.wrap (x1)) * (IntKind.u64.wrap (x2)))) 4294967296))), (.int .u32 (IntKind.u32.wrap (IntKind.u64.wrap ((IntKind.u64.wrap (x1)) * (IntKind.u64.wrap (x2))))))]) h
def bits_Mul32_lp (i : Nat) (Q : Qx) (tm : Tm) (h : Hp) : Prop := False
def bits_Mul32_cut (i : Nat) : Option (List Nat) := none
set_option maxRecDepth 100000 in
theorem bits_Mul32_eq (x1 : Int) (x2 : Int) (h : Hp) (K : Value → Hp → Prop) : bits_Mul32 x1 x2 h K =
    codeWp Tryz.prog 17 bits_Mul32_lp bits_Mul32_cut (bodyOf Tryz.f74) 1 (endQ Tryz.prog Tryz.f74.results.toList K) (argTm [(.int .u32 x1), (.int .u32 x2)]) h := by kernel_rfl
set_option maxRecDepth 100000 in
theorem bits_Mul32_ok (x1 : Int) (x2 : Int) {h : Hp} {K : Value → Hp → Prop} (H : bits_Mul32 x1 x2 h K) : CallsH Tryz.prog 74 #[(.int .u32 x1), (.int .u32 x2)] h K :=
  calls_of (args := [(.int .u32 x1), (.int .u32 x2)]) (n := 17) (lp := bits_Mul32_lp) (cut := bits_Mul32_cut) Tryz.func74 (c := bodyOf Tryz.f74) (by kernel_rfl) (by kernel_rfl) (by kernel_rfl) (good_by (c := (bodyOf Tryz.f74)) (i := 1) (l := []) (by kernel_rfl) (fun _ h => by cases h))
    (Eq.mp (bits_Mul32_eq x1 x2 h K) H)

/-! ### math/bits.Mul64: function 75 -/
def bits_Mul64 (x1 : Int) (x2 : Int) (h : Hp) (K : Value → Hp → Prop) : Prop :=
  K (.tuple #[(.int .u64 (IntKind.u64.wrap ((IntKind.u64.wrap ((IntKind.u64.wrap ((Int.fdiv x1 4294967296) * (Int.fdiv x2 4294967296))) + (Int.fdiv (IntKind.u64.wrap ((IntKind.u64.wrap ((Int.fdiv x1 4294967296) * (bAnd .u64 x2 4294967295))) + (Int.fdiv (IntKind.u64.wrap ((bAnd .u64 x1 4294967295) * (bAnd .u64 x2 4294967295))) 4294967296))) 4294967296))) + (Int.fdiv (IntKind.u64.wrap ((bAnd .u64 (IntKind.u64.wrap ((IntKind.u64.wrap ((Int.fdiv x1 4294967296) * (bAnd .u64 x2 4294967295))) + (Int.fdiv (IntKind.u64.wrap ((bAnd .u64 x1 4294967295) * (bAnd .u64 x2 4294967295))) 4294967296))) 4294967295) + (IntKind.u64.wrap ((bAnd .u64 x1 4294967295) * (Int.fdiv x2 4294967296))))) 4294967296)))), (.int .u64 (IntKind.u64.wrap (x1 * x2)))]) h
def bits_Mul64_lp (i : Nat) (Q : Qx) (tm : Tm) (h : Hp) : Prop := False
def bits_Mul64_cut (i : Nat) : Option (List Nat) := none
set_option maxRecDepth 100000 in
theorem bits_Mul64_eq (x1 : Int) (x2 : Int) (h : Hp) (K : Value → Hp → Prop) : bits_Mul64 x1 x2 h K =
    codeWp Tryz.prog 51 bits_Mul64_lp bits_Mul64_cut (bodyOf Tryz.f75) 1 (endQ Tryz.prog Tryz.f75.results.toList K) (argTm [(.int .u64 x1), (.int .u64 x2)]) h := by kernel_rfl
set_option maxRecDepth 100000 in
theorem bits_Mul64_ok (x1 : Int) (x2 : Int) {h : Hp} {K : Value → Hp → Prop} (H : bits_Mul64 x1 x2 h K) : CallsH Tryz.prog 75 #[(.int .u64 x1), (.int .u64 x2)] h K :=
  calls_of (args := [(.int .u64 x1), (.int .u64 x2)]) (n := 51) (lp := bits_Mul64_lp) (cut := bits_Mul64_cut) Tryz.func75 (c := bodyOf Tryz.f75) (by kernel_rfl) (by kernel_rfl) (by kernel_rfl) (good_by (c := (bodyOf Tryz.f75)) (i := 1) (l := []) (by kernel_rfl) (fun _ h => by cases h))
    (Eq.mp (bits_Mul64_eq x1 x2 h K) H)

end Go.Proofs.YtgahbkbmolfpnaaGreat.Fs
