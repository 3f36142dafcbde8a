/- Printed by sx.py: words over the heap alone for Go functions, and that each call does what its word says. -/
import Derived.Test.YtomhkbhgpmcbiaaGreatSxSel
import Derived.Test.YtomhkbhgpmcbiaaGreatSxNest
import Derived.Test.YtomhkbhgpmcbiaaGreatProg
namespace Go.Proofs.YtomhkbhgpmcbiaaGreat.Fs
open Go Go.RowKit Go.Proofs.YtomhkbhgpmcbiaaGreat.Sx
set_option linter.unusedVariables false

/-! ### quintet/rule.Match: function 37 -/
def rule_Match (x1 : Int) (x2 : Int) (x3 : Int) (x4 : Int) (x5 : Int) (x6 : Int) (x7 : Int) (x8 : Int) (x9 : Int) (x10 : Int) (x11 : Int) (x12 : Int) (x13 : Int) (x14 : Int) (x15 : Int) (x16 : Int) (x17 : Int) (h : Hp) (K : Value → Hp → Prop) : Prop :=
  newC h (.cells #[(.int .i64 x1), (.int .u32 x2), (.int .i64 x3), (.int .u32 x4), (.int .i64 x5), (.int .u16 x6), (.int .u16 x7), (.int .u16 x8), (.int .u16 x9), (.int .u8 x10), (.int .u8 x11), (.int .i64 x12)] 52 (0, 0)) fun a19 h18 => 
  newC h18 (.cells #[(.int .u32 x13), (.int .u32 x14), (.int .u16 x15), (.int .u16 x16), (.int .u8 x17)] 54 (0, 0)) fun a21 h20 => 
  ∃ x22 : Int, ∃ x23 : Int, ∃ x24 : Int, ∃ x25 : Int, ∃ x26 : Int, ∃ x27 : Int, ∃ x28 : Int, ∃ x29 : Int, ∃ x30 : Int, ∃ x31 : Int, ∃ x32 : Int, ∃ x33 : Int, HV Tryz.prog (Instr.loadAt 52 (.pointer (some a19))) h20 (.agg #[(.int .i64 x22), (.int .u32 x23), (.int .i64 x24), (.int .u32 x25), (.int .i64 x26), (.int .u16 x27), (.int .u16 x28), (.int .u16 x29), (.int .u16 x30), (.int .u8 x31), (.int .u8 x32), (.int .i64 x33)]) ∧ 
  CallsH Tryz.prog 57 #[(.agg #[(.int .i64 x22), (.int .u32 x23), (.int .i64 x24), (.int .u32 x25), (.int .i64 x26), (.int .u16 x27), (.int .u16 x28), (.int .u16 x29), (.int .u16 x30), (.int .u8 x31), (.int .u8 x32), (.int .i64 x33)])] h20 fun r35 h34 =>
  ∃ b36 : Bool, r35 = (.bool b36) ∧ 
  br b36
  (∃ x37 : Int, ∃ x38 : Int, HV Tryz.prog (Instr.loadAt 45 (.pointer (some (a19.add 1)))) h34 (.agg #[(.int .u32 x37), (.int .i64 x38)]) ∧ 
  ∃ x39 : Int, HV Tryz.prog (Instr.loadAt 43 (.pointer (some a21))) h34 (.int .u32 x39) ∧ 
  CallsH Tryz.prog 58 #[(.agg #[(.int .u32 x37), (.int .i64 x38)]), (.int .u32 x39)] h34 fun r41 h40 =>
  ∃ b42 : Bool, r41 = (.bool b42) ∧ 
  br b42
  (∃ x43 : Int, ∃ x44 : Int, HV Tryz.prog (Instr.loadAt 45 (.pointer (some (a19.add 3)))) h40 (.agg #[(.int .u32 x43), (.int .i64 x44)]) ∧ 
  ∃ x45 : Int, HV Tryz.prog (Instr.loadAt 43 (.pointer (some (a21.add 1)))) h40 (.int .u32 x45) ∧ 
  CallsH Tryz.prog 58 #[(.agg #[(.int .u32 x43), (.int .i64 x44)]), (.int .u32 x45)] h40 fun r47 h46 =>
  ∃ b48 : Bool, r47 = (.bool b48) ∧ 
  br b48
  (∃ x49 : Int, ∃ x50 : Int, HV Tryz.prog (Instr.loadAt 48 (.pointer (some (a19.add 5)))) h46 (.agg #[(.int .u16 x49), (.int .u16 x50)]) ∧ 
  ∃ x51 : Int, HV Tryz.prog (Instr.loadAt 46 (.pointer (some (a21.add 2)))) h46 (.int .u16 x51) ∧ 
  CallsH Tryz.prog 59 #[(.agg #[(.int .u16 x49), (.int .u16 x50)]), (.int .u16 x51)] h46 fun r53 h52 =>
  ∃ b54 : Bool, r53 = (.bool b54) ∧ 
  br b54
  (∃ x55 : Int, ∃ x56 : Int, HV Tryz.prog (Instr.loadAt 48 (.pointer (some (a19.add 7)))) h52 (.agg #[(.int .u16 x55), (.int .u16 x56)]) ∧ 
  ∃ x57 : Int, HV Tryz.prog (Instr.loadAt 46 (.pointer (some (a21.add 3)))) h52 (.int .u16 x57) ∧ 
  CallsH Tryz.prog 59 #[(.agg #[(.int .u16 x55), (.int .u16 x56)]), (.int .u16 x57)] h52 fun r59 h58 =>
  ∃ b60 : Bool, r59 = (.bool b60) ∧ 
  br b60
  (∃ x61 : Int, ∃ x62 : Int, HV Tryz.prog (Instr.loadAt 50 (.pointer (some (a19.add 9)))) h58 (.agg #[(.int .u8 x61), (.int .u8 x62)]) ∧ 
  ∃ x63 : Int, HV Tryz.prog (Instr.loadAt 5 (.pointer (some (a21.add 4)))) h58 (.int .u8 x63) ∧ 
  CallsH Tryz.prog 60 #[(.agg #[(.int .u8 x61), (.int .u8 x62)]), (.int .u8 x63)] h58 fun r65 h64 =>
  ∃ b66 : Bool, r65 = (.bool b66) ∧ 
  K (.bool b66) h64)
  (K (.bool false) h58))
  (K (.bool false) h52))
  (K (.bool false) h46))
  (K (.bool false) h40))
  (K (.bool false) h34)
def rule_Match_lp (i : Nat) (Q : Qx) (tm : Tm) (h : Hp) : Prop := False
def rule_Match_cut (i : Nat) : Option (List Nat) := none
set_option maxRecDepth 100000 in
theorem rule_Match_eq (x1 : Int) (x2 : Int) (x3 : Int) (x4 : Int) (x5 : Int) (x6 : Int) (x7 : Int) (x8 : Int) (x9 : Int) (x10 : Int) (x11 : Int) (x12 : Int) (x13 : Int) (x14 : Int) (x15 : Int) (x16 : Int) (x17 : Int) (h : Hp) (K : Value → Hp → Prop) : rule_Match x1 x2 x3 x4 x5 x6 x7 x8 x9 x10 x11 x12 x13 x14 x15 x16 x17 h K =
    codeWp Tryz.prog 42 rule_Match_lp rule_Match_cut (bodyOf Tryz.f37) 1 (endQ Tryz.prog Tryz.f37.results.toList K) (argTm [(.agg #[(.int .i64 x1), (.int .u32 x2), (.int .i64 x3), (.int .u32 x4), (.int .i64 x5), (.int .u16 x6), (.int .u16 x7), (.int .u16 x8), (.int .u16 x9), (.int .u8 x10), (.int .u8 x11), (.int .i64 x12)]), (.agg #[(.int .u32 x13), (.int .u32 x14), (.int .u16 x15), (.int .u16 x16), (.int .u8 x17)])]) h := by kernel_rfl
set_option maxRecDepth 100000 in
theorem rule_Match_ok (x1 : Int) (x2 : Int) (x3 : Int) (x4 : Int) (x5 : Int) (x6 : Int) (x7 : Int) (x8 : Int) (x9 : Int) (x10 : Int) (x11 : Int) (x12 : Int) (x13 : Int) (x14 : Int) (x15 : Int) (x16 : Int) (x17 : Int) {h : Hp} {K : Value → Hp → Prop} (H : rule_Match x1 x2 x3 x4 x5 x6 x7 x8 x9 x10 x11 x12 x13 x14 x15 x16 x17 h K) : CallsH Tryz.prog 37 #[(.agg #[(.int .i64 x1), (.int .u32 x2), (.int .i64 x3), (.int .u32 x4), (.int .i64 x5), (.int .u16 x6), (.int .u16 x7), (.int .u16 x8), (.int .u16 x9), (.int .u8 x10), (.int .u8 x11), (.int .i64 x12)]), (.agg #[(.int .u32 x13), (.int .u32 x14), (.int .u16 x15), (.int .u16 x16), (.int .u8 x17)])] h K :=
  calls_of (args := [(.agg #[(.int .i64 x1), (.int .u32 x2), (.int .i64 x3), (.int .u32 x4), (.int .i64 x5), (.int .u16 x6), (.int .u16 x7), (.int .u16 x8), (.int .u16 x9), (.int .u8 x10), (.int .u8 x11), (.int .i64 x12)]), (.agg #[(.int .u32 x13), (.int .u32 x14), (.int .u16 x15), (.int .u16 x16), (.int .u8 x17)])]) (n := 42) (lp := rule_Match_lp) (cut := rule_Match_cut) Tryz.func37 (c := bodyOf Tryz.f37) (by kernel_rfl) (by kernel_rfl) (by kernel_rfl) (good_by (c := (bodyOf Tryz.f37)) (i := 1) (l := []) (by kernel_rfl) (fun _ h => by cases h))
    (Eq.mp (rule_Match_eq x1 x2 x3 x4 x5 x6 x7 x8 x9 x10 x11 x12 x13 x14 x15 x16 x17 h K) H)

/-! ### quintet/rule.may: function 57 -/
def rule_may (x1 : Int) (x2 : Int) (x3 : Int) (x4 : Int) (x5 : Int) (x6 : Int) (x7 : Int) (x8 : Int) (x9 : Int) (x10 : Int) (x11 : Int) (x12 : Int) (h : Hp) (K : Value → Hp → Prop) : Prop :=
  newC h (.cells #[(.int .i64 x1), (.int .u32 x2), (.int .i64 x3), (.int .u32 x4), (.int .i64 x5), (.int .u16 x6), (.int .u16 x7), (.int .u16 x8), (.int .u16 x9), (.int .u8 x10), (.int .u8 x11), (.int .i64 x12)] 52 (0, 0)) fun a14 h13 => 
  ∃ x15 : Int, ∃ x16 : Int, ∃ x17 : Int, ∃ x18 : Int, ∃ x19 : Int, ∃ x20 : Int, ∃ x21 : Int, ∃ x22 : Int, ∃ x23 : Int, ∃ x24 : Int, ∃ x25 : Int, ∃ x26 : Int, HV Tryz.prog (Instr.loadAt 52 (.pointer (some a14))) h13 (.agg #[(.int .i64 x15), (.int .u32 x16), (.int .i64 x17), (.int .u32 x18), (.int .i64 x19), (.int .u16 x20), (.int .u16 x21), (.int .u16 x22), (.int .u16 x23), (.int .u8 x24), (.int .u8 x25), (.int .i64 x26)]) ∧ 
  CallsH Tryz.prog 72 #[(.agg #[(.int .i64 x15), (.int .u32 x16), (.int .i64 x17), (.int .u32 x18), (.int .i64 x19), (.int .u16 x20), (.int .u16 x21), (.int .u16 x22), (.int .u16 x23), (.int .u8 x24), (.int .u8 x25), (.int .i64 x26)])] h13 fun r28 h27 =>
  ∃ x29 : Int, ∃ x30 : Int, r28 = (.tuple #[(.int .i64 x29), (.int .i64 x30)]) ∧ 
  K (.bool (x29 == 0)) h27
def rule_may_lp (i : Nat) (Q : Qx) (tm : Tm) (h : Hp) : Prop := False
def rule_may_cut (i : Nat) : Option (List Nat) := none
set_option maxRecDepth 100000 in
theorem rule_may_eq (x1 : Int) (x2 : Int) (x3 : Int) (x4 : Int) (x5 : Int) (x6 : Int) (x7 : Int) (x8 : Int) (x9 : Int) (x10 : Int) (x11 : Int) (x12 : Int) (h : Hp) (K : Value → Hp → Prop) : rule_may x1 x2 x3 x4 x5 x6 x7 x8 x9 x10 x11 x12 h K =
    codeWp Tryz.prog 12 rule_may_lp rule_may_cut (bodyOf Tryz.f57) 1 (endQ Tryz.prog Tryz.f57.results.toList K) (argTm [(.agg #[(.int .i64 x1), (.int .u32 x2), (.int .i64 x3), (.int .u32 x4), (.int .i64 x5), (.int .u16 x6), (.int .u16 x7), (.int .u16 x8), (.int .u16 x9), (.int .u8 x10), (.int .u8 x11), (.int .i64 x12)])]) h := by kernel_rfl
set_option maxRecDepth 100000 in
theorem rule_may_ok (x1 : Int) (x2 : Int) (x3 : Int) (x4 : Int) (x5 : Int) (x6 : Int) (x7 : Int) (x8 : Int) (x9 : Int) (x10 : Int) (x11 : Int) (x12 : Int) {h : Hp} {K : Value → Hp → Prop} (H : rule_may x1 x2 x3 x4 x5 x6 x7 x8 x9 x10 x11 x12 h K) : CallsH Tryz.prog 57 #[(.agg #[(.int .i64 x1), (.int .u32 x2), (.int .i64 x3), (.int .u32 x4), (.int .i64 x5), (.int .u16 x6), (.int .u16 x7), (.int .u16 x8), (.int .u16 x9), (.int .u8 x10), (.int .u8 x11), (.int .i64 x12)])] h K :=
  calls_of (args := [(.agg #[(.int .i64 x1), (.int .u32 x2), (.int .i64 x3), (.int .u32 x4), (.int .i64 x5), (.int .u16 x6), (.int .u16 x7), (.int .u16 x8), (.int .u16 x9), (.int .u8 x10), (.int .u8 x11), (.int .i64 x12)])]) (n := 12) (lp := rule_may_lp) (cut := rule_may_cut) Tryz.func57 (c := bodyOf Tryz.f57) (by kernel_rfl) (by kernel_rfl) (by kernel_rfl) (good_by (c := (bodyOf Tryz.f57)) (i := 1) (l := []) (by kernel_rfl) (fun _ h => by cases h))
    (Eq.mp (rule_may_eq x1 x2 x3 x4 x5 x6 x7 x8 x9 x10 x11 x12 h K) H)

/-! ### quintet/rule.Check: function 72 -/
def rule_Check_l3 (a89 : Addr) (x90 : Int) (x91 : Int) (x92 : Int) (x93 : Int) (x94 : Int) (K0 : Int → Int → Hp → Prop) (K1 : Addr → Hp → Prop)  : Nat → Int → Hp → Prop
  | 0, _, _ => False
  | k + 1, x95, h =>
    br (decide (x95 < 5))
    (∃ x100 : Int, PV Tryz.prog (Instr.index 141 (.agg #[(.int .i64 x90), (.int .i64 x91), (.int .i64 x92), (.int .i64 x93), (.int .i64 x94)]) (.int .i64 x95)) (.int .i64 x100) ∧
    br (x100 != 0)
    (K0 x100 (IntKind.i64.wrap (x95 + 2)) h)
    (rule_Check_l3 a89 x90 x91 x92 x93 x94 K0 K1 k (IntKind.i64.wrap (x95 + 1)) h))
    (K1 a89 h)
def rule_Check_l3_L (Q : Qx) (k : Nat) (tm : Tm) (h : Hp) : Prop :=
  selA (tm 1) fun a89 =>
  selAg (tm 29) fun m29_0 =>
  selC m29_0 fun u29_0 m29_1 =>
  selC m29_1 fun u29_1 m29_2 =>
  selC m29_2 fun u29_2 m29_3 =>
  selC m29_3 fun u29_3 m29_4 =>
  selC m29_4 fun u29_4 m29_5 =>
  selN m29_5
  (selI .i64 (some u29_0) fun x90 =>
  selI .i64 (some u29_1) fun x91 =>
  selI .i64 (some u29_2) fun x92 =>
  selI .i64 (some u29_3) fun x93 =>
  selI .i64 (some u29_4) fun x94 =>
  selI .i64 (tm 30) fun x95 =>
  rule_Check_l3 a89 x90 x91 x92 x93 x94 (fun (x97 : Int) (x98 : Int) h => Q (.ret) (mkTm [(2, some (.int .i64 x97)), (3, some (.int .i64 x98))]) h) (fun (a99 : Addr) h => Q (.exit 0) (mkTm [(1, some (.pointer (some a99)))]) h) k x95 h)
def rule_Check_j2 (K0 : Int → Int → Hp → Prop) (a17 : Addr) (h : Hp) : Prop :=
  ∃ x64 : Int, ∃ x65 : Int, HV Tryz.prog (Instr.loadAt 45 (.pointer (some (a17.add 1)))) h (.agg #[(.int .u32 x64), (.int .i64 x65)]) ∧ 
  CallsH Tryz.prog 74 #[(.agg #[(.int .u32 x64), (.int .i64 x65)])] h fun r67 h66 =>
  ∃ x68 : Int, r67 = (.int .i64 x68) ∧ 
  ∃ x69 : Int, ∃ x70 : Int, HV Tryz.prog (Instr.loadAt 45 (.pointer (some (a17.add 3)))) h66 (.agg #[(.int .u32 x69), (.int .i64 x70)]) ∧ HV Tryz.prog (Instr.loadAt 45 (.pointer (some (a17.add 3)))) h (.agg #[(.int .u32 x69), (.int .i64 x70)]) ∧ 
  CallsH Tryz.prog 74 #[(.agg #[(.int .u32 x69), (.int .i64 x70)])] h66 fun r72 h71 =>
  ∃ x73 : Int, r72 = (.int .i64 x73) ∧ 
  ∃ x74 : Int, ∃ x75 : Int, HV Tryz.prog (Instr.loadAt 48 (.pointer (some (a17.add 5)))) h71 (.agg #[(.int .u16 x74), (.int .u16 x75)]) ∧ HV Tryz.prog (Instr.loadAt 48 (.pointer (some (a17.add 5)))) h66 (.agg #[(.int .u16 x74), (.int .u16 x75)]) ∧ HV Tryz.prog (Instr.loadAt 48 (.pointer (some (a17.add 5)))) h (.agg #[(.int .u16 x74), (.int .u16 x75)]) ∧ 
  CallsH Tryz.prog 84 #[(.agg #[(.int .u16 x74), (.int .u16 x75)])] h71 fun r77 h76 =>
  ∃ x78 : Int, r77 = (.int .i64 x78) ∧ 
  ∃ x79 : Int, ∃ x80 : Int, HV Tryz.prog (Instr.loadAt 48 (.pointer (some (a17.add 7)))) h76 (.agg #[(.int .u16 x79), (.int .u16 x80)]) ∧ HV Tryz.prog (Instr.loadAt 48 (.pointer (some (a17.add 7)))) h71 (.agg #[(.int .u16 x79), (.int .u16 x80)]) ∧ HV Tryz.prog (Instr.loadAt 48 (.pointer (some (a17.add 7)))) h66 (.agg #[(.int .u16 x79), (.int .u16 x80)]) ∧ HV Tryz.prog (Instr.loadAt 48 (.pointer (some (a17.add 7)))) h (.agg #[(.int .u16 x79), (.int .u16 x80)]) ∧ 
  CallsH Tryz.prog 84 #[(.agg #[(.int .u16 x79), (.int .u16 x80)])] h76 fun r82 h81 =>
  ∃ x83 : Int, r82 = (.int .i64 x83) ∧ 
  ∃ x84 : Int, ∃ x85 : Int, HV Tryz.prog (Instr.loadAt 50 (.pointer (some (a17.add 9)))) h81 (.agg #[(.int .u8 x84), (.int .u8 x85)]) ∧ HV Tryz.prog (Instr.loadAt 50 (.pointer (some (a17.add 9)))) h76 (.agg #[(.int .u8 x84), (.int .u8 x85)]) ∧ HV Tryz.prog (Instr.loadAt 50 (.pointer (some (a17.add 9)))) h71 (.agg #[(.int .u8 x84), (.int .u8 x85)]) ∧ HV Tryz.prog (Instr.loadAt 50 (.pointer (some (a17.add 9)))) h66 (.agg #[(.int .u8 x84), (.int .u8 x85)]) ∧ HV Tryz.prog (Instr.loadAt 50 (.pointer (some (a17.add 9)))) h (.agg #[(.int .u8 x84), (.int .u8 x85)]) ∧ 
  CallsH Tryz.prog 85 #[(.agg #[(.int .u8 x84), (.int .u8 x85)])] h81 fun r87 h86 =>
  ∃ x88 : Int, r87 = (.int .i64 x88) ∧ 
  ∃ k107, rule_Check_l3 a17 x68 x73 x78 x83 x88
  (fun (x101 : Int) (x102 : Int) (h103 : Hp) =>
  K0 x101 x102 h103)
  (fun (a104 : Addr) (h105 : Hp) =>
  ∃ x106 : Int, HV Tryz.prog (Instr.loadAt 22 (.pointer (some (a104.add 11)))) h105 (.int .i64 x106) ∧ 
  br (x106 == 1)
  (K0 0 0 h105)
  (br (x106 == 2)
  (K0 0 0 h105)
  (br (x106 == 3)
  (K0 0 0 h105)
  (br (x106 == 4)
  (K0 0 0 h105)
  (K0 81 7 h105)))))
  k107 0 h86
def rule_Check_j2_L (Q : Qx) (tm : Tm) (h : Hp) : Prop :=
  selA (tm 1) fun a17 =>
  rule_Check_j2 (fun (x62 : Int) (x63 : Int) h => Q (.ret) (mkTm [(2, some (.int .i64 x62)), (3, some (.int .i64 x63))]) h) a17 h
def rule_Check (x1 : Int) (x2 : Int) (x3 : Int) (x4 : Int) (x5 : Int) (x6 : Int) (x7 : Int) (x8 : Int) (x9 : Int) (x10 : Int) (x11 : Int) (x12 : Int) (h : Hp) (K : Value → Hp → Prop) : Prop :=
  newC h (.cells #[(.int .i64 x1), (.int .u32 x2), (.int .i64 x3), (.int .u32 x4), (.int .i64 x5), (.int .u16 x6), (.int .u16 x7), (.int .u16 x8), (.int .u16 x9), (.int .u8 x10), (.int .u8 x11), (.int .i64 x12)] 52 (0, 0)) fun a14 h13 => 
  ∃ x108 : Int, HV Tryz.prog (Instr.loadAt 3 (.pointer (some a14))) h13 (.int .i64 x108) ∧ 
  br (decide (x108 < 1))
  (K (.tuple #[(.int .i64 80), (.int .i64 1)]) h13)
  (∃ x109 : Int, HV Tryz.prog (Instr.loadAt 3 (.pointer (some a14))) h13 (.int .i64 x109) ∧ 
  br (decide (x109 > 999999))
  (K (.tuple #[(.int .i64 80), (.int .i64 1)]) h13)
  (rule_Check_j2
  (fun (x110 : Int) (x111 : Int) (h112 : Hp) =>
  K (.tuple #[(.int .i64 x110), (.int .i64 x111)]) h112)
  a14 h13))
def rule_Check_lp (i : Nat) (Q : Qx) (tm : Tm) (h : Hp) : Prop := match Nat.beq i 58 with
  | true => ∃ k, rule_Check_l3_L Q k tm h
  | false => match Nat.beq i 3 with
  | true => rule_Check_j2_L Q tm h
  | false => False
def rule_Check_cut (i : Nat) : Option (List Nat) := match Nat.beq i 3 with
  | true => some [1]
  | false => none
set_option maxRecDepth 100000 in
theorem rule_Check_l3_step (Q : Qx) (k : Nat) (a89 : Addr) (x90 : Int) (x91 : Int) (x92 : Int) (x93 : Int) (x94 : Int) (x95 : Int) (h : Hp) : rule_Check_l3_L Q (k + 1) (mkTm [(1, some (.pointer (some a89))), (29, some (.agg #[(.int .i64 x90), (.int .i64 x91), (.int .i64 x92), (.int .i64 x93), (.int .i64 x94)])), (30, some (.int .i64 x95))]) h =
    codeWp Tryz.prog 47 rule_Check_lp rule_Check_cut (sub (bodyOf Tryz.f72) [true, true, false, true, false, false]) 116 (thenQ (fun tm h => rule_Check_l3_L Q k (mask [1, 29, 30] tm) h) (maskQ (fun e => match e with | .ret => [2, 3] | .exit 0 => [1] | _ => []) Q)) (mkTm [(1, some (.pointer (some a89))), (29, some (.agg #[(.int .i64 x90), (.int .i64 x91), (.int .i64 x92), (.int .i64 x93), (.int .i64 x94)])), (30, some (.int .i64 x95))]) h := by kernel_rfl
theorem rule_Check_l3_mask (Q : Qx) (k : Nat) (tm : Tm) (h : Hp) : rule_Check_l3_L Q k tm h ↔ rule_Check_l3_L Q k (mask [1, 29, 30] tm) h := Iff.rfl
set_option maxRecDepth 100000 in
theorem rule_Check_l3_snd : SndAt Tryz.prog 47 none (sub (bodyOf Tryz.f72) [true, true, false, true, false]) (rule_Check_lp 58) := by
  refine loop_sound (lp := rule_Check_lp) (cut := rule_Check_cut) (i := 58) (c := (sub (bodyOf Tryz.f72) [true, true, false, true, false, false])) [1, 29, 30] (fun e => match e with | .ret => [2, 3] | .exit 0 => [1] | _ => []) rule_Check_l3_L ?_ ?_ ?_
  · exact good_by (c := (sub (bodyOf Tryz.f72) [true, true, false, true, false, false])) (i := 116) (l := []) (by kernel_rfl) (fun _ h => by cases h)
  · intro Q tm h H
    obtain ⟨a89, e1, H⟩ := selA_ex H
    obtain ⟨m29_0, e29, H⟩ := selAg_ex H
    obtain ⟨u29_0, m29_1, f, G⟩ := selC_ex H
    clear H
    subst f
    have H := G
    clear G
    obtain ⟨u29_1, m29_2, f, G⟩ := selC_ex H
    clear H
    subst f
    have H := G
    clear G
    obtain ⟨u29_2, m29_3, f, G⟩ := selC_ex H
    clear H
    subst f
    have H := G
    clear G
    obtain ⟨u29_3, m29_4, f, G⟩ := selC_ex H
    clear H
    subst f
    have H := G
    clear G
    obtain ⟨u29_4, m29_5, f, G⟩ := selC_ex H
    clear H
    subst f
    have H := G
    clear G
    obtain ⟨f, G⟩ := selN_ex H
    clear H
    subst f
    have H := G
    clear G
    obtain ⟨x90, f, G⟩ := selI_ex H
    clear H
    have H := G
    clear G
    obtain rfl := Option.some.inj f
    obtain ⟨x91, f, G⟩ := selI_ex H
    clear H
    have H := G
    clear G
    obtain rfl := Option.some.inj f
    obtain ⟨x92, f, G⟩ := selI_ex H
    clear H
    have H := G
    clear G
    obtain rfl := Option.some.inj f
    obtain ⟨x93, f, G⟩ := selI_ex H
    clear H
    have H := G
    clear G
    obtain rfl := Option.some.inj f
    obtain ⟨x94, f, G⟩ := selI_ex H
    clear H
    have H := G
    clear G
    obtain rfl := Option.some.inj f
    obtain ⟨x95, e30, H⟩ := selI_ex H
    exact H
  · intro Q k tm h H
    have H0 := H
    obtain ⟨a89, e1, H⟩ := selA_ex H
    obtain ⟨m29_0, e29, H⟩ := selAg_ex H
    obtain ⟨u29_0, m29_1, f, G⟩ := selC_ex H
    clear H
    subst f
    have H := G
    clear G
    obtain ⟨u29_1, m29_2, f, G⟩ := selC_ex H
    clear H
    subst f
    have H := G
    clear G
    obtain ⟨u29_2, m29_3, f, G⟩ := selC_ex H
    clear H
    subst f
    have H := G
    clear G
    obtain ⟨u29_3, m29_4, f, G⟩ := selC_ex H
    clear H
    subst f
    have H := G
    clear G
    obtain ⟨u29_4, m29_5, f, G⟩ := selC_ex H
    clear H
    subst f
    have H := G
    clear G
    obtain ⟨f, G⟩ := selN_ex H
    clear H
    subst f
    have H := G
    clear G
    obtain ⟨x90, f, G⟩ := selI_ex H
    clear H
    have H := G
    clear G
    obtain rfl := Option.some.inj f
    obtain ⟨x91, f, G⟩ := selI_ex H
    clear H
    have H := G
    clear G
    obtain rfl := Option.some.inj f
    obtain ⟨x92, f, G⟩ := selI_ex H
    clear H
    have H := G
    clear G
    obtain rfl := Option.some.inj f
    obtain ⟨x93, f, G⟩ := selI_ex H
    clear H
    have H := G
    clear G
    obtain rfl := Option.some.inj f
    obtain ⟨x94, f, G⟩ := selI_ex H
    clear H
    have H := G
    clear G
    obtain rfl := Option.some.inj f
    obtain ⟨x95, e30, H⟩ := selI_ex H
    have e : mask [1, 29, 30] tm = mkTm [(1, some (.pointer (some a89))), (29, some (.agg #[(.int .i64 x90), (.int .i64 x91), (.int .i64 x92), (.int .i64 x93), (.int .i64 x94)])), (30, some (.int .i64 x95))] := by simp only [mask, List.map_cons, List.map_nil, e1, e29, e30] <;> rfl
    rw [e]
    refine Eq.mp (rule_Check_l3_step Q k a89 x90 x91 x92 x93 x94 x95 h) ?_
    rw [← e]
    exact (rule_Check_l3_mask Q (k + 1) tm h).mp H0
set_option maxRecDepth 100000 in
theorem rule_Check_j2_step (Q : Qx) (a17 : Addr) (h : Hp) : rule_Check_j2_L Q (mkTm [(1, some (.pointer (some a17)))]) h =
    codeWp Tryz.prog 47 rule_Check_lp rule_Check_cut (sub (bodyOf Tryz.f72) [true, true]) 7 (maskQ (fun e => match e with | .ret => [2, 3] | _ => []) Q) (mkTm [(1, some (.pointer (some a17)))]) h := by kernel_rfl
theorem rule_Check_j2_mask (Q : Qx) (tm : Tm) (h : Hp) : rule_Check_j2_L Q tm h ↔ rule_Check_j2_L Q (mask [1] tm) h := Iff.rfl
set_option maxRecDepth 100000 in
theorem rule_Check_j2_snd : SndAt Tryz.prog 47 none (sub (bodyOf Tryz.f72) [true, true]) (rule_Check_lp 3) := by
  refine join_sound (lp := rule_Check_lp) (cut := rule_Check_cut) (i := 3) (c := (sub (bodyOf Tryz.f72) [true, true])) [1] (fun e => match e with | .ret => [2, 3] | _ => []) rule_Check_j2_L ?_ ?_
  · exact good_by (c := (sub (bodyOf Tryz.f72) [true, true])) (i := 7) (l := [(58, (sub (bodyOf Tryz.f72) [true, true, false, true, false]))]) (by kernel_rfl) (List.forall_mem_cons.2 ⟨rule_Check_l3_snd, (fun _ h => by cases h)⟩)
  · intro Q tm h H
    have H0 := H
    obtain ⟨a17, e1, H⟩ := selA_ex H
    have e : mask [1] tm = mkTm [(1, some (.pointer (some a17)))] := by simp only [mask, List.map_cons, List.map_nil, e1] <;> rfl
    rw [e]
    refine Eq.mp (rule_Check_j2_step Q a17 h) ?_
    rw [← e]
    exact (rule_Check_j2_mask Q tm h).mp H0
set_option maxRecDepth 100000 in
theorem rule_Check_eq (x1 : Int) (x2 : Int) (x3 : Int) (x4 : Int) (x5 : Int) (x6 : Int) (x7 : Int) (x8 : Int) (x9 : Int) (x10 : Int) (x11 : Int) (x12 : Int) (h : Hp) (K : Value → Hp → Prop) : rule_Check x1 x2 x3 x4 x5 x6 x7 x8 x9 x10 x11 x12 h K =
    codeWp Tryz.prog 47 rule_Check_lp rule_Check_cut (bodyOf Tryz.f72) 1 (endQ Tryz.prog Tryz.f72.results.toList K) (argTm [(.agg #[(.int .i64 x1), (.int .u32 x2), (.int .i64 x3), (.int .u32 x4), (.int .i64 x5), (.int .u16 x6), (.int .u16 x7), (.int .u16 x8), (.int .u16 x9), (.int .u8 x10), (.int .u8 x11), (.int .i64 x12)])]) h := by kernel_rfl
set_option maxRecDepth 100000 in
theorem rule_Check_ok (x1 : Int) (x2 : Int) (x3 : Int) (x4 : Int) (x5 : Int) (x6 : Int) (x7 : Int) (x8 : Int) (x9 : Int) (x10 : Int) (x11 : Int) (x12 : Int) {h : Hp} {K : Value → Hp → Prop} (H : rule_Check x1 x2 x3 x4 x5 x6 x7 x8 x9 x10 x11 x12 h K) : CallsH Tryz.prog 72 #[(.agg #[(.int .i64 x1), (.int .u32 x2), (.int .i64 x3), (.int .u32 x4), (.int .i64 x5), (.int .u16 x6), (.int .u16 x7), (.int .u16 x8), (.int .u16 x9), (.int .u8 x10), (.int .u8 x11), (.int .i64 x12)])] h K :=
  calls_of (args := [(.agg #[(.int .i64 x1), (.int .u32 x2), (.int .i64 x3), (.int .u32 x4), (.int .i64 x5), (.int .u16 x6), (.int .u16 x7), (.int .u16 x8), (.int .u16 x9), (.int .u8 x10), (.int .u8 x11), (.int .i64 x12)])]) (n := 47) (lp := rule_Check_lp) (cut := rule_Check_cut) Tryz.func72 (c := bodyOf Tryz.f72) (by kernel_rfl) (by kernel_rfl) (by kernel_rfl) (good_by (c := (bodyOf Tryz.f72)) (i := 1) (l := [(3, (sub (bodyOf Tryz.f72) [true, true]))]) (by kernel_rfl) (List.forall_mem_cons.2 ⟨rule_Check_j2_snd, (fun _ h => by cases h)⟩))
    (Eq.mp (rule_Check_eq x1 x2 x3 x4 x5 x6 x7 x8 x9 x10 x11 x12 h K) H)

/-! ### quintet/prefix.Has: function 58 -/
def prefix_Has (x1 : Int) (x2 : Int) (x3 : Int) (h : Hp) (K : Value → Hp → Prop) : Prop :=
  newC h (.cells #[(.int .u32 x1), (.int .i64 x2)] 45 (0, 0)) fun a5 h4 => 
  ∃ x6 : Int, ∃ x7 : Int, HV Tryz.prog (Instr.loadAt 45 (.pointer (some a5))) h4 (.agg #[(.int .u32 x6), (.int .i64 x7)]) ∧ 
  CallsH Tryz.prog 74 #[(.agg #[(.int .u32 x6), (.int .i64 x7)])] h4 fun r9 h8 =>
  ∃ x10 : Int, r9 = (.int .i64 x10) ∧ 
  br (x10 == 0)
  (∃ x11 : Int, HV Tryz.prog (Instr.loadAt 3 (.pointer (some (a5.add 1)))) h8 (.int .i64 x11) ∧ 
  CallsH Tryz.prog 75 #[(.int .i64 x11)] h8 fun r13 h12 =>
  ∃ x14 : Int, r13 = (.int .u32 x14) ∧ 
  ∃ x15 : Int, HV Tryz.prog (Instr.loadAt 43 (.pointer (some a5))) h12 (.int .u32 x15) ∧ HV Tryz.prog (Instr.loadAt 43 (.pointer (some a5))) h8 (.int .u32 x15) ∧ 
  K (.bool ((bAnd .u32 x3 x14) == x15)) h12)
  (K (.bool false) h8)
def prefix_Has_lp (i : Nat) (Q : Qx) (tm : Tm) (h : Hp) : Prop := False
def prefix_Has_cut (i : Nat) : Option (List Nat) := none
set_option maxRecDepth 100000 in
theorem prefix_Has_eq (x1 : Int) (x2 : Int) (x3 : Int) (h : Hp) (K : Value → Hp → Prop) : prefix_Has x1 x2 x3 h K =
    codeWp Tryz.prog 18 prefix_Has_lp prefix_Has_cut (bodyOf Tryz.f58) 1 (endQ Tryz.prog Tryz.f58.results.toList K) (argTm [(.agg #[(.int .u32 x1), (.int .i64 x2)]), (.int .u32 x3)]) h := by kernel_rfl
set_option maxRecDepth 100000 in
theorem prefix_Has_ok (x1 : Int) (x2 : Int) (x3 : Int) {h : Hp} {K : Value → Hp → Prop} (H : prefix_Has x1 x2 x3 h K) : CallsH Tryz.prog 58 #[(.agg #[(.int .u32 x1), (.int .i64 x2)]), (.int .u32 x3)] h K :=
  calls_of (args := [(.agg #[(.int .u32 x1), (.int .i64 x2)]), (.int .u32 x3)]) (n := 18) (lp := prefix_Has_lp) (cut := prefix_Has_cut) Tryz.func58 (c := bodyOf Tryz.f58) (by kernel_rfl) (by kernel_rfl) (by kernel_rfl) (good_by (c := (bodyOf Tryz.f58)) (i := 1) (l := []) (by kernel_rfl) (fun _ h => by cases h))
    (Eq.mp (prefix_Has_eq x1 x2 x3 h K) H)

/-! ### quintet/prefix.Within: function 61 -/
def prefix_Within (x1 : Int) (x2 : Int) (x3 : Int) (x4 : Int) (h : Hp) (K : Value → Hp → Prop) : Prop :=
  newC h (.cells #[(.int .u32 x1), (.int .i64 x2)] 45 (0, 0)) fun a6 h5 => 
  newC h5 (.cells #[(.int .u32 x3), (.int .i64 x4)] 45 (0, 0)) fun a8 h7 => 
  ∃ x9 : Int, ∃ x10 : Int, HV Tryz.prog (Instr.loadAt 45 (.pointer (some a6))) h7 (.agg #[(.int .u32 x9), (.int .i64 x10)]) ∧ 
  CallsH Tryz.prog 74 #[(.agg #[(.int .u32 x9), (.int .i64 x10)])] h7 fun r12 h11 =>
  ∃ x13 : Int, r12 = (.int .i64 x13) ∧ 
  br (x13 == 0)
  (∃ x14 : Int, HV Tryz.prog (Instr.loadAt 3 (.pointer (some (a8.add 1)))) h11 (.int .i64 x14) ∧ 
  ∃ x15 : Int, HV Tryz.prog (Instr.loadAt 3 (.pointer (some (a6.add 1)))) h11 (.int .i64 x15) ∧ 
  br (decide (x14 ≤ x15))
  (∃ x16 : Int, ∃ x17 : Int, HV Tryz.prog (Instr.loadAt 45 (.pointer (some a8))) h11 (.agg #[(.int .u32 x16), (.int .i64 x17)]) ∧ 
  ∃ x18 : Int, HV Tryz.prog (Instr.loadAt 43 (.pointer (some a6))) h11 (.int .u32 x18) ∧ 
  CallsH Tryz.prog 58 #[(.agg #[(.int .u32 x16), (.int .i64 x17)]), (.int .u32 x18)] h11 fun r20 h19 =>
  ∃ b21 : Bool, r20 = (.bool b21) ∧ 
  K (.bool b21) h19)
  (K (.bool false) h11))
  (K (.bool false) h11)
def prefix_Within_lp (i : Nat) (Q : Qx) (tm : Tm) (h : Hp) : Prop := False
def prefix_Within_cut (i : Nat) : Option (List Nat) := none
set_option maxRecDepth 100000 in
theorem prefix_Within_eq (x1 : Int) (x2 : Int) (x3 : Int) (x4 : Int) (h : Hp) (K : Value → Hp → Prop) : prefix_Within x1 x2 x3 x4 h K =
    codeWp Tryz.prog 21 prefix_Within_lp prefix_Within_cut (bodyOf Tryz.f61) 1 (endQ Tryz.prog Tryz.f61.results.toList K) (argTm [(.agg #[(.int .u32 x1), (.int .i64 x2)]), (.agg #[(.int .u32 x3), (.int .i64 x4)])]) h := by kernel_rfl
set_option maxRecDepth 100000 in
theorem prefix_Within_ok (x1 : Int) (x2 : Int) (x3 : Int) (x4 : Int) {h : Hp} {K : Value → Hp → Prop} (H : prefix_Within x1 x2 x3 x4 h K) : CallsH Tryz.prog 61 #[(.agg #[(.int .u32 x1), (.int .i64 x2)]), (.agg #[(.int .u32 x3), (.int .i64 x4)])] h K :=
  calls_of (args := [(.agg #[(.int .u32 x1), (.int .i64 x2)]), (.agg #[(.int .u32 x3), (.int .i64 x4)])]) (n := 21) (lp := prefix_Within_lp) (cut := prefix_Within_cut) Tryz.func61 (c := bodyOf Tryz.f61) (by kernel_rfl) (by kernel_rfl) (by kernel_rfl) (good_by (c := (bodyOf Tryz.f61)) (i := 1) (l := []) (by kernel_rfl) (fun _ h => by cases h))
    (Eq.mp (prefix_Within_eq x1 x2 x3 x4 h K) H)

/-! ### quintet/prefix.Check: function 74 -/
def prefix_Check (x1 : Int) (x2 : Int) (h : Hp) (K : Value → Hp → Prop) : Prop :=
  newC h (.cells #[(.int .u32 x1), (.int .i64 x2)] 45 (0, 0)) fun a4 h3 => 
  ∃ x5 : Int, HV Tryz.prog (Instr.loadAt 3 (.pointer (some (a4.add 1)))) h3 (.int .i64 x5) ∧ 
  br (decide (x5 < 0))
  (K (.int .i64 20) h3)
  (∃ x6 : Int, HV Tryz.prog (Instr.loadAt 3 (.pointer (some (a4.add 1)))) h3 (.int .i64 x6) ∧ 
  br (decide (x6 > 32))
  (K (.int .i64 20) h3)
  (∃ x7 : Int, HV Tryz.prog (Instr.loadAt 43 (.pointer (some a4))) h3 (.int .u32 x7) ∧ 
  ∃ x8 : Int, HV Tryz.prog (Instr.loadAt 3 (.pointer (some (a4.add 1)))) h3 (.int .i64 x8) ∧ 
  CallsH Tryz.prog 75 #[(.int .i64 x8)] h3 fun r10 h9 =>
  ∃ x11 : Int, r10 = (.int .u32 x11) ∧ HV Tryz.prog (Instr.loadAt 43 (.pointer (some a4))) h9 (.int .u32 x7) ∧ 
  br ((bAndNot .u32 x7 x11) != 0)
  (K (.int .i64 21) h9)
  (K (.int .i64 0) h9)))
def prefix_Check_lp (i : Nat) (Q : Qx) (tm : Tm) (h : Hp) : Prop := False
def prefix_Check_cut (i : Nat) : Option (List Nat) := none
set_option maxRecDepth 100000 in
theorem prefix_Check_eq (x1 : Int) (x2 : Int) (h : Hp) (K : Value → Hp → Prop) : prefix_Check x1 x2 h K =
    codeWp Tryz.prog 20 prefix_Check_lp prefix_Check_cut (bodyOf Tryz.f74) 1 (endQ Tryz.prog Tryz.f74.results.toList K) (argTm [(.agg #[(.int .u32 x1), (.int .i64 x2)])]) h := by kernel_rfl
set_option maxRecDepth 100000 in
theorem prefix_Check_ok (x1 : Int) (x2 : Int) {h : Hp} {K : Value → Hp → Prop} (H : prefix_Check x1 x2 h K) : CallsH Tryz.prog 74 #[(.agg #[(.int .u32 x1), (.int .i64 x2)])] h K :=
  calls_of (args := [(.agg #[(.int .u32 x1), (.int .i64 x2)])]) (n := 20) (lp := prefix_Check_lp) (cut := prefix_Check_cut) Tryz.func74 (c := bodyOf Tryz.f74) (by kernel_rfl) (by kernel_rfl) (by kernel_rfl) (good_by (c := (bodyOf Tryz.f74)) (i := 1) (l := []) (by kernel_rfl) (fun _ h => by cases h))
    (Eq.mp (prefix_Check_eq x1 x2 h K) H)

/-! ### quintet/prefix.care: function 75 -/
def prefix_care (x1 : Int) (h : Hp) (K : Value → Hp → Prop) : Prop :=
  ∃ x2 : Int, PV Tryz.prog (binOp .shl 43 (.int .u32 4294967295) (.int .i64 (IntKind.i64.wrap (32 - x1)))) (.int .u32 x2) ∧
  K (.int .u32 x2) h
def prefix_care_lp (i : Nat) (Q : Qx) (tm : Tm) (h : Hp) : Prop := False
def prefix_care_cut (i : Nat) : Option (List Nat) := none
set_option maxRecDepth 100000 in
theorem prefix_care_eq (x1 : Int) (h : Hp) (K : Value → Hp → Prop) : prefix_care x1 h K =
    codeWp Tryz.prog 6 prefix_care_lp prefix_care_cut (bodyOf Tryz.f75) 1 (endQ Tryz.prog Tryz.f75.results.toList K) (argTm [(.int .i64 x1)]) h := by kernel_rfl
set_option maxRecDepth 100000 in
theorem prefix_care_ok (x1 : Int) {h : Hp} {K : Value → Hp → Prop} (H : prefix_care x1 h K) : CallsH Tryz.prog 75 #[(.int .i64 x1)] h K :=
  calls_of (args := [(.int .i64 x1)]) (n := 6) (lp := prefix_care_lp) (cut := prefix_care_cut) Tryz.func75 (c := bodyOf Tryz.f75) (by kernel_rfl) (by kernel_rfl) (by kernel_rfl) (good_by (c := (bodyOf Tryz.f75)) (i := 1) (l := []) (by kernel_rfl) (fun _ h => by cases h))
    (Eq.mp (prefix_care_eq x1 h K) H)

/-! ### quintet/prefix.Compare: function 89 -/
def prefix_Compare (x1 : Int) (x2 : Int) (x3 : Int) (x4 : Int) (h : Hp) (K : Value → Hp → Prop) : Prop :=
  newC h (.cells #[(.int .u32 x1), (.int .i64 x2)] 45 (0, 0)) fun a6 h5 => 
  newC h5 (.cells #[(.int .u32 x3), (.int .i64 x4)] 45 (0, 0)) fun a8 h7 => 
  ∃ x9 : Int, HV Tryz.prog (Instr.loadAt 43 (.pointer (some a6))) h7 (.int .u32 x9) ∧ 
  ∃ x10 : Int, HV Tryz.prog (Instr.loadAt 43 (.pointer (some a8))) h7 (.int .u32 x10) ∧ 
  CallsH Tryz.prog 95 #[(.int .u32 x9), (.int .u32 x10)] h7 fun r12 h11 =>
  ∃ x13 : Int, r12 = (.int .i64 x13) ∧ 
  ∃ x14 : Int, HV Tryz.prog (Instr.loadAt 3 (.pointer (some (a6.add 1)))) h11 (.int .i64 x14) ∧ HV Tryz.prog (Instr.loadAt 3 (.pointer (some (a6.add 1)))) h7 (.int .i64 x14) ∧ 
  ∃ x15 : Int, HV Tryz.prog (Instr.loadAt 3 (.pointer (some (a8.add 1)))) h11 (.int .i64 x15) ∧ HV Tryz.prog (Instr.loadAt 3 (.pointer (some (a8.add 1)))) h7 (.int .i64 x15) ∧ 
  CallsH Tryz.prog 96 #[(.int .i64 x14), (.int .i64 x15)] h11 fun r17 h16 =>
  ∃ x18 : Int, r17 = (.int .i64 x18) ∧ 
  newC h16 (.cells #[(.int .i64 x13), (.int .i64 x18)] 3 (0, 0)) fun a20 h19 => 
  CallsH Tryz.prog 94 #[(.slice (some a20) 2 2)] h19 fun r22 h21 =>
  ∃ x23 : Int, r22 = (.int .i64 x23) ∧ 
  K (.int .i64 x23) h21
def prefix_Compare_lp (i : Nat) (Q : Qx) (tm : Tm) (h : Hp) : Prop := False
def prefix_Compare_cut (i : Nat) : Option (List Nat) := none
set_option maxRecDepth 100000 in
theorem prefix_Compare_eq (x1 : Int) (x2 : Int) (x3 : Int) (x4 : Int) (h : Hp) (K : Value → Hp → Prop) : prefix_Compare x1 x2 x3 x4 h K =
    codeWp Tryz.prog 17 prefix_Compare_lp prefix_Compare_cut (bodyOf Tryz.f89) 1 (endQ Tryz.prog Tryz.f89.results.toList K) (argTm [(.agg #[(.int .u32 x1), (.int .i64 x2)]), (.agg #[(.int .u32 x3), (.int .i64 x4)])]) h := by kernel_rfl
set_option maxRecDepth 100000 in
theorem prefix_Compare_ok (x1 : Int) (x2 : Int) (x3 : Int) (x4 : Int) {h : Hp} {K : Value → Hp → Prop} (H : prefix_Compare x1 x2 x3 x4 h K) : CallsH Tryz.prog 89 #[(.agg #[(.int .u32 x1), (.int .i64 x2)]), (.agg #[(.int .u32 x3), (.int .i64 x4)])] h K :=
  calls_of (args := [(.agg #[(.int .u32 x1), (.int .i64 x2)]), (.agg #[(.int .u32 x3), (.int .i64 x4)])]) (n := 17) (lp := prefix_Compare_lp) (cut := prefix_Compare_cut) Tryz.func89 (c := bodyOf Tryz.f89) (by kernel_rfl) (by kernel_rfl) (by kernel_rfl) (good_by (c := (bodyOf Tryz.f89)) (i := 1) (l := []) (by kernel_rfl) (fun _ h => by cases h))
    (Eq.mp (prefix_Compare_eq x1 x2 x3 x4 h K) H)

/-! ### quintet/span.Has: function 59 -/
def span_Has (x1 : Int) (x2 : Int) (x3 : Int) (h : Hp) (K : Value → Hp → Prop) : Prop :=
  newC h (.cells #[(.int .u16 x1), (.int .u16 x2)] 48 (0, 0)) fun a5 h4 => 
  ∃ x6 : Int, HV Tryz.prog (Instr.loadAt 46 (.pointer (some a5))) h4 (.int .u16 x6) ∧ 
  br (decide (x3 ≥ x6))
  (∃ x7 : Int, HV Tryz.prog (Instr.loadAt 46 (.pointer (some (a5.add 1)))) h4 (.int .u16 x7) ∧ 
  K (.bool (decide (x3 ≤ x7))) h4)
  (K (.bool false) h4)
def span_Has_lp (i : Nat) (Q : Qx) (tm : Tm) (h : Hp) : Prop := False
def span_Has_cut (i : Nat) : Option (List Nat) := none
set_option maxRecDepth 100000 in
theorem span_Has_eq (x1 : Int) (x2 : Int) (x3 : Int) (h : Hp) (K : Value → Hp → Prop) : span_Has x1 x2 x3 h K =
    codeWp Tryz.prog 15 span_Has_lp span_Has_cut (bodyOf Tryz.f59) 1 (endQ Tryz.prog Tryz.f59.results.toList K) (argTm [(.agg #[(.int .u16 x1), (.int .u16 x2)]), (.int .u16 x3)]) h := by kernel_rfl
set_option maxRecDepth 100000 in
theorem span_Has_ok (x1 : Int) (x2 : Int) (x3 : Int) {h : Hp} {K : Value → Hp → Prop} (H : span_Has x1 x2 x3 h K) : CallsH Tryz.prog 59 #[(.agg #[(.int .u16 x1), (.int .u16 x2)]), (.int .u16 x3)] h K :=
  calls_of (args := [(.agg #[(.int .u16 x1), (.int .u16 x2)]), (.int .u16 x3)]) (n := 15) (lp := span_Has_lp) (cut := span_Has_cut) Tryz.func59 (c := bodyOf Tryz.f59) (by kernel_rfl) (by kernel_rfl) (by kernel_rfl) (good_by (c := (bodyOf Tryz.f59)) (i := 1) (l := []) (by kernel_rfl) (fun _ h => by cases h))
    (Eq.mp (span_Has_eq x1 x2 x3 h K) H)

/-! ### quintet/span.Check: function 84 -/
def span_Check (x1 : Int) (x2 : Int) (h : Hp) (K : Value → Hp → Prop) : Prop :=
  newC h (.cells #[(.int .u16 x1), (.int .u16 x2)] 48 (0, 0)) fun a4 h3 => 
  ∃ x5 : Int, HV Tryz.prog (Instr.loadAt 46 (.pointer (some a4))) h3 (.int .u16 x5) ∧ 
  ∃ x6 : Int, HV Tryz.prog (Instr.loadAt 46 (.pointer (some (a4.add 1)))) h3 (.int .u16 x6) ∧ 
  br (decide (x5 > x6))
  (K (.int .i64 30) h3)
  (K (.int .i64 0) h3)
def span_Check_lp (i : Nat) (Q : Qx) (tm : Tm) (h : Hp) : Prop := False
def span_Check_cut (i : Nat) : Option (List Nat) := none
set_option maxRecDepth 100000 in
theorem span_Check_eq (x1 : Int) (x2 : Int) (h : Hp) (K : Value → Hp → Prop) : span_Check x1 x2 h K =
    codeWp Tryz.prog 8 span_Check_lp span_Check_cut (bodyOf Tryz.f84) 1 (endQ Tryz.prog Tryz.f84.results.toList K) (argTm [(.agg #[(.int .u16 x1), (.int .u16 x2)])]) h := by kernel_rfl
set_option maxRecDepth 100000 in
theorem span_Check_ok (x1 : Int) (x2 : Int) {h : Hp} {K : Value → Hp → Prop} (H : span_Check x1 x2 h K) : CallsH Tryz.prog 84 #[(.agg #[(.int .u16 x1), (.int .u16 x2)])] h K :=
  calls_of (args := [(.agg #[(.int .u16 x1), (.int .u16 x2)])]) (n := 8) (lp := span_Check_lp) (cut := span_Check_cut) Tryz.func84 (c := bodyOf Tryz.f84) (by kernel_rfl) (by kernel_rfl) (by kernel_rfl) (good_by (c := (bodyOf Tryz.f84)) (i := 1) (l := []) (by kernel_rfl) (fun _ h => by cases h))
    (Eq.mp (span_Check_eq x1 x2 h K) H)

/-! ### quintet/mask.Has: function 60 -/
def mask_Has (x1 : Int) (x2 : Int) (x3 : Int) (h : Hp) (K : Value → Hp → Prop) : Prop :=
  newC h (.cells #[(.int .u8 x1), (.int .u8 x2)] 50 (0, 0)) fun a5 h4 => 
  ∃ x6 : Int, HV Tryz.prog (Instr.loadAt 5 (.pointer (some (a5.add 1)))) h4 (.int .u8 x6) ∧ 
  ∃ x7 : Int, HV Tryz.prog (Instr.loadAt 5 (.pointer (some a5))) h4 (.int .u8 x7) ∧ 
  K (.bool ((bAnd .u8 x3 x6) == x7)) h4
def mask_Has_lp (i : Nat) (Q : Qx) (tm : Tm) (h : Hp) : Prop := False
def mask_Has_cut (i : Nat) : Option (List Nat) := none
set_option maxRecDepth 100000 in
theorem mask_Has_eq (x1 : Int) (x2 : Int) (x3 : Int) (h : Hp) (K : Value → Hp → Prop) : mask_Has x1 x2 x3 h K =
    codeWp Tryz.prog 12 mask_Has_lp mask_Has_cut (bodyOf Tryz.f60) 1 (endQ Tryz.prog Tryz.f60.results.toList K) (argTm [(.agg #[(.int .u8 x1), (.int .u8 x2)]), (.int .u8 x3)]) h := by kernel_rfl
set_option maxRecDepth 100000 in
theorem mask_Has_ok (x1 : Int) (x2 : Int) (x3 : Int) {h : Hp} {K : Value → Hp → Prop} (H : mask_Has x1 x2 x3 h K) : CallsH Tryz.prog 60 #[(.agg #[(.int .u8 x1), (.int .u8 x2)]), (.int .u8 x3)] h K :=
  calls_of (args := [(.agg #[(.int .u8 x1), (.int .u8 x2)]), (.int .u8 x3)]) (n := 12) (lp := mask_Has_lp) (cut := mask_Has_cut) Tryz.func60 (c := bodyOf Tryz.f60) (by kernel_rfl) (by kernel_rfl) (by kernel_rfl) (good_by (c := (bodyOf Tryz.f60)) (i := 1) (l := []) (by kernel_rfl) (fun _ h => by cases h))
    (Eq.mp (mask_Has_eq x1 x2 x3 h K) H)

/-! ### quintet/mask.Check: function 85 -/
def mask_Check (x1 : Int) (x2 : Int) (h : Hp) (K : Value → Hp → Prop) : Prop :=
  newC h (.cells #[(.int .u8 x1), (.int .u8 x2)] 50 (0, 0)) fun a4 h3 => 
  ∃ x5 : Int, HV Tryz.prog (Instr.loadAt 5 (.pointer (some a4))) h3 (.int .u8 x5) ∧ 
  ∃ x6 : Int, HV Tryz.prog (Instr.loadAt 5 (.pointer (some (a4.add 1)))) h3 (.int .u8 x6) ∧ 
  br ((bAndNot .u8 x5 x6) != 0)
  (K (.int .i64 40) h3)
  (K (.int .i64 0) h3)
def mask_Check_lp (i : Nat) (Q : Qx) (tm : Tm) (h : Hp) : Prop := False
def mask_Check_cut (i : Nat) : Option (List Nat) := none
set_option maxRecDepth 100000 in
theorem mask_Check_eq (x1 : Int) (x2 : Int) (h : Hp) (K : Value → Hp → Prop) : mask_Check x1 x2 h K =
    codeWp Tryz.prog 9 mask_Check_lp mask_Check_cut (bodyOf Tryz.f85) 1 (endQ Tryz.prog Tryz.f85.results.toList K) (argTm [(.agg #[(.int .u8 x1), (.int .u8 x2)])]) h := by kernel_rfl
set_option maxRecDepth 100000 in
theorem mask_Check_ok (x1 : Int) (x2 : Int) {h : Hp} {K : Value → Hp → Prop} (H : mask_Check x1 x2 h K) : CallsH Tryz.prog 85 #[(.agg #[(.int .u8 x1), (.int .u8 x2)])] h K :=
  calls_of (args := [(.agg #[(.int .u8 x1), (.int .u8 x2)])]) (n := 9) (lp := mask_Check_lp) (cut := mask_Check_cut) Tryz.func85 (c := bodyOf Tryz.f85) (by kernel_rfl) (by kernel_rfl) (by kernel_rfl) (good_by (c := (bodyOf Tryz.f85)) (i := 1) (l := []) (by kernel_rfl) (fun _ h => by cases h))
    (Eq.mp (mask_Check_eq x1 x2 h K) H)

/-! ### quintet/nest.Prune: function 71 -/
def nest_Prune_l7 (A338 : Option Addr) (l338 : Nat) (c338 : Nat) (A340 : Option Addr) (l340 : Nat) (c340 : Nat) (a341 : Addr) (A342 : Option Addr) (l342 : Nat) (c342 : Nat) (x343 : Int) (x344 : Int) (A345 : Option Addr) (l345 : Nat) (c345 : Nat) (x346 : Int) (x347 : Int) (A348 : Option Addr) (l348 : Nat) (c348 : Nat) (x349 : Int) (K0 : (Option Addr) → Nat → Nat → Int → (Option Addr) → Nat → Nat → (Option Addr) → Nat → Nat → Int → Int → (Option Addr) → Nat → Nat → Int → Int → Hp → Prop)  : Nat → Int → Int → Hp → Prop
  | 0, _, _, _ => False
  | k + 1, x339, x350, h =>
    br (decide (x350 < x349))
    (∃ a383 : Addr, PV Tryz.prog (Instr.indexAt 42 (.slice A348 l348 c348) (.int .i64 x350)) (.pointer (some a383)) ∧
    ∃ x384 : Int, ∃ x385 : Int, ∃ x386 : Int, ∃ x387 : Int, ∃ x388 : Int, ∃ x389 : Int, ∃ x390 : Int, ∃ x391 : Int, ∃ x392 : Int, ∃ x393 : Int, ∃ x394 : Int, ∃ x395 : Int, HV Tryz.prog (Instr.loadAt 52 (.pointer (some a383))) h (.agg #[(.int .i64 x384), (.int .u32 x385), (.int .i64 x386), (.int .u32 x387), (.int .i64 x388), (.int .u16 x389), (.int .u16 x390), (.int .u16 x391), (.int .u16 x392), (.int .u8 x393), (.int .u8 x394), (.int .i64 x395)]) ∧ 
    newC h (.cells #[(.int .i64 0), (.int .u32 0), (.int .i64 0), (.int .u32 0), (.int .i64 0), (.int .u16 0), (.int .u16 0), (.int .u16 0), (.int .u16 0), (.int .u8 0), (.int .u8 0), (.int .i64 0)] 52 (0, 0)) fun a397 h396 => 
    HU Tryz.prog (Instr.storeAt 52 (.pointer (some a397)) (.agg #[(.int .i64 x384), (.int .u32 x385), (.int .i64 x386), (.int .u32 x387), (.int .i64 x388), (.int .u16 x389), (.int .u16 x390), (.int .u16 x391), (.int .u16 x392), (.int .u8 x393), (.int .u8 x394), (.int .i64 x395)])) h396 fun h398 => 
    ∃ x399 : Int, ∃ x400 : Int, HV Tryz.prog (Instr.loadAt 45 (.pointer (some a341))) h398 (.agg #[(.int .u32 x399), (.int .i64 x400)]) ∧ 
    ∃ x401 : Int, ∃ x402 : Int, HV Tryz.prog (Instr.loadAt 45 (.pointer (some (a397.add 3)))) h398 (.agg #[(.int .u32 x401), (.int .i64 x402)]) ∧ 
    CallsH Tryz.prog 61 #[(.agg #[(.int .u32 x399), (.int .i64 x400)]), (.agg #[(.int .u32 x401), (.int .i64 x402)])] h398 fun r404 h403 =>
    ∃ b405 : Bool, r404 = (.bool b405) ∧ 
    br b405
    (nest_Prune_l7 A338 l338 c338 A340 l340 c340 a341 A342 l342 c342 x343 x344 A345 l345 c345 x346 x347 A348 l348 c348 x349 K0 k (IntKind.i64.wrap (x339 + 1)) (IntKind.i64.wrap (x350 + 1)) h403)
    (nest_Prune_l7 A338 l338 c338 A340 l340 c340 a341 A342 l342 c342 x343 x344 A345 l345 c345 x346 x347 A348 l348 c348 x349 K0 k x339 (IntKind.i64.wrap (x350 + 1)) h403))
    (K0 A338 l338 c338 x339 A340 l340 c340 A342 l342 c342 x343 x344 A345 l345 c345 x346 x347 h)
def nest_Prune_l7_L (Q : Qx) (k : Nat) (tm : Tm) (h : Hp) : Prop :=
  selS (tm 0) fun A338 l338 c338 =>
  selI .i64 (tm 5) fun x339 =>
  selS (tm 8) fun A340 l340 c340 =>
  selA (tm 10) fun a341 =>
  selS (tm 19) fun A342 l342 c342 =>
  selI .i64 (tm 20) fun x343 =>
  selI .i64 (tm 21) fun x344 =>
  selS (tm 29) fun A345 l345 c345 =>
  selI .i64 (tm 30) fun x346 =>
  selI .i64 (tm 31) fun x347 =>
  selS (tm 35) fun A348 l348 c348 =>
  selI .i64 (tm 36) fun x349 =>
  selI .i64 (tm 37) fun x350 =>
  nest_Prune_l7 A338 l338 c338 A340 l340 c340 a341 A342 l342 c342 x343 x344 A345 l345 c345 x346 x347 A348 l348 c348 x349 (fun (A374 : Option Addr) (l374 : Nat) (c374 : Nat) (x375 : Int) (A376 : Option Addr) (l376 : Nat) (c376 : Nat) (A377 : Option Addr) (l377 : Nat) (c377 : Nat) (x378 : Int) (x379 : Int) (A380 : Option Addr) (l380 : Nat) (c380 : Nat) (x381 : Int) (x382 : Int) h => Q (.exit 4) (mkTm [(0, some (.slice A374 l374 c374)), (5, some (.int .i64 x375)), (8, some (.slice A376 l376 c376)), (19, some (.slice A377 l377 c377)), (20, some (.int .i64 x378)), (21, some (.int .i64 x379)), (29, some (.slice A380 l380 c380)), (30, some (.int .i64 x381)), (31, some (.int .i64 x382))]) h) k x339 x350 h
def nest_Prune_l6 (A233 : Option Addr) (l233 : Nat) (c233 : Nat) (A235 : Option Addr) (l235 : Nat) (c235 : Nat) (A236 : Option Addr) (l236 : Nat) (c236 : Nat) (x237 : Int) (x238 : Int) (A239 : Option Addr) (l239 : Nat) (c239 : Nat) (x240 : Int) (K0 : (Option Addr) → Nat → Nat → Int → (Option Addr) → Nat → Nat → Int → Int → Hp → Prop)  : Nat → Int → Int → Hp → Prop
  | 0, _, _, _ => False
  | k + 1, x234, x241, h =>
    br (decide (x241 < x240))
    (∃ a332 : Addr, PV Tryz.prog (Instr.indexAt 137 (.slice A239 l239 c239) (.int .i64 x241)) (.pointer (some a332)) ∧
    ∃ x333 : Int, ∃ x334 : Int, HV Tryz.prog (Instr.loadAt 45 (.pointer (some a332))) h (.agg #[(.int .u32 x333), (.int .i64 x334)]) ∧ 
    newC h (.cells #[(.int .u32 0), (.int .i64 0)] 45 (0, 0)) fun a336 h335 => 
    HU Tryz.prog (Instr.storeAt 45 (.pointer (some a336)) (.agg #[(.int .u32 x333), (.int .i64 x334)])) h335 fun h337 => 
    ∃ k416, nest_Prune_l7 A233 l233 c233 A235 l235 c235 a336 A236 l236 c236 x237 x238 A239 l239 c239 x240 x241 A235 l235 c235 (l235 : Int)
    (fun (A406 : Option Addr) (l406 : Nat) (c406 : Nat) (x407 : Int) (A408 : Option Addr) (l408 : Nat) (c408 : Nat) (A409 : Option Addr) (l409 : Nat) (c409 : Nat) (x410 : Int) (x411 : Int) (A412 : Option Addr) (l412 : Nat) (c412 : Nat) (x413 : Int) (x414 : Int) (h415 : Hp) =>
    nest_Prune_l6 A233 l233 c233 A235 l235 c235 A236 l236 c236 x237 x238 A239 l239 c239 x240 K0 k x407 (IntKind.i64.wrap (x414 + 1)) h415)
    k416 x234 0 h337)
    (K0 A233 l233 c233 x234 A236 l236 c236 x237 x238 h)
def nest_Prune_l6_L (Q : Qx) (k : Nat) (tm : Tm) (h : Hp) : Prop :=
  selS (tm 0) fun A233 l233 c233 =>
  selI .i64 (tm 5) fun x234 =>
  selS (tm 8) fun A235 l235 c235 =>
  selS (tm 19) fun A236 l236 c236 =>
  selI .i64 (tm 20) fun x237 =>
  selI .i64 (tm 21) fun x238 =>
  selS (tm 29) fun A239 l239 c239 =>
  selI .i64 (tm 30) fun x240 =>
  selI .i64 (tm 31) fun x241 =>
  nest_Prune_l6 A233 l233 c233 A235 l235 c235 A236 l236 c236 x237 x238 A239 l239 c239 x240 (fun (A327 : Option Addr) (l327 : Nat) (c327 : Nat) (x328 : Int) (A329 : Option Addr) (l329 : Nat) (c329 : Nat) (x330 : Int) (x331 : Int) h => Q (.exit 2) (mkTm [(0, some (.slice A327 l327 c327)), (5, some (.int .i64 x328)), (19, some (.slice A329 l329 c329)), (20, some (.int .i64 x330)), (21, some (.int .i64 x331))]) h) k x234 x241 h
def nest_Prune_l4 (A8 : Option Addr) (l8 : Nat) (c8 : Nat) (A10 : Option Addr) (l10 : Nat) (c10 : Nat) (x11 : Int) (K0 : Int → Hp → Prop)  : Nat → Int → Int → Hp → Prop
  | 0, _, _, _ => False
  | k + 1, x9, x12, h =>
    br (decide (x12 < x11))
    (∃ a219 : Addr, PV Tryz.prog (Instr.indexAt 137 (.slice A10 l10 c10) (.int .i64 x12)) (.pointer (some a219)) ∧
    ∃ x220 : Int, ∃ x221 : Int, HV Tryz.prog (Instr.loadAt 45 (.pointer (some a219))) h (.agg #[(.int .u32 x220), (.int .i64 x221)]) ∧ 
    newC h (.cells #[(.int .u32 0), (.int .i64 0)] 45 (0, 0)) fun a223 h222 => 
    HU Tryz.prog (Instr.storeAt 45 (.pointer (some a223)) (.agg #[(.int .u32 x220), (.int .i64 x221)])) h222 fun h224 => 
    ∃ x225 : Int, ∃ x226 : Int, HV Tryz.prog (Instr.loadAt 45 (.pointer (some a223))) h224 (.agg #[(.int .u32 x225), (.int .i64 x226)]) ∧ 
    CallsH Tryz.prog 82 #[(.slice A8 l8 c8), (.agg #[(.int .u32 x225), (.int .i64 x226)])] h224 fun r228 h227 =>
    ∃ A229 : Option Addr, ∃ l229 : Nat, ∃ c229 : Nat, r228 = (.slice A229 l229 c229) ∧ 
    CallsH Tryz.prog 80 #[(.slice A229 l229 c229), (.func (.func 83) #[] #[])] h227 fun r231 h230 =>
    ∃ A232 : Option Addr, ∃ l232 : Nat, ∃ c232 : Nat, r231 = (.slice A232 l232 c232) ∧ 
    ∃ k423, nest_Prune_l6 A8 l8 c8 A229 l229 c229 A10 l10 c10 x11 x12 A232 l232 c232 (l232 : Int)
    (fun (A417 : Option Addr) (l417 : Nat) (c417 : Nat) (x418 : Int) (A419 : Option Addr) (l419 : Nat) (c419 : Nat) (x420 : Int) (x421 : Int) (h422 : Hp) =>
    nest_Prune_l4 A8 l8 c8 A10 l10 c10 x11 K0 k x418 (IntKind.i64.wrap (x421 + 1)) h422)
    k423 x9 0 h230)
    (K0 x9 h)
def nest_Prune_l4_L (Q : Qx) (k : Nat) (tm : Tm) (h : Hp) : Prop :=
  selS (tm 0) fun A8 l8 c8 =>
  selI .i64 (tm 5) fun x9 =>
  selS (tm 19) fun A10 l10 c10 =>
  selI .i64 (tm 20) fun x11 =>
  selI .i64 (tm 21) fun x12 =>
  nest_Prune_l4 A8 l8 c8 A10 l10 c10 x11 (fun (x218 : Int) h => Q (.exit 0) (mkTm [(5, some (.int .i64 x218))]) h) k x9 x12 h
def nest_Prune (A1 : Option Addr) (l1 : Nat) (c1 : Nat) (h : Hp) (K : Value → Hp → Prop) : Prop :=
  CallsH Tryz.prog 79 #[(.slice A1 l1 c1)] h fun r3 h2 =>
  ∃ x4 : Int, r3 = (.int .i64 x4) ∧ 
  br (x4 != 0)
  (K (.tuple #[(.int .i64 0), (.int .i64 x4)]) h2)
  (CallsH Tryz.prog 80 #[(.slice A1 l1 c1), (.func (.func 81) #[] #[])] h2 fun r6 h5 =>
  ∃ A7 : Option Addr, ∃ l7 : Nat, ∃ c7 : Nat, r6 = (.slice A7 l7 c7) ∧ 
  ∃ k426, nest_Prune_l4 A1 l1 c1 A7 l7 c7 (l7 : Int)
  (fun (x424 : Int) (h425 : Hp) =>
  K (.tuple #[(.int .i64 x424), (.int .i64 0)]) h425)
  k426 0 0 h5)
def nest_Prune_lp (i : Nat) (Q : Qx) (tm : Tm) (h : Hp) : Prop := match Nat.beq i 16043622 with
  | true => ∃ k, nest_Prune_l7_L Q k tm h
  | false => match Nat.beq i 62670 with
  | true => ∃ k, nest_Prune_l6_L Q k tm h
  | false => match Nat.beq i 122 with
  | true => ∃ k, nest_Prune_l4_L Q k tm h
  | false => False
def nest_Prune_cut (i : Nat) : Option (List Nat) := none
set_option maxRecDepth 100000 in
theorem nest_Prune_l7_step (Q : Qx) (k : Nat) (A338 : Option Addr) (l338 : Nat) (c338 : Nat) (x339 : Int) (A340 : Option Addr) (l340 : Nat) (c340 : Nat) (a341 : Addr) (A342 : Option Addr) (l342 : Nat) (c342 : Nat) (x343 : Int) (x344 : Int) (A345 : Option Addr) (l345 : Nat) (c345 : Nat) (x346 : Int) (x347 : Int) (A348 : Option Addr) (l348 : Nat) (c348 : Nat) (x349 : Int) (x350 : Int) (h : Hp) : nest_Prune_l7_L Q (k + 1) (mkTm [(0, some (.slice A338 l338 c338)), (5, some (.int .i64 x339)), (8, some (.slice A340 l340 c340)), (10, some (.pointer (some a341))), (19, some (.slice A342 l342 c342)), (20, some (.int .i64 x343)), (21, some (.int .i64 x344)), (29, some (.slice A345 l345 c345)), (30, some (.int .i64 x346)), (31, some (.int .i64 x347)), (35, some (.slice A348 l348 c348)), (36, some (.int .i64 x349)), (37, some (.int .i64 x350))]) h =
    codeWp Tryz.prog 51 nest_Prune_lp nest_Prune_cut (sub (bodyOf Tryz.f71) [true, true, true, false, true, false, false, true, true, false, false, true, true, true, false, false, true, true, false, false, true, true, false, false]) 32087244 (thenQ (fun tm h => nest_Prune_l7_L Q k (mask [0, 5, 8, 10, 19, 20, 21, 29, 30, 31, 35, 36, 37] tm) h) (maskQ (fun e => match e with | .exit 4 => [0, 5, 8, 19, 20, 21, 29, 30, 31] | _ => []) Q)) (mkTm [(0, some (.slice A338 l338 c338)), (5, some (.int .i64 x339)), (8, some (.slice A340 l340 c340)), (10, some (.pointer (some a341))), (19, some (.slice A342 l342 c342)), (20, some (.int .i64 x343)), (21, some (.int .i64 x344)), (29, some (.slice A345 l345 c345)), (30, some (.int .i64 x346)), (31, some (.int .i64 x347)), (35, some (.slice A348 l348 c348)), (36, some (.int .i64 x349)), (37, some (.int .i64 x350))]) h := by kernel_rfl
theorem nest_Prune_l7_mask (Q : Qx) (k : Nat) (tm : Tm) (h : Hp) : nest_Prune_l7_L Q k tm h ↔ nest_Prune_l7_L Q k (mask [0, 5, 8, 10, 19, 20, 21, 29, 30, 31, 35, 36, 37] tm) h := Iff.rfl
set_option maxRecDepth 100000 in
theorem nest_Prune_l7_snd : SndAt Tryz.prog 51 none (sub (bodyOf Tryz.f71) [true, true, true, false, true, false, false, true, true, false, false, true, true, true, false, false, true, true, false, false, true, true, false]) (nest_Prune_lp 16043622) := by
  refine loop_sound (lp := nest_Prune_lp) (cut := nest_Prune_cut) (i := 16043622) (c := (sub (bodyOf Tryz.f71) [true, true, true, false, true, false, false, true, true, false, false, true, true, true, false, false, true, true, false, false, true, true, false, false])) [0, 5, 8, 10, 19, 20, 21, 29, 30, 31, 35, 36, 37] (fun e => match e with | .exit 4 => [0, 5, 8, 19, 20, 21, 29, 30, 31] | _ => []) nest_Prune_l7_L ?_ ?_ ?_
  · exact good_by (c := (sub (bodyOf Tryz.f71) [true, true, true, false, true, false, false, true, true, false, false, true, true, true, false, false, true, true, false, false, true, true, false, false])) (i := 32087244) (l := []) (by kernel_rfl) (fun _ h => by cases h)
  · intro Q tm h H
    obtain ⟨A338, l338, c338, e0, H⟩ := selS_ex H
    obtain ⟨x339, e5, H⟩ := selI_ex H
    obtain ⟨A340, l340, c340, e8, H⟩ := selS_ex H
    obtain ⟨a341, e10, H⟩ := selA_ex H
    obtain ⟨A342, l342, c342, e19, H⟩ := selS_ex H
    obtain ⟨x343, e20, H⟩ := selI_ex H
    obtain ⟨x344, e21, H⟩ := selI_ex H
    obtain ⟨A345, l345, c345, e29, H⟩ := selS_ex H
    obtain ⟨x346, e30, H⟩ := selI_ex H
    obtain ⟨x347, e31, H⟩ := selI_ex H
    obtain ⟨A348, l348, c348, e35, H⟩ := selS_ex H
    obtain ⟨x349, e36, H⟩ := selI_ex H
    obtain ⟨x350, e37, H⟩ := selI_ex H
    exact H
  · intro Q k tm h H
    have H0 := H
    obtain ⟨A338, l338, c338, e0, H⟩ := selS_ex H
    obtain ⟨x339, e5, H⟩ := selI_ex H
    obtain ⟨A340, l340, c340, e8, H⟩ := selS_ex H
    obtain ⟨a341, e10, H⟩ := selA_ex H
    obtain ⟨A342, l342, c342, e19, H⟩ := selS_ex H
    obtain ⟨x343, e20, H⟩ := selI_ex H
    obtain ⟨x344, e21, H⟩ := selI_ex H
    obtain ⟨A345, l345, c345, e29, H⟩ := selS_ex H
    obtain ⟨x346, e30, H⟩ := selI_ex H
    obtain ⟨x347, e31, H⟩ := selI_ex H
    obtain ⟨A348, l348, c348, e35, H⟩ := selS_ex H
    obtain ⟨x349, e36, H⟩ := selI_ex H
    obtain ⟨x350, e37, H⟩ := selI_ex H
    have e : mask [0, 5, 8, 10, 19, 20, 21, 29, 30, 31, 35, 36, 37] tm = mkTm [(0, some (.slice A338 l338 c338)), (5, some (.int .i64 x339)), (8, some (.slice A340 l340 c340)), (10, some (.pointer (some a341))), (19, some (.slice A342 l342 c342)), (20, some (.int .i64 x343)), (21, some (.int .i64 x344)), (29, some (.slice A345 l345 c345)), (30, some (.int .i64 x346)), (31, some (.int .i64 x347)), (35, some (.slice A348 l348 c348)), (36, some (.int .i64 x349)), (37, some (.int .i64 x350))] := by simp only [mask, List.map_cons, List.map_nil, e0, e5, e8, e10, e19, e20, e21, e29, e30, e31, e35, e36, e37] <;> rfl
    rw [e]
    refine Eq.mp (nest_Prune_l7_step Q k A338 l338 c338 x339 A340 l340 c340 a341 A342 l342 c342 x343 x344 A345 l345 c345 x346 x347 A348 l348 c348 x349 x350 h) ?_
    rw [← e]
    exact (nest_Prune_l7_mask Q (k + 1) tm h).mp H0
set_option maxRecDepth 100000 in
theorem nest_Prune_l6_step (Q : Qx) (k : Nat) (A233 : Option Addr) (l233 : Nat) (c233 : Nat) (x234 : Int) (A235 : Option Addr) (l235 : Nat) (c235 : Nat) (A236 : Option Addr) (l236 : Nat) (c236 : Nat) (x237 : Int) (x238 : Int) (A239 : Option Addr) (l239 : Nat) (c239 : Nat) (x240 : Int) (x241 : Int) (h : Hp) : nest_Prune_l6_L Q (k + 1) (mkTm [(0, some (.slice A233 l233 c233)), (5, some (.int .i64 x234)), (8, some (.slice A235 l235 c235)), (19, some (.slice A236 l236 c236)), (20, some (.int .i64 x237)), (21, some (.int .i64 x238)), (29, some (.slice A239 l239 c239)), (30, some (.int .i64 x240)), (31, some (.int .i64 x241))]) h =
    codeWp Tryz.prog 51 nest_Prune_lp nest_Prune_cut (sub (bodyOf Tryz.f71) [true, true, true, false, true, false, false, true, true, false, false, true, true, true, false, false]) 125340 (thenQ (fun tm h => nest_Prune_l6_L Q k (mask [0, 5, 8, 19, 20, 21, 29, 30, 31] tm) h) (maskQ (fun e => match e with | .exit 2 => [0, 5, 19, 20, 21] | _ => []) Q)) (mkTm [(0, some (.slice A233 l233 c233)), (5, some (.int .i64 x234)), (8, some (.slice A235 l235 c235)), (19, some (.slice A236 l236 c236)), (20, some (.int .i64 x237)), (21, some (.int .i64 x238)), (29, some (.slice A239 l239 c239)), (30, some (.int .i64 x240)), (31, some (.int .i64 x241))]) h := by kernel_rfl
theorem nest_Prune_l6_mask (Q : Qx) (k : Nat) (tm : Tm) (h : Hp) : nest_Prune_l6_L Q k tm h ↔ nest_Prune_l6_L Q k (mask [0, 5, 8, 19, 20, 21, 29, 30, 31] tm) h := Iff.rfl
set_option maxRecDepth 100000 in
theorem nest_Prune_l6_snd : SndAt Tryz.prog 51 none (sub (bodyOf Tryz.f71) [true, true, true, false, true, false, false, true, true, false, false, true, true, true, false]) (nest_Prune_lp 62670) := by
  refine loop_sound (lp := nest_Prune_lp) (cut := nest_Prune_cut) (i := 62670) (c := (sub (bodyOf Tryz.f71) [true, true, true, false, true, false, false, true, true, false, false, true, true, true, false, false])) [0, 5, 8, 19, 20, 21, 29, 30, 31] (fun e => match e with | .exit 2 => [0, 5, 19, 20, 21] | _ => []) nest_Prune_l6_L ?_ ?_ ?_
  · exact good_by (c := (sub (bodyOf Tryz.f71) [true, true, true, false, true, false, false, true, true, false, false, true, true, true, false, false])) (i := 125340) (l := [(16043622, (sub (bodyOf Tryz.f71) [true, true, true, false, true, false, false, true, true, false, false, true, true, true, false, false, true, true, false, false, true, true, false]))]) (by kernel_rfl) (List.forall_mem_cons.2 ⟨nest_Prune_l7_snd, (fun _ h => by cases h)⟩)
  · intro Q tm h H
    obtain ⟨A233, l233, c233, e0, H⟩ := selS_ex H
    obtain ⟨x234, e5, H⟩ := selI_ex H
    obtain ⟨A235, l235, c235, e8, H⟩ := selS_ex H
    obtain ⟨A236, l236, c236, e19, H⟩ := selS_ex H
    obtain ⟨x237, e20, H⟩ := selI_ex H
    obtain ⟨x238, e21, H⟩ := selI_ex H
    obtain ⟨A239, l239, c239, e29, H⟩ := selS_ex H
    obtain ⟨x240, e30, H⟩ := selI_ex H
    obtain ⟨x241, e31, H⟩ := selI_ex H
    exact H
  · intro Q k tm h H
    have H0 := H
    obtain ⟨A233, l233, c233, e0, H⟩ := selS_ex H
    obtain ⟨x234, e5, H⟩ := selI_ex H
    obtain ⟨A235, l235, c235, e8, H⟩ := selS_ex H
    obtain ⟨A236, l236, c236, e19, H⟩ := selS_ex H
    obtain ⟨x237, e20, H⟩ := selI_ex H
    obtain ⟨x238, e21, H⟩ := selI_ex H
    obtain ⟨A239, l239, c239, e29, H⟩ := selS_ex H
    obtain ⟨x240, e30, H⟩ := selI_ex H
    obtain ⟨x241, e31, H⟩ := selI_ex H
    have e : mask [0, 5, 8, 19, 20, 21, 29, 30, 31] tm = mkTm [(0, some (.slice A233 l233 c233)), (5, some (.int .i64 x234)), (8, some (.slice A235 l235 c235)), (19, some (.slice A236 l236 c236)), (20, some (.int .i64 x237)), (21, some (.int .i64 x238)), (29, some (.slice A239 l239 c239)), (30, some (.int .i64 x240)), (31, some (.int .i64 x241))] := by simp only [mask, List.map_cons, List.map_nil, e0, e5, e8, e19, e20, e21, e29, e30, e31] <;> rfl
    rw [e]
    refine Eq.mp (nest_Prune_l6_step Q k A233 l233 c233 x234 A235 l235 c235 A236 l236 c236 x237 x238 A239 l239 c239 x240 x241 h) ?_
    rw [← e]
    exact (nest_Prune_l6_mask Q (k + 1) tm h).mp H0
set_option maxRecDepth 100000 in
theorem nest_Prune_l4_step (Q : Qx) (k : Nat) (A8 : Option Addr) (l8 : Nat) (c8 : Nat) (x9 : Int) (A10 : Option Addr) (l10 : Nat) (c10 : Nat) (x11 : Int) (x12 : Int) (h : Hp) : nest_Prune_l4_L Q (k + 1) (mkTm [(0, some (.slice A8 l8 c8)), (5, some (.int .i64 x9)), (19, some (.slice A10 l10 c10)), (20, some (.int .i64 x11)), (21, some (.int .i64 x12))]) h =
    codeWp Tryz.prog 51 nest_Prune_lp nest_Prune_cut (sub (bodyOf Tryz.f71) [true, true, true, false, true, false, false]) 244 (thenQ (fun tm h => nest_Prune_l4_L Q k (mask [0, 5, 19, 20, 21] tm) h) (maskQ (fun e => match e with | .exit 0 => [5] | _ => []) Q)) (mkTm [(0, some (.slice A8 l8 c8)), (5, some (.int .i64 x9)), (19, some (.slice A10 l10 c10)), (20, some (.int .i64 x11)), (21, some (.int .i64 x12))]) h := by kernel_rfl
theorem nest_Prune_l4_mask (Q : Qx) (k : Nat) (tm : Tm) (h : Hp) : nest_Prune_l4_L Q k tm h ↔ nest_Prune_l4_L Q k (mask [0, 5, 19, 20, 21] tm) h := Iff.rfl
set_option maxRecDepth 100000 in
theorem nest_Prune_l4_snd : SndAt Tryz.prog 51 none (sub (bodyOf Tryz.f71) [true, true, true, false, true, false]) (nest_Prune_lp 122) := by
  refine loop_sound (lp := nest_Prune_lp) (cut := nest_Prune_cut) (i := 122) (c := (sub (bodyOf Tryz.f71) [true, true, true, false, true, false, false])) [0, 5, 19, 20, 21] (fun e => match e with | .exit 0 => [5] | _ => []) nest_Prune_l4_L ?_ ?_ ?_
  · exact good_by (c := (sub (bodyOf Tryz.f71) [true, true, true, false, true, false, false])) (i := 244) (l := [(62670, (sub (bodyOf Tryz.f71) [true, true, true, false, true, false, false, true, true, false, false, true, true, true, false]))]) (by kernel_rfl) (List.forall_mem_cons.2 ⟨nest_Prune_l6_snd, (fun _ h => by cases h)⟩)
  · intro Q tm h H
    obtain ⟨A8, l8, c8, e0, H⟩ := selS_ex H
    obtain ⟨x9, e5, H⟩ := selI_ex H
    obtain ⟨A10, l10, c10, e19, H⟩ := selS_ex H
    obtain ⟨x11, e20, H⟩ := selI_ex H
    obtain ⟨x12, e21, H⟩ := selI_ex H
    exact H
  · intro Q k tm h H
    have H0 := H
    obtain ⟨A8, l8, c8, e0, H⟩ := selS_ex H
    obtain ⟨x9, e5, H⟩ := selI_ex H
    obtain ⟨A10, l10, c10, e19, H⟩ := selS_ex H
    obtain ⟨x11, e20, H⟩ := selI_ex H
    obtain ⟨x12, e21, H⟩ := selI_ex H
    have e : mask [0, 5, 19, 20, 21] tm = mkTm [(0, some (.slice A8 l8 c8)), (5, some (.int .i64 x9)), (19, some (.slice A10 l10 c10)), (20, some (.int .i64 x11)), (21, some (.int .i64 x12))] := by simp only [mask, List.map_cons, List.map_nil, e0, e5, e19, e20, e21] <;> rfl
    rw [e]
    refine Eq.mp (nest_Prune_l4_step Q k A8 l8 c8 x9 A10 l10 c10 x11 x12 h) ?_
    rw [← e]
    exact (nest_Prune_l4_mask Q (k + 1) tm h).mp H0
set_option maxRecDepth 100000 in
theorem nest_Prune_eq (A1 : Option Addr) (l1 : Nat) (c1 : Nat) (h : Hp) (K : Value → Hp → Prop) : nest_Prune A1 l1 c1 h K =
    codeWp Tryz.prog 51 nest_Prune_lp nest_Prune_cut (bodyOf Tryz.f71) 1 (endQ Tryz.prog Tryz.f71.results.toList K) (argTm [(.slice A1 l1 c1)]) h := by kernel_rfl
set_option maxRecDepth 100000 in
theorem nest_Prune_ok (A1 : Option Addr) (l1 : Nat) (c1 : Nat) {h : Hp} {K : Value → Hp → Prop} (H : nest_Prune A1 l1 c1 h K) : CallsH Tryz.prog 71 #[(.slice A1 l1 c1)] h K :=
  calls_of (args := [(.slice A1 l1 c1)]) (n := 51) (lp := nest_Prune_lp) (cut := nest_Prune_cut) Tryz.func71 (c := bodyOf Tryz.f71) (by kernel_rfl) (by kernel_rfl) (by kernel_rfl) (good_by (c := (bodyOf Tryz.f71)) (i := 1) (l := [(122, (sub (bodyOf Tryz.f71) [true, true, true, false, true, false]))]) (by kernel_rfl) (List.forall_mem_cons.2 ⟨nest_Prune_l4_snd, (fun _ h => by cases h)⟩))
    (Eq.mp (nest_Prune_eq A1 l1 c1 h K) H)

/-! ### quintet/nest.list: function 79 -/
def nest_list_l1 (A2 : Option Addr) (l2 : Nat) (c2 : Nat) (A3 : Option Addr) (l3 : Nat) (c3 : Nat) (x4 : Int) (K0 : Int → Hp → Prop) (K1 : Hp → Prop)  : Nat → Int → Hp → Prop
  | 0, _, _ => False
  | k + 1, x5, h =>
    br (decide (x5 < x4))
    (∃ a43 : Addr, PV Tryz.prog (Instr.indexAt 42 (.slice A3 l3 c3) (.int .i64 x5)) (.pointer (some a43)) ∧
    ∃ x44 : Int, ∃ x45 : Int, ∃ x46 : Int, ∃ x47 : Int, ∃ x48 : Int, ∃ x49 : Int, ∃ x50 : Int, ∃ x51 : Int, ∃ x52 : Int, ∃ x53 : Int, ∃ x54 : Int, ∃ x55 : Int, HV Tryz.prog (Instr.loadAt 52 (.pointer (some a43))) h (.agg #[(.int .i64 x44), (.int .u32 x45), (.int .i64 x46), (.int .u32 x47), (.int .i64 x48), (.int .u16 x49), (.int .u16 x50), (.int .u16 x51), (.int .u16 x52), (.int .u8 x53), (.int .u8 x54), (.int .i64 x55)]) ∧ 
    newC h (.cells #[(.int .i64 0), (.int .u32 0), (.int .i64 0), (.int .u32 0), (.int .i64 0), (.int .u16 0), (.int .u16 0), (.int .u16 0), (.int .u16 0), (.int .u8 0), (.int .u8 0), (.int .i64 0)] 52 (0, 0)) fun a57 h56 => 
    HU Tryz.prog (Instr.storeAt 52 (.pointer (some a57)) (.agg #[(.int .i64 x44), (.int .u32 x45), (.int .i64 x46), (.int .u32 x47), (.int .i64 x48), (.int .u16 x49), (.int .u16 x50), (.int .u16 x51), (.int .u16 x52), (.int .u8 x53), (.int .u8 x54), (.int .i64 x55)])) h56 fun h58 => 
    ∃ x59 : Int, ∃ x60 : Int, ∃ x61 : Int, ∃ x62 : Int, ∃ x63 : Int, ∃ x64 : Int, ∃ x65 : Int, ∃ x66 : Int, ∃ x67 : Int, ∃ x68 : Int, ∃ x69 : Int, ∃ x70 : Int, HV Tryz.prog (Instr.loadAt 52 (.pointer (some a57))) h58 (.agg #[(.int .i64 x59), (.int .u32 x60), (.int .i64 x61), (.int .u32 x62), (.int .i64 x63), (.int .u16 x64), (.int .u16 x65), (.int .u16 x66), (.int .u16 x67), (.int .u8 x68), (.int .u8 x69), (.int .i64 x70)]) ∧ 
    CallsH Tryz.prog 72 #[(.agg #[(.int .i64 x59), (.int .u32 x60), (.int .i64 x61), (.int .u32 x62), (.int .i64 x63), (.int .u16 x64), (.int .u16 x65), (.int .u16 x66), (.int .u16 x67), (.int .u8 x68), (.int .u8 x69), (.int .i64 x70)])] h58 fun r72 h71 =>
    ∃ x73 : Int, ∃ x74 : Int, r72 = (.tuple #[(.int .i64 x73), (.int .i64 x74)]) ∧ 
    br (x73 != 0)
    (K0 x73 h71)
    (∃ A75 : Option Addr, ∃ l75 : Nat, ∃ c75 : Nat, PV Tryz.prog (Instr.sliceAt 42 (.slice A2 l2 c2) none (some (.int .i64 x5)) none) (.slice A75 l75 c75) ∧
    CallsH Tryz.prog 86 #[(.slice A75 l75 c75), (.func (.func 87) #[] #[(.pointer (some a57))])] h71 fun r77 h76 =>
    ∃ b78 : Bool, r77 = (.bool b78) ∧ 
    br b78
    (K0 111 h76)
    (br (x5 == 64)
    (K0 113 h76)
    (nest_list_l1 A2 l2 c2 A3 l3 c3 x4 K0 K1 k (IntKind.i64.wrap (x5 + 1)) h76))))
    (K1 h)
def nest_list_l1_L (Q : Qx) (k : Nat) (tm : Tm) (h : Hp) : Prop :=
  selS (tm 0) fun A2 l2 c2 =>
  selS (tm 7) fun A3 l3 c3 =>
  selI .i64 (tm 8) fun x4 =>
  selI .i64 (tm 9) fun x5 =>
  nest_list_l1 A2 l2 c2 A3 l3 c3 x4 (fun (x42 : Int) h => Q (.ret) (mkTm [(2, some (.int .i64 x42))]) h) (fun  h => Q (.exit 0) (mkTm []) h) k x5 h
def nest_list (A1 : Option Addr) (l1 : Nat) (c1 : Nat) (h : Hp) (K : Value → Hp → Prop) : Prop :=
  ∃ k82, nest_list_l1 A1 l1 c1 A1 l1 c1 (l1 : Int)
  (fun (x79 : Int) (h80 : Hp) =>
  K (.int .i64 x79) h80)
  (fun  (h81 : Hp) =>
  K (.int .i64 0) h81)
  k82 0 h
def nest_list_lp (i : Nat) (Q : Qx) (tm : Tm) (h : Hp) : Prop := match Nat.beq i 26 with
  | true => ∃ k, nest_list_l1_L Q k tm h
  | false => False
def nest_list_cut (i : Nat) : Option (List Nat) := none
set_option maxRecDepth 100000 in
theorem nest_list_l1_step (Q : Qx) (k : Nat) (A2 : Option Addr) (l2 : Nat) (c2 : Nat) (A3 : Option Addr) (l3 : Nat) (c3 : Nat) (x4 : Int) (x5 : Int) (h : Hp) : nest_list_l1_L Q (k + 1) (mkTm [(0, some (.slice A2 l2 c2)), (7, some (.slice A3 l3 c3)), (8, some (.int .i64 x4)), (9, some (.int .i64 x5))]) h =
    codeWp Tryz.prog 30 nest_list_lp nest_list_cut (sub (bodyOf Tryz.f79) [true, false, true, false, false]) 52 (thenQ (fun tm h => nest_list_l1_L Q k (mask [0, 7, 8, 9] tm) h) (maskQ (fun e => match e with | .ret => [2] | .exit 0 => [] | _ => []) Q)) (mkTm [(0, some (.slice A2 l2 c2)), (7, some (.slice A3 l3 c3)), (8, some (.int .i64 x4)), (9, some (.int .i64 x5))]) h := by kernel_rfl
theorem nest_list_l1_mask (Q : Qx) (k : Nat) (tm : Tm) (h : Hp) : nest_list_l1_L Q k tm h ↔ nest_list_l1_L Q k (mask [0, 7, 8, 9] tm) h := Iff.rfl
set_option maxRecDepth 100000 in
theorem nest_list_l1_snd : SndAt Tryz.prog 30 none (sub (bodyOf Tryz.f79) [true, false, true, false]) (nest_list_lp 26) := by
  refine loop_sound (lp := nest_list_lp) (cut := nest_list_cut) (i := 26) (c := (sub (bodyOf Tryz.f79) [true, false, true, false, false])) [0, 7, 8, 9] (fun e => match e with | .ret => [2] | .exit 0 => [] | _ => []) nest_list_l1_L ?_ ?_ ?_
  · exact good_by (c := (sub (bodyOf Tryz.f79) [true, false, true, false, false])) (i := 52) (l := []) (by kernel_rfl) (fun _ h => by cases h)
  · intro Q tm h H
    obtain ⟨A2, l2, c2, e0, H⟩ := selS_ex H
    obtain ⟨A3, l3, c3, e7, H⟩ := selS_ex H
    obtain ⟨x4, e8, H⟩ := selI_ex H
    obtain ⟨x5, e9, H⟩ := selI_ex H
    exact H
  · intro Q k tm h H
    have H0 := H
    obtain ⟨A2, l2, c2, e0, H⟩ := selS_ex H
    obtain ⟨A3, l3, c3, e7, H⟩ := selS_ex H
    obtain ⟨x4, e8, H⟩ := selI_ex H
    obtain ⟨x5, e9, H⟩ := selI_ex H
    have e : mask [0, 7, 8, 9] tm = mkTm [(0, some (.slice A2 l2 c2)), (7, some (.slice A3 l3 c3)), (8, some (.int .i64 x4)), (9, some (.int .i64 x5))] := by simp only [mask, List.map_cons, List.map_nil, e0, e7, e8, e9] <;> rfl
    rw [e]
    refine Eq.mp (nest_list_l1_step Q k A2 l2 c2 A3 l3 c3 x4 x5 h) ?_
    rw [← e]
    exact (nest_list_l1_mask Q (k + 1) tm h).mp H0
set_option maxRecDepth 100000 in
theorem nest_list_eq (A1 : Option Addr) (l1 : Nat) (c1 : Nat) (h : Hp) (K : Value → Hp → Prop) : nest_list A1 l1 c1 h K =
    codeWp Tryz.prog 30 nest_list_lp nest_list_cut (bodyOf Tryz.f79) 1 (endQ Tryz.prog Tryz.f79.results.toList K) (argTm [(.slice A1 l1 c1)]) h := by kernel_rfl
set_option maxRecDepth 100000 in
theorem nest_list_ok (A1 : Option Addr) (l1 : Nat) (c1 : Nat) {h : Hp} {K : Value → Hp → Prop} (H : nest_list A1 l1 c1 h K) : CallsH Tryz.prog 79 #[(.slice A1 l1 c1)] h K :=
  calls_of (args := [(.slice A1 l1 c1)]) (n := 30) (lp := nest_list_lp) (cut := nest_list_cut) Tryz.func79 (c := bodyOf Tryz.f79) (by kernel_rfl) (by kernel_rfl) (by kernel_rfl) (good_by (c := (bodyOf Tryz.f79)) (i := 1) (l := [(26, (sub (bodyOf Tryz.f79) [true, false, true, false]))]) (by kernel_rfl) (List.forall_mem_cons.2 ⟨nest_list_l1_snd, (fun _ h => by cases h)⟩))
    (Eq.mp (nest_list_eq A1 l1 c1 h K) H)

/-! ### quintet/nest.unlike: function 80 -/
def nest_unlike_l1 (v3 : Value) (A5 : Option Addr) (l5 : Nat) (c5 : Nat) (x6 : Int) (K0 : (Option Addr) → Nat → Nat → Hp → Prop)  : Nat → (Option Addr) → Nat → Nat → Int → Hp → Prop
  | 0, _, _, _, _, _ => False
  | k + 1, A4, l4, c4, x7, h =>
    br (decide (x7 < x6))
    (∃ a46 : Addr, PV Tryz.prog (Instr.indexAt 42 (.slice A5 l5 c5) (.int .i64 x7)) (.pointer (some a46)) ∧
    ∃ x47 : Int, ∃ x48 : Int, ∃ x49 : Int, ∃ x50 : Int, ∃ x51 : Int, ∃ x52 : Int, ∃ x53 : Int, ∃ x54 : Int, ∃ x55 : Int, ∃ x56 : Int, ∃ x57 : Int, ∃ x58 : Int, HV Tryz.prog (Instr.loadAt 52 (.pointer (some a46))) h (.agg #[(.int .i64 x47), (.int .u32 x48), (.int .i64 x49), (.int .u32 x50), (.int .i64 x51), (.int .u16 x52), (.int .u16 x53), (.int .u16 x54), (.int .u16 x55), (.int .u8 x56), (.int .u8 x57), (.int .i64 x58)]) ∧ 
    newC h (.cells #[(.int .i64 0), (.int .u32 0), (.int .i64 0), (.int .u32 0), (.int .i64 0), (.int .u16 0), (.int .u16 0), (.int .u16 0), (.int .u16 0), (.int .u8 0), (.int .u8 0), (.int .i64 0)] 52 (0, 0)) fun a60 h59 => 
    HU Tryz.prog (Instr.storeAt 52 (.pointer (some a60)) (.agg #[(.int .i64 x47), (.int .u32 x48), (.int .i64 x49), (.int .u32 x50), (.int .i64 x51), (.int .u16 x52), (.int .u16 x53), (.int .u16 x54), (.int .u16 x55), (.int .u8 x56), (.int .u8 x57), (.int .i64 x58)])) h59 fun h61 => 
    ∃ x62 : Int, ∃ x63 : Int, ∃ x64 : Int, ∃ x65 : Int, ∃ x66 : Int, ∃ x67 : Int, ∃ x68 : Int, ∃ x69 : Int, ∃ x70 : Int, ∃ x71 : Int, ∃ x72 : Int, ∃ x73 : Int, HV Tryz.prog (Instr.loadAt 52 (.pointer (some a60))) h61 (.agg #[(.int .i64 x62), (.int .u32 x63), (.int .i64 x64), (.int .u32 x65), (.int .i64 x66), (.int .u16 x67), (.int .u16 x68), (.int .u16 x69), (.int .u16 x70), (.int .u8 x71), (.int .u8 x72), (.int .i64 x73)]) ∧ 
    HN Tryz.prog (callS v3 #[(.agg #[(.int .i64 x62), (.int .u32 x63), (.int .i64 x64), (.int .u32 x65), (.int .i64 x66), (.int .u16 x67), (.int .u16 x68), (.int .u16 x69), (.int .u16 x70), (.int .u8 x71), (.int .u8 x72), (.int .i64 x73)])]) h61 fun r75 h74 =>
    ∃ x76 : Int, ∃ x77 : Int, r75 = (.agg #[(.int .u32 x76), (.int .i64 x77)]) ∧ 
    newC h74 (.cells #[(.int .u32 x76), (.int .i64 x77)] 45 (0, 0)) fun a79 h78 => 
    HW Tryz.prog (Builtin.append_ #[137, 137] 137 #[(.slice A4 l4 c4), (.slice (some a79) 1 1)]) h78 fun r81 h80 =>
    ∃ A82 : Option Addr, ∃ l82 : Nat, ∃ c82 : Nat, r81 = (.slice A82 l82 c82) ∧ 
    nest_unlike_l1 v3 A5 l5 c5 x6 K0 k A82 l82 c82 (IntKind.i64.wrap (x7 + 1)) h80)
    (K0 A4 l4 c4 h)
def nest_unlike_l1_L (Q : Qx) (k : Nat) (tm : Tm) (h : Hp) : Prop :=
  selV (tm 1) fun v3 =>
  selS (tm 5) fun A4 l4 c4 =>
  selS (tm 8) fun A5 l5 c5 =>
  selI .i64 (tm 9) fun x6 =>
  selI .i64 (tm 10) fun x7 =>
  nest_unlike_l1 v3 A5 l5 c5 x6 (fun (A45 : Option Addr) (l45 : Nat) (c45 : Nat) h => Q (.exit 0) (mkTm [(5, some (.slice A45 l45 c45))]) h) k A4 l4 c4 x7 h
def nest_unlike (A1 : Option Addr) (l1 : Nat) (c1 : Nat) (f2 : Fn) (f2r : Array Value) (f2c : Array Value) (h : Hp) (K : Value → Hp → Prop) : Prop :=
  ∃ k90, nest_unlike_l1 (.func f2 f2r f2c) A1 l1 c1 (l1 : Int)
  (fun (A83 : Option Addr) (l83 : Nat) (c83 : Nat) (h84 : Hp) =>
  CallsH Tryz.prog 88 #[(.slice A83 l83 c83), (.func (.func 89) #[] #[])] h84 fun r86 h85 =>
  r86 = (.tuple #[]) ∧ 
  CallsH Tryz.prog 90 #[(.slice A83 l83 c83)] h85 fun r88 h87 =>
  ∃ A89 : Option Addr, ∃ l89 : Nat, ∃ c89 : Nat, r88 = (.slice A89 l89 c89) ∧ 
  K (.slice A89 l89 c89) h87)
  k90 none 0 0 0 h
def nest_unlike_lp (i : Nat) (Q : Qx) (tm : Tm) (h : Hp) : Prop := match Nat.beq i 58 with
  | true => ∃ k, nest_unlike_l1_L Q k tm h
  | false => False
def nest_unlike_cut (i : Nat) : Option (List Nat) := none
set_option maxRecDepth 100000 in
theorem nest_unlike_l1_step (Q : Qx) (k : Nat) (v3 : Value) (A4 : Option Addr) (l4 : Nat) (c4 : Nat) (A5 : Option Addr) (l5 : Nat) (c5 : Nat) (x6 : Int) (x7 : Int) (h : Hp) : nest_unlike_l1_L Q (k + 1) (mkTm [(1, some v3), (5, some (.slice A4 l4 c4)), (8, some (.slice A5 l5 c5)), (9, some (.int .i64 x6)), (10, some (.int .i64 x7))]) h =
    codeWp Tryz.prog 25 nest_unlike_lp nest_unlike_cut (sub (bodyOf Tryz.f80) [true, true, false, true, false, false]) 116 (thenQ (fun tm h => nest_unlike_l1_L Q k (mask [1, 5, 8, 9, 10] tm) h) (maskQ (fun e => match e with | .exit 0 => [5] | _ => []) Q)) (mkTm [(1, some v3), (5, some (.slice A4 l4 c4)), (8, some (.slice A5 l5 c5)), (9, some (.int .i64 x6)), (10, some (.int .i64 x7))]) h := by kernel_rfl
theorem nest_unlike_l1_mask (Q : Qx) (k : Nat) (tm : Tm) (h : Hp) : nest_unlike_l1_L Q k tm h ↔ nest_unlike_l1_L Q k (mask [1, 5, 8, 9, 10] tm) h := Iff.rfl
set_option maxRecDepth 100000 in
theorem nest_unlike_l1_snd : SndAt Tryz.prog 25 none (sub (bodyOf Tryz.f80) [true, true, false, true, false]) (nest_unlike_lp 58) := by
  refine loop_sound (lp := nest_unlike_lp) (cut := nest_unlike_cut) (i := 58) (c := (sub (bodyOf Tryz.f80) [true, true, false, true, false, false])) [1, 5, 8, 9, 10] (fun e => match e with | .exit 0 => [5] | _ => []) nest_unlike_l1_L ?_ ?_ ?_
  · exact good_by (c := (sub (bodyOf Tryz.f80) [true, true, false, true, false, false])) (i := 116) (l := []) (by kernel_rfl) (fun _ h => by cases h)
  · intro Q tm h H
    obtain ⟨v3, e1, H⟩ := selV_ex H
    obtain ⟨A4, l4, c4, e5, H⟩ := selS_ex H
    obtain ⟨A5, l5, c5, e8, H⟩ := selS_ex H
    obtain ⟨x6, e9, H⟩ := selI_ex H
    obtain ⟨x7, e10, H⟩ := selI_ex H
    exact H
  · intro Q k tm h H
    have H0 := H
    obtain ⟨v3, e1, H⟩ := selV_ex H
    obtain ⟨A4, l4, c4, e5, H⟩ := selS_ex H
    obtain ⟨A5, l5, c5, e8, H⟩ := selS_ex H
    obtain ⟨x6, e9, H⟩ := selI_ex H
    obtain ⟨x7, e10, H⟩ := selI_ex H
    have e : mask [1, 5, 8, 9, 10] tm = mkTm [(1, some v3), (5, some (.slice A4 l4 c4)), (8, some (.slice A5 l5 c5)), (9, some (.int .i64 x6)), (10, some (.int .i64 x7))] := by simp only [mask, List.map_cons, List.map_nil, e1, e5, e8, e9, e10] <;> rfl
    rw [e]
    refine Eq.mp (nest_unlike_l1_step Q k v3 A4 l4 c4 A5 l5 c5 x6 x7 h) ?_
    rw [← e]
    exact (nest_unlike_l1_mask Q (k + 1) tm h).mp H0
set_option maxRecDepth 100000 in
theorem nest_unlike_eq (A1 : Option Addr) (l1 : Nat) (c1 : Nat) (f2 : Fn) (f2r : Array Value) (f2c : Array Value) (h : Hp) (K : Value → Hp → Prop) : nest_unlike A1 l1 c1 f2 f2r f2c h K =
    codeWp Tryz.prog 25 nest_unlike_lp nest_unlike_cut (bodyOf Tryz.f80) 1 (endQ Tryz.prog Tryz.f80.results.toList K) (argTm [(.slice A1 l1 c1), (.func f2 f2r f2c)]) h := by kernel_rfl
set_option maxRecDepth 100000 in
theorem nest_unlike_ok (A1 : Option Addr) (l1 : Nat) (c1 : Nat) (f2 : Fn) (f2r : Array Value) (f2c : Array Value) {h : Hp} {K : Value → Hp → Prop} (H : nest_unlike A1 l1 c1 f2 f2r f2c h K) : CallsH Tryz.prog 80 #[(.slice A1 l1 c1), (.func f2 f2r f2c)] h K :=
  calls_of (args := [(.slice A1 l1 c1), (.func f2 f2r f2c)]) (n := 25) (lp := nest_unlike_lp) (cut := nest_unlike_cut) Tryz.func80 (c := bodyOf Tryz.f80) (by kernel_rfl) (by kernel_rfl) (by kernel_rfl) (good_by (c := (bodyOf Tryz.f80)) (i := 1) (l := [(58, (sub (bodyOf Tryz.f80) [true, true, false, true, false]))]) (by kernel_rfl) (List.forall_mem_cons.2 ⟨nest_unlike_l1_snd, (fun _ h => by cases h)⟩))
    (Eq.mp (nest_unlike_eq A1 l1 c1 f2 f2r f2c h K) H)

/-! ### quintet/nest.src: function 81 -/
def nest_src (x1 : Int) (x2 : Int) (x3 : Int) (x4 : Int) (x5 : Int) (x6 : Int) (x7 : Int) (x8 : Int) (x9 : Int) (x10 : Int) (x11 : Int) (x12 : Int) (h : Hp) (K : Value → Hp → Prop) : Prop :=
  newC h (.cells #[(.int .i64 x1), (.int .u32 x2), (.int .i64 x3), (.int .u32 x4), (.int .i64 x5), (.int .u16 x6), (.int .u16 x7), (.int .u16 x8), (.int .u16 x9), (.int .u8 x10), (.int .u8 x11), (.int .i64 x12)] 52 (0, 0)) fun a14 h13 => 
  newC h13 (.cells #[(.int .u32 0), (.int .i64 0)] 45 (0, 0)) fun a16 h15 => 
  ∃ x17 : Int, ∃ x18 : Int, HV Tryz.prog (Instr.loadAt 45 (.pointer (some (a14.add 1)))) h15 (.agg #[(.int .u32 x17), (.int .i64 x18)]) ∧ 
  HU Tryz.prog (Instr.storeAt 45 (.pointer (some a16)) (.agg #[(.int .u32 x17), (.int .i64 x18)])) h15 fun h19 => 
  ∃ x20 : Int, ∃ x21 : Int, HV Tryz.prog (Instr.loadAt 45 (.pointer (some a16))) h19 (.agg #[(.int .u32 x20), (.int .i64 x21)]) ∧ K (.agg #[(.int .u32 x20), (.int .i64 x21)]) h19
def nest_src_lp (i : Nat) (Q : Qx) (tm : Tm) (h : Hp) : Prop := False
def nest_src_cut (i : Nat) : Option (List Nat) := none
set_option maxRecDepth 100000 in
theorem nest_src_eq (x1 : Int) (x2 : Int) (x3 : Int) (x4 : Int) (x5 : Int) (x6 : Int) (x7 : Int) (x8 : Int) (x9 : Int) (x10 : Int) (x11 : Int) (x12 : Int) (h : Hp) (K : Value → Hp → Prop) : nest_src x1 x2 x3 x4 x5 x6 x7 x8 x9 x10 x11 x12 h K =
    codeWp Tryz.prog 5 nest_src_lp nest_src_cut (bodyOf Tryz.f81) 1 (endQ Tryz.prog Tryz.f81.results.toList K) (argTm [(.agg #[(.int .i64 x1), (.int .u32 x2), (.int .i64 x3), (.int .u32 x4), (.int .i64 x5), (.int .u16 x6), (.int .u16 x7), (.int .u16 x8), (.int .u16 x9), (.int .u8 x10), (.int .u8 x11), (.int .i64 x12)])]) h := by kernel_rfl
set_option maxRecDepth 100000 in
theorem nest_src_ok (x1 : Int) (x2 : Int) (x3 : Int) (x4 : Int) (x5 : Int) (x6 : Int) (x7 : Int) (x8 : Int) (x9 : Int) (x10 : Int) (x11 : Int) (x12 : Int) {h : Hp} {K : Value → Hp → Prop} (H : nest_src x1 x2 x3 x4 x5 x6 x7 x8 x9 x10 x11 x12 h K) : CallsH Tryz.prog 81 #[(.agg #[(.int .i64 x1), (.int .u32 x2), (.int .i64 x3), (.int .u32 x4), (.int .i64 x5), (.int .u16 x6), (.int .u16 x7), (.int .u16 x8), (.int .u16 x9), (.int .u8 x10), (.int .u8 x11), (.int .i64 x12)])] h K :=
  calls_of (args := [(.agg #[(.int .i64 x1), (.int .u32 x2), (.int .i64 x3), (.int .u32 x4), (.int .i64 x5), (.int .u16 x6), (.int .u16 x7), (.int .u16 x8), (.int .u16 x9), (.int .u8 x10), (.int .u8 x11), (.int .i64 x12)])]) (n := 5) (lp := nest_src_lp) (cut := nest_src_cut) Tryz.func81 (c := bodyOf Tryz.f81) (by kernel_rfl) (by kernel_rfl) (by kernel_rfl) (good_by (c := (bodyOf Tryz.f81)) (i := 1) (l := []) (by kernel_rfl) (fun _ h => by cases h))
    (Eq.mp (nest_src_eq x1 x2 x3 x4 x5 x6 x7 x8 x9 x10 x11 x12 h K) H)

/-! ### quintet/nest.holders: function 82 -/
def nest_holders_l1 (a6 : Addr) (A8 : Option Addr) (l8 : Nat) (c8 : Nat) (x9 : Int) (K0 : (Option Addr) → Nat → Nat → Hp → Prop)  : Nat → (Option Addr) → Nat → Nat → Int → Hp → Prop
  | 0, _, _, _, _, _ => False
  | k + 1, A7, l7, c7, x10, h =>
    br (decide (x10 < x9))
    (∃ a52 : Addr, PV Tryz.prog (Instr.indexAt 42 (.slice A8 l8 c8) (.int .i64 x10)) (.pointer (some a52)) ∧
    ∃ x53 : Int, ∃ x54 : Int, ∃ x55 : Int, ∃ x56 : Int, ∃ x57 : Int, ∃ x58 : Int, ∃ x59 : Int, ∃ x60 : Int, ∃ x61 : Int, ∃ x62 : Int, ∃ x63 : Int, ∃ x64 : Int, HV Tryz.prog (Instr.loadAt 52 (.pointer (some a52))) h (.agg #[(.int .i64 x53), (.int .u32 x54), (.int .i64 x55), (.int .u32 x56), (.int .i64 x57), (.int .u16 x58), (.int .u16 x59), (.int .u16 x60), (.int .u16 x61), (.int .u8 x62), (.int .u8 x63), (.int .i64 x64)]) ∧ 
    newC h (.cells #[(.int .i64 0), (.int .u32 0), (.int .i64 0), (.int .u32 0), (.int .i64 0), (.int .u16 0), (.int .u16 0), (.int .u16 0), (.int .u16 0), (.int .u8 0), (.int .u8 0), (.int .i64 0)] 52 (0, 0)) fun a66 h65 => 
    HU Tryz.prog (Instr.storeAt 52 (.pointer (some a66)) (.agg #[(.int .i64 x53), (.int .u32 x54), (.int .i64 x55), (.int .u32 x56), (.int .i64 x57), (.int .u16 x58), (.int .u16 x59), (.int .u16 x60), (.int .u16 x61), (.int .u8 x62), (.int .u8 x63), (.int .i64 x64)])) h65 fun h67 => 
    ∃ x68 : Int, ∃ x69 : Int, HV Tryz.prog (Instr.loadAt 45 (.pointer (some a6))) h67 (.agg #[(.int .u32 x68), (.int .i64 x69)]) ∧ 
    ∃ x70 : Int, ∃ x71 : Int, HV Tryz.prog (Instr.loadAt 45 (.pointer (some (a66.add 1)))) h67 (.agg #[(.int .u32 x70), (.int .i64 x71)]) ∧ 
    CallsH Tryz.prog 61 #[(.agg #[(.int .u32 x68), (.int .i64 x69)]), (.agg #[(.int .u32 x70), (.int .i64 x71)])] h67 fun r73 h72 =>
    ∃ b74 : Bool, r73 = (.bool b74) ∧ 
    br b74
    (∃ x75 : Int, ∃ x76 : Int, ∃ x77 : Int, ∃ x78 : Int, ∃ x79 : Int, ∃ x80 : Int, ∃ x81 : Int, ∃ x82 : Int, ∃ x83 : Int, ∃ x84 : Int, ∃ x85 : Int, ∃ x86 : Int, HV Tryz.prog (Instr.loadAt 52 (.pointer (some a66))) h72 (.agg #[(.int .i64 x75), (.int .u32 x76), (.int .i64 x77), (.int .u32 x78), (.int .i64 x79), (.int .u16 x80), (.int .u16 x81), (.int .u16 x82), (.int .u16 x83), (.int .u8 x84), (.int .u8 x85), (.int .i64 x86)]) ∧ 
    newC h72 (.cells #[(.int .i64 x75), (.int .u32 x76), (.int .i64 x77), (.int .u32 x78), (.int .i64 x79), (.int .u16 x80), (.int .u16 x81), (.int .u16 x82), (.int .u16 x83), (.int .u8 x84), (.int .u8 x85), (.int .i64 x86)] 52 (0, 0)) fun a88 h87 => 
    HW Tryz.prog (Builtin.append_ #[42, 42] 42 #[(.slice A7 l7 c7), (.slice (some a88) 1 1)]) h87 fun r90 h89 =>
    ∃ A91 : Option Addr, ∃ l91 : Nat, ∃ c91 : Nat, r90 = (.slice A91 l91 c91) ∧ 
    nest_holders_l1 a6 A8 l8 c8 x9 K0 k A91 l91 c91 (IntKind.i64.wrap (x10 + 1)) h89)
    (nest_holders_l1 a6 A8 l8 c8 x9 K0 k A7 l7 c7 (IntKind.i64.wrap (x10 + 1)) h72))
    (K0 A7 l7 c7 h)
def nest_holders_l1_L (Q : Qx) (k : Nat) (tm : Tm) (h : Hp) : Prop :=
  selA (tm 3) fun a6 =>
  selS (tm 5) fun A7 l7 c7 =>
  selS (tm 8) fun A8 l8 c8 =>
  selI .i64 (tm 9) fun x9 =>
  selI .i64 (tm 10) fun x10 =>
  nest_holders_l1 a6 A8 l8 c8 x9 (fun (A51 : Option Addr) (l51 : Nat) (c51 : Nat) h => Q (.exit 0) (mkTm [(5, some (.slice A51 l51 c51))]) h) k A7 l7 c7 x10 h
def nest_holders (A1 : Option Addr) (l1 : Nat) (c1 : Nat) (x2 : Int) (x3 : Int) (h : Hp) (K : Value → Hp → Prop) : Prop :=
  newC h (.cells #[(.int .u32 x2), (.int .i64 x3)] 45 (0, 0)) fun a5 h4 => 
  ∃ k94, nest_holders_l1 a5 A1 l1 c1 (l1 : Int)
  (fun (A92 : Option Addr) (l92 : Nat) (c92 : Nat) (h93 : Hp) =>
  K (.slice A92 l92 c92) h93)
  k94 none 0 0 0 h4
def nest_holders_lp (i : Nat) (Q : Qx) (tm : Tm) (h : Hp) : Prop := match Nat.beq i 58 with
  | true => ∃ k, nest_holders_l1_L Q k tm h
  | false => False
def nest_holders_cut (i : Nat) : Option (List Nat) := none
set_option maxRecDepth 100000 in
theorem nest_holders_l1_step (Q : Qx) (k : Nat) (a6 : Addr) (A7 : Option Addr) (l7 : Nat) (c7 : Nat) (A8 : Option Addr) (l8 : Nat) (c8 : Nat) (x9 : Int) (x10 : Int) (h : Hp) : nest_holders_l1_L Q (k + 1) (mkTm [(3, some (.pointer (some a6))), (5, some (.slice A7 l7 c7)), (8, some (.slice A8 l8 c8)), (9, some (.int .i64 x9)), (10, some (.int .i64 x10))]) h =
    codeWp Tryz.prog 24 nest_holders_lp nest_holders_cut (sub (bodyOf Tryz.f82) [true, true, false, true, false, false]) 116 (thenQ (fun tm h => nest_holders_l1_L Q k (mask [3, 5, 8, 9, 10] tm) h) (maskQ (fun e => match e with | .exit 0 => [5] | _ => []) Q)) (mkTm [(3, some (.pointer (some a6))), (5, some (.slice A7 l7 c7)), (8, some (.slice A8 l8 c8)), (9, some (.int .i64 x9)), (10, some (.int .i64 x10))]) h := by kernel_rfl
theorem nest_holders_l1_mask (Q : Qx) (k : Nat) (tm : Tm) (h : Hp) : nest_holders_l1_L Q k tm h ↔ nest_holders_l1_L Q k (mask [3, 5, 8, 9, 10] tm) h := Iff.rfl
set_option maxRecDepth 100000 in
theorem nest_holders_l1_snd : SndAt Tryz.prog 24 none (sub (bodyOf Tryz.f82) [true, true, false, true, false]) (nest_holders_lp 58) := by
  refine loop_sound (lp := nest_holders_lp) (cut := nest_holders_cut) (i := 58) (c := (sub (bodyOf Tryz.f82) [true, true, false, true, false, false])) [3, 5, 8, 9, 10] (fun e => match e with | .exit 0 => [5] | _ => []) nest_holders_l1_L ?_ ?_ ?_
  · exact good_by (c := (sub (bodyOf Tryz.f82) [true, true, false, true, false, false])) (i := 116) (l := []) (by kernel_rfl) (fun _ h => by cases h)
  · intro Q tm h H
    obtain ⟨a6, e3, H⟩ := selA_ex H
    obtain ⟨A7, l7, c7, e5, H⟩ := selS_ex H
    obtain ⟨A8, l8, c8, e8, H⟩ := selS_ex H
    obtain ⟨x9, e9, H⟩ := selI_ex H
    obtain ⟨x10, e10, H⟩ := selI_ex H
    exact H
  · intro Q k tm h H
    have H0 := H
    obtain ⟨a6, e3, H⟩ := selA_ex H
    obtain ⟨A7, l7, c7, e5, H⟩ := selS_ex H
    obtain ⟨A8, l8, c8, e8, H⟩ := selS_ex H
    obtain ⟨x9, e9, H⟩ := selI_ex H
    obtain ⟨x10, e10, H⟩ := selI_ex H
    have e : mask [3, 5, 8, 9, 10] tm = mkTm [(3, some (.pointer (some a6))), (5, some (.slice A7 l7 c7)), (8, some (.slice A8 l8 c8)), (9, some (.int .i64 x9)), (10, some (.int .i64 x10))] := by simp only [mask, List.map_cons, List.map_nil, e3, e5, e8, e9, e10] <;> rfl
    rw [e]
    refine Eq.mp (nest_holders_l1_step Q k a6 A7 l7 c7 A8 l8 c8 x9 x10 h) ?_
    rw [← e]
    exact (nest_holders_l1_mask Q (k + 1) tm h).mp H0
set_option maxRecDepth 100000 in
theorem nest_holders_eq (A1 : Option Addr) (l1 : Nat) (c1 : Nat) (x2 : Int) (x3 : Int) (h : Hp) (K : Value → Hp → Prop) : nest_holders A1 l1 c1 x2 x3 h K =
    codeWp Tryz.prog 24 nest_holders_lp nest_holders_cut (bodyOf Tryz.f82) 1 (endQ Tryz.prog Tryz.f82.results.toList K) (argTm [(.slice A1 l1 c1), (.agg #[(.int .u32 x2), (.int .i64 x3)])]) h := by kernel_rfl
set_option maxRecDepth 100000 in
theorem nest_holders_ok (A1 : Option Addr) (l1 : Nat) (c1 : Nat) (x2 : Int) (x3 : Int) {h : Hp} {K : Value → Hp → Prop} (H : nest_holders A1 l1 c1 x2 x3 h K) : CallsH Tryz.prog 82 #[(.slice A1 l1 c1), (.agg #[(.int .u32 x2), (.int .i64 x3)])] h K :=
  calls_of (args := [(.slice A1 l1 c1), (.agg #[(.int .u32 x2), (.int .i64 x3)])]) (n := 24) (lp := nest_holders_lp) (cut := nest_holders_cut) Tryz.func82 (c := bodyOf Tryz.f82) (by kernel_rfl) (by kernel_rfl) (by kernel_rfl) (good_by (c := (bodyOf Tryz.f82)) (i := 1) (l := [(58, (sub (bodyOf Tryz.f82) [true, true, false, true, false]))]) (by kernel_rfl) (List.forall_mem_cons.2 ⟨nest_holders_l1_snd, (fun _ h => by cases h)⟩))
    (Eq.mp (nest_holders_eq A1 l1 c1 x2 x3 h K) H)

/-! ### quintet/nest.dst: function 83 -/
def nest_dst (x1 : Int) (x2 : Int) (x3 : Int) (x4 : Int) (x5 : Int) (x6 : Int) (x7 : Int) (x8 : Int) (x9 : Int) (x10 : Int) (x11 : Int) (x12 : Int) (h : Hp) (K : Value → Hp → Prop) : Prop :=
  newC h (.cells #[(.int .i64 x1), (.int .u32 x2), (.int .i64 x3), (.int .u32 x4), (.int .i64 x5), (.int .u16 x6), (.int .u16 x7), (.int .u16 x8), (.int .u16 x9), (.int .u8 x10), (.int .u8 x11), (.int .i64 x12)] 52 (0, 0)) fun a14 h13 => 
  newC h13 (.cells #[(.int .u32 0), (.int .i64 0)] 45 (0, 0)) fun a16 h15 => 
  ∃ x17 : Int, ∃ x18 : Int, HV Tryz.prog (Instr.loadAt 45 (.pointer (some (a14.add 3)))) h15 (.agg #[(.int .u32 x17), (.int .i64 x18)]) ∧ 
  HU Tryz.prog (Instr.storeAt 45 (.pointer (some a16)) (.agg #[(.int .u32 x17), (.int .i64 x18)])) h15 fun h19 => 
  ∃ x20 : Int, ∃ x21 : Int, HV Tryz.prog (Instr.loadAt 45 (.pointer (some a16))) h19 (.agg #[(.int .u32 x20), (.int .i64 x21)]) ∧ K (.agg #[(.int .u32 x20), (.int .i64 x21)]) h19
def nest_dst_lp (i : Nat) (Q : Qx) (tm : Tm) (h : Hp) : Prop := False
def nest_dst_cut (i : Nat) : Option (List Nat) := none
set_option maxRecDepth 100000 in
theorem nest_dst_eq (x1 : Int) (x2 : Int) (x3 : Int) (x4 : Int) (x5 : Int) (x6 : Int) (x7 : Int) (x8 : Int) (x9 : Int) (x10 : Int) (x11 : Int) (x12 : Int) (h : Hp) (K : Value → Hp → Prop) : nest_dst x1 x2 x3 x4 x5 x6 x7 x8 x9 x10 x11 x12 h K =
    codeWp Tryz.prog 5 nest_dst_lp nest_dst_cut (bodyOf Tryz.f83) 1 (endQ Tryz.prog Tryz.f83.results.toList K) (argTm [(.agg #[(.int .i64 x1), (.int .u32 x2), (.int .i64 x3), (.int .u32 x4), (.int .i64 x5), (.int .u16 x6), (.int .u16 x7), (.int .u16 x8), (.int .u16 x9), (.int .u8 x10), (.int .u8 x11), (.int .i64 x12)])]) h := by kernel_rfl
set_option maxRecDepth 100000 in
theorem nest_dst_ok (x1 : Int) (x2 : Int) (x3 : Int) (x4 : Int) (x5 : Int) (x6 : Int) (x7 : Int) (x8 : Int) (x9 : Int) (x10 : Int) (x11 : Int) (x12 : Int) {h : Hp} {K : Value → Hp → Prop} (H : nest_dst x1 x2 x3 x4 x5 x6 x7 x8 x9 x10 x11 x12 h K) : CallsH Tryz.prog 83 #[(.agg #[(.int .i64 x1), (.int .u32 x2), (.int .i64 x3), (.int .u32 x4), (.int .i64 x5), (.int .u16 x6), (.int .u16 x7), (.int .u16 x8), (.int .u16 x9), (.int .u8 x10), (.int .u8 x11), (.int .i64 x12)])] h K :=
  calls_of (args := [(.agg #[(.int .i64 x1), (.int .u32 x2), (.int .i64 x3), (.int .u32 x4), (.int .i64 x5), (.int .u16 x6), (.int .u16 x7), (.int .u16 x8), (.int .u16 x9), (.int .u8 x10), (.int .u8 x11), (.int .i64 x12)])]) (n := 5) (lp := nest_dst_lp) (cut := nest_dst_cut) Tryz.func83 (c := bodyOf Tryz.f83) (by kernel_rfl) (by kernel_rfl) (by kernel_rfl) (good_by (c := (bodyOf Tryz.f83)) (i := 1) (l := []) (by kernel_rfl) (fun _ h => by cases h))
    (Eq.mp (nest_dst_eq x1 x2 x3 x4 x5 x6 x7 x8 x9 x10 x11 x12 h K) H)

/-! ### quintet/nest.list$1: function 87 -/
def nest_list_1 (x1 : Int) (x2 : Int) (x3 : Int) (x4 : Int) (x5 : Int) (x6 : Int) (x7 : Int) (x8 : Int) (x9 : Int) (x10 : Int) (x11 : Int) (x12 : Int) (a13 : Addr) (h : Hp) (K : Value → Hp → Prop) : Prop :=
  newC h (.cells #[(.int .i64 x1), (.int .u32 x2), (.int .i64 x3), (.int .u32 x4), (.int .i64 x5), (.int .u16 x6), (.int .u16 x7), (.int .u16 x8), (.int .u16 x9), (.int .u8 x10), (.int .u8 x11), (.int .i64 x12)] 52 (0, 0)) fun a15 h14 => 
  ∃ x16 : Int, HV Tryz.prog (Instr.loadAt 3 (.pointer (some a15))) h14 (.int .i64 x16) ∧ 
  ∃ x17 : Int, HV Tryz.prog (Instr.loadAt 3 (.pointer (some a13))) h14 (.int .i64 x17) ∧ 
  K (.bool (x16 == x17)) h14
def nest_list_1_lp (i : Nat) (Q : Qx) (tm : Tm) (h : Hp) : Prop := False
def nest_list_1_cut (i : Nat) : Option (List Nat) := none
set_option maxRecDepth 100000 in
theorem nest_list_1_eq (x1 : Int) (x2 : Int) (x3 : Int) (x4 : Int) (x5 : Int) (x6 : Int) (x7 : Int) (x8 : Int) (x9 : Int) (x10 : Int) (x11 : Int) (x12 : Int) (a13 : Addr) (h : Hp) (K : Value → Hp → Prop) : nest_list_1 x1 x2 x3 x4 x5 x6 x7 x8 x9 x10 x11 x12 a13 h K =
    codeWp Tryz.prog 9 nest_list_1_lp nest_list_1_cut (bodyOf Tryz.f87) 1 (endQ Tryz.prog Tryz.f87.results.toList K) (argTm [(.agg #[(.int .i64 x1), (.int .u32 x2), (.int .i64 x3), (.int .u32 x4), (.int .i64 x5), (.int .u16 x6), (.int .u16 x7), (.int .u16 x8), (.int .u16 x9), (.int .u8 x10), (.int .u8 x11), (.int .i64 x12)]), (.pointer (some a13))]) h := by kernel_rfl
set_option maxRecDepth 100000 in
theorem nest_list_1_ok (x1 : Int) (x2 : Int) (x3 : Int) (x4 : Int) (x5 : Int) (x6 : Int) (x7 : Int) (x8 : Int) (x9 : Int) (x10 : Int) (x11 : Int) (x12 : Int) (a13 : Addr) {h : Hp} {K : Value → Hp → Prop} (H : nest_list_1 x1 x2 x3 x4 x5 x6 x7 x8 x9 x10 x11 x12 a13 h K) : CallsH Tryz.prog 87 #[(.agg #[(.int .i64 x1), (.int .u32 x2), (.int .i64 x3), (.int .u32 x4), (.int .i64 x5), (.int .u16 x6), (.int .u16 x7), (.int .u16 x8), (.int .u16 x9), (.int .u8 x10), (.int .u8 x11), (.int .i64 x12)]), (.pointer (some a13))] h K :=
  calls_of (args := [(.agg #[(.int .i64 x1), (.int .u32 x2), (.int .i64 x3), (.int .u32 x4), (.int .i64 x5), (.int .u16 x6), (.int .u16 x7), (.int .u16 x8), (.int .u16 x9), (.int .u8 x10), (.int .u8 x11), (.int .i64 x12)]), (.pointer (some a13))]) (n := 9) (lp := nest_list_1_lp) (cut := nest_list_1_cut) Tryz.func87 (c := bodyOf Tryz.f87) (by kernel_rfl) (by kernel_rfl) (by kernel_rfl) (good_by (c := (bodyOf Tryz.f87)) (i := 1) (l := []) (by kernel_rfl) (fun _ h => by cases h))
    (Eq.mp (nest_list_1_eq x1 x2 x3 x4 x5 x6 x7 x8 x9 x10 x11 x12 a13 h K) H)

end Go.Proofs.YtomhkbhgpmcbiaaGreat.Fs
