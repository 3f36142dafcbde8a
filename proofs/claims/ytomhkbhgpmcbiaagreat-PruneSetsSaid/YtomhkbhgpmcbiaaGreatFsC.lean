/- Printed by sx.py: words over the heap alone for Go functions, and that each call does what its word says. -/
import Derived.Test.YtomhkbhgpmcbiaaGreatSxSel
import Derived.Test.YtomhkbhgpmcbiaaGreatSxNest
import Derived.Test.YtomhkbhgpmcbiaaGreatProg
namespace Go.Proofs.YtomhkbhgpmcbiaaGreat.Fs
open Go Go.RowKit Go.Proofs.YtomhkbhgpmcbiaaGreat.Sx
set_option linter.unusedVariables false

/-! ### quintet/prune.New: function 8 -/
def prune_New (x1 : Int) (x2 : Int) (x3 : Int) (x4 : Int) (x5 : Int) (x6 : Int) (x7 : Int) (h : Hp) (K : Value → Hp → Prop) : Prop :=
  newC h (.cells #[(.int .i64 x1), (.int .i64 x2), (.int .i64 x3), (.int .i64 x4), (.int .i64 x5), (.int .i64 x6), (.int .i64 x7)] 24 (0, 0)) fun a9 h8 => 
  ∃ x10 : Int, ∃ x11 : Int, ∃ x12 : Int, ∃ x13 : Int, ∃ x14 : Int, ∃ x15 : Int, ∃ x16 : Int, HV Tryz.prog (Instr.loadAt 24 (.pointer (some a9))) h8 (.agg #[(.int .i64 x10), (.int .i64 x11), (.int .i64 x12), (.int .i64 x13), (.int .i64 x14), (.int .i64 x15), (.int .i64 x16)]) ∧ 
  CallsH Tryz.prog 15 #[(.agg #[(.int .i64 x10), (.int .i64 x11), (.int .i64 x12), (.int .i64 x13), (.int .i64 x14), (.int .i64 x15), (.int .i64 x16)])] h8 fun r18 h17 =>
  ∃ p19 : Option Addr, ∃ x20 : Int, r18 = (.tuple #[(.pointer p19), (.int .i64 x20)]) ∧ 
  br (x20 != 0)
  (K (.tuple #[(.pointer none), (.int .i64 x20)]) h17)
  (∃ x21 : Int, ∃ x22 : Int, ∃ x23 : Int, ∃ x24 : Int, ∃ x25 : Int, ∃ x26 : Int, ∃ x27 : Int, HV Tryz.prog (Instr.loadAt 24 (.pointer (some a9))) h17 (.agg #[(.int .i64 x21), (.int .i64 x22), (.int .i64 x23), (.int .i64 x24), (.int .i64 x25), (.int .i64 x26), (.int .i64 x27)]) ∧ 
  newC h17 (.cells #[(.int .i64 x21), (.int .i64 x22), (.int .i64 x23), (.int .i64 x24), (.int .i64 x25), (.int .i64 x26), (.int .i64 x27), (.pointer p19), (.slice none 0 0), (.int .i64 0)] 74 (0, 0)) fun a29 h28 => 
  CallsH Tryz.prog 16 #[(.pointer (some a29))] h28 fun r31 h30 =>
  r31 = (.tuple #[]) ∧ 
  K (.tuple #[(.pointer (some a29)), (.int .i64 0)]) h30)
def prune_New_lp (i : Nat) (Q : Qx) (tm : Tm) (h : Hp) : Prop := False
def prune_New_cut (i : Nat) : Option (List Nat) := none
set_option maxRecDepth 100000 in
theorem prune_New_eq (x1 : Int) (x2 : Int) (x3 : Int) (x4 : Int) (x5 : Int) (x6 : Int) (x7 : Int) (h : Hp) (K : Value → Hp → Prop) : prune_New x1 x2 x3 x4 x5 x6 x7 h K =
    codeWp Tryz.prog 23 prune_New_lp prune_New_cut (bodyOf Tryz.f8) 1 (endQ Tryz.prog Tryz.f8.results.toList K) (argTm [(.agg #[(.int .i64 x1), (.int .i64 x2), (.int .i64 x3), (.int .i64 x4), (.int .i64 x5), (.int .i64 x6), (.int .i64 x7)])]) h := by kernel_rfl
set_option maxRecDepth 100000 in
theorem prune_New_ok (x1 : Int) (x2 : Int) (x3 : Int) (x4 : Int) (x5 : Int) (x6 : Int) (x7 : Int) {h : Hp} {K : Value → Hp → Prop} (H : prune_New x1 x2 x3 x4 x5 x6 x7 h K) : CallsH Tryz.prog 8 #[(.agg #[(.int .i64 x1), (.int .i64 x2), (.int .i64 x3), (.int .i64 x4), (.int .i64 x5), (.int .i64 x6), (.int .i64 x7)])] h K :=
  calls_of (args := [(.agg #[(.int .i64 x1), (.int .i64 x2), (.int .i64 x3), (.int .i64 x4), (.int .i64 x5), (.int .i64 x6), (.int .i64 x7)])]) (n := 23) (lp := prune_New_lp) (cut := prune_New_cut) Tryz.func8 (c := bodyOf Tryz.f8) (by kernel_rfl) (by kernel_rfl) (by kernel_rfl) (good_by (c := (bodyOf Tryz.f8)) (i := 1) (l := []) (by kernel_rfl) (fun _ h => by cases h))
    (Eq.mp (prune_New_eq x1 x2 x3 x4 x5 x6 x7 h K) H)

/-! ### (*quintet/prune.Engine).Insert: function 13 -/
def prune_Engine_Insert (p1 : Option Addr) (x2 : Int) (x3 : Int) (x4 : Int) (x5 : Int) (x6 : Int) (x7 : Int) (x8 : Int) (x9 : Int) (x10 : Int) (x11 : Int) (x12 : Int) (x13 : Int) (x14 : Int) (h : Hp) (K : Value → Hp → Prop) : Prop :=
  newC h (.cells #[(.int .i64 x2)] 3 (0, 0)) fun a16 h15 => 
  newC h15 (.cells #[(.int .i64 x3), (.int .u32 x4), (.int .i64 x5), (.int .u32 x6), (.int .i64 x7), (.int .u16 x8), (.int .u16 x9), (.int .u16 x10), (.int .u16 x11), (.int .u8 x12), (.int .u8 x13), (.int .i64 x14)] 52 (0, 0)) fun a18 h17 => 
  CallsH Tryz.prog 28 #[(.pointer p1), (.func (.func 29) #[] #[(.pointer (some a16)), (.pointer (some a18))])] h17 fun r20 h19 =>
  ∃ x21 : Int, r20 = (.int .i64 x21) ∧ 
  K (.int .i64 x21) h19
def prune_Engine_Insert_lp (i : Nat) (Q : Qx) (tm : Tm) (h : Hp) : Prop := False
def prune_Engine_Insert_cut (i : Nat) : Option (List Nat) := none
set_option maxRecDepth 100000 in
theorem prune_Engine_Insert_eq (p1 : Option Addr) (x2 : Int) (x3 : Int) (x4 : Int) (x5 : Int) (x6 : Int) (x7 : Int) (x8 : Int) (x9 : Int) (x10 : Int) (x11 : Int) (x12 : Int) (x13 : Int) (x14 : Int) (h : Hp) (K : Value → Hp → Prop) : prune_Engine_Insert p1 x2 x3 x4 x5 x6 x7 x8 x9 x10 x11 x12 x13 x14 h K =
    codeWp Tryz.prog 10 prune_Engine_Insert_lp prune_Engine_Insert_cut (bodyOf Tryz.f13) 1 (endQ Tryz.prog Tryz.f13.results.toList K) (argTm [(.pointer p1), (.int .i64 x2), (.agg #[(.int .i64 x3), (.int .u32 x4), (.int .i64 x5), (.int .u32 x6), (.int .i64 x7), (.int .u16 x8), (.int .u16 x9), (.int .u16 x10), (.int .u16 x11), (.int .u8 x12), (.int .u8 x13), (.int .i64 x14)])]) h := by kernel_rfl
set_option maxRecDepth 100000 in
theorem prune_Engine_Insert_ok (p1 : Option Addr) (x2 : Int) (x3 : Int) (x4 : Int) (x5 : Int) (x6 : Int) (x7 : Int) (x8 : Int) (x9 : Int) (x10 : Int) (x11 : Int) (x12 : Int) (x13 : Int) (x14 : Int) {h : Hp} {K : Value → Hp → Prop} (H : prune_Engine_Insert p1 x2 x3 x4 x5 x6 x7 x8 x9 x10 x11 x12 x13 x14 h K) : CallsH Tryz.prog 13 #[(.pointer p1), (.int .i64 x2), (.agg #[(.int .i64 x3), (.int .u32 x4), (.int .i64 x5), (.int .u32 x6), (.int .i64 x7), (.int .u16 x8), (.int .u16 x9), (.int .u16 x10), (.int .u16 x11), (.int .u8 x12), (.int .u8 x13), (.int .i64 x14)])] h K :=
  calls_of (args := [(.pointer p1), (.int .i64 x2), (.agg #[(.int .i64 x3), (.int .u32 x4), (.int .i64 x5), (.int .u32 x6), (.int .i64 x7), (.int .u16 x8), (.int .u16 x9), (.int .u16 x10), (.int .u16 x11), (.int .u8 x12), (.int .u8 x13), (.int .i64 x14)])]) (n := 10) (lp := prune_Engine_Insert_lp) (cut := prune_Engine_Insert_cut) Tryz.func13 (c := bodyOf Tryz.f13) (by kernel_rfl) (by kernel_rfl) (by kernel_rfl) (good_by (c := (bodyOf Tryz.f13)) (i := 1) (l := []) (by kernel_rfl) (fun _ h => by cases h))
    (Eq.mp (prune_Engine_Insert_eq p1 x2 x3 x4 x5 x6 x7 x8 x9 x10 x11 x12 x13 x14 h K) H)

/-! ### (*quintet/prune.Engine).Ask: function 14 -/
def prune_Engine_Ask (p1 : Option Addr) (x2 : Int) (x3 : Int) (x4 : Int) (x5 : Int) (x6 : Int) (h : Hp) (K : Value → Hp → Prop) : Prop :=
  newC h (.cells #[(.int .u32 x2), (.int .u32 x3), (.int .u16 x4), (.int .u16 x5), (.int .u8 x6)] 54 (0, 0)) fun a8 h7 => 
  newC h7 (.cells #[(.bool false), (.int .i64 0), (.int .i64 0)] 62 (0, 0)) fun a10 h9 => 
  newC h9 (.cells #[(.int .i64 0), (.int .i64 0), (.int .i64 0), (.int .i64 0), (.int .i64 0)] 64 (0, 0)) fun a12 h11 => 
  ∃ b13 : Bool, PV Tryz.prog (binOp .eql 31 (.pointer p1) (.pointer none)) (.bool b13) ∧
  br b13
  (HU Tryz.prog (Instr.storeAt 62 (.pointer (some a10)) (.agg #[(.bool false), (.int .i64 0), (.int .i64 0)])) h11 fun h14 => 
  HU Tryz.prog (Instr.storeAt 64 (.pointer (some a12)) (.agg #[(.int .i64 0), (.int .i64 0), (.int .i64 0), (.int .i64 0), (.int .i64 0)])) h14 fun h15 => 
  ∃ b16 : Bool, ∃ x17 : Int, ∃ x18 : Int, HV Tryz.prog (Instr.loadAt 62 (.pointer (some a10))) h15 (.agg #[(.bool b16), (.int .i64 x17), (.int .i64 x18)]) ∧ ∃ x19 : Int, ∃ x20 : Int, ∃ x21 : Int, ∃ x22 : Int, ∃ x23 : Int, HV Tryz.prog (Instr.loadAt 64 (.pointer (some a12))) h15 (.agg #[(.int .i64 x19), (.int .i64 x20), (.int .i64 x21), (.int .i64 x22), (.int .i64 x23)]) ∧ K (.tuple #[(.agg #[(.bool b16), (.int .i64 x17), (.int .i64 x18)]), (.agg #[(.int .i64 x19), (.int .i64 x20), (.int .i64 x21), (.int .i64 x22), (.int .i64 x23)])]) h15)
  (drf p1 fun a24 =>
  ∃ x25 : Int, HV Tryz.prog (Instr.loadAt 22 (.pointer (some (a24.add 1)))) h11 (.int .i64 x25) ∧ 
  newC h11 (.cells #[(.bool false), (.int .i64 0), (.int .i64 0)] 62 (0, 0)) fun a27 h26 => 
  newC h26 (.cells #[(.int .i64 0), (.int .i64 0), (.int .i64 0), (.int .i64 0), (.int .i64 0)] 64 (0, 0)) fun a29 h28 => 
  HU Tryz.prog (Instr.storeAt 62 (.pointer (some a27)) (.agg #[(.bool false), (.int .i64 0), (.int .i64 x25)])) h28 fun h30 => 
  HU Tryz.prog (Instr.storeAt 64 (.pointer (some a29)) (.agg #[(.int .i64 0), (.int .i64 0), (.int .i64 0), (.int .i64 0), (.int .i64 0)])) h30 fun h31 => 
  ∃ x32 : Int, HV Tryz.prog (Instr.loadAt 43 (.pointer (some a8))) h31 (.int .u32 x32) ∧ 
  CallsH Tryz.prog 31 #[(.pointer p1), (.int .i64 1), (.int .u32 x32), (.func (.func 32) #[] #[])] h31 fun r34 h33 =>
  ∃ x35 : Int, ∃ x36 : Int, r34 = (.tuple #[(.int .i64 x35), (.int .i64 x36)]) ∧ 
  HU Tryz.prog (Instr.storeAt 3 (.pointer (some a29)) (.int .i64 x36)) h33 fun h37 => 
  br (x35 == 0)
  (∃ b38 : Bool, ∃ x39 : Int, ∃ x40 : Int, HV Tryz.prog (Instr.loadAt 62 (.pointer (some a27))) h37 (.agg #[(.bool b38), (.int .i64 x39), (.int .i64 x40)]) ∧ 
  ∃ x41 : Int, ∃ x42 : Int, ∃ x43 : Int, ∃ x44 : Int, ∃ x45 : Int, HV Tryz.prog (Instr.loadAt 64 (.pointer (some a29))) h37 (.agg #[(.int .i64 x41), (.int .i64 x42), (.int .i64 x43), (.int .i64 x44), (.int .i64 x45)]) ∧ 
  HU Tryz.prog (Instr.storeAt 62 (.pointer (some a10)) (.agg #[(.bool b38), (.int .i64 x39), (.int .i64 x40)])) h37 fun h46 => HV Tryz.prog (Instr.loadAt 64 (.pointer (some a29))) h46 (.agg #[(.int .i64 x41), (.int .i64 x42), (.int .i64 x43), (.int .i64 x44), (.int .i64 x45)]) ∧ 
  HU Tryz.prog (Instr.storeAt 64 (.pointer (some a12)) (.agg #[(.int .i64 x41), (.int .i64 x42), (.int .i64 x43), (.int .i64 x44), (.int .i64 x45)])) h46 fun h47 => 
  ∃ b48 : Bool, ∃ x49 : Int, ∃ x50 : Int, HV Tryz.prog (Instr.loadAt 62 (.pointer (some a10))) h47 (.agg #[(.bool b48), (.int .i64 x49), (.int .i64 x50)]) ∧ ∃ x51 : Int, ∃ x52 : Int, ∃ x53 : Int, ∃ x54 : Int, ∃ x55 : Int, HV Tryz.prog (Instr.loadAt 64 (.pointer (some a12))) h47 (.agg #[(.int .i64 x51), (.int .i64 x52), (.int .i64 x53), (.int .i64 x54), (.int .i64 x55)]) ∧ K (.tuple #[(.agg #[(.bool b48), (.int .i64 x49), (.int .i64 x50)]), (.agg #[(.int .i64 x51), (.int .i64 x52), (.int .i64 x53), (.int .i64 x54), (.int .i64 x55)])]) h47)
  (drf p1 fun a56 =>
  ∃ A57 : Option Addr, ∃ l57 : Nat, ∃ c57 : Nat, HV Tryz.prog (Instr.loadAt 72 (.pointer (some (a56.add 8)))) h37 (.slice A57 l57 c57) ∧ 
  ∃ a58 : Addr, PV Tryz.prog (Instr.indexAt 72 (.slice A57 l57 c57) (.int .i64 x35)) (.pointer (some a58)) ∧
  ∃ x59 : Int, HV Tryz.prog (Instr.loadAt 3 (.pointer (some (a58.add 2)))) h37 (.int .i64 x59) ∧ 
  ∃ x60 : Int, HV Tryz.prog (Instr.loadAt 43 (.pointer (some (a8.add 1)))) h37 (.int .u32 x60) ∧ 
  CallsH Tryz.prog 31 #[(.pointer p1), (.int .i64 x59), (.int .u32 x60), (.func (.func 33) #[] #[])] h37 fun r62 h61 =>
  ∃ x63 : Int, ∃ x64 : Int, r62 = (.tuple #[(.int .i64 x63), (.int .i64 x64)]) ∧ 
  ∃ x65 : Int, HV Tryz.prog (Instr.loadAt 3 (.pointer (some a29))) h61 (.int .i64 x65) ∧ 
  HU Tryz.prog (Instr.storeAt 3 (.pointer (some a29)) (.int .i64 (IntKind.i64.wrap (x65 + x64)))) h61 fun h66 => 
  drf p1 fun a67 =>
  CallsH Tryz.prog 34 #[(.pointer (some a67))] h66 fun r69 h68 =>
  ∃ A70 : Option Addr, ∃ l70 : Nat, ∃ c70 : Nat, r69 = (.slice A70 l70 c70) ∧ 
  newC h68 (.cells #[(.slice none 0 0)] 42 (0, 0)) fun a72 h71 => 
  HU Tryz.prog (Instr.storeAt 42 (.pointer (some a72)) (.slice A70 l70 c70)) h71 fun h73 => 
  drf p1 fun a74 =>
  ∃ A75 : Option Addr, ∃ l75 : Nat, ∃ c75 : Nat, HV Tryz.prog (Instr.loadAt 72 (.pointer (some (a74.add 8)))) h73 (.slice A75 l75 c75) ∧ 
  ∃ a76 : Addr, PV Tryz.prog (Instr.indexAt 72 (.slice A75 l75 c75) (.int .i64 x63)) (.pointer (some a76)) ∧
  ∃ A77 : Option Addr, ∃ l77 : Nat, ∃ c77 : Nat, HV Tryz.prog (Instr.loadAt 92 (.pointer (some (a76.add 4)))) h73 (.slice A77 l77 c77) ∧ 
  CallsH Tryz.prog 35 #[(.slice A77 l77 c77), (.func (.func 36) #[] #[(.pointer (some a29)), (.pointer (some a72)), (.pointer (some a8))])] h73 fun r79 h78 =>
  ∃ x80 : Int, r79 = (.int .i64 x80) ∧ 
  br (decide (x80 ≥ 0))
  (∃ A81 : Option Addr, ∃ l81 : Nat, ∃ c81 : Nat, HV Tryz.prog (Instr.loadAt 42 (.pointer (some a72))) h78 (.slice A81 l81 c81) ∧ 
  drf p1 fun a82 =>
  ∃ A83 : Option Addr, ∃ l83 : Nat, ∃ c83 : Nat, HV Tryz.prog (Instr.loadAt 72 (.pointer (some (a82.add 8)))) h78 (.slice A83 l83 c83) ∧ 
  ∃ a84 : Addr, PV Tryz.prog (Instr.indexAt 72 (.slice A83 l83 c83) (.int .i64 x63)) (.pointer (some a84)) ∧
  ∃ A85 : Option Addr, ∃ l85 : Nat, ∃ c85 : Nat, HV Tryz.prog (Instr.loadAt 92 (.pointer (some (a84.add 4)))) h78 (.slice A85 l85 c85) ∧ 
  ∃ a86 : Addr, PV Tryz.prog (Instr.indexAt 92 (.slice A85 l85 c85) (.int .i64 x80)) (.pointer (some a86)) ∧
  ∃ x87 : Int, HV Tryz.prog (Instr.loadAt 3 (.pointer (some a86))) h78 (.int .i64 x87) ∧ 
  ∃ a88 : Addr, PV Tryz.prog (Instr.indexAt 42 (.slice A81 l81 c81) (.int .i64 x87)) (.pointer (some a88)) ∧
  ∃ x89 : Int, ∃ x90 : Int, ∃ x91 : Int, ∃ x92 : Int, ∃ x93 : Int, ∃ x94 : Int, ∃ x95 : Int, ∃ x96 : Int, ∃ x97 : Int, ∃ x98 : Int, ∃ x99 : Int, ∃ x100 : Int, HV Tryz.prog (Instr.loadAt 52 (.pointer (some a88))) h78 (.agg #[(.int .i64 x89), (.int .u32 x90), (.int .i64 x91), (.int .u32 x92), (.int .i64 x93), (.int .u16 x94), (.int .u16 x95), (.int .u16 x96), (.int .u16 x97), (.int .u8 x98), (.int .u8 x99), (.int .i64 x100)]) ∧ 
  newC h78 (.cells #[(.int .i64 0), (.int .u32 0), (.int .i64 0), (.int .u32 0), (.int .i64 0), (.int .u16 0), (.int .u16 0), (.int .u16 0), (.int .u16 0), (.int .u8 0), (.int .u8 0), (.int .i64 0)] 52 (0, 0)) fun a102 h101 => HV Tryz.prog (Instr.loadAt 52 (.pointer (some a88))) h101 (.agg #[(.int .i64 x89), (.int .u32 x90), (.int .i64 x91), (.int .u32 x92), (.int .i64 x93), (.int .u16 x94), (.int .u16 x95), (.int .u16 x96), (.int .u16 x97), (.int .u8 x98), (.int .u8 x99), (.int .i64 x100)]) ∧ HV Tryz.prog (Instr.loadAt 3 (.pointer (some a86))) h101 (.int .i64 x87) ∧ HV Tryz.prog (Instr.loadAt 92 (.pointer (some (a84.add 4)))) h101 (.slice A85 l85 c85) ∧ HV Tryz.prog (Instr.loadAt 72 (.pointer (some (a82.add 8)))) h101 (.slice A83 l83 c83) ∧ HV Tryz.prog (Instr.loadAt 42 (.pointer (some a72))) h101 (.slice A81 l81 c81) ∧ 
  HU Tryz.prog (Instr.storeAt 52 (.pointer (some a102)) (.agg #[(.int .i64 x89), (.int .u32 x90), (.int .i64 x91), (.int .u32 x92), (.int .i64 x93), (.int .u16 x94), (.int .u16 x95), (.int .u16 x96), (.int .u16 x97), (.int .u8 x98), (.int .u8 x99), (.int .i64 x100)])) h101 fun h103 => 
  ∃ x104 : Int, HV Tryz.prog (Instr.loadAt 3 (.pointer (some a102))) h103 (.int .i64 x104) ∧ 
  ∃ x105 : Int, HV Tryz.prog (Instr.loadAt 22 (.pointer (some (a102.add 11)))) h103 (.int .i64 x105) ∧ 
  HU Tryz.prog (Instr.storeAt 62 (.pointer (some a27)) (.agg #[(.bool true), (.int .i64 x104), (.int .i64 x105)])) h103 fun h106 => 
  ∃ b107 : Bool, ∃ x108 : Int, ∃ x109 : Int, HV Tryz.prog (Instr.loadAt 62 (.pointer (some a27))) h106 (.agg #[(.bool b107), (.int .i64 x108), (.int .i64 x109)]) ∧ 
  ∃ x110 : Int, ∃ x111 : Int, ∃ x112 : Int, ∃ x113 : Int, ∃ x114 : Int, HV Tryz.prog (Instr.loadAt 64 (.pointer (some a29))) h106 (.agg #[(.int .i64 x110), (.int .i64 x111), (.int .i64 x112), (.int .i64 x113), (.int .i64 x114)]) ∧ 
  HU Tryz.prog (Instr.storeAt 62 (.pointer (some a10)) (.agg #[(.bool b107), (.int .i64 x108), (.int .i64 x109)])) h106 fun h115 => HV Tryz.prog (Instr.loadAt 64 (.pointer (some a29))) h115 (.agg #[(.int .i64 x110), (.int .i64 x111), (.int .i64 x112), (.int .i64 x113), (.int .i64 x114)]) ∧ 
  HU Tryz.prog (Instr.storeAt 64 (.pointer (some a12)) (.agg #[(.int .i64 x110), (.int .i64 x111), (.int .i64 x112), (.int .i64 x113), (.int .i64 x114)])) h115 fun h116 => 
  ∃ b117 : Bool, ∃ x118 : Int, ∃ x119 : Int, HV Tryz.prog (Instr.loadAt 62 (.pointer (some a10))) h116 (.agg #[(.bool b117), (.int .i64 x118), (.int .i64 x119)]) ∧ ∃ x120 : Int, ∃ x121 : Int, ∃ x122 : Int, ∃ x123 : Int, ∃ x124 : Int, HV Tryz.prog (Instr.loadAt 64 (.pointer (some a12))) h116 (.agg #[(.int .i64 x120), (.int .i64 x121), (.int .i64 x122), (.int .i64 x123), (.int .i64 x124)]) ∧ K (.tuple #[(.agg #[(.bool b117), (.int .i64 x118), (.int .i64 x119)]), (.agg #[(.int .i64 x120), (.int .i64 x121), (.int .i64 x122), (.int .i64 x123), (.int .i64 x124)])]) h116)
  (∃ b125 : Bool, ∃ x126 : Int, ∃ x127 : Int, HV Tryz.prog (Instr.loadAt 62 (.pointer (some a27))) h78 (.agg #[(.bool b125), (.int .i64 x126), (.int .i64 x127)]) ∧ 
  ∃ x128 : Int, ∃ x129 : Int, ∃ x130 : Int, ∃ x131 : Int, ∃ x132 : Int, HV Tryz.prog (Instr.loadAt 64 (.pointer (some a29))) h78 (.agg #[(.int .i64 x128), (.int .i64 x129), (.int .i64 x130), (.int .i64 x131), (.int .i64 x132)]) ∧ 
  HU Tryz.prog (Instr.storeAt 62 (.pointer (some a10)) (.agg #[(.bool b125), (.int .i64 x126), (.int .i64 x127)])) h78 fun h133 => HV Tryz.prog (Instr.loadAt 64 (.pointer (some a29))) h133 (.agg #[(.int .i64 x128), (.int .i64 x129), (.int .i64 x130), (.int .i64 x131), (.int .i64 x132)]) ∧ 
  HU Tryz.prog (Instr.storeAt 64 (.pointer (some a12)) (.agg #[(.int .i64 x128), (.int .i64 x129), (.int .i64 x130), (.int .i64 x131), (.int .i64 x132)])) h133 fun h134 => 
  ∃ b135 : Bool, ∃ x136 : Int, ∃ x137 : Int, HV Tryz.prog (Instr.loadAt 62 (.pointer (some a10))) h134 (.agg #[(.bool b135), (.int .i64 x136), (.int .i64 x137)]) ∧ ∃ x138 : Int, ∃ x139 : Int, ∃ x140 : Int, ∃ x141 : Int, ∃ x142 : Int, HV Tryz.prog (Instr.loadAt 64 (.pointer (some a12))) h134 (.agg #[(.int .i64 x138), (.int .i64 x139), (.int .i64 x140), (.int .i64 x141), (.int .i64 x142)]) ∧ K (.tuple #[(.agg #[(.bool b135), (.int .i64 x136), (.int .i64 x137)]), (.agg #[(.int .i64 x138), (.int .i64 x139), (.int .i64 x140), (.int .i64 x141), (.int .i64 x142)])]) h134)))
def prune_Engine_Ask_lp (i : Nat) (Q : Qx) (tm : Tm) (h : Hp) : Prop := False
def prune_Engine_Ask_cut (i : Nat) : Option (List Nat) := none
set_option maxRecDepth 100000 in
theorem prune_Engine_Ask_eq (p1 : Option Addr) (x2 : Int) (x3 : Int) (x4 : Int) (x5 : Int) (x6 : Int) (h : Hp) (K : Value → Hp → Prop) : prune_Engine_Ask p1 x2 x3 x4 x5 x6 h K =
    codeWp Tryz.prog 96 prune_Engine_Ask_lp prune_Engine_Ask_cut (bodyOf Tryz.f14) 1 (endQ Tryz.prog Tryz.f14.results.toList K) (argTm [(.pointer p1), (.agg #[(.int .u32 x2), (.int .u32 x3), (.int .u16 x4), (.int .u16 x5), (.int .u8 x6)])]) h := by kernel_rfl
set_option maxRecDepth 100000 in
theorem prune_Engine_Ask_ok (p1 : Option Addr) (x2 : Int) (x3 : Int) (x4 : Int) (x5 : Int) (x6 : Int) {h : Hp} {K : Value → Hp → Prop} (H : prune_Engine_Ask p1 x2 x3 x4 x5 x6 h K) : CallsH Tryz.prog 14 #[(.pointer p1), (.agg #[(.int .u32 x2), (.int .u32 x3), (.int .u16 x4), (.int .u16 x5), (.int .u8 x6)])] h K :=
  calls_of (args := [(.pointer p1), (.agg #[(.int .u32 x2), (.int .u32 x3), (.int .u16 x4), (.int .u16 x5), (.int .u8 x6)])]) (n := 96) (lp := prune_Engine_Ask_lp) (cut := prune_Engine_Ask_cut) Tryz.func14 (c := bodyOf Tryz.f14) (by kernel_rfl) (by kernel_rfl) (by kernel_rfl) (good_by (c := (bodyOf Tryz.f14)) (i := 1) (l := []) (by kernel_rfl) (fun _ h => by cases h))
    (Eq.mp (prune_Engine_Ask_eq p1 x2 x3 x4 x5 x6 h K) H)

/-! ### (*quintet/prune.Engine).build: function 16 -/
def prune_Engine_build_l1 (p16 : Option Addr) (A17 : Option Addr) (l17 : Nat) (c17 : Nat) (A18 : Option Addr) (l18 : Nat) (c18 : Nat) (x19 : Int) (K0 : Hp → Prop)  : Nat → Int → Hp → Prop
  | 0, _, _ => False
  | k + 1, x20, h =>
    br (decide (x20 < x19))
    (∃ a57 : Addr, PV Tryz.prog (Instr.indexAt 42 (.slice A18 l18 c18) (.int .i64 x20)) (.pointer (some a57)) ∧
    ∃ x58 : Int, ∃ x59 : Int, ∃ x60 : Int, ∃ x61 : Int, ∃ x62 : Int, ∃ x63 : Int, ∃ x64 : Int, ∃ x65 : Int, ∃ x66 : Int, ∃ x67 : Int, ∃ x68 : Int, ∃ x69 : Int, HV Tryz.prog (Instr.loadAt 52 (.pointer (some a57))) h (.agg #[(.int .i64 x58), (.int .u32 x59), (.int .i64 x60), (.int .u32 x61), (.int .i64 x62), (.int .u16 x63), (.int .u16 x64), (.int .u16 x65), (.int .u16 x66), (.int .u8 x67), (.int .u8 x68), (.int .i64 x69)]) ∧ 
    newC h (.cells #[(.int .i64 0), (.int .u32 0), (.int .i64 0), (.int .u32 0), (.int .i64 0), (.int .u16 0), (.int .u16 0), (.int .u16 0), (.int .u16 0), (.int .u8 0), (.int .u8 0), (.int .i64 0)] 52 (0, 0)) fun a71 h70 => 
    HU Tryz.prog (Instr.storeAt 52 (.pointer (some a71)) (.agg #[(.int .i64 x58), (.int .u32 x59), (.int .i64 x60), (.int .u32 x61), (.int .i64 x62), (.int .u16 x63), (.int .u16 x64), (.int .u16 x65), (.int .u16 x66), (.int .u8 x67), (.int .u8 x68), (.int .i64 x69)])) h70 fun h72 => 
    ∃ x73 : Int, ∃ x74 : Int, HV Tryz.prog (Instr.loadAt 45 (.pointer (some (a71.add 1)))) h72 (.agg #[(.int .u32 x73), (.int .i64 x74)]) ∧ 
    CallsH Tryz.prog 40 #[(.pointer p16), (.int .i64 1), (.agg #[(.int .u32 x73), (.int .i64 x74)])] h72 fun r76 h75 =>
    ∃ x77 : Int, r76 = (.int .i64 x77) ∧ 
    drf p16 fun a78 =>
    ∃ A79 : Option Addr, ∃ l79 : Nat, ∃ c79 : Nat, HV Tryz.prog (Instr.loadAt 72 (.pointer (some (a78.add 8)))) h75 (.slice A79 l79 c79) ∧ 
    ∃ a80 : Addr, PV Tryz.prog (Instr.indexAt 72 (.slice A79 l79 c79) (.int .i64 x77)) (.pointer (some a80)) ∧
    ∃ x81 : Int, HV Tryz.prog (Instr.loadAt 3 (.pointer (some (a80.add 2)))) h75 (.int .i64 x81) ∧ 
    br (decide (x81 > 0))
    (prune_Engine_build_l1 p16 A17 l17 c17 A18 l18 c18 x19 K0 k (IntKind.i64.wrap (x20 + 1)) h75)
    (CallsH Tryz.prog 39 #[(.pointer p16)] h75 fun r83 h82 =>
    ∃ x84 : Int, r83 = (.int .i64 x84) ∧ 
    drf p16 fun a85 =>
    ∃ A86 : Option Addr, ∃ l86 : Nat, ∃ c86 : Nat, HV Tryz.prog (Instr.loadAt 72 (.pointer (some (a85.add 8)))) h82 (.slice A86 l86 c86) ∧ 
    ∃ a87 : Addr, PV Tryz.prog (Instr.indexAt 72 (.slice A86 l86 c86) (.int .i64 x77)) (.pointer (some a87)) ∧
    HU Tryz.prog (Instr.storeAt 3 (.pointer (some (a87.add 2))) (.int .i64 x84)) h82 fun h88 => 
    ∃ x89 : Int, ∃ x90 : Int, HV Tryz.prog (Instr.loadAt 45 (.pointer (some (a71.add 1)))) h88 (.agg #[(.int .u32 x89), (.int .i64 x90)]) ∧ 
    CallsH Tryz.prog 41 #[(.pointer p16), (.int .i64 x84), (.agg #[(.int .u32 x89), (.int .i64 x90)]), (.slice A17 l17 c17)] h88 fun r92 h91 =>
    r92 = (.tuple #[]) ∧ 
    prune_Engine_build_l1 p16 A17 l17 c17 A18 l18 c18 x19 K0 k (IntKind.i64.wrap (x20 + 1)) h91))
    (K0 h)
def prune_Engine_build_l1_L (Q : Qx) (k : Nat) (tm : Tm) (h : Hp) : Prop :=
  selP (tm 0) fun p16 =>
  selS (tm 2) fun A17 l17 c17 =>
  selS (tm 21) fun A18 l18 c18 =>
  selI .i64 (tm 22) fun x19 =>
  selI .i64 (tm 23) fun x20 =>
  prune_Engine_build_l1 p16 A17 l17 c17 A18 l18 c18 x19 (fun  h => Q (.exit 0) (mkTm []) h) k x20 h
def prune_Engine_build (p1 : Option Addr) (h : Hp) (K : Value → Hp → Prop) : Prop :=
  drf p1 fun a2 =>
  HU Tryz.prog (Instr.storeAt 72 (.pointer (some (a2.add 8))) (.slice none 0 0)) h fun h3 => 
  drf p1 fun a4 =>
  HU Tryz.prog (Instr.storeAt 3 (.pointer (some (a4.add 9))) (.int .i64 0)) h3 fun h5 => 
  CallsH Tryz.prog 39 #[(.pointer p1)] h5 fun r7 h6 =>
  ∃ x8 : Int, r7 = (.int .i64 x8) ∧ 
  CallsH Tryz.prog 39 #[(.pointer p1)] h6 fun r10 h9 =>
  ∃ x11 : Int, r10 = (.int .i64 x11) ∧ 
  drf p1 fun a12 =>
  CallsH Tryz.prog 34 #[(.pointer (some a12))] h9 fun r14 h13 =>
  ∃ A15 : Option Addr, ∃ l15 : Nat, ∃ c15 : Nat, r14 = (.slice A15 l15 c15) ∧ 
  ∃ k94, prune_Engine_build_l1 p1 A15 l15 c15 A15 l15 c15 (l15 : Int)
  (fun  (h93 : Hp) =>
  K (.tuple #[]) h93)
  k94 0 h13
def prune_Engine_build_lp (i : Nat) (Q : Qx) (tm : Tm) (h : Hp) : Prop := match Nat.beq i 126 with
  | true => ∃ k, prune_Engine_build_l1_L Q k tm h
  | false => False
def prune_Engine_build_cut (i : Nat) : Option (List Nat) := none
set_option maxRecDepth 100000 in
theorem prune_Engine_build_l1_step (Q : Qx) (k : Nat) (p16 : Option Addr) (A17 : Option Addr) (l17 : Nat) (c17 : Nat) (A18 : Option Addr) (l18 : Nat) (c18 : Nat) (x19 : Int) (x20 : Int) (h : Hp) : prune_Engine_build_l1_L Q (k + 1) (mkTm [(0, some (.pointer p16)), (2, some (.slice A17 l17 c17)), (21, some (.slice A18 l18 c18)), (22, some (.int .i64 x19)), (23, some (.int .i64 x20))]) h =
    codeWp Tryz.prog 57 prune_Engine_build_lp prune_Engine_build_cut (sub (bodyOf Tryz.f16) [true, true, true, true, true, false, false]) 252 (thenQ (fun tm h => prune_Engine_build_l1_L Q k (mask [0, 2, 21, 22, 23] tm) h) (maskQ (fun e => match e with | .exit 0 => [] | _ => []) Q)) (mkTm [(0, some (.pointer p16)), (2, some (.slice A17 l17 c17)), (21, some (.slice A18 l18 c18)), (22, some (.int .i64 x19)), (23, some (.int .i64 x20))]) h := by kernel_rfl
theorem prune_Engine_build_l1_mask (Q : Qx) (k : Nat) (tm : Tm) (h : Hp) : prune_Engine_build_l1_L Q k tm h ↔ prune_Engine_build_l1_L Q k (mask [0, 2, 21, 22, 23] tm) h := Iff.rfl
set_option maxRecDepth 100000 in
theorem prune_Engine_build_l1_snd : SndAt Tryz.prog 57 none (sub (bodyOf Tryz.f16) [true, true, true, true, true, false]) (prune_Engine_build_lp 126) := by
  refine loop_sound (lp := prune_Engine_build_lp) (cut := prune_Engine_build_cut) (i := 126) (c := (sub (bodyOf Tryz.f16) [true, true, true, true, true, false, false])) [0, 2, 21, 22, 23] (fun e => match e with | .exit 0 => [] | _ => []) prune_Engine_build_l1_L ?_ ?_ ?_
  · exact good_by (c := (sub (bodyOf Tryz.f16) [true, true, true, true, true, false, false])) (i := 252) (l := []) (by kernel_rfl) (fun _ h => by cases h)
  · intro Q tm h H
    obtain ⟨p16, e0, H⟩ := selP_ex H
    obtain ⟨A17, l17, c17, e2, H⟩ := selS_ex H
    obtain ⟨A18, l18, c18, e21, H⟩ := selS_ex H
    obtain ⟨x19, e22, H⟩ := selI_ex H
    obtain ⟨x20, e23, H⟩ := selI_ex H
    exact H
  · intro Q k tm h H
    have H0 := H
    obtain ⟨p16, e0, H⟩ := selP_ex H
    obtain ⟨A17, l17, c17, e2, H⟩ := selS_ex H
    obtain ⟨A18, l18, c18, e21, H⟩ := selS_ex H
    obtain ⟨x19, e22, H⟩ := selI_ex H
    obtain ⟨x20, e23, H⟩ := selI_ex H
    have e : mask [0, 2, 21, 22, 23] tm = mkTm [(0, some (.pointer p16)), (2, some (.slice A17 l17 c17)), (21, some (.slice A18 l18 c18)), (22, some (.int .i64 x19)), (23, some (.int .i64 x20))] := by simp only [mask, List.map_cons, List.map_nil, e0, e2, e21, e22, e23] <;> rfl
    rw [e]
    refine Eq.mp (prune_Engine_build_l1_step Q k p16 A17 l17 c17 A18 l18 c18 x19 x20 h) ?_
    rw [← e]
    exact (prune_Engine_build_l1_mask Q (k + 1) tm h).mp H0
set_option maxRecDepth 100000 in
theorem prune_Engine_build_eq (p1 : Option Addr) (h : Hp) (K : Value → Hp → Prop) : prune_Engine_build p1 h K =
    codeWp Tryz.prog 57 prune_Engine_build_lp prune_Engine_build_cut (bodyOf Tryz.f16) 1 (endQ Tryz.prog Tryz.f16.results.toList K) (argTm [(.pointer p1)]) h := by kernel_rfl
set_option maxRecDepth 100000 in
theorem prune_Engine_build_ok (p1 : Option Addr) {h : Hp} {K : Value → Hp → Prop} (H : prune_Engine_build p1 h K) : CallsH Tryz.prog 16 #[(.pointer p1)] h K :=
  calls_of (args := [(.pointer p1)]) (n := 57) (lp := prune_Engine_build_lp) (cut := prune_Engine_build_cut) Tryz.func16 (c := bodyOf Tryz.f16) (by kernel_rfl) (by kernel_rfl) (by kernel_rfl) (good_by (c := (bodyOf Tryz.f16)) (i := 1) (l := [(126, (sub (bodyOf Tryz.f16) [true, true, true, true, true, false]))]) (by kernel_rfl) (List.forall_mem_cons.2 ⟨prune_Engine_build_l1_snd, (fun _ h => by cases h)⟩))
    (Eq.mp (prune_Engine_build_eq p1 h K) H)

/-! ### (*quintet/prune.Engine).tried: function 28 -/
def prune_Engine_tried (p1 : Option Addr) (f2 : Fn) (f2r : Array Value) (f2c : Array Value) (h : Hp) (K : Value → Hp → Prop) : Prop :=
  ∃ b3 : Bool, PV Tryz.prog (binOp .eql 31 (.pointer p1) (.pointer none)) (.bool b3) ∧
  br b3
  (K (.int .i64 3) h)
  (drf p1 fun a4 =>
  ∃ p5 : Option Addr, HV Tryz.prog (Instr.loadAt 67 (.pointer (some (a4.add 7)))) h (.pointer p5) ∧ 
  CallsH Tryz.prog 50 #[(.pointer p5)] h fun r7 h6 =>
  ∃ p8 : Option Addr, r7 = (.pointer p8) ∧ 
  HN Tryz.prog (callS (.func f2 f2r f2c) #[(.pointer p8)]) h6 fun r10 h9 =>
  ∃ x11 : Int, r10 = (.int .i64 x11) ∧ 
  br (x11 != 0)
  (K (.int .i64 x11) h9)
  (drf p1 fun a12 =>
  CallsH Tryz.prog 52 #[(.pointer p8)] h9 fun r14 h13 =>
  ∃ A15 : Option Addr, ∃ l15 : Nat, ∃ c15 : Nat, r14 = (.slice A15 l15 c15) ∧ 
  CallsH Tryz.prog 51 #[(.pointer (some a12)), (.slice A15 l15 c15)] h13 fun r17 h16 =>
  ∃ b18 : Bool, r17 = (.bool b18) ∧ 
  br (!b18)
  (K (.int .i64 160) h16)
  (drf p1 fun a19 =>
  HU Tryz.prog (Instr.storeAt 67 (.pointer (some (a19.add 7))) (.pointer p8)) h16 fun h20 => 
  CallsH Tryz.prog 16 #[(.pointer p1)] h20 fun r22 h21 =>
  r22 = (.tuple #[]) ∧ 
  K (.int .i64 0) h21)))
def prune_Engine_tried_lp (i : Nat) (Q : Qx) (tm : Tm) (h : Hp) : Prop := False
def prune_Engine_tried_cut (i : Nat) : Option (List Nat) := none
set_option maxRecDepth 100000 in
theorem prune_Engine_tried_eq (p1 : Option Addr) (f2 : Fn) (f2r : Array Value) (f2c : Array Value) (h : Hp) (K : Value → Hp → Prop) : prune_Engine_tried p1 f2 f2r f2c h K =
    codeWp Tryz.prog 35 prune_Engine_tried_lp prune_Engine_tried_cut (bodyOf Tryz.f28) 1 (endQ Tryz.prog Tryz.f28.results.toList K) (argTm [(.pointer p1), (.func f2 f2r f2c)]) h := by kernel_rfl
set_option maxRecDepth 100000 in
theorem prune_Engine_tried_ok (p1 : Option Addr) (f2 : Fn) (f2r : Array Value) (f2c : Array Value) {h : Hp} {K : Value → Hp → Prop} (H : prune_Engine_tried p1 f2 f2r f2c h K) : CallsH Tryz.prog 28 #[(.pointer p1), (.func f2 f2r f2c)] h K :=
  calls_of (args := [(.pointer p1), (.func f2 f2r f2c)]) (n := 35) (lp := prune_Engine_tried_lp) (cut := prune_Engine_tried_cut) Tryz.func28 (c := bodyOf Tryz.f28) (by kernel_rfl) (by kernel_rfl) (by kernel_rfl) (good_by (c := (bodyOf Tryz.f28)) (i := 1) (l := []) (by kernel_rfl) (fun _ h => by cases h))
    (Eq.mp (prune_Engine_tried_eq p1 f2 f2r f2c h K) H)

/-! ### (*quintet/prune.Engine).Insert$1: function 29 -/
def prune_Engine_Insert_1 (p1 : Option Addr) (a2 : Addr) (a3 : Addr) (h : Hp) (K : Value → Hp → Prop) : Prop :=
  ∃ x4 : Int, HV Tryz.prog (Instr.loadAt 3 (.pointer (some a2))) h (.int .i64 x4) ∧ 
  ∃ x5 : Int, ∃ x6 : Int, ∃ x7 : Int, ∃ x8 : Int, ∃ x9 : Int, ∃ x10 : Int, ∃ x11 : Int, ∃ x12 : Int, ∃ x13 : Int, ∃ x14 : Int, ∃ x15 : Int, ∃ x16 : Int, HV Tryz.prog (Instr.loadAt 52 (.pointer (some a3))) h (.agg #[(.int .i64 x5), (.int .u32 x6), (.int .i64 x7), (.int .u32 x8), (.int .i64 x9), (.int .u16 x10), (.int .u16 x11), (.int .u16 x12), (.int .u16 x13), (.int .u8 x14), (.int .u8 x15), (.int .i64 x16)]) ∧ 
  CallsH Tryz.prog 30 #[(.pointer p1), (.int .i64 x4), (.agg #[(.int .i64 x5), (.int .u32 x6), (.int .i64 x7), (.int .u32 x8), (.int .i64 x9), (.int .u16 x10), (.int .u16 x11), (.int .u16 x12), (.int .u16 x13), (.int .u8 x14), (.int .u8 x15), (.int .i64 x16)])] h fun r18 h17 =>
  ∃ x19 : Int, r18 = (.int .i64 x19) ∧ 
  K (.int .i64 x19) h17
def prune_Engine_Insert_1_lp (i : Nat) (Q : Qx) (tm : Tm) (h : Hp) : Prop := False
def prune_Engine_Insert_1_cut (i : Nat) : Option (List Nat) := none
set_option maxRecDepth 100000 in
theorem prune_Engine_Insert_1_eq (p1 : Option Addr) (a2 : Addr) (a3 : Addr) (h : Hp) (K : Value → Hp → Prop) : prune_Engine_Insert_1 p1 a2 a3 h K =
    codeWp Tryz.prog 9 prune_Engine_Insert_1_lp prune_Engine_Insert_1_cut (bodyOf Tryz.f29) 1 (endQ Tryz.prog Tryz.f29.results.toList K) (argTm [(.pointer p1), (.pointer (some a2)), (.pointer (some a3))]) h := by kernel_rfl
set_option maxRecDepth 100000 in
theorem prune_Engine_Insert_1_ok (p1 : Option Addr) (a2 : Addr) (a3 : Addr) {h : Hp} {K : Value → Hp → Prop} (H : prune_Engine_Insert_1 p1 a2 a3 h K) : CallsH Tryz.prog 29 #[(.pointer p1), (.pointer (some a2)), (.pointer (some a3))] h K :=
  calls_of (args := [(.pointer p1), (.pointer (some a2)), (.pointer (some a3))]) (n := 9) (lp := prune_Engine_Insert_1_lp) (cut := prune_Engine_Insert_1_cut) Tryz.func29 (c := bodyOf Tryz.f29) (by kernel_rfl) (by kernel_rfl) (by kernel_rfl) (good_by (c := (bodyOf Tryz.f29)) (i := 1) (l := []) (by kernel_rfl) (fun _ h => by cases h))
    (Eq.mp (prune_Engine_Insert_1_eq p1 a2 a3 h K) H)

/-! ### (*quintet/prune.Engine).seek: function 31 -/
def prune_Engine_seek_j3 (K0 : Int → Int → Hp → Prop) (K1 : (Option Addr) → Int → Int → Value → Int → Int → Int → Hp → Prop) (p101 : Option Addr) (x102 : Int) (x103 : Int) (v104 : Value) (x105 : Int) (x106 : Int) (x107 : Int) (h : Hp) : Prop :=
  br (x107 == 32)
  (K0 x105 x106 h)
  (drf p101 fun a125 =>
  ∃ A126 : Option Addr, ∃ l126 : Nat, ∃ c126 : Nat, HV Tryz.prog (Instr.loadAt 72 (.pointer (some (a125.add 8)))) h (.slice A126 l126 c126) ∧ 
  CallsH Tryz.prog 56 #[(.int .u32 x103), (.int .i64 x107)] h fun r128 h127 =>
  ∃ x129 : Int, r128 = (.int .i64 x129) ∧ HV Tryz.prog (Instr.loadAt 72 (.pointer (some (a125.add 8)))) h127 (.slice A126 l126 c126) ∧ 
  ∃ a130 : Addr, PV Tryz.prog (Instr.indexAt 72 (.slice A126 l126 c126) (.int .i64 x102)) (.pointer (some a130)) ∧
  ∃ a131 : Addr, PV Tryz.prog (Instr.indexAt 91 (.pointer (some a130)) (.int .i64 x129)) (.pointer (some a131)) ∧
  ∃ x132 : Int, HV Tryz.prog (Instr.loadAt 3 (.pointer (some a131))) h127 (.int .i64 x132) ∧ 
  K1 p101 x132 x103 v104 x105 x106 x107 h127)
def prune_Engine_seek_j3_L (Q : Qx) (tm : Tm) (h : Hp) : Prop :=
  selP (tm 0) fun p101 =>
  selI .i64 (tm 1) fun x102 =>
  selI .u32 (tm 2) fun x103 =>
  selV (tm 3) fun v104 =>
  selI .i64 (tm 8) fun x105 =>
  selI .i64 (tm 9) fun x106 =>
  selI .i64 (tm 10) fun x107 =>
  prune_Engine_seek_j3 (fun (x116 : Int) (x117 : Int) h => Q (.exit 0) (mkTm [(8, some (.int .i64 x116)), (9, some (.int .i64 x117))]) h) (fun (p118 : Option Addr) (x119 : Int) (x120 : Int) (v121 : Value) (x122 : Int) (x123 : Int) (x124 : Int) h => Q (.normal) (mkTm [(0, some (.pointer p118)), (1, some (.int .i64 x119)), (2, some (.int .u32 x120)), (3, some v121), (8, some (.int .i64 x122)), (9, some (.int .i64 x123)), (10, some (.int .i64 x124))]) h) p101 x102 x103 v104 x105 x106 x107 h
def prune_Engine_seek_l2 (p5 : Option Addr) (x7 : Int) (v8 : Value) (K0 : Int → Int → Hp → Prop)  : Nat → Int → Int → Int → Int → Hp → Prop
  | 0, _, _, _, _, _ => False
  | k + 1, x6, x9, x10, x11, h =>
    br (decide (x6 > 0))
    (drf p5 fun a133 =>
    ∃ A134 : Option Addr, ∃ l134 : Nat, ∃ c134 : Nat, HV Tryz.prog (Instr.loadAt 72 (.pointer (some (a133.add 8)))) h (.slice A134 l134 c134) ∧ 
    ∃ a135 : Addr, PV Tryz.prog (Instr.indexAt 72 (.slice A134 l134 c134) (.int .i64 x6)) (.pointer (some a135)) ∧
    ∃ x136 : Int, ∃ x137 : Int, ∃ x138 : Int, ∃ b139 : Bool, ∃ A140 : Option Addr, ∃ l140 : Nat, ∃ c140 : Nat, HV Tryz.prog (Instr.loadAt 94 (.pointer (some a135))) h (.agg #[(.int .i64 x136), (.int .i64 x137), (.int .i64 x138), (.bool b139), (.slice A140 l140 c140)]) ∧ 
    HN Tryz.prog (callS v8 #[(.agg #[(.int .i64 x136), (.int .i64 x137), (.int .i64 x138), (.bool b139), (.slice A140 l140 c140)])]) h fun r142 h141 =>
    ∃ b143 : Bool, r142 = (.bool b143) ∧ 
    br b143
    (prune_Engine_seek_j3
    (fun (x144 : Int) (x145 : Int) (h146 : Hp) =>
    K0 x144 x145 h146)
    (fun (p147 : Option Addr) (x148 : Int) (x149 : Int) (v150 : Value) (x151 : Int) (x152 : Int) (x153 : Int) (h154 : Hp) =>
    prune_Engine_seek_l2 p5 x7 v8 K0 k x148 x151 x152 (IntKind.i64.wrap (x153 + 1)) h154)
    p5 x6 x7 v8 x6 (IntKind.i64.wrap (x10 + 1)) x11 h141)
    (prune_Engine_seek_j3
    (fun (x155 : Int) (x156 : Int) (h157 : Hp) =>
    K0 x155 x156 h157)
    (fun (p158 : Option Addr) (x159 : Int) (x160 : Int) (v161 : Value) (x162 : Int) (x163 : Int) (x164 : Int) (h165 : Hp) =>
    prune_Engine_seek_l2 p5 x7 v8 K0 k x159 x162 x163 (IntKind.i64.wrap (x164 + 1)) h165)
    p5 x6 x7 v8 x9 (IntKind.i64.wrap (x10 + 1)) x11 h141))
    (K0 x9 x10 h)
def prune_Engine_seek_l2_L (Q : Qx) (k : Nat) (tm : Tm) (h : Hp) : Prop :=
  selP (tm 0) fun p5 =>
  selI .i64 (tm 1) fun x6 =>
  selI .u32 (tm 2) fun x7 =>
  selV (tm 3) fun v8 =>
  selI .i64 (tm 8) fun x9 =>
  selI .i64 (tm 9) fun x10 =>
  selI .i64 (tm 10) fun x11 =>
  prune_Engine_seek_l2 p5 x7 v8 (fun (x88 : Int) (x89 : Int) h => Q (.exit 0) (mkTm [(8, some (.int .i64 x88)), (9, some (.int .i64 x89))]) h) k x6 x9 x10 x11 h
def prune_Engine_seek (p1 : Option Addr) (x2 : Int) (x3 : Int) (f4 : Fn) (f4r : Array Value) (f4c : Array Value) (h : Hp) (K : Value → Hp → Prop) : Prop :=
  ∃ k169, prune_Engine_seek_l2 p1 x3 (.func f4 f4r f4c)
  (fun (x166 : Int) (x167 : Int) (h168 : Hp) =>
  K (.tuple #[(.int .i64 x166), (.int .i64 x167)]) h168)
  k169 x2 0 0 0 h
def prune_Engine_seek_lp (i : Nat) (Q : Qx) (tm : Tm) (h : Hp) : Prop := match Nat.beq i 841 with
  | true => prune_Engine_seek_j3_L Q tm h
  | false => match Nat.beq i 26 with
  | true => ∃ k, prune_Engine_seek_l2_L Q k tm h
  | false => False
def prune_Engine_seek_cut (i : Nat) : Option (List Nat) := match Nat.beq i 841 with
  | true => some [0, 1, 2, 3, 8, 9, 10]
  | false => none
set_option maxRecDepth 100000 in
theorem prune_Engine_seek_j3_step (Q : Qx) (p101 : Option Addr) (x102 : Int) (x103 : Int) (v104 : Value) (x105 : Int) (x106 : Int) (x107 : Int) (h : Hp) : prune_Engine_seek_j3_L Q (mkTm [(0, some (.pointer p101)), (1, some (.int .i64 x102)), (2, some (.int .u32 x103)), (3, some v104), (8, some (.int .i64 x105)), (9, some (.int .i64 x106)), (10, some (.int .i64 x107))]) h =
    codeWp Tryz.prog 43 prune_Engine_seek_lp prune_Engine_seek_cut (sub (bodyOf Tryz.f31) [true, false, true, false, false, true, false, false, true, true]) 1683 (maskQ (fun e => match e with | .exit 0 => [8, 9] | .normal => [0, 1, 2, 3, 8, 9, 10] | _ => []) Q) (mkTm [(0, some (.pointer p101)), (1, some (.int .i64 x102)), (2, some (.int .u32 x103)), (3, some v104), (8, some (.int .i64 x105)), (9, some (.int .i64 x106)), (10, some (.int .i64 x107))]) h := by kernel_rfl
theorem prune_Engine_seek_j3_mask (Q : Qx) (tm : Tm) (h : Hp) : prune_Engine_seek_j3_L Q tm h ↔ prune_Engine_seek_j3_L Q (mask [0, 1, 2, 3, 8, 9, 10] tm) h := Iff.rfl
set_option maxRecDepth 100000 in
theorem prune_Engine_seek_j3_snd : SndAt Tryz.prog 43 none (sub (bodyOf Tryz.f31) [true, false, true, false, false, true, false, false, true, true]) (prune_Engine_seek_lp 841) := by
  refine join_sound (lp := prune_Engine_seek_lp) (cut := prune_Engine_seek_cut) (i := 841) (c := (sub (bodyOf Tryz.f31) [true, false, true, false, false, true, false, false, true, true])) [0, 1, 2, 3, 8, 9, 10] (fun e => match e with | .exit 0 => [8, 9] | .normal => [0, 1, 2, 3, 8, 9, 10] | _ => []) prune_Engine_seek_j3_L ?_ ?_
  · exact good_by (c := (sub (bodyOf Tryz.f31) [true, false, true, false, false, true, false, false, true, true])) (i := 1683) (l := []) (by kernel_rfl) (fun _ h => by cases h)
  · intro Q tm h H
    have H0 := H
    obtain ⟨p101, e0, H⟩ := selP_ex H
    obtain ⟨x102, e1, H⟩ := selI_ex H
    obtain ⟨x103, e2, H⟩ := selI_ex H
    obtain ⟨v104, e3, H⟩ := selV_ex H
    obtain ⟨x105, e8, H⟩ := selI_ex H
    obtain ⟨x106, e9, H⟩ := selI_ex H
    obtain ⟨x107, e10, H⟩ := selI_ex H
    have e : mask [0, 1, 2, 3, 8, 9, 10] tm = mkTm [(0, some (.pointer p101)), (1, some (.int .i64 x102)), (2, some (.int .u32 x103)), (3, some v104), (8, some (.int .i64 x105)), (9, some (.int .i64 x106)), (10, some (.int .i64 x107))] := by simp only [mask, List.map_cons, List.map_nil, e0, e1, e2, e3, e8, e9, e10] <;> rfl
    rw [e]
    refine Eq.mp (prune_Engine_seek_j3_step Q p101 x102 x103 v104 x105 x106 x107 h) ?_
    rw [← e]
    exact (prune_Engine_seek_j3_mask Q tm h).mp H0
set_option maxRecDepth 100000 in
theorem prune_Engine_seek_l2_step (Q : Qx) (k : Nat) (p5 : Option Addr) (x6 : Int) (x7 : Int) (v8 : Value) (x9 : Int) (x10 : Int) (x11 : Int) (h : Hp) : prune_Engine_seek_l2_L Q (k + 1) (mkTm [(0, some (.pointer p5)), (1, some (.int .i64 x6)), (2, some (.int .u32 x7)), (3, some v8), (8, some (.int .i64 x9)), (9, some (.int .i64 x10)), (10, some (.int .i64 x11))]) h =
    codeWp Tryz.prog 43 prune_Engine_seek_lp prune_Engine_seek_cut (sub (bodyOf Tryz.f31) [true, false, true, false, false]) 52 (thenQ (fun tm h => prune_Engine_seek_l2_L Q k (mask [0, 1, 2, 3, 8, 9, 10] tm) h) (maskQ (fun e => match e with | .exit 0 => [8, 9] | _ => []) Q)) (mkTm [(0, some (.pointer p5)), (1, some (.int .i64 x6)), (2, some (.int .u32 x7)), (3, some v8), (8, some (.int .i64 x9)), (9, some (.int .i64 x10)), (10, some (.int .i64 x11))]) h := by kernel_rfl
theorem prune_Engine_seek_l2_mask (Q : Qx) (k : Nat) (tm : Tm) (h : Hp) : prune_Engine_seek_l2_L Q k tm h ↔ prune_Engine_seek_l2_L Q k (mask [0, 1, 2, 3, 8, 9, 10] tm) h := Iff.rfl
set_option maxRecDepth 100000 in
theorem prune_Engine_seek_l2_snd : SndAt Tryz.prog 43 none (sub (bodyOf Tryz.f31) [true, false, true, false]) (prune_Engine_seek_lp 26) := by
  refine loop_sound (lp := prune_Engine_seek_lp) (cut := prune_Engine_seek_cut) (i := 26) (c := (sub (bodyOf Tryz.f31) [true, false, true, false, false])) [0, 1, 2, 3, 8, 9, 10] (fun e => match e with | .exit 0 => [8, 9] | _ => []) prune_Engine_seek_l2_L ?_ ?_ ?_
  · exact good_by (c := (sub (bodyOf Tryz.f31) [true, false, true, false, false])) (i := 52) (l := [(841, (sub (bodyOf Tryz.f31) [true, false, true, false, false, true, false, false, true, true]))]) (by kernel_rfl) (List.forall_mem_cons.2 ⟨prune_Engine_seek_j3_snd, (fun _ h => by cases h)⟩)
  · intro Q tm h H
    obtain ⟨p5, e0, H⟩ := selP_ex H
    obtain ⟨x6, e1, H⟩ := selI_ex H
    obtain ⟨x7, e2, H⟩ := selI_ex H
    obtain ⟨v8, e3, H⟩ := selV_ex H
    obtain ⟨x9, e8, H⟩ := selI_ex H
    obtain ⟨x10, e9, H⟩ := selI_ex H
    obtain ⟨x11, e10, H⟩ := selI_ex H
    exact H
  · intro Q k tm h H
    have H0 := H
    obtain ⟨p5, e0, H⟩ := selP_ex H
    obtain ⟨x6, e1, H⟩ := selI_ex H
    obtain ⟨x7, e2, H⟩ := selI_ex H
    obtain ⟨v8, e3, H⟩ := selV_ex H
    obtain ⟨x9, e8, H⟩ := selI_ex H
    obtain ⟨x10, e9, H⟩ := selI_ex H
    obtain ⟨x11, e10, H⟩ := selI_ex H
    have e : mask [0, 1, 2, 3, 8, 9, 10] tm = mkTm [(0, some (.pointer p5)), (1, some (.int .i64 x6)), (2, some (.int .u32 x7)), (3, some v8), (8, some (.int .i64 x9)), (9, some (.int .i64 x10)), (10, some (.int .i64 x11))] := by simp only [mask, List.map_cons, List.map_nil, e0, e1, e2, e3, e8, e9, e10] <;> rfl
    rw [e]
    refine Eq.mp (prune_Engine_seek_l2_step Q k p5 x6 x7 v8 x9 x10 x11 h) ?_
    rw [← e]
    exact (prune_Engine_seek_l2_mask Q (k + 1) tm h).mp H0
set_option maxRecDepth 100000 in
theorem prune_Engine_seek_eq (p1 : Option Addr) (x2 : Int) (x3 : Int) (f4 : Fn) (f4r : Array Value) (f4c : Array Value) (h : Hp) (K : Value → Hp → Prop) : prune_Engine_seek p1 x2 x3 f4 f4r f4c h K =
    codeWp Tryz.prog 43 prune_Engine_seek_lp prune_Engine_seek_cut (bodyOf Tryz.f31) 1 (endQ Tryz.prog Tryz.f31.results.toList K) (argTm [(.pointer p1), (.int .i64 x2), (.int .u32 x3), (.func f4 f4r f4c)]) h := by kernel_rfl
set_option maxRecDepth 100000 in
theorem prune_Engine_seek_ok (p1 : Option Addr) (x2 : Int) (x3 : Int) (f4 : Fn) (f4r : Array Value) (f4c : Array Value) {h : Hp} {K : Value → Hp → Prop} (H : prune_Engine_seek p1 x2 x3 f4 f4r f4c h K) : CallsH Tryz.prog 31 #[(.pointer p1), (.int .i64 x2), (.int .u32 x3), (.func f4 f4r f4c)] h K :=
  calls_of (args := [(.pointer p1), (.int .i64 x2), (.int .u32 x3), (.func f4 f4r f4c)]) (n := 43) (lp := prune_Engine_seek_lp) (cut := prune_Engine_seek_cut) Tryz.func31 (c := bodyOf Tryz.f31) (by kernel_rfl) (by kernel_rfl) (by kernel_rfl) (good_by (c := (bodyOf Tryz.f31)) (i := 1) (l := [(26, (sub (bodyOf Tryz.f31) [true, false, true, false]))]) (by kernel_rfl) (List.forall_mem_cons.2 ⟨prune_Engine_seek_l2_snd, (fun _ h => by cases h)⟩))
    (Eq.mp (prune_Engine_seek_eq p1 x2 x3 f4 f4r f4c h K) H)

/-! ### (*quintet/prune.Engine).Ask$1: function 32 -/
def prune_Engine_Ask_1 (x1 : Int) (x2 : Int) (x3 : Int) (b4 : Bool) (A5 : Option Addr) (l5 : Nat) (c5 : Nat) (h : Hp) (K : Value → Hp → Prop) : Prop :=
  newC h (.cells #[(.int .i64 x1), (.int .i64 x2), (.int .i64 x3), (.bool b4), (.slice A5 l5 c5)] 94 (0, 0)) fun a7 h6 => 
  ∃ x8 : Int, HV Tryz.prog (Instr.loadAt 3 (.pointer (some (a7.add 2)))) h6 (.int .i64 x8) ∧ 
  K (.bool (decide (x8 > 0))) h6
def prune_Engine_Ask_1_lp (i : Nat) (Q : Qx) (tm : Tm) (h : Hp) : Prop := False
def prune_Engine_Ask_1_cut (i : Nat) : Option (List Nat) := none
set_option maxRecDepth 100000 in
theorem prune_Engine_Ask_1_eq (x1 : Int) (x2 : Int) (x3 : Int) (b4 : Bool) (A5 : Option Addr) (l5 : Nat) (c5 : Nat) (h : Hp) (K : Value → Hp → Prop) : prune_Engine_Ask_1 x1 x2 x3 b4 A5 l5 c5 h K =
    codeWp Tryz.prog 6 prune_Engine_Ask_1_lp prune_Engine_Ask_1_cut (bodyOf Tryz.f32) 1 (endQ Tryz.prog Tryz.f32.results.toList K) (argTm [(.agg #[(.int .i64 x1), (.int .i64 x2), (.int .i64 x3), (.bool b4), (.slice A5 l5 c5)])]) h := by kernel_rfl
set_option maxRecDepth 100000 in
theorem prune_Engine_Ask_1_ok (x1 : Int) (x2 : Int) (x3 : Int) (b4 : Bool) (A5 : Option Addr) (l5 : Nat) (c5 : Nat) {h : Hp} {K : Value → Hp → Prop} (H : prune_Engine_Ask_1 x1 x2 x3 b4 A5 l5 c5 h K) : CallsH Tryz.prog 32 #[(.agg #[(.int .i64 x1), (.int .i64 x2), (.int .i64 x3), (.bool b4), (.slice A5 l5 c5)])] h K :=
  calls_of (args := [(.agg #[(.int .i64 x1), (.int .i64 x2), (.int .i64 x3), (.bool b4), (.slice A5 l5 c5)])]) (n := 6) (lp := prune_Engine_Ask_1_lp) (cut := prune_Engine_Ask_1_cut) Tryz.func32 (c := bodyOf Tryz.f32) (by kernel_rfl) (by kernel_rfl) (by kernel_rfl) (good_by (c := (bodyOf Tryz.f32)) (i := 1) (l := []) (by kernel_rfl) (fun _ h => by cases h))
    (Eq.mp (prune_Engine_Ask_1_eq x1 x2 x3 b4 A5 l5 c5 h K) H)

/-! ### (*quintet/prune.Engine).Ask$2: function 33 -/
def prune_Engine_Ask_2 (x1 : Int) (x2 : Int) (x3 : Int) (b4 : Bool) (A5 : Option Addr) (l5 : Nat) (c5 : Nat) (h : Hp) (K : Value → Hp → Prop) : Prop :=
  newC h (.cells #[(.int .i64 x1), (.int .i64 x2), (.int .i64 x3), (.bool b4), (.slice A5 l5 c5)] 94 (0, 0)) fun a7 h6 => 
  ∃ b8 : Bool, HV Tryz.prog (Instr.loadAt 4 (.pointer (some (a7.add 3)))) h6 (.bool b8) ∧ 
  K (.bool b8) h6
def prune_Engine_Ask_2_lp (i : Nat) (Q : Qx) (tm : Tm) (h : Hp) : Prop := False
def prune_Engine_Ask_2_cut (i : Nat) : Option (List Nat) := none
set_option maxRecDepth 100000 in
theorem prune_Engine_Ask_2_eq (x1 : Int) (x2 : Int) (x3 : Int) (b4 : Bool) (A5 : Option Addr) (l5 : Nat) (c5 : Nat) (h : Hp) (K : Value → Hp → Prop) : prune_Engine_Ask_2 x1 x2 x3 b4 A5 l5 c5 h K =
    codeWp Tryz.prog 5 prune_Engine_Ask_2_lp prune_Engine_Ask_2_cut (bodyOf Tryz.f33) 1 (endQ Tryz.prog Tryz.f33.results.toList K) (argTm [(.agg #[(.int .i64 x1), (.int .i64 x2), (.int .i64 x3), (.bool b4), (.slice A5 l5 c5)])]) h := by kernel_rfl
set_option maxRecDepth 100000 in
theorem prune_Engine_Ask_2_ok (x1 : Int) (x2 : Int) (x3 : Int) (b4 : Bool) (A5 : Option Addr) (l5 : Nat) (c5 : Nat) {h : Hp} {K : Value → Hp → Prop} (H : prune_Engine_Ask_2 x1 x2 x3 b4 A5 l5 c5 h K) : CallsH Tryz.prog 33 #[(.agg #[(.int .i64 x1), (.int .i64 x2), (.int .i64 x3), (.bool b4), (.slice A5 l5 c5)])] h K :=
  calls_of (args := [(.agg #[(.int .i64 x1), (.int .i64 x2), (.int .i64 x3), (.bool b4), (.slice A5 l5 c5)])]) (n := 5) (lp := prune_Engine_Ask_2_lp) (cut := prune_Engine_Ask_2_cut) Tryz.func33 (c := bodyOf Tryz.f33) (by kernel_rfl) (by kernel_rfl) (by kernel_rfl) (good_by (c := (bodyOf Tryz.f33)) (i := 1) (l := []) (by kernel_rfl) (fun _ h => by cases h))
    (Eq.mp (prune_Engine_Ask_2_eq x1 x2 x3 b4 A5 l5 c5 h K) H)

/-! ### (*quintet/prune.Engine).Ask$3: function 36 -/
def prune_Engine_Ask_3 (x1 : Int) (a2 : Addr) (a3 : Addr) (a4 : Addr) (h : Hp) (K : Value → Hp → Prop) : Prop :=
  ∃ x5 : Int, HV Tryz.prog (Instr.loadAt 3 (.pointer (some (a2.add 1)))) h (.int .i64 x5) ∧ 
  HU Tryz.prog (Instr.storeAt 3 (.pointer (some (a2.add 1))) (.int .i64 (IntKind.i64.wrap (x5 + 1)))) h fun h6 => 
  ∃ A7 : Option Addr, ∃ l7 : Nat, ∃ c7 : Nat, HV Tryz.prog (Instr.loadAt 42 (.pointer (some a3))) h6 (.slice A7 l7 c7) ∧ 
  ∃ a8 : Addr, PV Tryz.prog (Instr.indexAt 42 (.slice A7 l7 c7) (.int .i64 x1)) (.pointer (some a8)) ∧
  ∃ x9 : Int, ∃ x10 : Int, ∃ x11 : Int, ∃ x12 : Int, ∃ x13 : Int, ∃ x14 : Int, ∃ x15 : Int, ∃ x16 : Int, ∃ x17 : Int, ∃ x18 : Int, ∃ x19 : Int, ∃ x20 : Int, HV Tryz.prog (Instr.loadAt 52 (.pointer (some a8))) h6 (.agg #[(.int .i64 x9), (.int .u32 x10), (.int .i64 x11), (.int .u32 x12), (.int .i64 x13), (.int .u16 x14), (.int .u16 x15), (.int .u16 x16), (.int .u16 x17), (.int .u8 x18), (.int .u8 x19), (.int .i64 x20)]) ∧ 
  ∃ x21 : Int, ∃ x22 : Int, ∃ x23 : Int, ∃ x24 : Int, ∃ x25 : Int, HV Tryz.prog (Instr.loadAt 54 (.pointer (some a4))) h6 (.agg #[(.int .u32 x21), (.int .u32 x22), (.int .u16 x23), (.int .u16 x24), (.int .u8 x25)]) ∧ 
  CallsH Tryz.prog 37 #[(.agg #[(.int .i64 x9), (.int .u32 x10), (.int .i64 x11), (.int .u32 x12), (.int .i64 x13), (.int .u16 x14), (.int .u16 x15), (.int .u16 x16), (.int .u16 x17), (.int .u8 x18), (.int .u8 x19), (.int .i64 x20)]), (.agg #[(.int .u32 x21), (.int .u32 x22), (.int .u16 x23), (.int .u16 x24), (.int .u8 x25)])] h6 fun r27 h26 =>
  ∃ b28 : Bool, r27 = (.bool b28) ∧ 
  K (.bool b28) h26
def prune_Engine_Ask_3_lp (i : Nat) (Q : Qx) (tm : Tm) (h : Hp) : Prop := False
def prune_Engine_Ask_3_cut (i : Nat) : Option (List Nat) := none
set_option maxRecDepth 100000 in
theorem prune_Engine_Ask_3_eq (x1 : Int) (a2 : Addr) (a3 : Addr) (a4 : Addr) (h : Hp) (K : Value → Hp → Prop) : prune_Engine_Ask_3 x1 a2 a3 a4 h K =
    codeWp Tryz.prog 16 prune_Engine_Ask_3_lp prune_Engine_Ask_3_cut (bodyOf Tryz.f36) 1 (endQ Tryz.prog Tryz.f36.results.toList K) (argTm [(.int .i64 x1), (.pointer (some a2)), (.pointer (some a3)), (.pointer (some a4))]) h := by kernel_rfl
set_option maxRecDepth 100000 in
theorem prune_Engine_Ask_3_ok (x1 : Int) (a2 : Addr) (a3 : Addr) (a4 : Addr) {h : Hp} {K : Value → Hp → Prop} (H : prune_Engine_Ask_3 x1 a2 a3 a4 h K) : CallsH Tryz.prog 36 #[(.int .i64 x1), (.pointer (some a2)), (.pointer (some a3)), (.pointer (some a4))] h K :=
  calls_of (args := [(.int .i64 x1), (.pointer (some a2)), (.pointer (some a3)), (.pointer (some a4))]) (n := 16) (lp := prune_Engine_Ask_3_lp) (cut := prune_Engine_Ask_3_cut) Tryz.func36 (c := bodyOf Tryz.f36) (by kernel_rfl) (by kernel_rfl) (by kernel_rfl) (good_by (c := (bodyOf Tryz.f36)) (i := 1) (l := []) (by kernel_rfl) (fun _ h => by cases h))
    (Eq.mp (prune_Engine_Ask_3_eq x1 a2 a3 a4 h K) H)

/-! ### (*quintet/prune.Engine).fresh: function 39 -/
def prune_Engine_fresh (p1 : Option Addr) (h : Hp) (K : Value → Hp → Prop) : Prop :=
  drf p1 fun a2 =>
  ∃ A3 : Option Addr, ∃ l3 : Nat, ∃ c3 : Nat, HV Tryz.prog (Instr.loadAt 72 (.pointer (some (a2.add 8)))) h (.slice A3 l3 c3) ∧ 
  newC h (.cells #[(.int .i64 0), (.int .i64 0), (.int .i64 0), (.bool false), (.slice none 0 0)] 94 (0, 0)) fun a5 h4 => 
  HW Tryz.prog (Builtin.append_ #[72, 72] 72 #[(.slice A3 l3 c3), (.slice (some a5) 1 1)]) h4 fun r7 h6 =>
  ∃ A8 : Option Addr, ∃ l8 : Nat, ∃ c8 : Nat, r7 = (.slice A8 l8 c8) ∧ 
  drf p1 fun a9 =>
  HU Tryz.prog (Instr.storeAt 72 (.pointer (some (a9.add 8))) (.slice A8 l8 c8)) h6 fun h10 => 
  drf p1 fun a11 =>
  ∃ A12 : Option Addr, ∃ l12 : Nat, ∃ c12 : Nat, HV Tryz.prog (Instr.loadAt 72 (.pointer (some (a11.add 8)))) h10 (.slice A12 l12 c12) ∧ 
  K (.int .i64 (IntKind.i64.wrap ((l12 : Int) - 1))) h10
def prune_Engine_fresh_lp (i : Nat) (Q : Qx) (tm : Tm) (h : Hp) : Prop := False
def prune_Engine_fresh_cut (i : Nat) : Option (List Nat) := none
set_option maxRecDepth 100000 in
theorem prune_Engine_fresh_eq (p1 : Option Addr) (h : Hp) (K : Value → Hp → Prop) : prune_Engine_fresh p1 h K =
    codeWp Tryz.prog 19 prune_Engine_fresh_lp prune_Engine_fresh_cut (bodyOf Tryz.f39) 1 (endQ Tryz.prog Tryz.f39.results.toList K) (argTm [(.pointer p1)]) h := by kernel_rfl
set_option maxRecDepth 100000 in
theorem prune_Engine_fresh_ok (p1 : Option Addr) {h : Hp} {K : Value → Hp → Prop} (H : prune_Engine_fresh p1 h K) : CallsH Tryz.prog 39 #[(.pointer p1)] h K :=
  calls_of (args := [(.pointer p1)]) (n := 19) (lp := prune_Engine_fresh_lp) (cut := prune_Engine_fresh_cut) Tryz.func39 (c := bodyOf Tryz.f39) (by kernel_rfl) (by kernel_rfl) (by kernel_rfl) (good_by (c := (bodyOf Tryz.f39)) (i := 1) (l := []) (by kernel_rfl) (fun _ h => by cases h))
    (Eq.mp (prune_Engine_fresh_eq p1 h K) H)

/-! ### (*quintet/prune.Engine).down: function 40 -/
def prune_Engine_down_l1 (p8 : Option Addr) (a10 : Addr) (x11 : Int) (K0 : Int → Hp → Prop)  : Nat → Int → Int → Hp → Prop
  | 0, _, _, _ => False
  | k + 1, x9, x12, h =>
    br (decide (x12 < x11))
    (drf p8 fun a35 =>
    ∃ A36 : Option Addr, ∃ l36 : Nat, ∃ c36 : Nat, HV Tryz.prog (Instr.loadAt 72 (.pointer (some (a35.add 8)))) h (.slice A36 l36 c36) ∧ 
    ∃ x37 : Int, HV Tryz.prog (Instr.loadAt 43 (.pointer (some a10))) h (.int .u32 x37) ∧ 
    CallsH Tryz.prog 56 #[(.int .u32 x37), (.int .i64 x12)] h fun r39 h38 =>
    ∃ x40 : Int, r39 = (.int .i64 x40) ∧ HV Tryz.prog (Instr.loadAt 72 (.pointer (some (a35.add 8)))) h38 (.slice A36 l36 c36) ∧ 
    ∃ a41 : Addr, PV Tryz.prog (Instr.indexAt 72 (.slice A36 l36 c36) (.int .i64 x9)) (.pointer (some a41)) ∧
    ∃ a42 : Addr, PV Tryz.prog (Instr.indexAt 91 (.pointer (some a41)) (.int .i64 x40)) (.pointer (some a42)) ∧
    ∃ x43 : Int, HV Tryz.prog (Instr.loadAt 3 (.pointer (some a42))) h38 (.int .i64 x43) ∧ 
    br (x43 == 0)
    (CallsH Tryz.prog 39 #[(.pointer p8)] h38 fun r45 h44 =>
    ∃ x46 : Int, r45 = (.int .i64 x46) ∧ 
    drf p8 fun a47 =>
    ∃ A48 : Option Addr, ∃ l48 : Nat, ∃ c48 : Nat, HV Tryz.prog (Instr.loadAt 72 (.pointer (some (a47.add 8)))) h44 (.slice A48 l48 c48) ∧ 
    ∃ x49 : Int, HV Tryz.prog (Instr.loadAt 43 (.pointer (some a10))) h44 (.int .u32 x49) ∧ 
    CallsH Tryz.prog 56 #[(.int .u32 x49), (.int .i64 x12)] h44 fun r51 h50 =>
    ∃ x52 : Int, r51 = (.int .i64 x52) ∧ HV Tryz.prog (Instr.loadAt 72 (.pointer (some (a47.add 8)))) h50 (.slice A48 l48 c48) ∧ 
    ∃ a53 : Addr, PV Tryz.prog (Instr.indexAt 72 (.slice A48 l48 c48) (.int .i64 x9)) (.pointer (some a53)) ∧
    ∃ a54 : Addr, PV Tryz.prog (Instr.indexAt 91 (.pointer (some a53)) (.int .i64 x52)) (.pointer (some a54)) ∧
    HU Tryz.prog (Instr.storeAt 3 (.pointer (some a54)) (.int .i64 x46)) h50 fun h55 => 
    prune_Engine_down_l1 p8 a10 x11 K0 k x46 (IntKind.i64.wrap (x12 + 1)) h55)
    (prune_Engine_down_l1 p8 a10 x11 K0 k x43 (IntKind.i64.wrap (x12 + 1)) h38))
    (K0 x9 h)
def prune_Engine_down_l1_L (Q : Qx) (k : Nat) (tm : Tm) (h : Hp) : Prop :=
  selP (tm 0) fun p8 =>
  selI .i64 (tm 1) fun x9 =>
  selA (tm 5) fun a10 =>
  selI .i64 (tm 10) fun x11 =>
  selI .i64 (tm 11) fun x12 =>
  prune_Engine_down_l1 p8 a10 x11 (fun (x34 : Int) h => Q (.exit 0) (mkTm [(1, some (.int .i64 x34))]) h) k x9 x12 h
def prune_Engine_down (p1 : Option Addr) (x2 : Int) (x3 : Int) (x4 : Int) (h : Hp) (K : Value → Hp → Prop) : Prop :=
  newC h (.cells #[(.int .u32 x3), (.int .i64 x4)] 45 (0, 0)) fun a6 h5 => 
  ∃ x7 : Int, HV Tryz.prog (Instr.loadAt 3 (.pointer (some (a6.add 1)))) h5 (.int .i64 x7) ∧ 
  ∃ k58, prune_Engine_down_l1 p1 a6 x7
  (fun (x56 : Int) (h57 : Hp) =>
  K (.int .i64 x56) h57)
  k58 x2 0 h5
def prune_Engine_down_lp (i : Nat) (Q : Qx) (tm : Tm) (h : Hp) : Prop := match Nat.beq i 26 with
  | true => ∃ k, prune_Engine_down_l1_L Q k tm h
  | false => False
def prune_Engine_down_cut (i : Nat) : Option (List Nat) := none
set_option maxRecDepth 100000 in
theorem prune_Engine_down_l1_step (Q : Qx) (k : Nat) (p8 : Option Addr) (x9 : Int) (a10 : Addr) (x11 : Int) (x12 : Int) (h : Hp) : prune_Engine_down_l1_L Q (k + 1) (mkTm [(0, some (.pointer p8)), (1, some (.int .i64 x9)), (5, some (.pointer (some a10))), (10, some (.int .i64 x11)), (11, some (.int .i64 x12))]) h =
    codeWp Tryz.prog 47 prune_Engine_down_lp prune_Engine_down_cut (sub (bodyOf Tryz.f40) [true, false, true, false, false]) 52 (thenQ (fun tm h => prune_Engine_down_l1_L Q k (mask [0, 1, 5, 10, 11] tm) h) (maskQ (fun e => match e with | .exit 0 => [1] | _ => []) Q)) (mkTm [(0, some (.pointer p8)), (1, some (.int .i64 x9)), (5, some (.pointer (some a10))), (10, some (.int .i64 x11)), (11, some (.int .i64 x12))]) h := by kernel_rfl
theorem prune_Engine_down_l1_mask (Q : Qx) (k : Nat) (tm : Tm) (h : Hp) : prune_Engine_down_l1_L Q k tm h ↔ prune_Engine_down_l1_L Q k (mask [0, 1, 5, 10, 11] tm) h := Iff.rfl
set_option maxRecDepth 100000 in
theorem prune_Engine_down_l1_snd : SndAt Tryz.prog 47 none (sub (bodyOf Tryz.f40) [true, false, true, false]) (prune_Engine_down_lp 26) := by
  refine loop_sound (lp := prune_Engine_down_lp) (cut := prune_Engine_down_cut) (i := 26) (c := (sub (bodyOf Tryz.f40) [true, false, true, false, false])) [0, 1, 5, 10, 11] (fun e => match e with | .exit 0 => [1] | _ => []) prune_Engine_down_l1_L ?_ ?_ ?_
  · exact good_by (c := (sub (bodyOf Tryz.f40) [true, false, true, false, false])) (i := 52) (l := []) (by kernel_rfl) (fun _ h => by cases h)
  · intro Q tm h H
    obtain ⟨p8, e0, H⟩ := selP_ex H
    obtain ⟨x9, e1, H⟩ := selI_ex H
    obtain ⟨a10, e5, H⟩ := selA_ex H
    obtain ⟨x11, e10, H⟩ := selI_ex H
    obtain ⟨x12, e11, H⟩ := selI_ex H
    exact H
  · intro Q k tm h H
    have H0 := H
    obtain ⟨p8, e0, H⟩ := selP_ex H
    obtain ⟨x9, e1, H⟩ := selI_ex H
    obtain ⟨a10, e5, H⟩ := selA_ex H
    obtain ⟨x11, e10, H⟩ := selI_ex H
    obtain ⟨x12, e11, H⟩ := selI_ex H
    have e : mask [0, 1, 5, 10, 11] tm = mkTm [(0, some (.pointer p8)), (1, some (.int .i64 x9)), (5, some (.pointer (some a10))), (10, some (.int .i64 x11)), (11, some (.int .i64 x12))] := by simp only [mask, List.map_cons, List.map_nil, e0, e1, e5, e10, e11] <;> rfl
    rw [e]
    refine Eq.mp (prune_Engine_down_l1_step Q k p8 x9 a10 x11 x12 h) ?_
    rw [← e]
    exact (prune_Engine_down_l1_mask Q (k + 1) tm h).mp H0
set_option maxRecDepth 100000 in
theorem prune_Engine_down_eq (p1 : Option Addr) (x2 : Int) (x3 : Int) (x4 : Int) (h : Hp) (K : Value → Hp → Prop) : prune_Engine_down p1 x2 x3 x4 h K =
    codeWp Tryz.prog 47 prune_Engine_down_lp prune_Engine_down_cut (bodyOf Tryz.f40) 1 (endQ Tryz.prog Tryz.f40.results.toList K) (argTm [(.pointer p1), (.int .i64 x2), (.agg #[(.int .u32 x3), (.int .i64 x4)])]) h := by kernel_rfl
set_option maxRecDepth 100000 in
theorem prune_Engine_down_ok (p1 : Option Addr) (x2 : Int) (x3 : Int) (x4 : Int) {h : Hp} {K : Value → Hp → Prop} (H : prune_Engine_down p1 x2 x3 x4 h K) : CallsH Tryz.prog 40 #[(.pointer p1), (.int .i64 x2), (.agg #[(.int .u32 x3), (.int .i64 x4)])] h K :=
  calls_of (args := [(.pointer p1), (.int .i64 x2), (.agg #[(.int .u32 x3), (.int .i64 x4)])]) (n := 47) (lp := prune_Engine_down_lp) (cut := prune_Engine_down_cut) Tryz.func40 (c := bodyOf Tryz.f40) (by kernel_rfl) (by kernel_rfl) (by kernel_rfl) (good_by (c := (bodyOf Tryz.f40)) (i := 1) (l := [(26, (sub (bodyOf Tryz.f40) [true, false, true, false]))]) (by kernel_rfl) (List.forall_mem_cons.2 ⟨prune_Engine_down_l1_snd, (fun _ h => by cases h)⟩))
    (Eq.mp (prune_Engine_down_eq p1 x2 x3 x4 h K) H)

/-! ### (*quintet/prune.Engine).fill: function 41 -/
def prune_Engine_fill_j7 (K0 : (Option Addr) → Int → (Option Addr) → Nat → Nat → Addr → Addr → Int → (Option Addr) → Nat → Nat → Int → Int → (Option Addr) → Nat → Nat → Int → Int → Hp → Prop) (p554 : Option Addr) (x555 : Int) (A556 : Option Addr) (l556 : Nat) (c556 : Nat) (a557 : Addr) (a558 : Addr) (x559 : Int) (x560 : Int) (A561 : Option Addr) (l561 : Nat) (c561 : Nat) (x562 : Int) (x563 : Int) (A564 : Option Addr) (l564 : Nat) (c564 : Nat) (x565 : Int) (x566 : Int) (b567 : Bool) (h : Hp) : Prop :=
  br b567
  (drf p554 fun a597 =>
  ∃ A598 : Option Addr, ∃ l598 : Nat, ∃ c598 : Nat, HV Tryz.prog (Instr.loadAt 72 (.pointer (some (a597.add 8)))) h (.slice A598 l598 c598) ∧ 
  drf p554 fun a599 =>
  ∃ A600 : Option Addr, ∃ l600 : Nat, ∃ c600 : Nat, HV Tryz.prog (Instr.loadAt 72 (.pointer (some (a599.add 8)))) h (.slice A600 l600 c600) ∧ 
  ∃ a601 : Addr, PV Tryz.prog (Instr.indexAt 72 (.slice A600 l600 c600) (.int .i64 x559)) (.pointer (some a601)) ∧
  ∃ A602 : Option Addr, ∃ l602 : Nat, ∃ c602 : Nat, HV Tryz.prog (Instr.loadAt 92 (.pointer (some (a601.add 4)))) h (.slice A602 l602 c602) ∧ 
  newC h (.cells #[(.int .i64 x560)] 3 (0, 0)) fun a604 h603 => HV Tryz.prog (Instr.loadAt 92 (.pointer (some (a601.add 4)))) h603 (.slice A602 l602 c602) ∧ HV Tryz.prog (Instr.loadAt 72 (.pointer (some (a599.add 8)))) h603 (.slice A600 l600 c600) ∧ HV Tryz.prog (Instr.loadAt 72 (.pointer (some (a597.add 8)))) h603 (.slice A598 l598 c598) ∧ 
  HW Tryz.prog (Builtin.append_ #[92, 92] 92 #[(.slice A602 l602 c602), (.slice (some a604) 1 1)]) h603 fun r606 h605 =>
  ∃ A607 : Option Addr, ∃ l607 : Nat, ∃ c607 : Nat, r606 = (.slice A607 l607 c607) ∧ HV Tryz.prog (Instr.loadAt 72 (.pointer (some (a597.add 8)))) h605 (.slice A598 l598 c598) ∧ 
  ∃ a608 : Addr, PV Tryz.prog (Instr.indexAt 72 (.slice A598 l598 c598) (.int .i64 x559)) (.pointer (some a608)) ∧
  HU Tryz.prog (Instr.storeAt 92 (.pointer (some (a608.add 4))) (.slice A607 l607 c607)) h605 fun h609 => 
  drf p554 fun a610 =>
  ∃ x611 : Int, HV Tryz.prog (Instr.loadAt 3 (.pointer (some (a610.add 9)))) h609 (.int .i64 x611) ∧ 
  drf p554 fun a612 =>
  HU Tryz.prog (Instr.storeAt 3 (.pointer (some (a612.add 9))) (.int .i64 (IntKind.i64.wrap (x611 + 1)))) h609 fun h613 => 
  K0 p554 x555 A556 l556 c556 a557 a558 x559 A561 l561 c561 x562 x563 A564 l564 c564 x565 x566 h613)
  (K0 p554 x555 A556 l556 c556 a557 a558 x559 A561 l561 c561 x562 x563 A564 l564 c564 x565 x566 h)
def prune_Engine_fill_j7_L (Q : Qx) (tm : Tm) (h : Hp) : Prop :=
  selP (tm 0) fun p554 =>
  selI .i64 (tm 1) fun x555 =>
  selS (tm 3) fun A556 l556 c556 =>
  selA (tm 6) fun a557 =>
  selA (tm 9) fun a558 =>
  selI .i64 (tm 10) fun x559 =>
  selI .i64 (tm 11) fun x560 =>
  selS (tm 13) fun A561 l561 c561 =>
  selI .i64 (tm 14) fun x562 =>
  selI .i64 (tm 15) fun x563 =>
  selS (tm 44) fun A564 l564 c564 =>
  selI .i64 (tm 45) fun x565 =>
  selI .i64 (tm 46) fun x566 =>
  selB (tm 61) fun b567 =>
  prune_Engine_fill_j7 (fun (p585 : Option Addr) (x586 : Int) (A587 : Option Addr) (l587 : Nat) (c587 : Nat) (a588 : Addr) (a589 : Addr) (x590 : Int) (A591 : Option Addr) (l591 : Nat) (c591 : Nat) (x592 : Int) (x593 : Int) (A594 : Option Addr) (l594 : Nat) (c594 : Nat) (x595 : Int) (x596 : Int) h => Q (.normal) (mkTm [(0, some (.pointer p585)), (1, some (.int .i64 x586)), (3, some (.slice A587 l587 c587)), (6, some (.pointer (some a588))), (9, some (.pointer (some a589))), (10, some (.int .i64 x590)), (13, some (.slice A591 l591 c591)), (14, some (.int .i64 x592)), (15, some (.int .i64 x593)), (44, some (.slice A594 l594 c594)), (45, some (.int .i64 x595)), (46, some (.int .i64 x596))]) h) p554 x555 A556 l556 c556 a557 a558 x559 x560 A561 l561 c561 x562 x563 A564 l564 c564 x565 x566 b567 h
def prune_Engine_fill_l6 (p375 : Option Addr) (x376 : Int) (A377 : Option Addr) (l377 : Nat) (c377 : Nat) (a378 : Addr) (a379 : Addr) (x380 : Int) (A381 : Option Addr) (l381 : Nat) (c381 : Nat) (x382 : Int) (x383 : Int) (A384 : Option Addr) (l384 : Nat) (c384 : Nat) (x385 : Int) (K0 : (Option Addr) → Int → (Option Addr) → Nat → Nat → Addr → (Option Addr) → Nat → Nat → Int → Int → Hp → Prop)  : Nat → Int → Hp → Prop
  | 0, _, _ => False
  | k + 1, x386, h =>
    br (decide (x386 < x385))
    (∃ a524 : Addr, PV Tryz.prog (Instr.indexAt 42 (.slice A384 l384 c384) (.int .i64 x386)) (.pointer (some a524)) ∧
    ∃ x525 : Int, ∃ x526 : Int, ∃ x527 : Int, ∃ x528 : Int, ∃ x529 : Int, ∃ x530 : Int, ∃ x531 : Int, ∃ x532 : Int, ∃ x533 : Int, ∃ x534 : Int, ∃ x535 : Int, ∃ x536 : Int, HV Tryz.prog (Instr.loadAt 52 (.pointer (some a524))) h (.agg #[(.int .i64 x525), (.int .u32 x526), (.int .i64 x527), (.int .u32 x528), (.int .i64 x529), (.int .u16 x530), (.int .u16 x531), (.int .u16 x532), (.int .u16 x533), (.int .u8 x534), (.int .u8 x535), (.int .i64 x536)]) ∧ 
    newC h (.cells #[(.int .i64 0), (.int .u32 0), (.int .i64 0), (.int .u32 0), (.int .i64 0), (.int .u16 0), (.int .u16 0), (.int .u16 0), (.int .u16 0), (.int .u8 0), (.int .u8 0), (.int .i64 0)] 52 (0, 0)) fun a538 h537 => 
    HU Tryz.prog (Instr.storeAt 52 (.pointer (some a538)) (.agg #[(.int .i64 x525), (.int .u32 x526), (.int .i64 x527), (.int .u32 x528), (.int .i64 x529), (.int .u16 x530), (.int .u16 x531), (.int .u16 x532), (.int .u16 x533), (.int .u8 x534), (.int .u8 x535), (.int .i64 x536)])) h537 fun h539 => 
    ∃ x614 : Int, ∃ x615 : Int, HV Tryz.prog (Instr.loadAt 45 (.pointer (some a378))) h539 (.agg #[(.int .u32 x614), (.int .i64 x615)]) ∧ 
    ∃ x616 : Int, ∃ x617 : Int, HV Tryz.prog (Instr.loadAt 45 (.pointer (some (a538.add 1)))) h539 (.agg #[(.int .u32 x616), (.int .i64 x617)]) ∧ 
    CallsH Tryz.prog 61 #[(.agg #[(.int .u32 x614), (.int .i64 x615)]), (.agg #[(.int .u32 x616), (.int .i64 x617)])] h539 fun r619 h618 =>
    ∃ b620 : Bool, r619 = (.bool b620) ∧ 
    br b620
    (∃ x621 : Int, ∃ x622 : Int, HV Tryz.prog (Instr.loadAt 45 (.pointer (some (a379.add 3)))) h618 (.agg #[(.int .u32 x621), (.int .i64 x622)]) ∧ 
    ∃ x623 : Int, ∃ x624 : Int, HV Tryz.prog (Instr.loadAt 45 (.pointer (some (a538.add 3)))) h618 (.agg #[(.int .u32 x623), (.int .i64 x624)]) ∧ 
    CallsH Tryz.prog 61 #[(.agg #[(.int .u32 x621), (.int .i64 x622)]), (.agg #[(.int .u32 x623), (.int .i64 x624)])] h618 fun r626 h625 =>
    ∃ b627 : Bool, r626 = (.bool b627) ∧ 
    prune_Engine_fill_j7
    (fun (p628 : Option Addr) (x629 : Int) (A630 : Option Addr) (l630 : Nat) (c630 : Nat) (a631 : Addr) (a632 : Addr) (x633 : Int) (A634 : Option Addr) (l634 : Nat) (c634 : Nat) (x635 : Int) (x636 : Int) (A637 : Option Addr) (l637 : Nat) (c637 : Nat) (x638 : Int) (x639 : Int) (h640 : Hp) =>
    prune_Engine_fill_l6 p375 x376 A377 l377 c377 a378 a379 x380 A381 l381 c381 x382 x383 A384 l384 c384 x385 K0 k (IntKind.i64.wrap (x639 + 1)) h640)
    p375 x376 A377 l377 c377 a378 a379 x380 x386 A381 l381 c381 x382 x383 A384 l384 c384 x385 x386 b627 h625)
    (prune_Engine_fill_j7
    (fun (p641 : Option Addr) (x642 : Int) (A643 : Option Addr) (l643 : Nat) (c643 : Nat) (a644 : Addr) (a645 : Addr) (x646 : Int) (A647 : Option Addr) (l647 : Nat) (c647 : Nat) (x648 : Int) (x649 : Int) (A650 : Option Addr) (l650 : Nat) (c650 : Nat) (x651 : Int) (x652 : Int) (h653 : Hp) =>
    prune_Engine_fill_l6 p375 x376 A377 l377 c377 a378 a379 x380 A381 l381 c381 x382 x383 A384 l384 c384 x385 K0 k (IntKind.i64.wrap (x652 + 1)) h653)
    p375 x376 A377 l377 c377 a378 a379 x380 x386 A381 l381 c381 x382 x383 A384 l384 c384 x385 x386 false h618))
    (K0 p375 x376 A377 l377 c377 a378 A381 l381 c381 x382 x383 h)
def prune_Engine_fill_l6_L (Q : Qx) (k : Nat) (tm : Tm) (h : Hp) : Prop :=
  selP (tm 0) fun p375 =>
  selI .i64 (tm 1) fun x376 =>
  selS (tm 3) fun A377 l377 c377 =>
  selA (tm 6) fun a378 =>
  selA (tm 9) fun a379 =>
  selI .i64 (tm 10) fun x380 =>
  selS (tm 13) fun A381 l381 c381 =>
  selI .i64 (tm 14) fun x382 =>
  selI .i64 (tm 15) fun x383 =>
  selS (tm 44) fun A384 l384 c384 =>
  selI .i64 (tm 45) fun x385 =>
  selI .i64 (tm 46) fun x386 =>
  prune_Engine_fill_l6 p375 x376 A377 l377 c377 a378 a379 x380 A381 l381 c381 x382 x383 A384 l384 c384 x385 (fun (p517 : Option Addr) (x518 : Int) (A519 : Option Addr) (l519 : Nat) (c519 : Nat) (a520 : Addr) (A521 : Option Addr) (l521 : Nat) (c521 : Nat) (x522 : Int) (x523 : Int) h => Q (.exit 2) (mkTm [(0, some (.pointer p517)), (1, some (.int .i64 x518)), (3, some (.slice A519 l519 c519)), (6, some (.pointer (some a520))), (13, some (.slice A521 l521 c521)), (14, some (.int .i64 x522)), (15, some (.int .i64 x523))]) h) k x386 h
def prune_Engine_fill_l4 (p8 : Option Addr) (x9 : Int) (A10 : Option Addr) (l10 : Nat) (c10 : Nat) (a11 : Addr) (A12 : Option Addr) (l12 : Nat) (c12 : Nat) (x13 : Int) (K0 : Hp → Prop)  : Nat → Int → Hp → Prop
  | 0, _, _ => False
  | k + 1, x14, h =>
    br (decide (x14 < x13))
    (∃ a339 : Addr, PV Tryz.prog (Instr.indexAt 42 (.slice A12 l12 c12) (.int .i64 x14)) (.pointer (some a339)) ∧
    ∃ x340 : Int, ∃ x341 : Int, ∃ x342 : Int, ∃ x343 : Int, ∃ x344 : Int, ∃ x345 : Int, ∃ x346 : Int, ∃ x347 : Int, ∃ x348 : Int, ∃ x349 : Int, ∃ x350 : Int, ∃ x351 : Int, HV Tryz.prog (Instr.loadAt 52 (.pointer (some a339))) h (.agg #[(.int .i64 x340), (.int .u32 x341), (.int .i64 x342), (.int .u32 x343), (.int .i64 x344), (.int .u16 x345), (.int .u16 x346), (.int .u16 x347), (.int .u16 x348), (.int .u8 x349), (.int .u8 x350), (.int .i64 x351)]) ∧ 
    newC h (.cells #[(.int .i64 0), (.int .u32 0), (.int .i64 0), (.int .u32 0), (.int .i64 0), (.int .u16 0), (.int .u16 0), (.int .u16 0), (.int .u16 0), (.int .u8 0), (.int .u8 0), (.int .i64 0)] 52 (0, 0)) fun a353 h352 => 
    HU Tryz.prog (Instr.storeAt 52 (.pointer (some a353)) (.agg #[(.int .i64 x340), (.int .u32 x341), (.int .i64 x342), (.int .u32 x343), (.int .i64 x344), (.int .u16 x345), (.int .u16 x346), (.int .u16 x347), (.int .u16 x348), (.int .u8 x349), (.int .u8 x350), (.int .i64 x351)])) h352 fun h354 => 
    ∃ x355 : Int, ∃ x356 : Int, HV Tryz.prog (Instr.loadAt 45 (.pointer (some a11))) h354 (.agg #[(.int .u32 x355), (.int .i64 x356)]) ∧ 
    ∃ x357 : Int, ∃ x358 : Int, HV Tryz.prog (Instr.loadAt 45 (.pointer (some (a353.add 1)))) h354 (.agg #[(.int .u32 x357), (.int .i64 x358)]) ∧ 
    CallsH Tryz.prog 61 #[(.agg #[(.int .u32 x355), (.int .i64 x356)]), (.agg #[(.int .u32 x357), (.int .i64 x358)])] h354 fun r360 h359 =>
    ∃ b361 : Bool, r360 = (.bool b361) ∧ 
    br (!b361)
    (prune_Engine_fill_l4 p8 x9 A10 l10 c10 a11 A12 l12 c12 x13 K0 k (IntKind.i64.wrap (x14 + 1)) h359)
    (∃ x362 : Int, ∃ x363 : Int, HV Tryz.prog (Instr.loadAt 45 (.pointer (some (a353.add 3)))) h359 (.agg #[(.int .u32 x362), (.int .i64 x363)]) ∧ 
    CallsH Tryz.prog 40 #[(.pointer p8), (.int .i64 x9), (.agg #[(.int .u32 x362), (.int .i64 x363)])] h359 fun r365 h364 =>
    ∃ x366 : Int, r365 = (.int .i64 x366) ∧ 
    drf p8 fun a367 =>
    ∃ A368 : Option Addr, ∃ l368 : Nat, ∃ c368 : Nat, HV Tryz.prog (Instr.loadAt 72 (.pointer (some (a367.add 8)))) h364 (.slice A368 l368 c368) ∧ 
    ∃ a369 : Addr, PV Tryz.prog (Instr.indexAt 72 (.slice A368 l368 c368) (.int .i64 x366)) (.pointer (some a369)) ∧
    ∃ b370 : Bool, HV Tryz.prog (Instr.loadAt 4 (.pointer (some (a369.add 3)))) h364 (.bool b370) ∧ 
    br b370
    (prune_Engine_fill_l4 p8 x9 A10 l10 c10 a11 A12 l12 c12 x13 K0 k (IntKind.i64.wrap (x14 + 1)) h364)
    (drf p8 fun a371 =>
    ∃ A372 : Option Addr, ∃ l372 : Nat, ∃ c372 : Nat, HV Tryz.prog (Instr.loadAt 72 (.pointer (some (a371.add 8)))) h364 (.slice A372 l372 c372) ∧ 
    ∃ a373 : Addr, PV Tryz.prog (Instr.indexAt 72 (.slice A372 l372 c372) (.int .i64 x366)) (.pointer (some a373)) ∧
    HU Tryz.prog (Instr.storeAt 4 (.pointer (some (a373.add 3))) (.bool true)) h364 fun h374 => 
    ∃ k662, prune_Engine_fill_l6 p8 x9 A10 l10 c10 a11 a353 x366 A12 l12 c12 x13 x14 A10 l10 c10 (l10 : Int)
    (fun (p654 : Option Addr) (x655 : Int) (A656 : Option Addr) (l656 : Nat) (c656 : Nat) (a657 : Addr) (A658 : Option Addr) (l658 : Nat) (c658 : Nat) (x659 : Int) (x660 : Int) (h661 : Hp) =>
    prune_Engine_fill_l4 p8 x9 A10 l10 c10 a11 A12 l12 c12 x13 K0 k (IntKind.i64.wrap (x660 + 1)) h661)
    k662 0 h374)))
    (K0 h)
def prune_Engine_fill_l4_L (Q : Qx) (k : Nat) (tm : Tm) (h : Hp) : Prop :=
  selP (tm 0) fun p8 =>
  selI .i64 (tm 1) fun x9 =>
  selS (tm 3) fun A10 l10 c10 =>
  selA (tm 6) fun a11 =>
  selS (tm 13) fun A12 l12 c12 =>
  selI .i64 (tm 14) fun x13 =>
  selI .i64 (tm 15) fun x14 =>
  prune_Engine_fill_l4 p8 x9 A10 l10 c10 a11 A12 l12 c12 x13 (fun  h => Q (.exit 0) (mkTm []) h) k x14 h
def prune_Engine_fill (p1 : Option Addr) (x2 : Int) (x3 : Int) (x4 : Int) (A5 : Option Addr) (l5 : Nat) (c5 : Nat) (h : Hp) (K : Value → Hp → Prop) : Prop :=
  newC h (.cells #[(.int .u32 x3), (.int .i64 x4)] 45 (0, 0)) fun a7 h6 => 
  ∃ k664, prune_Engine_fill_l4 p1 x2 A5 l5 c5 a7 A5 l5 c5 (l5 : Int)
  (fun  (h663 : Hp) =>
  K (.tuple #[]) h663)
  k664 0 h6
def prune_Engine_fill_lp (i : Nat) (Q : Qx) (tm : Tm) (h : Hp) : Prop := match Nat.beq i 3776409 with
  | true => prune_Engine_fill_j7_L Q tm h
  | false => match Nat.beq i 59006 with
  | true => ∃ k, prune_Engine_fill_l6_L Q k tm h
  | false => match Nat.beq i 14 with
  | true => ∃ k, prune_Engine_fill_l4_L Q k tm h
  | false => False
def prune_Engine_fill_cut (i : Nat) : Option (List Nat) := match Nat.beq i 3776409 with
  | true => some [0, 1, 3, 6, 9, 10, 11, 13, 14, 15, 44, 45, 46, 61]
  | false => none
set_option maxRecDepth 100000 in
theorem prune_Engine_fill_j7_step (Q : Qx) (p554 : Option Addr) (x555 : Int) (A556 : Option Addr) (l556 : Nat) (c556 : Nat) (a557 : Addr) (a558 : Addr) (x559 : Int) (x560 : Int) (A561 : Option Addr) (l561 : Nat) (c561 : Nat) (x562 : Int) (x563 : Int) (A564 : Option Addr) (l564 : Nat) (c564 : Nat) (x565 : Int) (x566 : Int) (b567 : Bool) (h : Hp) : prune_Engine_fill_j7_L Q (mkTm [(0, some (.pointer p554)), (1, some (.int .i64 x555)), (3, some (.slice A556 l556 c556)), (6, some (.pointer (some a557))), (9, some (.pointer (some a558))), (10, some (.int .i64 x559)), (11, some (.int .i64 x560)), (13, some (.slice A561 l561 c561)), (14, some (.int .i64 x562)), (15, some (.int .i64 x563)), (44, some (.slice A564 l564 c564)), (45, some (.int .i64 x565)), (46, some (.int .i64 x566)), (61, some (.bool b567))]) h =
    codeWp Tryz.prog 89 prune_Engine_fill_lp prune_Engine_fill_cut (sub (bodyOf Tryz.f41) [true, true, false, false, true, true, false, false, true, true, true, true, true, true, false, false, true, true, false, false, true, true]) 7552819 (maskQ (fun e => match e with | .normal => [0, 1, 3, 6, 9, 10, 13, 14, 15, 44, 45, 46] | _ => []) Q) (mkTm [(0, some (.pointer p554)), (1, some (.int .i64 x555)), (3, some (.slice A556 l556 c556)), (6, some (.pointer (some a557))), (9, some (.pointer (some a558))), (10, some (.int .i64 x559)), (11, some (.int .i64 x560)), (13, some (.slice A561 l561 c561)), (14, some (.int .i64 x562)), (15, some (.int .i64 x563)), (44, some (.slice A564 l564 c564)), (45, some (.int .i64 x565)), (46, some (.int .i64 x566)), (61, some (.bool b567))]) h := by kernel_rfl
theorem prune_Engine_fill_j7_mask (Q : Qx) (tm : Tm) (h : Hp) : prune_Engine_fill_j7_L Q tm h ↔ prune_Engine_fill_j7_L Q (mask [0, 1, 3, 6, 9, 10, 11, 13, 14, 15, 44, 45, 46, 61] tm) h := Iff.rfl
set_option maxRecDepth 100000 in
theorem prune_Engine_fill_j7_snd : SndAt Tryz.prog 89 none (sub (bodyOf Tryz.f41) [true, true, false, false, true, true, false, false, true, true, true, true, true, true, false, false, true, true, false, false, true, true]) (prune_Engine_fill_lp 3776409) := by
  refine join_sound (lp := prune_Engine_fill_lp) (cut := prune_Engine_fill_cut) (i := 3776409) (c := (sub (bodyOf Tryz.f41) [true, true, false, false, true, true, false, false, true, true, true, true, true, true, false, false, true, true, false, false, true, true])) [0, 1, 3, 6, 9, 10, 11, 13, 14, 15, 44, 45, 46, 61] (fun e => match e with | .normal => [0, 1, 3, 6, 9, 10, 13, 14, 15, 44, 45, 46] | _ => []) prune_Engine_fill_j7_L ?_ ?_
  · exact good_by (c := (sub (bodyOf Tryz.f41) [true, true, false, false, true, true, false, false, true, true, true, true, true, true, false, false, true, true, false, false, true, true])) (i := 7552819) (l := []) (by kernel_rfl) (fun _ h => by cases h)
  · intro Q tm h H
    have H0 := H
    obtain ⟨p554, e0, H⟩ := selP_ex H
    obtain ⟨x555, e1, H⟩ := selI_ex H
    obtain ⟨A556, l556, c556, e3, H⟩ := selS_ex H
    obtain ⟨a557, e6, H⟩ := selA_ex H
    obtain ⟨a558, e9, H⟩ := selA_ex H
    obtain ⟨x559, e10, H⟩ := selI_ex H
    obtain ⟨x560, e11, H⟩ := selI_ex H
    obtain ⟨A561, l561, c561, e13, H⟩ := selS_ex H
    obtain ⟨x562, e14, H⟩ := selI_ex H
    obtain ⟨x563, e15, H⟩ := selI_ex H
    obtain ⟨A564, l564, c564, e44, H⟩ := selS_ex H
    obtain ⟨x565, e45, H⟩ := selI_ex H
    obtain ⟨x566, e46, H⟩ := selI_ex H
    obtain ⟨b567, e61, H⟩ := selB_ex H
    have e : mask [0, 1, 3, 6, 9, 10, 11, 13, 14, 15, 44, 45, 46, 61] tm = mkTm [(0, some (.pointer p554)), (1, some (.int .i64 x555)), (3, some (.slice A556 l556 c556)), (6, some (.pointer (some a557))), (9, some (.pointer (some a558))), (10, some (.int .i64 x559)), (11, some (.int .i64 x560)), (13, some (.slice A561 l561 c561)), (14, some (.int .i64 x562)), (15, some (.int .i64 x563)), (44, some (.slice A564 l564 c564)), (45, some (.int .i64 x565)), (46, some (.int .i64 x566)), (61, some (.bool b567))] := by simp only [mask, List.map_cons, List.map_nil, e0, e1, e3, e6, e9, e10, e11, e13, e14, e15, e44, e45, e46, e61] <;> rfl
    rw [e]
    refine Eq.mp (prune_Engine_fill_j7_step Q p554 x555 A556 l556 c556 a557 a558 x559 x560 A561 l561 c561 x562 x563 A564 l564 c564 x565 x566 b567 h) ?_
    rw [← e]
    exact (prune_Engine_fill_j7_mask Q tm h).mp H0
set_option maxRecDepth 100000 in
theorem prune_Engine_fill_l6_step (Q : Qx) (k : Nat) (p375 : Option Addr) (x376 : Int) (A377 : Option Addr) (l377 : Nat) (c377 : Nat) (a378 : Addr) (a379 : Addr) (x380 : Int) (A381 : Option Addr) (l381 : Nat) (c381 : Nat) (x382 : Int) (x383 : Int) (A384 : Option Addr) (l384 : Nat) (c384 : Nat) (x385 : Int) (x386 : Int) (h : Hp) : prune_Engine_fill_l6_L Q (k + 1) (mkTm [(0, some (.pointer p375)), (1, some (.int .i64 x376)), (3, some (.slice A377 l377 c377)), (6, some (.pointer (some a378))), (9, some (.pointer (some a379))), (10, some (.int .i64 x380)), (13, some (.slice A381 l381 c381)), (14, some (.int .i64 x382)), (15, some (.int .i64 x383)), (44, some (.slice A384 l384 c384)), (45, some (.int .i64 x385)), (46, some (.int .i64 x386))]) h =
    codeWp Tryz.prog 89 prune_Engine_fill_lp prune_Engine_fill_cut (sub (bodyOf Tryz.f41) [true, true, false, false, true, true, false, false, true, true, true, true, true, true, false, false]) 118012 (thenQ (fun tm h => prune_Engine_fill_l6_L Q k (mask [0, 1, 3, 6, 9, 10, 13, 14, 15, 44, 45, 46] tm) h) (maskQ (fun e => match e with | .exit 2 => [0, 1, 3, 6, 13, 14, 15] | _ => []) Q)) (mkTm [(0, some (.pointer p375)), (1, some (.int .i64 x376)), (3, some (.slice A377 l377 c377)), (6, some (.pointer (some a378))), (9, some (.pointer (some a379))), (10, some (.int .i64 x380)), (13, some (.slice A381 l381 c381)), (14, some (.int .i64 x382)), (15, some (.int .i64 x383)), (44, some (.slice A384 l384 c384)), (45, some (.int .i64 x385)), (46, some (.int .i64 x386))]) h := by kernel_rfl
theorem prune_Engine_fill_l6_mask (Q : Qx) (k : Nat) (tm : Tm) (h : Hp) : prune_Engine_fill_l6_L Q k tm h ↔ prune_Engine_fill_l6_L Q k (mask [0, 1, 3, 6, 9, 10, 13, 14, 15, 44, 45, 46] tm) h := Iff.rfl
set_option maxRecDepth 100000 in
theorem prune_Engine_fill_l6_snd : SndAt Tryz.prog 89 none (sub (bodyOf Tryz.f41) [true, true, false, false, true, true, false, false, true, true, true, true, true, true, false]) (prune_Engine_fill_lp 59006) := by
  refine loop_sound (lp := prune_Engine_fill_lp) (cut := prune_Engine_fill_cut) (i := 59006) (c := (sub (bodyOf Tryz.f41) [true, true, false, false, true, true, false, false, true, true, true, true, true, true, false, false])) [0, 1, 3, 6, 9, 10, 13, 14, 15, 44, 45, 46] (fun e => match e with | .exit 2 => [0, 1, 3, 6, 13, 14, 15] | _ => []) prune_Engine_fill_l6_L ?_ ?_ ?_
  · exact good_by (c := (sub (bodyOf Tryz.f41) [true, true, false, false, true, true, false, false, true, true, true, true, true, true, false, false])) (i := 118012) (l := [(3776409, (sub (bodyOf Tryz.f41) [true, true, false, false, true, true, false, false, true, true, true, true, true, true, false, false, true, true, false, false, true, true]))]) (by kernel_rfl) (List.forall_mem_cons.2 ⟨prune_Engine_fill_j7_snd, (fun _ h => by cases h)⟩)
  · intro Q tm h H
    obtain ⟨p375, e0, H⟩ := selP_ex H
    obtain ⟨x376, e1, H⟩ := selI_ex H
    obtain ⟨A377, l377, c377, e3, H⟩ := selS_ex H
    obtain ⟨a378, e6, H⟩ := selA_ex H
    obtain ⟨a379, e9, H⟩ := selA_ex H
    obtain ⟨x380, e10, H⟩ := selI_ex H
    obtain ⟨A381, l381, c381, e13, H⟩ := selS_ex H
    obtain ⟨x382, e14, H⟩ := selI_ex H
    obtain ⟨x383, e15, H⟩ := selI_ex H
    obtain ⟨A384, l384, c384, e44, H⟩ := selS_ex H
    obtain ⟨x385, e45, H⟩ := selI_ex H
    obtain ⟨x386, e46, H⟩ := selI_ex H
    exact H
  · intro Q k tm h H
    have H0 := H
    obtain ⟨p375, e0, H⟩ := selP_ex H
    obtain ⟨x376, e1, H⟩ := selI_ex H
    obtain ⟨A377, l377, c377, e3, H⟩ := selS_ex H
    obtain ⟨a378, e6, H⟩ := selA_ex H
    obtain ⟨a379, e9, H⟩ := selA_ex H
    obtain ⟨x380, e10, H⟩ := selI_ex H
    obtain ⟨A381, l381, c381, e13, H⟩ := selS_ex H
    obtain ⟨x382, e14, H⟩ := selI_ex H
    obtain ⟨x383, e15, H⟩ := selI_ex H
    obtain ⟨A384, l384, c384, e44, H⟩ := selS_ex H
    obtain ⟨x385, e45, H⟩ := selI_ex H
    obtain ⟨x386, e46, H⟩ := selI_ex H
    have e : mask [0, 1, 3, 6, 9, 10, 13, 14, 15, 44, 45, 46] tm = mkTm [(0, some (.pointer p375)), (1, some (.int .i64 x376)), (3, some (.slice A377 l377 c377)), (6, some (.pointer (some a378))), (9, some (.pointer (some a379))), (10, some (.int .i64 x380)), (13, some (.slice A381 l381 c381)), (14, some (.int .i64 x382)), (15, some (.int .i64 x383)), (44, some (.slice A384 l384 c384)), (45, some (.int .i64 x385)), (46, some (.int .i64 x386))] := by simp only [mask, List.map_cons, List.map_nil, e0, e1, e3, e6, e9, e10, e13, e14, e15, e44, e45, e46] <;> rfl
    rw [e]
    refine Eq.mp (prune_Engine_fill_l6_step Q k p375 x376 A377 l377 c377 a378 a379 x380 A381 l381 c381 x382 x383 A384 l384 c384 x385 x386 h) ?_
    rw [← e]
    exact (prune_Engine_fill_l6_mask Q (k + 1) tm h).mp H0
set_option maxRecDepth 100000 in
theorem prune_Engine_fill_l4_step (Q : Qx) (k : Nat) (p8 : Option Addr) (x9 : Int) (A10 : Option Addr) (l10 : Nat) (c10 : Nat) (a11 : Addr) (A12 : Option Addr) (l12 : Nat) (c12 : Nat) (x13 : Int) (x14 : Int) (h : Hp) : prune_Engine_fill_l4_L Q (k + 1) (mkTm [(0, some (.pointer p8)), (1, some (.int .i64 x9)), (3, some (.slice A10 l10 c10)), (6, some (.pointer (some a11))), (13, some (.slice A12 l12 c12)), (14, some (.int .i64 x13)), (15, some (.int .i64 x14))]) h =
    codeWp Tryz.prog 89 prune_Engine_fill_lp prune_Engine_fill_cut (sub (bodyOf Tryz.f41) [true, true, false, false]) 28 (thenQ (fun tm h => prune_Engine_fill_l4_L Q k (mask [0, 1, 3, 6, 13, 14, 15] tm) h) (maskQ (fun e => match e with | .exit 0 => [] | _ => []) Q)) (mkTm [(0, some (.pointer p8)), (1, some (.int .i64 x9)), (3, some (.slice A10 l10 c10)), (6, some (.pointer (some a11))), (13, some (.slice A12 l12 c12)), (14, some (.int .i64 x13)), (15, some (.int .i64 x14))]) h := by kernel_rfl
theorem prune_Engine_fill_l4_mask (Q : Qx) (k : Nat) (tm : Tm) (h : Hp) : prune_Engine_fill_l4_L Q k tm h ↔ prune_Engine_fill_l4_L Q k (mask [0, 1, 3, 6, 13, 14, 15] tm) h := Iff.rfl
set_option maxRecDepth 100000 in
theorem prune_Engine_fill_l4_snd : SndAt Tryz.prog 89 none (sub (bodyOf Tryz.f41) [true, true, false]) (prune_Engine_fill_lp 14) := by
  refine loop_sound (lp := prune_Engine_fill_lp) (cut := prune_Engine_fill_cut) (i := 14) (c := (sub (bodyOf Tryz.f41) [true, true, false, false])) [0, 1, 3, 6, 13, 14, 15] (fun e => match e with | .exit 0 => [] | _ => []) prune_Engine_fill_l4_L ?_ ?_ ?_
  · exact good_by (c := (sub (bodyOf Tryz.f41) [true, true, false, false])) (i := 28) (l := [(59006, (sub (bodyOf Tryz.f41) [true, true, false, false, true, true, false, false, true, true, true, true, true, true, false]))]) (by kernel_rfl) (List.forall_mem_cons.2 ⟨prune_Engine_fill_l6_snd, (fun _ h => by cases h)⟩)
  · intro Q tm h H
    obtain ⟨p8, e0, H⟩ := selP_ex H
    obtain ⟨x9, e1, H⟩ := selI_ex H
    obtain ⟨A10, l10, c10, e3, H⟩ := selS_ex H
    obtain ⟨a11, e6, H⟩ := selA_ex H
    obtain ⟨A12, l12, c12, e13, H⟩ := selS_ex H
    obtain ⟨x13, e14, H⟩ := selI_ex H
    obtain ⟨x14, e15, H⟩ := selI_ex H
    exact H
  · intro Q k tm h H
    have H0 := H
    obtain ⟨p8, e0, H⟩ := selP_ex H
    obtain ⟨x9, e1, H⟩ := selI_ex H
    obtain ⟨A10, l10, c10, e3, H⟩ := selS_ex H
    obtain ⟨a11, e6, H⟩ := selA_ex H
    obtain ⟨A12, l12, c12, e13, H⟩ := selS_ex H
    obtain ⟨x13, e14, H⟩ := selI_ex H
    obtain ⟨x14, e15, H⟩ := selI_ex H
    have e : mask [0, 1, 3, 6, 13, 14, 15] tm = mkTm [(0, some (.pointer p8)), (1, some (.int .i64 x9)), (3, some (.slice A10 l10 c10)), (6, some (.pointer (some a11))), (13, some (.slice A12 l12 c12)), (14, some (.int .i64 x13)), (15, some (.int .i64 x14))] := by simp only [mask, List.map_cons, List.map_nil, e0, e1, e3, e6, e13, e14, e15] <;> rfl
    rw [e]
    refine Eq.mp (prune_Engine_fill_l4_step Q k p8 x9 A10 l10 c10 a11 A12 l12 c12 x13 x14 h) ?_
    rw [← e]
    exact (prune_Engine_fill_l4_mask Q (k + 1) tm h).mp H0
set_option maxRecDepth 100000 in
theorem prune_Engine_fill_eq (p1 : Option Addr) (x2 : Int) (x3 : Int) (x4 : Int) (A5 : Option Addr) (l5 : Nat) (c5 : Nat) (h : Hp) (K : Value → Hp → Prop) : prune_Engine_fill p1 x2 x3 x4 A5 l5 c5 h K =
    codeWp Tryz.prog 89 prune_Engine_fill_lp prune_Engine_fill_cut (bodyOf Tryz.f41) 1 (endQ Tryz.prog Tryz.f41.results.toList K) (argTm [(.pointer p1), (.int .i64 x2), (.agg #[(.int .u32 x3), (.int .i64 x4)]), (.slice A5 l5 c5)]) h := by kernel_rfl
set_option maxRecDepth 100000 in
theorem prune_Engine_fill_ok (p1 : Option Addr) (x2 : Int) (x3 : Int) (x4 : Int) (A5 : Option Addr) (l5 : Nat) (c5 : Nat) {h : Hp} {K : Value → Hp → Prop} (H : prune_Engine_fill p1 x2 x3 x4 A5 l5 c5 h K) : CallsH Tryz.prog 41 #[(.pointer p1), (.int .i64 x2), (.agg #[(.int .u32 x3), (.int .i64 x4)]), (.slice A5 l5 c5)] h K :=
  calls_of (args := [(.pointer p1), (.int .i64 x2), (.agg #[(.int .u32 x3), (.int .i64 x4)]), (.slice A5 l5 c5)]) (n := 89) (lp := prune_Engine_fill_lp) (cut := prune_Engine_fill_cut) Tryz.func41 (c := bodyOf Tryz.f41) (by kernel_rfl) (by kernel_rfl) (by kernel_rfl) (good_by (c := (bodyOf Tryz.f41)) (i := 1) (l := [(14, (sub (bodyOf Tryz.f41) [true, true, false]))]) (by kernel_rfl) (List.forall_mem_cons.2 ⟨prune_Engine_fill_l4_snd, (fun _ h => by cases h)⟩))
    (Eq.mp (prune_Engine_fill_eq p1 x2 x3 x4 A5 l5 c5 h K) H)

/-! ### (*quintet/prune.Engine).Delete: function 131 -/
def prune_Engine_Delete (p1 : Option Addr) (x2 : Int) (h : Hp) (K : Value → Hp → Prop) : Prop :=
  newC h (.cells #[(.int .i64 x2)] 3 (0, 0)) fun a4 h3 => 
  CallsH Tryz.prog 28 #[(.pointer p1), (.func (.func 134) #[] #[(.pointer (some a4))])] h3 fun r6 h5 =>
  ∃ x7 : Int, r6 = (.int .i64 x7) ∧ 
  K (.int .i64 x7) h5
def prune_Engine_Delete_lp (i : Nat) (Q : Qx) (tm : Tm) (h : Hp) : Prop := False
def prune_Engine_Delete_cut (i : Nat) : Option (List Nat) := none
set_option maxRecDepth 100000 in
theorem prune_Engine_Delete_eq (p1 : Option Addr) (x2 : Int) (h : Hp) (K : Value → Hp → Prop) : prune_Engine_Delete p1 x2 h K =
    codeWp Tryz.prog 8 prune_Engine_Delete_lp prune_Engine_Delete_cut (bodyOf Tryz.f131) 1 (endQ Tryz.prog Tryz.f131.results.toList K) (argTm [(.pointer p1), (.int .i64 x2)]) h := by kernel_rfl
set_option maxRecDepth 100000 in
theorem prune_Engine_Delete_ok (p1 : Option Addr) (x2 : Int) {h : Hp} {K : Value → Hp → Prop} (H : prune_Engine_Delete p1 x2 h K) : CallsH Tryz.prog 131 #[(.pointer p1), (.int .i64 x2)] h K :=
  calls_of (args := [(.pointer p1), (.int .i64 x2)]) (n := 8) (lp := prune_Engine_Delete_lp) (cut := prune_Engine_Delete_cut) Tryz.func131 (c := bodyOf Tryz.f131) (by kernel_rfl) (by kernel_rfl) (by kernel_rfl) (good_by (c := (bodyOf Tryz.f131)) (i := 1) (l := []) (by kernel_rfl) (fun _ h => by cases h))
    (Eq.mp (prune_Engine_Delete_eq p1 x2 h K) H)

/-! ### (*quintet/prune.Engine).Set: function 132 -/
def prune_Engine_Set (p1 : Option Addr) (A2 : Option Addr) (l2 : Nat) (c2 : Nat) (h : Hp) (K : Value → Hp → Prop) : Prop :=
  newC h (.cells #[(.slice A2 l2 c2)] 42 (0, 0)) fun a4 h3 => 
  CallsH Tryz.prog 28 #[(.pointer p1), (.func (.func 136) #[] #[(.pointer (some a4))])] h3 fun r6 h5 =>
  ∃ x7 : Int, r6 = (.int .i64 x7) ∧ 
  K (.int .i64 x7) h5
def prune_Engine_Set_lp (i : Nat) (Q : Qx) (tm : Tm) (h : Hp) : Prop := False
def prune_Engine_Set_cut (i : Nat) : Option (List Nat) := none
set_option maxRecDepth 100000 in
theorem prune_Engine_Set_eq (p1 : Option Addr) (A2 : Option Addr) (l2 : Nat) (c2 : Nat) (h : Hp) (K : Value → Hp → Prop) : prune_Engine_Set p1 A2 l2 c2 h K =
    codeWp Tryz.prog 8 prune_Engine_Set_lp prune_Engine_Set_cut (bodyOf Tryz.f132) 1 (endQ Tryz.prog Tryz.f132.results.toList K) (argTm [(.pointer p1), (.slice A2 l2 c2)]) h := by kernel_rfl
set_option maxRecDepth 100000 in
theorem prune_Engine_Set_ok (p1 : Option Addr) (A2 : Option Addr) (l2 : Nat) (c2 : Nat) {h : Hp} {K : Value → Hp → Prop} (H : prune_Engine_Set p1 A2 l2 c2 h K) : CallsH Tryz.prog 132 #[(.pointer p1), (.slice A2 l2 c2)] h K :=
  calls_of (args := [(.pointer p1), (.slice A2 l2 c2)]) (n := 8) (lp := prune_Engine_Set_lp) (cut := prune_Engine_Set_cut) Tryz.func132 (c := bodyOf Tryz.f132) (by kernel_rfl) (by kernel_rfl) (by kernel_rfl) (good_by (c := (bodyOf Tryz.f132)) (i := 1) (l := []) (by kernel_rfl) (fun _ h => by cases h))
    (Eq.mp (prune_Engine_Set_eq p1 A2 l2 c2 h K) H)

/-! ### (*quintet/prune.Engine).Stats: function 133 -/
def prune_Engine_Stats (p1 : Option Addr) (h : Hp) (K : Value → Hp → Prop) : Prop :=
  newC h (.cells #[(.int .i64 0), (.int .i64 0), (.int .i64 0), (.int .i64 0)] 108 (0, 0)) fun a3 h2 => 
  ∃ b4 : Bool, PV Tryz.prog (binOp .eql 31 (.pointer p1) (.pointer none)) (.bool b4) ∧
  br b4
  (HU Tryz.prog (Instr.storeAt 108 (.pointer (some a3)) (.agg #[(.int .i64 0), (.int .i64 0), (.int .i64 0), (.int .i64 0)])) h2 fun h5 => 
  ∃ x6 : Int, ∃ x7 : Int, ∃ x8 : Int, ∃ x9 : Int, HV Tryz.prog (Instr.loadAt 108 (.pointer (some a3))) h5 (.agg #[(.int .i64 x6), (.int .i64 x7), (.int .i64 x8), (.int .i64 x9)]) ∧ K (.agg #[(.int .i64 x6), (.int .i64 x7), (.int .i64 x8), (.int .i64 x9)]) h5)
  (drf p1 fun a10 =>
  ∃ A11 : Option Addr, ∃ l11 : Nat, ∃ c11 : Nat, HV Tryz.prog (Instr.loadAt 72 (.pointer (some (a10.add 8)))) h2 (.slice A11 l11 c11) ∧ 
  drf p1 fun a12 =>
  ∃ x13 : Int, HV Tryz.prog (Instr.loadAt 3 (.pointer (some (a12.add 9)))) h2 (.int .i64 x13) ∧ 
  HU Tryz.prog (Instr.storeAt 108 (.pointer (some a3)) (.agg #[(.int .i64 (IntKind.i64.wrap ((l11 : Int) - 1))), (.int .i64 x13), (.int .i64 0), (.int .i64 0)])) h2 fun h14 => 
  ∃ x15 : Int, ∃ x16 : Int, ∃ x17 : Int, ∃ x18 : Int, HV Tryz.prog (Instr.loadAt 108 (.pointer (some a3))) h14 (.agg #[(.int .i64 x15), (.int .i64 x16), (.int .i64 x17), (.int .i64 x18)]) ∧ K (.agg #[(.int .i64 x15), (.int .i64 x16), (.int .i64 x17), (.int .i64 x18)]) h14)
def prune_Engine_Stats_lp (i : Nat) (Q : Qx) (tm : Tm) (h : Hp) : Prop := False
def prune_Engine_Stats_cut (i : Nat) : Option (List Nat) := none
set_option maxRecDepth 100000 in
theorem prune_Engine_Stats_eq (p1 : Option Addr) (h : Hp) (K : Value → Hp → Prop) : prune_Engine_Stats p1 h K =
    codeWp Tryz.prog 17 prune_Engine_Stats_lp prune_Engine_Stats_cut (bodyOf Tryz.f133) 1 (endQ Tryz.prog Tryz.f133.results.toList K) (argTm [(.pointer p1)]) h := by kernel_rfl
set_option maxRecDepth 100000 in
theorem prune_Engine_Stats_ok (p1 : Option Addr) {h : Hp} {K : Value → Hp → Prop} (H : prune_Engine_Stats p1 h K) : CallsH Tryz.prog 133 #[(.pointer p1)] h K :=
  calls_of (args := [(.pointer p1)]) (n := 17) (lp := prune_Engine_Stats_lp) (cut := prune_Engine_Stats_cut) Tryz.func133 (c := bodyOf Tryz.f133) (by kernel_rfl) (by kernel_rfl) (by kernel_rfl) (good_by (c := (bodyOf Tryz.f133)) (i := 1) (l := []) (by kernel_rfl) (fun _ h => by cases h))
    (Eq.mp (prune_Engine_Stats_eq p1 h K) H)

/-! ### (*quintet/prune.Engine).Delete$1: function 134 -/
def prune_Engine_Delete_1 (p1 : Option Addr) (a2 : Addr) (h : Hp) (K : Value → Hp → Prop) : Prop :=
  ∃ x3 : Int, HV Tryz.prog (Instr.loadAt 3 (.pointer (some a2))) h (.int .i64 x3) ∧ 
  CallsH Tryz.prog 135 #[(.pointer p1), (.int .i64 x3)] h fun r5 h4 =>
  ∃ x6 : Int, r5 = (.int .i64 x6) ∧ 
  K (.int .i64 x6) h4
def prune_Engine_Delete_1_lp (i : Nat) (Q : Qx) (tm : Tm) (h : Hp) : Prop := False
def prune_Engine_Delete_1_cut (i : Nat) : Option (List Nat) := none
set_option maxRecDepth 100000 in
theorem prune_Engine_Delete_1_eq (p1 : Option Addr) (a2 : Addr) (h : Hp) (K : Value → Hp → Prop) : prune_Engine_Delete_1 p1 a2 h K =
    codeWp Tryz.prog 7 prune_Engine_Delete_1_lp prune_Engine_Delete_1_cut (bodyOf Tryz.f134) 1 (endQ Tryz.prog Tryz.f134.results.toList K) (argTm [(.pointer p1), (.pointer (some a2))]) h := by kernel_rfl
set_option maxRecDepth 100000 in
theorem prune_Engine_Delete_1_ok (p1 : Option Addr) (a2 : Addr) {h : Hp} {K : Value → Hp → Prop} (H : prune_Engine_Delete_1 p1 a2 h K) : CallsH Tryz.prog 134 #[(.pointer p1), (.pointer (some a2))] h K :=
  calls_of (args := [(.pointer p1), (.pointer (some a2))]) (n := 7) (lp := prune_Engine_Delete_1_lp) (cut := prune_Engine_Delete_1_cut) Tryz.func134 (c := bodyOf Tryz.f134) (by kernel_rfl) (by kernel_rfl) (by kernel_rfl) (good_by (c := (bodyOf Tryz.f134)) (i := 1) (l := []) (by kernel_rfl) (fun _ h => by cases h))
    (Eq.mp (prune_Engine_Delete_1_eq p1 a2 h K) H)

/-! ### (*quintet/prune.Engine).Set$1: function 136 -/
def prune_Engine_Set_1 (p1 : Option Addr) (a2 : Addr) (h : Hp) (K : Value → Hp → Prop) : Prop :=
  ∃ A3 : Option Addr, ∃ l3 : Nat, ∃ c3 : Nat, HV Tryz.prog (Instr.loadAt 42 (.pointer (some a2))) h (.slice A3 l3 c3) ∧ 
  CallsH Tryz.prog 137 #[(.pointer p1), (.slice A3 l3 c3)] h fun r5 h4 =>
  ∃ x6 : Int, r5 = (.int .i64 x6) ∧ 
  K (.int .i64 x6) h4
def prune_Engine_Set_1_lp (i : Nat) (Q : Qx) (tm : Tm) (h : Hp) : Prop := False
def prune_Engine_Set_1_cut (i : Nat) : Option (List Nat) := none
set_option maxRecDepth 100000 in
theorem prune_Engine_Set_1_eq (p1 : Option Addr) (a2 : Addr) (h : Hp) (K : Value → Hp → Prop) : prune_Engine_Set_1 p1 a2 h K =
    codeWp Tryz.prog 7 prune_Engine_Set_1_lp prune_Engine_Set_1_cut (bodyOf Tryz.f136) 1 (endQ Tryz.prog Tryz.f136.results.toList K) (argTm [(.pointer p1), (.pointer (some a2))]) h := by kernel_rfl
set_option maxRecDepth 100000 in
theorem prune_Engine_Set_1_ok (p1 : Option Addr) (a2 : Addr) {h : Hp} {K : Value → Hp → Prop} (H : prune_Engine_Set_1 p1 a2 h K) : CallsH Tryz.prog 136 #[(.pointer p1), (.pointer (some a2))] h K :=
  calls_of (args := [(.pointer p1), (.pointer (some a2))]) (n := 7) (lp := prune_Engine_Set_1_lp) (cut := prune_Engine_Set_1_cut) Tryz.func136 (c := bodyOf Tryz.f136) (by kernel_rfl) (by kernel_rfl) (by kernel_rfl) (good_by (c := (bodyOf Tryz.f136)) (i := 1) (l := []) (by kernel_rfl) (fun _ h => by cases h))
    (Eq.mp (prune_Engine_Set_1_eq p1 a2 h K) H)

/-! ### (*quintet/prune.base).rules: function 34 -/
def prune_base_rules (p1 : Option Addr) (h : Hp) (K : Value → Hp → Prop) : Prop :=
  drf p1 fun a2 =>
  ∃ p3 : Option Addr, HV Tryz.prog (Instr.loadAt 67 (.pointer (some (a2.add 7)))) h (.pointer p3) ∧ 
  CallsH Tryz.prog 52 #[(.pointer p3)] h fun r5 h4 =>
  ∃ A6 : Option Addr, ∃ l6 : Nat, ∃ c6 : Nat, r5 = (.slice A6 l6 c6) ∧ 
  K (.slice A6 l6 c6) h4
def prune_base_rules_lp (i : Nat) (Q : Qx) (tm : Tm) (h : Hp) : Prop := False
def prune_base_rules_cut (i : Nat) : Option (List Nat) := none
set_option maxRecDepth 100000 in
theorem prune_base_rules_eq (p1 : Option Addr) (h : Hp) (K : Value → Hp → Prop) : prune_base_rules p1 h K =
    codeWp Tryz.prog 8 prune_base_rules_lp prune_base_rules_cut (bodyOf Tryz.f34) 1 (endQ Tryz.prog Tryz.f34.results.toList K) (argTm [(.pointer p1)]) h := by kernel_rfl
set_option maxRecDepth 100000 in
theorem prune_base_rules_ok (p1 : Option Addr) {h : Hp} {K : Value → Hp → Prop} (H : prune_base_rules p1 h K) : CallsH Tryz.prog 34 #[(.pointer p1)] h K :=
  calls_of (args := [(.pointer p1)]) (n := 8) (lp := prune_base_rules_lp) (cut := prune_base_rules_cut) Tryz.func34 (c := bodyOf Tryz.f34) (by kernel_rfl) (by kernel_rfl) (by kernel_rfl) (good_by (c := (bodyOf Tryz.f34)) (i := 1) (l := []) (by kernel_rfl) (fun _ h => by cases h))
    (Eq.mp (prune_base_rules_eq p1 h K) H)

/-! ### (*quintet/prune.base).room: function 51 -/
def prune_base_room (p1 : Option Addr) (A2 : Option Addr) (l2 : Nat) (c2 : Nat) (h : Hp) (K : Value → Hp → Prop) : Prop :=
  CallsH Tryz.prog 71 #[(.slice A2 l2 c2)] h fun r4 h3 =>
  ∃ x5 : Int, ∃ x6 : Int, r4 = (.tuple #[(.int .i64 x5), (.int .i64 x6)]) ∧ 
  br (x6 == 0)
  (drf p1 fun a7 =>
  ∃ x8 : Int, HV Tryz.prog (Instr.loadAt 3 (.pointer (some (a7.add 2)))) h3 (.int .i64 x8) ∧ 
  K (.bool (decide (x5 ≤ x8))) h3)
  (K (.bool false) h3)
def prune_base_room_lp (i : Nat) (Q : Qx) (tm : Tm) (h : Hp) : Prop := False
def prune_base_room_cut (i : Nat) : Option (List Nat) := none
set_option maxRecDepth 100000 in
theorem prune_base_room_eq (p1 : Option Addr) (A2 : Option Addr) (l2 : Nat) (c2 : Nat) (h : Hp) (K : Value → Hp → Prop) : prune_base_room p1 A2 l2 c2 h K =
    codeWp Tryz.prog 23 prune_base_room_lp prune_base_room_cut (bodyOf Tryz.f51) 1 (endQ Tryz.prog Tryz.f51.results.toList K) (argTm [(.pointer p1), (.slice A2 l2 c2)]) h := by kernel_rfl
set_option maxRecDepth 100000 in
theorem prune_base_room_ok (p1 : Option Addr) (A2 : Option Addr) (l2 : Nat) (c2 : Nat) {h : Hp} {K : Value → Hp → Prop} (H : prune_base_room p1 A2 l2 c2 h K) : CallsH Tryz.prog 51 #[(.pointer p1), (.slice A2 l2 c2)] h K :=
  calls_of (args := [(.pointer p1), (.slice A2 l2 c2)]) (n := 23) (lp := prune_base_room_lp) (cut := prune_base_room_cut) Tryz.func51 (c := bodyOf Tryz.f51) (by kernel_rfl) (by kernel_rfl) (by kernel_rfl) (good_by (c := (bodyOf Tryz.f51)) (i := 1) (l := []) (by kernel_rfl) (fun _ h => by cases h))
    (Eq.mp (prune_base_room_eq p1 A2 l2 c2 h K) H)

/-! ### quintet/prune.bit: function 56 -/
def prune_bit (x1 : Int) (x2 : Int) (h : Hp) (K : Value → Hp → Prop) : Prop :=
  ∃ x3 : Int, PV Tryz.prog (binOp .shr 43 (.int .u32 x1) (.int .i64 (IntKind.i64.wrap (31 - x2)))) (.int .u32 x3) ∧
  K (.int .i64 (IntKind.i64.wrap (bAnd .u32 x3 1))) h
def prune_bit_lp (i : Nat) (Q : Qx) (tm : Tm) (h : Hp) : Prop := False
def prune_bit_cut (i : Nat) : Option (List Nat) := none
set_option maxRecDepth 100000 in
theorem prune_bit_eq (x1 : Int) (x2 : Int) (h : Hp) (K : Value → Hp → Prop) : prune_bit x1 x2 h K =
    codeWp Tryz.prog 11 prune_bit_lp prune_bit_cut (bodyOf Tryz.f56) 1 (endQ Tryz.prog Tryz.f56.results.toList K) (argTm [(.int .u32 x1), (.int .i64 x2)]) h := by kernel_rfl
set_option maxRecDepth 100000 in
theorem prune_bit_ok (x1 : Int) (x2 : Int) {h : Hp} {K : Value → Hp → Prop} (H : prune_bit x1 x2 h K) : CallsH Tryz.prog 56 #[(.int .u32 x1), (.int .i64 x2)] h K :=
  calls_of (args := [(.int .u32 x1), (.int .i64 x2)]) (n := 11) (lp := prune_bit_lp) (cut := prune_bit_cut) Tryz.func56 (c := bodyOf Tryz.f56) (by kernel_rfl) (by kernel_rfl) (by kernel_rfl) (good_by (c := (bodyOf Tryz.f56)) (i := 1) (l := []) (by kernel_rfl) (fun _ h => by cases h))
    (Eq.mp (prune_bit_eq x1 x2 h K) H)

end Go.Proofs.YtomhkbhgpmcbiaaGreat.Fs
