/- Printed by sx.py: words over the heap alone for Go functions, and that each call does what its word says. -/
import Derived.Test.YtoheablfncdibaaDoorSxSel
import Derived.Test.YtoheablfncdibaaDoorSxNest
import Derived.Test.YtoheablfncdibaaDoorProg
namespace Go.Proofs.YtoheablfncdibaaDoor.Fs
open Go Go.RowKit Go.Proofs.YtoheablfncdibaaDoor.Sx
set_option linter.unusedVariables false

/-! ### quintet/hash.New[string]: function 4 -/
def hash_NewS (x1 : Int) (h : Hp) (K : Value → Hp → Prop) : Prop :=
  br (decide (x1 < 1))
  (K (.tuple #[(.pointer none), (.int .i64 1)]) h)
  (br (decide (x1 > 65536))
  (K (.tuple #[(.pointer none), (.int .i64 1)]) h)
  (HW Tryd.prog (Instr.makeSlice 41 (.int .i64 8) (.int .i64 8)) h fun r3 h2 =>
  ∃ A4 : Option Addr, ∃ l4 : Nat, ∃ c4 : Nat, r3 = (.slice A4 l4 c4) ∧ 
  newC h2 (.cells #[(.int .i64 x1), (.slice A4 l4 c4), (.int .i64 0), (.int .i64 0)] 43 (0, 0)) fun a6 h5 => 
  K (.tuple #[(.pointer (some a6)), (.int .i64 0)]) h5))
def hash_NewS_lp (i : Nat) (Q : Qx) (tm : Tm) (h : Hp) : Prop := False
def hash_NewS_cut (i : Nat) : Option (List Nat) := none
set_option maxRecDepth 100000 in
theorem hash_NewS_eq (x1 : Int) (h : Hp) (K : Value → Hp → Prop) : hash_NewS x1 h K =
    codeWp Tryd.prog 14 hash_NewS_lp hash_NewS_cut (bodyOf Tryd.f4) 1 (endQ Tryd.prog Tryd.f4.results.toList K) (argTm [(.int .i64 x1)]) h := by kernel_rfl
set_option maxRecDepth 100000 in
theorem hash_NewS_ok (x1 : Int) {h : Hp} {K : Value → Hp → Prop} (H : hash_NewS x1 h K) : CallsH Tryd.prog 4 #[(.int .i64 x1)] h K :=
  calls_of (args := [(.int .i64 x1)]) (n := 14) (lp := hash_NewS_lp) (cut := hash_NewS_cut) Tryd.func4 (c := bodyOf Tryd.f4) (by kernel_rfl) (by kernel_rfl) (by kernel_rfl) (good_by (c := (bodyOf Tryd.f4)) (i := 1) (l := []) (by kernel_rfl) (fun _ h => by cases h))
    (Eq.mp (hash_NewS_eq x1 h K) H)

/-! ### quintet/hash.New[int]: function 14 -/
def hash_New (x1 : Int) (h : Hp) (K : Value → Hp → Prop) : Prop :=
  br (decide (x1 < 1))
  (K (.tuple #[(.pointer none), (.int .i64 1)]) h)
  (br (decide (x1 > 65536))
  (K (.tuple #[(.pointer none), (.int .i64 1)]) h)
  (HW Tryd.prog (Instr.makeSlice 61 (.int .i64 8) (.int .i64 8)) h fun r3 h2 =>
  ∃ A4 : Option Addr, ∃ l4 : Nat, ∃ c4 : Nat, r3 = (.slice A4 l4 c4) ∧ 
  newC h2 (.cells #[(.int .i64 x1), (.slice A4 l4 c4), (.int .i64 0), (.int .i64 0)] 63 (0, 0)) fun a6 h5 => 
  K (.tuple #[(.pointer (some a6)), (.int .i64 0)]) h5))
def hash_New_lp (i : Nat) (Q : Qx) (tm : Tm) (h : Hp) : Prop := False
def hash_New_cut (i : Nat) : Option (List Nat) := none
set_option maxRecDepth 100000 in
theorem hash_New_eq (x1 : Int) (h : Hp) (K : Value → Hp → Prop) : hash_New x1 h K =
    codeWp Tryd.prog 14 hash_New_lp hash_New_cut (bodyOf Tryd.f14) 1 (endQ Tryd.prog Tryd.f14.results.toList K) (argTm [(.int .i64 x1)]) h := by kernel_rfl
set_option maxRecDepth 100000 in
theorem hash_New_ok (x1 : Int) {h : Hp} {K : Value → Hp → Prop} (H : hash_New x1 h K) : CallsH Tryd.prog 14 #[(.int .i64 x1)] h K :=
  calls_of (args := [(.int .i64 x1)]) (n := 14) (lp := hash_New_lp) (cut := hash_New_cut) Tryd.func14 (c := bodyOf Tryd.f14) (by kernel_rfl) (by kernel_rfl) (by kernel_rfl) (good_by (c := (bodyOf Tryd.f14)) (i := 1) (l := []) (by kernel_rfl) (fun _ h => by cases h))
    (Eq.mp (hash_New_eq x1 h K) H)

/-! ### quintet/hash.scatter: function 21 -/
def hash_scatter (x1 : Int) (x2 : Int) (x3 : Int) (x4 : Int) (x5 : Int) (h : Hp) (K : Value → Hp → Prop) : Prop :=
  newC h (.cells #[(.int .u32 x1), (.int .u32 x2), (.int .u16 x3), (.int .u16 x4), (.int .u8 x5)] 26 (0, 0)) fun a7 h6 => 
  ∃ x8 : Int, HV Tryd.prog (Instr.loadAt 23 (.pointer (some a7))) h6 (.int .u32 x8) ∧ 
  ∃ x9 : Int, HV Tryd.prog (Instr.loadAt 23 (.pointer (some (a7.add 1)))) h6 (.int .u32 x9) ∧ 
  ∃ x10 : Int, HV Tryd.prog (Instr.loadAt 24 (.pointer (some (a7.add 2)))) h6 (.int .u16 x10) ∧ 
  ∃ x11 : Int, HV Tryd.prog (Instr.loadAt 24 (.pointer (some (a7.add 3)))) h6 (.int .u16 x11) ∧ 
  ∃ x12 : Int, HV Tryd.prog (Instr.loadAt 5 (.pointer (some (a7.add 4)))) h6 (.int .u8 x12) ∧ 
  K (.int .u64 (bXor .u64 (IntKind.u64.wrap ((bXor .u64 (bXor .u64 (IntKind.u64.wrap ((bXor .u64 (bOr .u64 (IntKind.u64.wrap ((IntKind.u64.wrap (x8)) * 4294967296)) (IntKind.u64.wrap (x9))) (Int.fdiv (bOr .u64 (IntKind.u64.wrap ((IntKind.u64.wrap (x8)) * 4294967296)) (IntKind.u64.wrap (x9))) 536870912)) * 11400714819323198485)) (bOr .u64 (bOr .u64 (IntKind.u64.wrap ((IntKind.u64.wrap (x10)) * 16777216)) (IntKind.u64.wrap ((IntKind.u64.wrap (x11)) * 256))) (IntKind.u64.wrap (x12)))) (Int.fdiv (IntKind.u64.wrap ((bXor .u64 (bOr .u64 (IntKind.u64.wrap ((IntKind.u64.wrap (x8)) * 4294967296)) (IntKind.u64.wrap (x9))) (Int.fdiv (bOr .u64 (IntKind.u64.wrap ((IntKind.u64.wrap (x8)) * 4294967296)) (IntKind.u64.wrap (x9))) 536870912)) * 11400714819323198485)) 4294967296)) * 13787848793156543929)) (Int.fdiv (IntKind.u64.wrap ((bXor .u64 (bXor .u64 (IntKind.u64.wrap ((bXor .u64 (bOr .u64 (IntKind.u64.wrap ((IntKind.u64.wrap (x8)) * 4294967296)) (IntKind.u64.wrap (x9))) (Int.fdiv (bOr .u64 (IntKind.u64.wrap ((IntKind.u64.wrap (x8)) * 4294967296)) (IntKind.u64.wrap (x9))) 536870912)) * 11400714819323198485)) (bOr .u64 (bOr .u64 (IntKind.u64.wrap ((IntKind.u64.wrap (x10)) * 16777216)) (IntKind.u64.wrap ((IntKind.u64.wrap (x11)) * 256))) (IntKind.u64.wrap (x12)))) (Int.fdiv (IntKind.u64.wrap ((bXor .u64 (bOr .u64 (IntKind.u64.wrap ((IntKind.u64.wrap (x8)) * 4294967296)) (IntKind.u64.wrap (x9))) (Int.fdiv (bOr .u64 (IntKind.u64.wrap ((IntKind.u64.wrap (x8)) * 4294967296)) (IntKind.u64.wrap (x9))) 536870912)) * 11400714819323198485)) 4294967296)) * 13787848793156543929)) 2147483648))) h6
def hash_scatter_lp (i : Nat) (Q : Qx) (tm : Tm) (h : Hp) : Prop := False
def hash_scatter_cut (i : Nat) : Option (List Nat) := none
set_option maxRecDepth 100000 in
theorem hash_scatter_eq (x1 : Int) (x2 : Int) (x3 : Int) (x4 : Int) (x5 : Int) (h : Hp) (K : Value → Hp → Prop) : hash_scatter x1 x2 x3 x4 x5 h K =
    codeWp Tryd.prog 42 hash_scatter_lp hash_scatter_cut (bodyOf Tryd.f21) 1 (endQ Tryd.prog Tryd.f21.results.toList K) (argTm [(.agg #[(.int .u32 x1), (.int .u32 x2), (.int .u16 x3), (.int .u16 x4), (.int .u8 x5)])]) h := by kernel_rfl
set_option maxRecDepth 100000 in
theorem hash_scatter_ok (x1 : Int) (x2 : Int) (x3 : Int) (x4 : Int) (x5 : Int) {h : Hp} {K : Value → Hp → Prop} (H : hash_scatter x1 x2 x3 x4 x5 h K) : CallsH Tryd.prog 21 #[(.agg #[(.int .u32 x1), (.int .u32 x2), (.int .u16 x3), (.int .u16 x4), (.int .u8 x5)])] h K :=
  calls_of (args := [(.agg #[(.int .u32 x1), (.int .u32 x2), (.int .u16 x3), (.int .u16 x4), (.int .u8 x5)])]) (n := 42) (lp := hash_scatter_lp) (cut := hash_scatter_cut) Tryd.func21 (c := bodyOf Tryd.f21) (by kernel_rfl) (by kernel_rfl) (by kernel_rfl) (good_by (c := (bodyOf Tryd.f21)) (i := 1) (l := []) (by kernel_rfl) (fun _ h => by cases h))
    (Eq.mp (hash_scatter_eq x1 x2 x3 x4 x5 h K) H)

/-! ### (*quintet/hash.Table[string]).Delete: function 6 -/
def hash_TableS_Delete (p1 : Option Addr) (x2 : Int) (x3 : Int) (x4 : Int) (x5 : Int) (x6 : Int) (h : Hp) (K : Value → Hp → Prop) : Prop :=
  newC h (.cells #[(.int .u32 x2), (.int .u32 x3), (.int .u16 x4), (.int .u16 x5), (.int .u8 x6)] 26 (0, 0)) fun a8 h7 => 
  ∃ b9 : Bool, PV Tryd.prog (binOp .eql 27 (.pointer p1) (.pointer none)) (.bool b9) ∧
  br b9
  (K (.bool false) h7)
  (∃ x10 : Int, ∃ x11 : Int, ∃ x12 : Int, ∃ x13 : Int, ∃ x14 : Int, HV Tryd.prog (Instr.loadAt 26 (.pointer (some a8))) h7 (.agg #[(.int .u32 x10), (.int .u32 x11), (.int .u16 x12), (.int .u16 x13), (.int .u8 x14)]) ∧ 
  CallsH Tryd.prog 12 #[(.pointer p1), (.agg #[(.int .u32 x10), (.int .u32 x11), (.int .u16 x12), (.int .u16 x13), (.int .u8 x14)])] h7 fun r16 h15 =>
  ∃ x17 : Int, ∃ x18 : Int, ∃ x19 : Int, r16 = (.tuple #[(.int .i64 x17), (.int .i64 x18), (.int .i64 x19)]) ∧ 
  br (decide (x17 < 0))
  (K (.bool false) h15)
  (drf p1 fun a20 =>
  ∃ A21 : Option Addr, ∃ l21 : Nat, ∃ c21 : Nat, HV Tryd.prog (Instr.loadAt 41 (.pointer (some (a20.add 1)))) h15 (.slice A21 l21 c21) ∧ 
  ∃ a22 : Addr, PV Tryd.prog (Instr.indexAt 41 (.slice A21 l21 c21) (.int .i64 x17)) (.pointer (some a22)) ∧
  HU Tryd.prog (Instr.storeAt 48 (.pointer (some a22)) (.agg #[(.int .u8 2), (.int .u32 0), (.int .u32 0), (.int .u16 0), (.int .u16 0), (.int .u8 0), (.string ⟨#[]⟩)])) h15 fun h23 => 
  drf p1 fun a24 =>
  ∃ x25 : Int, HV Tryd.prog (Instr.loadAt 3 (.pointer (some (a24.add 2)))) h23 (.int .i64 x25) ∧ 
  drf p1 fun a26 =>
  HU Tryd.prog (Instr.storeAt 3 (.pointer (some (a26.add 2))) (.int .i64 (IntKind.i64.wrap (x25 - 1)))) h23 fun h27 => 
  drf p1 fun a28 =>
  ∃ x29 : Int, HV Tryd.prog (Instr.loadAt 3 (.pointer (some (a28.add 3)))) h27 (.int .i64 x29) ∧ 
  drf p1 fun a30 =>
  HU Tryd.prog (Instr.storeAt 3 (.pointer (some (a30.add 3))) (.int .i64 (IntKind.i64.wrap (x29 + 1)))) h27 fun h31 => 
  CallsH Tryd.prog 13 #[(.pointer p1)] h31 fun r33 h32 =>
  r33 = (.tuple #[]) ∧ 
  K (.bool true) h32))
def hash_TableS_Delete_lp (i : Nat) (Q : Qx) (tm : Tm) (h : Hp) : Prop := False
def hash_TableS_Delete_cut (i : Nat) : Option (List Nat) := none
set_option maxRecDepth 100000 in
theorem hash_TableS_Delete_eq (p1 : Option Addr) (x2 : Int) (x3 : Int) (x4 : Int) (x5 : Int) (x6 : Int) (h : Hp) (K : Value → Hp → Prop) : hash_TableS_Delete p1 x2 x3 x4 x5 x6 h K =
    codeWp Tryd.prog 42 hash_TableS_Delete_lp hash_TableS_Delete_cut (bodyOf Tryd.f6) 1 (endQ Tryd.prog Tryd.f6.results.toList K) (argTm [(.pointer p1), (.agg #[(.int .u32 x2), (.int .u32 x3), (.int .u16 x4), (.int .u16 x5), (.int .u8 x6)])]) h := by kernel_rfl
set_option maxRecDepth 100000 in
theorem hash_TableS_Delete_ok (p1 : Option Addr) (x2 : Int) (x3 : Int) (x4 : Int) (x5 : Int) (x6 : Int) {h : Hp} {K : Value → Hp → Prop} (H : hash_TableS_Delete p1 x2 x3 x4 x5 x6 h K) : CallsH Tryd.prog 6 #[(.pointer p1), (.agg #[(.int .u32 x2), (.int .u32 x3), (.int .u16 x4), (.int .u16 x5), (.int .u8 x6)])] h K :=
  calls_of (args := [(.pointer p1), (.agg #[(.int .u32 x2), (.int .u32 x3), (.int .u16 x4), (.int .u16 x5), (.int .u8 x6)])]) (n := 42) (lp := hash_TableS_Delete_lp) (cut := hash_TableS_Delete_cut) Tryd.func6 (c := bodyOf Tryd.f6) (by kernel_rfl) (by kernel_rfl) (by kernel_rfl) (good_by (c := (bodyOf Tryd.f6)) (i := 1) (l := []) (by kernel_rfl) (fun _ h => by cases h))
    (Eq.mp (hash_TableS_Delete_eq p1 x2 x3 x4 x5 x6 h K) H)

/-! ### (*quintet/hash.Table[string]).Put: function 7 -/
def hash_TableS_Put_j1 (K0 : Int → Hp → Prop) (p37 : Option Addr) (s38 : ByteArray) (a39 : Addr) (x40 : Int) (h : Hp) : Prop :=
  drf p37 fun a57 =>
  ∃ A58 : Option Addr, ∃ l58 : Nat, ∃ c58 : Nat, HV Tryd.prog (Instr.loadAt 41 (.pointer (some (a57.add 1)))) h (.slice A58 l58 c58) ∧ 
  ∃ x59 : Int, ∃ x60 : Int, ∃ x61 : Int, ∃ x62 : Int, ∃ x63 : Int, HV Tryd.prog (Instr.loadAt 26 (.pointer (some a39))) h (.agg #[(.int .u32 x59), (.int .u32 x60), (.int .u16 x61), (.int .u16 x62), (.int .u8 x63)]) ∧ 
  ∃ a64 : Addr, PV Tryd.prog (Instr.indexAt 41 (.slice A58 l58 c58) (.int .i64 x40)) (.pointer (some a64)) ∧
  HU Tryd.prog (Instr.storeAt 48 (.pointer (some a64)) (.agg #[(.int .u8 1), (.int .u32 x59), (.int .u32 x60), (.int .u16 x61), (.int .u16 x62), (.int .u8 x63), (.string s38)])) h fun h65 => 
  drf p37 fun a66 =>
  ∃ x67 : Int, HV Tryd.prog (Instr.loadAt 3 (.pointer (some (a66.add 2)))) h65 (.int .i64 x67) ∧ 
  drf p37 fun a68 =>
  HU Tryd.prog (Instr.storeAt 3 (.pointer (some (a68.add 2))) (.int .i64 (IntKind.i64.wrap (x67 + 1)))) h65 fun h69 => 
  CallsH Tryd.prog 13 #[(.pointer p37)] h69 fun r71 h70 =>
  r71 = (.tuple #[]) ∧ 
  K0 0 h70
def hash_TableS_Put_j1_L (Q : Qx) (tm : Tm) (h : Hp) : Prop :=
  selP (tm 0) fun p37 =>
  selT (tm 2) fun s38 =>
  selA (tm 4) fun a39 =>
  selI .i64 (tm 8) fun x40 =>
  hash_TableS_Put_j1 (fun (x56 : Int) h => Q (.ret) (mkTm [(6, some (.int .i64 x56))]) h) p37 s38 a39 x40 h
def hash_TableS_Put (p1 : Option Addr) (x2 : Int) (x3 : Int) (x4 : Int) (x5 : Int) (x6 : Int) (s7 : ByteArray) (h : Hp) (K : Value → Hp → Prop) : Prop :=
  newC h (.cells #[(.int .u32 x2), (.int .u32 x3), (.int .u16 x4), (.int .u16 x5), (.int .u8 x6)] 26 (0, 0)) fun a9 h8 => 
  ∃ b10 : Bool, PV Tryd.prog (binOp .eql 27 (.pointer p1) (.pointer none)) (.bool b10) ∧
  br b10
  (K (.int .i64 3) h8)
  (∃ x11 : Int, ∃ x12 : Int, ∃ x13 : Int, ∃ x14 : Int, ∃ x15 : Int, HV Tryd.prog (Instr.loadAt 26 (.pointer (some a9))) h8 (.agg #[(.int .u32 x11), (.int .u32 x12), (.int .u16 x13), (.int .u16 x14), (.int .u8 x15)]) ∧ 
  CallsH Tryd.prog 12 #[(.pointer p1), (.agg #[(.int .u32 x11), (.int .u32 x12), (.int .u16 x13), (.int .u16 x14), (.int .u8 x15)])] h8 fun r17 h16 =>
  ∃ x18 : Int, ∃ x19 : Int, ∃ x20 : Int, r17 = (.tuple #[(.int .i64 x18), (.int .i64 x19), (.int .i64 x20)]) ∧ 
  br (decide (x18 ≥ 0))
  (drf p1 fun a21 =>
  ∃ A22 : Option Addr, ∃ l22 : Nat, ∃ c22 : Nat, HV Tryd.prog (Instr.loadAt 41 (.pointer (some (a21.add 1)))) h16 (.slice A22 l22 c22) ∧ 
  ∃ a23 : Addr, PV Tryd.prog (Instr.indexAt 41 (.slice A22 l22 c22) (.int .i64 x18)) (.pointer (some a23)) ∧
  HU Tryd.prog (Instr.storeAt 9 (.pointer (some (a23.add 6))) (.string s7)) h16 fun h24 => 
  K (.int .i64 0) h24)
  (drf p1 fun a25 =>
  ∃ x26 : Int, HV Tryd.prog (Instr.loadAt 3 (.pointer (some (a25.add 2)))) h16 (.int .i64 x26) ∧ 
  drf p1 fun a27 =>
  ∃ x28 : Int, HV Tryd.prog (Instr.loadAt 3 (.pointer (some a27))) h16 (.int .i64 x28) ∧ 
  br (decide (x26 ≥ x28))
  (K (.int .i64 150) h16)
  (drf p1 fun a72 =>
  ∃ A73 : Option Addr, ∃ l73 : Nat, ∃ c73 : Nat, HV Tryd.prog (Instr.loadAt 41 (.pointer (some (a72.add 1)))) h16 (.slice A73 l73 c73) ∧ 
  ∃ a74 : Addr, PV Tryd.prog (Instr.indexAt 41 (.slice A73 l73 c73) (.int .i64 x19)) (.pointer (some a74)) ∧
  ∃ x75 : Int, HV Tryd.prog (Instr.loadAt 46 (.pointer (some a74))) h16 (.int .u8 x75) ∧ 
  br (x75 == 2)
  (drf p1 fun a76 =>
  ∃ x77 : Int, HV Tryd.prog (Instr.loadAt 3 (.pointer (some (a76.add 3)))) h16 (.int .i64 x77) ∧ 
  drf p1 fun a78 =>
  HU Tryd.prog (Instr.storeAt 3 (.pointer (some (a78.add 3))) (.int .i64 (IntKind.i64.wrap (x77 - 1)))) h16 fun h79 => 
  hash_TableS_Put_j1
  (fun (x80 : Int) (h81 : Hp) =>
  K (.int .i64 x80) h81)
  p1 s7 a9 x19 h79)
  (hash_TableS_Put_j1
  (fun (x82 : Int) (h83 : Hp) =>
  K (.int .i64 x82) h83)
  p1 s7 a9 x19 h16))))
def hash_TableS_Put_lp (i : Nat) (Q : Qx) (tm : Tm) (h : Hp) : Prop := match Nat.beq i 63 with
  | true => hash_TableS_Put_j1_L Q tm h
  | false => False
def hash_TableS_Put_cut (i : Nat) : Option (List Nat) := match Nat.beq i 63 with
  | true => some [0, 2, 4, 8]
  | false => none
set_option maxRecDepth 100000 in
theorem hash_TableS_Put_j1_step (Q : Qx) (p37 : Option Addr) (s38 : ByteArray) (a39 : Addr) (x40 : Int) (h : Hp) : hash_TableS_Put_j1_L Q (mkTm [(0, some (.pointer p37)), (2, some (.string s38)), (4, some (.pointer (some a39))), (8, some (.int .i64 x40))]) h =
    codeWp Tryd.prog 72 hash_TableS_Put_lp hash_TableS_Put_cut (sub (bodyOf Tryd.f7) [true, true, true, true, true, true]) 127 (maskQ (fun e => match e with | .ret => [6] | _ => []) Q) (mkTm [(0, some (.pointer p37)), (2, some (.string s38)), (4, some (.pointer (some a39))), (8, some (.int .i64 x40))]) h := by kernel_rfl
theorem hash_TableS_Put_j1_mask (Q : Qx) (tm : Tm) (h : Hp) : hash_TableS_Put_j1_L Q tm h ↔ hash_TableS_Put_j1_L Q (mask [0, 2, 4, 8] tm) h := Iff.rfl
set_option maxRecDepth 100000 in
theorem hash_TableS_Put_j1_snd : SndAt Tryd.prog 72 none (sub (bodyOf Tryd.f7) [true, true, true, true, true, true]) (hash_TableS_Put_lp 63) := by
  refine join_sound (lp := hash_TableS_Put_lp) (cut := hash_TableS_Put_cut) (i := 63) (c := (sub (bodyOf Tryd.f7) [true, true, true, true, true, true])) [0, 2, 4, 8] (fun e => match e with | .ret => [6] | _ => []) hash_TableS_Put_j1_L ?_ ?_
  · exact good_by (c := (sub (bodyOf Tryd.f7) [true, true, true, true, true, true])) (i := 127) (l := []) (by kernel_rfl) (fun _ h => by cases h)
  · intro Q tm h H
    have H0 := H
    obtain ⟨p37, e0, H⟩ := selP_ex H
    obtain ⟨s38, e2, H⟩ := selT_ex H
    obtain ⟨a39, e4, H⟩ := selA_ex H
    obtain ⟨x40, e8, H⟩ := selI_ex H
    have e : mask [0, 2, 4, 8] tm = mkTm [(0, some (.pointer p37)), (2, some (.string s38)), (4, some (.pointer (some a39))), (8, some (.int .i64 x40))] := by simp only [mask, List.map_cons, List.map_nil, e0, e2, e4, e8] <;> rfl
    rw [e]
    refine Eq.mp (hash_TableS_Put_j1_step Q p37 s38 a39 x40 h) ?_
    rw [← e]
    exact (hash_TableS_Put_j1_mask Q tm h).mp H0
set_option maxRecDepth 100000 in
theorem hash_TableS_Put_eq (p1 : Option Addr) (x2 : Int) (x3 : Int) (x4 : Int) (x5 : Int) (x6 : Int) (s7 : ByteArray) (h : Hp) (K : Value → Hp → Prop) : hash_TableS_Put p1 x2 x3 x4 x5 x6 s7 h K =
    codeWp Tryd.prog 72 hash_TableS_Put_lp hash_TableS_Put_cut (bodyOf Tryd.f7) 1 (endQ Tryd.prog Tryd.f7.results.toList K) (argTm [(.pointer p1), (.agg #[(.int .u32 x2), (.int .u32 x3), (.int .u16 x4), (.int .u16 x5), (.int .u8 x6)]), (.string s7)]) h := by kernel_rfl
set_option maxRecDepth 100000 in
theorem hash_TableS_Put_ok (p1 : Option Addr) (x2 : Int) (x3 : Int) (x4 : Int) (x5 : Int) (x6 : Int) (s7 : ByteArray) {h : Hp} {K : Value → Hp → Prop} (H : hash_TableS_Put p1 x2 x3 x4 x5 x6 s7 h K) : CallsH Tryd.prog 7 #[(.pointer p1), (.agg #[(.int .u32 x2), (.int .u32 x3), (.int .u16 x4), (.int .u16 x5), (.int .u8 x6)]), (.string s7)] h K :=
  calls_of (args := [(.pointer p1), (.agg #[(.int .u32 x2), (.int .u32 x3), (.int .u16 x4), (.int .u16 x5), (.int .u8 x6)]), (.string s7)]) (n := 72) (lp := hash_TableS_Put_lp) (cut := hash_TableS_Put_cut) Tryd.func7 (c := bodyOf Tryd.f7) (by kernel_rfl) (by kernel_rfl) (by kernel_rfl) (good_by (c := (bodyOf Tryd.f7)) (i := 1) (l := [(63, (sub (bodyOf Tryd.f7) [true, true, true, true, true, true]))]) (by kernel_rfl) (List.forall_mem_cons.2 ⟨hash_TableS_Put_j1_snd, (fun _ h => by cases h)⟩))
    (Eq.mp (hash_TableS_Put_eq p1 x2 x3 x4 x5 x6 s7 h K) H)

/-! ### (*quintet/hash.Table[string]).Get: function 8 -/
def hash_TableS_Get (p1 : Option Addr) (x2 : Int) (x3 : Int) (x4 : Int) (x5 : Int) (x6 : Int) (h : Hp) (K : Value → Hp → Prop) : Prop :=
  newC h (.cells #[(.int .u32 x2), (.int .u32 x3), (.int .u16 x4), (.int .u16 x5), (.int .u8 x6)] 26 (0, 0)) fun a8 h7 => 
  ∃ b9 : Bool, PV Tryd.prog (binOp .eql 27 (.pointer p1) (.pointer none)) (.bool b9) ∧
  br b9
  (K (.tuple #[(.string ({ data := #[] })), (.bool false)]) h7)
  (∃ x10 : Int, ∃ x11 : Int, ∃ x12 : Int, ∃ x13 : Int, ∃ x14 : Int, HV Tryd.prog (Instr.loadAt 26 (.pointer (some a8))) h7 (.agg #[(.int .u32 x10), (.int .u32 x11), (.int .u16 x12), (.int .u16 x13), (.int .u8 x14)]) ∧ 
  CallsH Tryd.prog 12 #[(.pointer p1), (.agg #[(.int .u32 x10), (.int .u32 x11), (.int .u16 x12), (.int .u16 x13), (.int .u8 x14)])] h7 fun r16 h15 =>
  ∃ x17 : Int, ∃ x18 : Int, ∃ x19 : Int, r16 = (.tuple #[(.int .i64 x17), (.int .i64 x18), (.int .i64 x19)]) ∧ 
  br (decide (x17 < 0))
  (K (.tuple #[(.string ({ data := #[] })), (.bool false)]) h15)
  (drf p1 fun a20 =>
  ∃ A21 : Option Addr, ∃ l21 : Nat, ∃ c21 : Nat, HV Tryd.prog (Instr.loadAt 41 (.pointer (some (a20.add 1)))) h15 (.slice A21 l21 c21) ∧ 
  ∃ a22 : Addr, PV Tryd.prog (Instr.indexAt 41 (.slice A21 l21 c21) (.int .i64 x17)) (.pointer (some a22)) ∧
  ∃ s23 : ByteArray, HV Tryd.prog (Instr.loadAt 9 (.pointer (some (a22.add 6)))) h15 (.string s23) ∧ 
  K (.tuple #[(.string s23), (.bool true)]) h15))
def hash_TableS_Get_lp (i : Nat) (Q : Qx) (tm : Tm) (h : Hp) : Prop := False
def hash_TableS_Get_cut (i : Nat) : Option (List Nat) := none
set_option maxRecDepth 100000 in
theorem hash_TableS_Get_eq (p1 : Option Addr) (x2 : Int) (x3 : Int) (x4 : Int) (x5 : Int) (x6 : Int) (h : Hp) (K : Value → Hp → Prop) : hash_TableS_Get p1 x2 x3 x4 x5 x6 h K =
    codeWp Tryd.prog 31 hash_TableS_Get_lp hash_TableS_Get_cut (bodyOf Tryd.f8) 1 (endQ Tryd.prog Tryd.f8.results.toList K) (argTm [(.pointer p1), (.agg #[(.int .u32 x2), (.int .u32 x3), (.int .u16 x4), (.int .u16 x5), (.int .u8 x6)])]) h := by kernel_rfl
set_option maxRecDepth 100000 in
theorem hash_TableS_Get_ok (p1 : Option Addr) (x2 : Int) (x3 : Int) (x4 : Int) (x5 : Int) (x6 : Int) {h : Hp} {K : Value → Hp → Prop} (H : hash_TableS_Get p1 x2 x3 x4 x5 x6 h K) : CallsH Tryd.prog 8 #[(.pointer p1), (.agg #[(.int .u32 x2), (.int .u32 x3), (.int .u16 x4), (.int .u16 x5), (.int .u8 x6)])] h K :=
  calls_of (args := [(.pointer p1), (.agg #[(.int .u32 x2), (.int .u32 x3), (.int .u16 x4), (.int .u16 x5), (.int .u8 x6)])]) (n := 31) (lp := hash_TableS_Get_lp) (cut := hash_TableS_Get_cut) Tryd.func8 (c := bodyOf Tryd.f8) (by kernel_rfl) (by kernel_rfl) (by kernel_rfl) (good_by (c := (bodyOf Tryd.f8)) (i := 1) (l := []) (by kernel_rfl) (fun _ h => by cases h))
    (Eq.mp (hash_TableS_Get_eq p1 x2 x3 x4 x5 x6 h K) H)

/-! ### (*quintet/hash.Table[string]).Len: function 10 -/
def hash_TableS_Len (p1 : Option Addr) (h : Hp) (K : Value → Hp → Prop) : Prop :=
  ∃ b2 : Bool, PV Tryd.prog (binOp .eql 27 (.pointer p1) (.pointer none)) (.bool b2) ∧
  br b2
  (K (.int .i64 0) h)
  (drf p1 fun a3 =>
  ∃ x4 : Int, HV Tryd.prog (Instr.loadAt 3 (.pointer (some (a3.add 2)))) h (.int .i64 x4) ∧ 
  K (.int .i64 x4) h)
def hash_TableS_Len_lp (i : Nat) (Q : Qx) (tm : Tm) (h : Hp) : Prop := False
def hash_TableS_Len_cut (i : Nat) : Option (List Nat) := none
set_option maxRecDepth 100000 in
theorem hash_TableS_Len_eq (p1 : Option Addr) (h : Hp) (K : Value → Hp → Prop) : hash_TableS_Len p1 h K =
    codeWp Tryd.prog 9 hash_TableS_Len_lp hash_TableS_Len_cut (bodyOf Tryd.f10) 1 (endQ Tryd.prog Tryd.f10.results.toList K) (argTm [(.pointer p1)]) h := by kernel_rfl
set_option maxRecDepth 100000 in
theorem hash_TableS_Len_ok (p1 : Option Addr) {h : Hp} {K : Value → Hp → Prop} (H : hash_TableS_Len p1 h K) : CallsH Tryd.prog 10 #[(.pointer p1)] h K :=
  calls_of (args := [(.pointer p1)]) (n := 9) (lp := hash_TableS_Len_lp) (cut := hash_TableS_Len_cut) Tryd.func10 (c := bodyOf Tryd.f10) (by kernel_rfl) (by kernel_rfl) (by kernel_rfl) (good_by (c := (bodyOf Tryd.f10)) (i := 1) (l := []) (by kernel_rfl) (fun _ h => by cases h))
    (Eq.mp (hash_TableS_Len_eq p1 h K) H)

/-! ### (*quintet/hash.Table[string]).seek: function 12 -/
def hash_TableS_seek_g1 (p20 : Option Addr) (a21 : Addr) (K0 : Int → Int → Int → Hp → Prop)  : Nat → Int → Int → Int → Hp → Prop
  | 0, _, _, _, _ => False
  | k + 1, x22, x23, x24, h =>
    drf p20 fun a61 =>
    ∃ A62 : Option Addr, ∃ l62 : Nat, ∃ c62 : Nat, HV Tryd.prog (Instr.loadAt 41 (.pointer (some (a61.add 1)))) h (.slice A62 l62 c62) ∧ 
    ∃ a63 : Addr, PV Tryd.prog (Instr.indexAt 41 (.slice A62 l62 c62) (.int .i64 x24)) (.pointer (some a63)) ∧
    ∃ x64 : Int, HV Tryd.prog (Instr.loadAt 46 (.pointer (some a63))) h (.int .u8 x64) ∧ 
    br (x64 == 1)
    (∃ x65 : Int, ∃ x66 : Int, ∃ x67 : Int, ∃ x68 : Int, ∃ x69 : Int, HV Tryd.prog (Instr.loadAt 26 (.pointer (some (a63.add 1)))) h (.agg #[(.int .u32 x65), (.int .u32 x66), (.int .u16 x67), (.int .u16 x68), (.int .u8 x69)]) ∧ 
    ∃ x70 : Int, ∃ x71 : Int, ∃ x72 : Int, ∃ x73 : Int, ∃ x74 : Int, HV Tryd.prog (Instr.loadAt 26 (.pointer (some a21))) h (.agg #[(.int .u32 x70), (.int .u32 x71), (.int .u16 x72), (.int .u16 x73), (.int .u8 x74)]) ∧ 
    ∃ b75 : Bool, PV Tryd.prog (binOp .eql 26 (.agg #[(.int .u32 x65), (.int .u32 x66), (.int .u16 x67), (.int .u16 x68), (.int .u8 x69)]) (.agg #[(.int .u32 x70), (.int .u32 x71), (.int .u16 x72), (.int .u16 x73), (.int .u8 x74)])) (.bool b75) ∧
    br b75
    (K0 x24 x22 (IntKind.i64.wrap (x23 + 1)) h)
    (∃ x76 : Int, HV Tryd.prog (Instr.loadAt 46 (.pointer (some a63))) h (.int .u8 x76) ∧ 
    br (x76 == 2)
    (br (decide (x22 < 0))
    (drf p20 fun a77 =>
    ∃ A78 : Option Addr, ∃ l78 : Nat, ∃ c78 : Nat, HV Tryd.prog (Instr.loadAt 41 (.pointer (some (a77.add 1)))) h (.slice A78 l78 c78) ∧ 
    br (decide ((IntKind.i64.wrap (x24 + 1)) < (l78 : Int)))
    (hash_TableS_seek_g1 p20 a21 K0 k x24 (IntKind.i64.wrap (x23 + 1)) (IntKind.i64.wrap (x24 + 1)) h)
    (hash_TableS_seek_g1 p20 a21 K0 k x24 (IntKind.i64.wrap (x23 + 1)) 0 h))
    (∃ x79 : Int, HV Tryd.prog (Instr.loadAt 46 (.pointer (some a63))) h (.int .u8 x79) ∧ 
    br (x79 == 0)
    (br (decide (x22 < 0))
    (K0 (-1) x24 (IntKind.i64.wrap (x23 + 1)) h)
    (K0 (-1) x22 (IntKind.i64.wrap (x23 + 1)) h))
    (drf p20 fun a80 =>
    ∃ A81 : Option Addr, ∃ l81 : Nat, ∃ c81 : Nat, HV Tryd.prog (Instr.loadAt 41 (.pointer (some (a80.add 1)))) h (.slice A81 l81 c81) ∧ 
    br (decide ((IntKind.i64.wrap (x24 + 1)) < (l81 : Int)))
    (hash_TableS_seek_g1 p20 a21 K0 k x22 (IntKind.i64.wrap (x23 + 1)) (IntKind.i64.wrap (x24 + 1)) h)
    (hash_TableS_seek_g1 p20 a21 K0 k x22 (IntKind.i64.wrap (x23 + 1)) 0 h))))
    (∃ x82 : Int, HV Tryd.prog (Instr.loadAt 46 (.pointer (some a63))) h (.int .u8 x82) ∧ 
    br (x82 == 0)
    (br (decide (x22 < 0))
    (K0 (-1) x24 (IntKind.i64.wrap (x23 + 1)) h)
    (K0 (-1) x22 (IntKind.i64.wrap (x23 + 1)) h))
    (drf p20 fun a83 =>
    ∃ A84 : Option Addr, ∃ l84 : Nat, ∃ c84 : Nat, HV Tryd.prog (Instr.loadAt 41 (.pointer (some (a83.add 1)))) h (.slice A84 l84 c84) ∧ 
    br (decide ((IntKind.i64.wrap (x24 + 1)) < (l84 : Int)))
    (hash_TableS_seek_g1 p20 a21 K0 k x22 (IntKind.i64.wrap (x23 + 1)) (IntKind.i64.wrap (x24 + 1)) h)
    (hash_TableS_seek_g1 p20 a21 K0 k x22 (IntKind.i64.wrap (x23 + 1)) 0 h)))))
    (∃ x85 : Int, HV Tryd.prog (Instr.loadAt 46 (.pointer (some a63))) h (.int .u8 x85) ∧ 
    br (x85 == 2)
    (br (decide (x22 < 0))
    (drf p20 fun a86 =>
    ∃ A87 : Option Addr, ∃ l87 : Nat, ∃ c87 : Nat, HV Tryd.prog (Instr.loadAt 41 (.pointer (some (a86.add 1)))) h (.slice A87 l87 c87) ∧ 
    br (decide ((IntKind.i64.wrap (x24 + 1)) < (l87 : Int)))
    (hash_TableS_seek_g1 p20 a21 K0 k x24 (IntKind.i64.wrap (x23 + 1)) (IntKind.i64.wrap (x24 + 1)) h)
    (hash_TableS_seek_g1 p20 a21 K0 k x24 (IntKind.i64.wrap (x23 + 1)) 0 h))
    (∃ x88 : Int, HV Tryd.prog (Instr.loadAt 46 (.pointer (some a63))) h (.int .u8 x88) ∧ 
    br (x88 == 0)
    (br (decide (x22 < 0))
    (K0 (-1) x24 (IntKind.i64.wrap (x23 + 1)) h)
    (K0 (-1) x22 (IntKind.i64.wrap (x23 + 1)) h))
    (drf p20 fun a89 =>
    ∃ A90 : Option Addr, ∃ l90 : Nat, ∃ c90 : Nat, HV Tryd.prog (Instr.loadAt 41 (.pointer (some (a89.add 1)))) h (.slice A90 l90 c90) ∧ 
    br (decide ((IntKind.i64.wrap (x24 + 1)) < (l90 : Int)))
    (hash_TableS_seek_g1 p20 a21 K0 k x22 (IntKind.i64.wrap (x23 + 1)) (IntKind.i64.wrap (x24 + 1)) h)
    (hash_TableS_seek_g1 p20 a21 K0 k x22 (IntKind.i64.wrap (x23 + 1)) 0 h))))
    (∃ x91 : Int, HV Tryd.prog (Instr.loadAt 46 (.pointer (some a63))) h (.int .u8 x91) ∧ 
    br (x91 == 0)
    (br (decide (x22 < 0))
    (K0 (-1) x24 (IntKind.i64.wrap (x23 + 1)) h)
    (K0 (-1) x22 (IntKind.i64.wrap (x23 + 1)) h))
    (drf p20 fun a92 =>
    ∃ A93 : Option Addr, ∃ l93 : Nat, ∃ c93 : Nat, HV Tryd.prog (Instr.loadAt 41 (.pointer (some (a92.add 1)))) h (.slice A93 l93 c93) ∧ 
    br (decide ((IntKind.i64.wrap (x24 + 1)) < (l93 : Int)))
    (hash_TableS_seek_g1 p20 a21 K0 k x22 (IntKind.i64.wrap (x23 + 1)) (IntKind.i64.wrap (x24 + 1)) h)
    (hash_TableS_seek_g1 p20 a21 K0 k x22 (IntKind.i64.wrap (x23 + 1)) 0 h))))
def hash_TableS_seek_g1_L (Q : Qx) (k : Nat) (tm : Tm) (h : Hp) : Prop :=
  selP (tm 0) fun p20 =>
  selA (tm 3) fun a21 =>
  selI .i64 (tm 5) fun x22 =>
  selI .i64 (tm 6) fun x23 =>
  selI .i64 (tm 7) fun x24 =>
  hash_TableS_seek_g1 p20 a21 (fun (x58 : Int) (x59 : Int) (x60 : Int) h => Q (.ret) (mkTm [(4, some (.int .i64 x58)), (5, some (.int .i64 x59)), (6, some (.int .i64 x60))]) h) k x22 x23 x24 h
def hash_TableS_seek (p1 : Option Addr) (x2 : Int) (x3 : Int) (x4 : Int) (x5 : Int) (x6 : Int) (h : Hp) (K : Value → Hp → Prop) : Prop :=
  newC h (.cells #[(.int .u32 x2), (.int .u32 x3), (.int .u16 x4), (.int .u16 x5), (.int .u8 x6)] 26 (0, 0)) fun a8 h7 => 
  ∃ k94, ∃ x95 : Int, ∃ x96 : Int, ∃ x97 : Int, ∃ x98 : Int, ∃ x99 : Int, HV Tryd.prog (Instr.loadAt 26 (.pointer (some a8))) h7 (.agg #[(.int .u32 x95), (.int .u32 x96), (.int .u16 x97), (.int .u16 x98), (.int .u8 x99)]) ∧ 
  CallsH Tryd.prog 21 #[(.agg #[(.int .u32 x95), (.int .u32 x96), (.int .u16 x97), (.int .u16 x98), (.int .u8 x99)])] h7 fun r101 h100 =>
  ∃ x102 : Int, r101 = (.int .u64 x102) ∧ 
  drf p1 fun a103 =>
  ∃ A104 : Option Addr, ∃ l104 : Nat, ∃ c104 : Nat, HV Tryd.prog (Instr.loadAt 41 (.pointer (some (a103.add 1)))) h100 (.slice A104 l104 c104) ∧ HV Tryd.prog (Instr.loadAt 41 (.pointer (some (a103.add 1)))) h7 (.slice A104 l104 c104) ∧ 
  ∃ x105 : Int, PV Tryd.prog (binOp .rem 57 (.int .u64 x102) (.int .u64 (IntKind.u64.wrap ((l104 : Int))))) (.int .u64 x105) ∧
  hash_TableS_seek_g1 p1 a8
  (fun (x106 : Int) (x107 : Int) (x108 : Int) (h109 : Hp) =>
  K (.tuple #[(.int .i64 x106), (.int .i64 x107), (.int .i64 x108)]) h109)
  (k94 + 1) (-1) 0 (IntKind.i64.wrap (x105)) h100
def hash_TableS_seek_g1_S (Q : Qx) (tm : Tm) (h : Hp) : Prop := ∃ k, codeWp Tryd.prog 75 lp0 cut0 (sub (bodyOf Tryd.f12) [true, false]) 6 (gotoQ 0 (fun tm h => hash_TableS_seek_g1_L Q k (mask [0, 3, 5, 6, 7] tm) h) Q) tm h
def hash_TableS_seek_lp (i : Nat) (Q : Qx) (tm : Tm) (h : Hp) : Prop := match Nat.beq i 3 with
  | true => hash_TableS_seek_g1_S Q tm h
  | false => False
def hash_TableS_seek_cut (i : Nat) : Option (List Nat) := match Nat.beq i 3 with
  | true => some []
  | false => none
set_option maxRecDepth 100000 in
theorem hash_TableS_seek_g1_step (Q : Qx) (k : Nat) (p20 : Option Addr) (a21 : Addr) (x22 : Int) (x23 : Int) (x24 : Int) (h : Hp) : hash_TableS_seek_g1_L Q (k + 1) (mkTm [(0, some (.pointer p20)), (3, some (.pointer (some a21))), (5, some (.int .i64 x22)), (6, some (.int .i64 x23)), (7, some (.int .i64 x24))]) h =
    codeWp Tryd.prog 75 lp0 cut0 (Code.seq .skip (sub (bodyOf Tryd.f12) [true, false, true, true, true])) 1 (gotoQ 0 (fun tm h => hash_TableS_seek_g1_L Q k (mask [0, 3, 5, 6, 7] tm) h) (maskQ (fun e => match e with | .ret => [4, 5, 6] | _ => []) Q)) (mkTm [(0, some (.pointer p20)), (3, some (.pointer (some a21))), (5, some (.int .i64 x22)), (6, some (.int .i64 x23)), (7, some (.int .i64 x24))]) h := by kernel_rfl
theorem hash_TableS_seek_g1_mask (Q : Qx) (k : Nat) (tm : Tm) (h : Hp) : hash_TableS_seek_g1_L Q k tm h ↔ hash_TableS_seek_g1_L Q k (mask [0, 3, 5, 6, 7] tm) h := Iff.rfl
set_option maxRecDepth 100000 in
theorem hash_TableS_seek_g1_snd : SndAt Tryd.prog 75 none (sub (bodyOf Tryd.f12) [true]) (hash_TableS_seek_lp 3) := by
  refine scope_sound (lp := lp0) (cut := cut0) (c := (sub (bodyOf Tryd.f12) [true, false])) (rest := (Code.seq .skip (sub (bodyOf Tryd.f12) [true, false, true, true, true]))) (i := 6) (j := 1) (l := 0) [0, 3, 5, 6, 7] (fun e => match e with | .ret => [4, 5, 6] | _ => []) hash_TableS_seek_g1_L (by kernel_rfl) ?_ ?_ ?_ ?_
  · exact good_by (c := (sub (bodyOf Tryd.f12) [true, false])) (i := 6) (l := []) (by kernel_rfl) (fun _ h => by cases h)
  · exact good_by (c := (Code.seq .skip (sub (bodyOf Tryd.f12) [true, false, true, true, true]))) (i := 1) (l := []) (by kernel_rfl) (fun _ h => by cases h)
  · intro Q tm h H
    obtain ⟨p20, e0, H⟩ := selP_ex H
    obtain ⟨a21, e3, H⟩ := selA_ex H
    obtain ⟨x22, e5, H⟩ := selI_ex H
    obtain ⟨x23, e6, H⟩ := selI_ex H
    obtain ⟨x24, e7, H⟩ := selI_ex H
    exact H
  · intro Q k tm h H
    have H0 := H
    obtain ⟨p20, e0, H⟩ := selP_ex H
    obtain ⟨a21, e3, H⟩ := selA_ex H
    obtain ⟨x22, e5, H⟩ := selI_ex H
    obtain ⟨x23, e6, H⟩ := selI_ex H
    obtain ⟨x24, e7, H⟩ := selI_ex H
    have e : mask [0, 3, 5, 6, 7] tm = mkTm [(0, some (.pointer p20)), (3, some (.pointer (some a21))), (5, some (.int .i64 x22)), (6, some (.int .i64 x23)), (7, some (.int .i64 x24))] := by simp only [mask, List.map_cons, List.map_nil, e0, e3, e5, e6, e7] <;> rfl
    rw [e]
    refine Eq.mp (hash_TableS_seek_g1_step Q k p20 a21 x22 x23 x24 h) ?_
    rw [← e]
    exact (hash_TableS_seek_g1_mask Q (k + 1) tm h).mp H0
set_option maxRecDepth 100000 in
theorem hash_TableS_seek_eq (p1 : Option Addr) (x2 : Int) (x3 : Int) (x4 : Int) (x5 : Int) (x6 : Int) (h : Hp) (K : Value → Hp → Prop) : hash_TableS_seek p1 x2 x3 x4 x5 x6 h K =
    codeWp Tryd.prog 75 hash_TableS_seek_lp hash_TableS_seek_cut (bodyOf Tryd.f12) 1 (endQ Tryd.prog Tryd.f12.results.toList K) (argTm [(.pointer p1), (.agg #[(.int .u32 x2), (.int .u32 x3), (.int .u16 x4), (.int .u16 x5), (.int .u8 x6)])]) h := by kernel_rfl
set_option maxRecDepth 100000 in
theorem hash_TableS_seek_ok (p1 : Option Addr) (x2 : Int) (x3 : Int) (x4 : Int) (x5 : Int) (x6 : Int) {h : Hp} {K : Value → Hp → Prop} (H : hash_TableS_seek p1 x2 x3 x4 x5 x6 h K) : CallsH Tryd.prog 12 #[(.pointer p1), (.agg #[(.int .u32 x2), (.int .u32 x3), (.int .u16 x4), (.int .u16 x5), (.int .u8 x6)])] h K :=
  calls_of (args := [(.pointer p1), (.agg #[(.int .u32 x2), (.int .u32 x3), (.int .u16 x4), (.int .u16 x5), (.int .u8 x6)])]) (n := 75) (lp := hash_TableS_seek_lp) (cut := hash_TableS_seek_cut) Tryd.func12 (c := bodyOf Tryd.f12) (by kernel_rfl) (by kernel_rfl) (by kernel_rfl) (good_by (c := (bodyOf Tryd.f12)) (i := 1) (l := [(3, (sub (bodyOf Tryd.f12) [true]))]) (by kernel_rfl) (List.forall_mem_cons.2 ⟨hash_TableS_seek_g1_snd, (fun _ h => by cases h)⟩))
    (Eq.mp (hash_TableS_seek_eq p1 x2 x3 x4 x5 x6 h K) H)

/-! ### (*quintet/hash.Table[string]).mend: function 13 -/
def hash_TableS_mend (p1 : Option Addr) (h : Hp) (K : Value → Hp → Prop) : Prop :=
  drf p1 fun a2 =>
  ∃ A3 : Option Addr, ∃ l3 : Nat, ∃ c3 : Nat, HV Tryd.prog (Instr.loadAt 41 (.pointer (some (a2.add 1)))) h (.slice A3 l3 c3) ∧ 
  drf p1 fun a4 =>
  ∃ x5 : Int, HV Tryd.prog (Instr.loadAt 3 (.pointer (some (a4.add 2)))) h (.int .i64 x5) ∧ 
  br (decide ((IntKind.i64.wrap (2 * x5)) > (l3 : Int)))
  (CallsH Tryd.prog 22 #[(.pointer p1), (.int .i64 (IntKind.i64.wrap (2 * (l3 : Int))))] h fun r7 h6 =>
  r7 = (.tuple #[]) ∧ 
  K (.tuple #[]) h6)
  (drf p1 fun a8 =>
  ∃ x9 : Int, HV Tryd.prog (Instr.loadAt 3 (.pointer (some (a8.add 2)))) h (.int .i64 x9) ∧ 
  drf p1 fun a10 =>
  ∃ x11 : Int, HV Tryd.prog (Instr.loadAt 3 (.pointer (some (a10.add 3)))) h (.int .i64 x11) ∧ 
  br (decide ((IntKind.i64.wrap (2 * (IntKind.i64.wrap (x9 + x11)))) > (l3 : Int)))
  (CallsH Tryd.prog 22 #[(.pointer p1), (.int .i64 (l3 : Int))] h fun r13 h12 =>
  r13 = (.tuple #[]) ∧ 
  K (.tuple #[]) h12)
  (K (.tuple #[]) h))
def hash_TableS_mend_lp (i : Nat) (Q : Qx) (tm : Tm) (h : Hp) : Prop := False
def hash_TableS_mend_cut (i : Nat) : Option (List Nat) := none
set_option maxRecDepth 100000 in
theorem hash_TableS_mend_eq (p1 : Option Addr) (h : Hp) (K : Value → Hp → Prop) : hash_TableS_mend p1 h K =
    codeWp Tryd.prog 36 hash_TableS_mend_lp hash_TableS_mend_cut (bodyOf Tryd.f13) 1 (endQ Tryd.prog Tryd.f13.results.toList K) (argTm [(.pointer p1)]) h := by kernel_rfl
set_option maxRecDepth 100000 in
theorem hash_TableS_mend_ok (p1 : Option Addr) {h : Hp} {K : Value → Hp → Prop} (H : hash_TableS_mend p1 h K) : CallsH Tryd.prog 13 #[(.pointer p1)] h K :=
  calls_of (args := [(.pointer p1)]) (n := 36) (lp := hash_TableS_mend_lp) (cut := hash_TableS_mend_cut) Tryd.func13 (c := bodyOf Tryd.f13) (by kernel_rfl) (by kernel_rfl) (by kernel_rfl) (good_by (c := (bodyOf Tryd.f13)) (i := 1) (l := []) (by kernel_rfl) (fun _ h => by cases h))
    (Eq.mp (hash_TableS_mend_eq p1 h K) H)

/-! ### (*quintet/hash.Table[int]).Put: function 15 -/
def hash_Table_Put_j1 (K0 : Int → Hp → Prop) (p37 : Option Addr) (x38 : Int) (a39 : Addr) (x40 : Int) (h : Hp) : Prop :=
  drf p37 fun a57 =>
  ∃ A58 : Option Addr, ∃ l58 : Nat, ∃ c58 : Nat, HV Tryd.prog (Instr.loadAt 61 (.pointer (some (a57.add 1)))) h (.slice A58 l58 c58) ∧ 
  ∃ x59 : Int, ∃ x60 : Int, ∃ x61 : Int, ∃ x62 : Int, ∃ x63 : Int, HV Tryd.prog (Instr.loadAt 26 (.pointer (some a39))) h (.agg #[(.int .u32 x59), (.int .u32 x60), (.int .u16 x61), (.int .u16 x62), (.int .u8 x63)]) ∧ 
  ∃ a64 : Addr, PV Tryd.prog (Instr.indexAt 61 (.slice A58 l58 c58) (.int .i64 x40)) (.pointer (some a64)) ∧
  HU Tryd.prog (Instr.storeAt 65 (.pointer (some a64)) (.agg #[(.int .u8 1), (.int .u32 x59), (.int .u32 x60), (.int .u16 x61), (.int .u16 x62), (.int .u8 x63), (.int .i64 x38)])) h fun h65 => 
  drf p37 fun a66 =>
  ∃ x67 : Int, HV Tryd.prog (Instr.loadAt 3 (.pointer (some (a66.add 2)))) h65 (.int .i64 x67) ∧ 
  drf p37 fun a68 =>
  HU Tryd.prog (Instr.storeAt 3 (.pointer (some (a68.add 2))) (.int .i64 (IntKind.i64.wrap (x67 + 1)))) h65 fun h69 => 
  CallsH Tryd.prog 24 #[(.pointer p37)] h69 fun r71 h70 =>
  r71 = (.tuple #[]) ∧ 
  K0 0 h70
def hash_Table_Put_j1_L (Q : Qx) (tm : Tm) (h : Hp) : Prop :=
  selP (tm 0) fun p37 =>
  selI .i64 (tm 2) fun x38 =>
  selA (tm 4) fun a39 =>
  selI .i64 (tm 8) fun x40 =>
  hash_Table_Put_j1 (fun (x56 : Int) h => Q (.ret) (mkTm [(6, some (.int .i64 x56))]) h) p37 x38 a39 x40 h
def hash_Table_Put (p1 : Option Addr) (x2 : Int) (x3 : Int) (x4 : Int) (x5 : Int) (x6 : Int) (x7 : Int) (h : Hp) (K : Value → Hp → Prop) : Prop :=
  newC h (.cells #[(.int .u32 x2), (.int .u32 x3), (.int .u16 x4), (.int .u16 x5), (.int .u8 x6)] 26 (0, 0)) fun a9 h8 => 
  ∃ b10 : Bool, PV Tryd.prog (binOp .eql 49 (.pointer p1) (.pointer none)) (.bool b10) ∧
  br b10
  (K (.int .i64 3) h8)
  (∃ x11 : Int, ∃ x12 : Int, ∃ x13 : Int, ∃ x14 : Int, ∃ x15 : Int, HV Tryd.prog (Instr.loadAt 26 (.pointer (some a9))) h8 (.agg #[(.int .u32 x11), (.int .u32 x12), (.int .u16 x13), (.int .u16 x14), (.int .u8 x15)]) ∧ 
  CallsH Tryd.prog 23 #[(.pointer p1), (.agg #[(.int .u32 x11), (.int .u32 x12), (.int .u16 x13), (.int .u16 x14), (.int .u8 x15)])] h8 fun r17 h16 =>
  ∃ x18 : Int, ∃ x19 : Int, ∃ x20 : Int, r17 = (.tuple #[(.int .i64 x18), (.int .i64 x19), (.int .i64 x20)]) ∧ 
  br (decide (x18 ≥ 0))
  (drf p1 fun a21 =>
  ∃ A22 : Option Addr, ∃ l22 : Nat, ∃ c22 : Nat, HV Tryd.prog (Instr.loadAt 61 (.pointer (some (a21.add 1)))) h16 (.slice A22 l22 c22) ∧ 
  ∃ a23 : Addr, PV Tryd.prog (Instr.indexAt 61 (.slice A22 l22 c22) (.int .i64 x18)) (.pointer (some a23)) ∧
  HU Tryd.prog (Instr.storeAt 3 (.pointer (some (a23.add 6))) (.int .i64 x7)) h16 fun h24 => 
  K (.int .i64 0) h24)
  (drf p1 fun a25 =>
  ∃ x26 : Int, HV Tryd.prog (Instr.loadAt 3 (.pointer (some (a25.add 2)))) h16 (.int .i64 x26) ∧ 
  drf p1 fun a27 =>
  ∃ x28 : Int, HV Tryd.prog (Instr.loadAt 3 (.pointer (some a27))) h16 (.int .i64 x28) ∧ 
  br (decide (x26 ≥ x28))
  (K (.int .i64 150) h16)
  (drf p1 fun a72 =>
  ∃ A73 : Option Addr, ∃ l73 : Nat, ∃ c73 : Nat, HV Tryd.prog (Instr.loadAt 61 (.pointer (some (a72.add 1)))) h16 (.slice A73 l73 c73) ∧ 
  ∃ a74 : Addr, PV Tryd.prog (Instr.indexAt 61 (.slice A73 l73 c73) (.int .i64 x19)) (.pointer (some a74)) ∧
  ∃ x75 : Int, HV Tryd.prog (Instr.loadAt 46 (.pointer (some a74))) h16 (.int .u8 x75) ∧ 
  br (x75 == 2)
  (drf p1 fun a76 =>
  ∃ x77 : Int, HV Tryd.prog (Instr.loadAt 3 (.pointer (some (a76.add 3)))) h16 (.int .i64 x77) ∧ 
  drf p1 fun a78 =>
  HU Tryd.prog (Instr.storeAt 3 (.pointer (some (a78.add 3))) (.int .i64 (IntKind.i64.wrap (x77 - 1)))) h16 fun h79 => 
  hash_Table_Put_j1
  (fun (x80 : Int) (h81 : Hp) =>
  K (.int .i64 x80) h81)
  p1 x7 a9 x19 h79)
  (hash_Table_Put_j1
  (fun (x82 : Int) (h83 : Hp) =>
  K (.int .i64 x82) h83)
  p1 x7 a9 x19 h16))))
def hash_Table_Put_lp (i : Nat) (Q : Qx) (tm : Tm) (h : Hp) : Prop := match Nat.beq i 63 with
  | true => hash_Table_Put_j1_L Q tm h
  | false => False
def hash_Table_Put_cut (i : Nat) : Option (List Nat) := match Nat.beq i 63 with
  | true => some [0, 2, 4, 8]
  | false => none
set_option maxRecDepth 100000 in
theorem hash_Table_Put_j1_step (Q : Qx) (p37 : Option Addr) (x38 : Int) (a39 : Addr) (x40 : Int) (h : Hp) : hash_Table_Put_j1_L Q (mkTm [(0, some (.pointer p37)), (2, some (.int .i64 x38)), (4, some (.pointer (some a39))), (8, some (.int .i64 x40))]) h =
    codeWp Tryd.prog 72 hash_Table_Put_lp hash_Table_Put_cut (sub (bodyOf Tryd.f15) [true, true, true, true, true, true]) 127 (maskQ (fun e => match e with | .ret => [6] | _ => []) Q) (mkTm [(0, some (.pointer p37)), (2, some (.int .i64 x38)), (4, some (.pointer (some a39))), (8, some (.int .i64 x40))]) h := by kernel_rfl
theorem hash_Table_Put_j1_mask (Q : Qx) (tm : Tm) (h : Hp) : hash_Table_Put_j1_L Q tm h ↔ hash_Table_Put_j1_L Q (mask [0, 2, 4, 8] tm) h := Iff.rfl
set_option maxRecDepth 100000 in
theorem hash_Table_Put_j1_snd : SndAt Tryd.prog 72 none (sub (bodyOf Tryd.f15) [true, true, true, true, true, true]) (hash_Table_Put_lp 63) := by
  refine join_sound (lp := hash_Table_Put_lp) (cut := hash_Table_Put_cut) (i := 63) (c := (sub (bodyOf Tryd.f15) [true, true, true, true, true, true])) [0, 2, 4, 8] (fun e => match e with | .ret => [6] | _ => []) hash_Table_Put_j1_L ?_ ?_
  · exact good_by (c := (sub (bodyOf Tryd.f15) [true, true, true, true, true, true])) (i := 127) (l := []) (by kernel_rfl) (fun _ h => by cases h)
  · intro Q tm h H
    have H0 := H
    obtain ⟨p37, e0, H⟩ := selP_ex H
    obtain ⟨x38, e2, H⟩ := selI_ex H
    obtain ⟨a39, e4, H⟩ := selA_ex H
    obtain ⟨x40, e8, H⟩ := selI_ex H
    have e : mask [0, 2, 4, 8] tm = mkTm [(0, some (.pointer p37)), (2, some (.int .i64 x38)), (4, some (.pointer (some a39))), (8, some (.int .i64 x40))] := by simp only [mask, List.map_cons, List.map_nil, e0, e2, e4, e8] <;> rfl
    rw [e]
    refine Eq.mp (hash_Table_Put_j1_step Q p37 x38 a39 x40 h) ?_
    rw [← e]
    exact (hash_Table_Put_j1_mask Q tm h).mp H0
set_option maxRecDepth 100000 in
theorem hash_Table_Put_eq (p1 : Option Addr) (x2 : Int) (x3 : Int) (x4 : Int) (x5 : Int) (x6 : Int) (x7 : Int) (h : Hp) (K : Value → Hp → Prop) : hash_Table_Put p1 x2 x3 x4 x5 x6 x7 h K =
    codeWp Tryd.prog 72 hash_Table_Put_lp hash_Table_Put_cut (bodyOf Tryd.f15) 1 (endQ Tryd.prog Tryd.f15.results.toList K) (argTm [(.pointer p1), (.agg #[(.int .u32 x2), (.int .u32 x3), (.int .u16 x4), (.int .u16 x5), (.int .u8 x6)]), (.int .i64 x7)]) h := by kernel_rfl
set_option maxRecDepth 100000 in
theorem hash_Table_Put_ok (p1 : Option Addr) (x2 : Int) (x3 : Int) (x4 : Int) (x5 : Int) (x6 : Int) (x7 : Int) {h : Hp} {K : Value → Hp → Prop} (H : hash_Table_Put p1 x2 x3 x4 x5 x6 x7 h K) : CallsH Tryd.prog 15 #[(.pointer p1), (.agg #[(.int .u32 x2), (.int .u32 x3), (.int .u16 x4), (.int .u16 x5), (.int .u8 x6)]), (.int .i64 x7)] h K :=
  calls_of (args := [(.pointer p1), (.agg #[(.int .u32 x2), (.int .u32 x3), (.int .u16 x4), (.int .u16 x5), (.int .u8 x6)]), (.int .i64 x7)]) (n := 72) (lp := hash_Table_Put_lp) (cut := hash_Table_Put_cut) Tryd.func15 (c := bodyOf Tryd.f15) (by kernel_rfl) (by kernel_rfl) (by kernel_rfl) (good_by (c := (bodyOf Tryd.f15)) (i := 1) (l := [(63, (sub (bodyOf Tryd.f15) [true, true, true, true, true, true]))]) (by kernel_rfl) (List.forall_mem_cons.2 ⟨hash_Table_Put_j1_snd, (fun _ h => by cases h)⟩))
    (Eq.mp (hash_Table_Put_eq p1 x2 x3 x4 x5 x6 x7 h K) H)

/-! ### (*quintet/hash.Table[int]).Get: function 17 -/
def hash_Table_Get (p1 : Option Addr) (x2 : Int) (x3 : Int) (x4 : Int) (x5 : Int) (x6 : Int) (h : Hp) (K : Value → Hp → Prop) : Prop :=
  newC h (.cells #[(.int .u32 x2), (.int .u32 x3), (.int .u16 x4), (.int .u16 x5), (.int .u8 x6)] 26 (0, 0)) fun a8 h7 => 
  ∃ b9 : Bool, PV Tryd.prog (binOp .eql 49 (.pointer p1) (.pointer none)) (.bool b9) ∧
  br b9
  (K (.tuple #[(.int .i64 0), (.bool false)]) h7)
  (∃ x10 : Int, ∃ x11 : Int, ∃ x12 : Int, ∃ x13 : Int, ∃ x14 : Int, HV Tryd.prog (Instr.loadAt 26 (.pointer (some a8))) h7 (.agg #[(.int .u32 x10), (.int .u32 x11), (.int .u16 x12), (.int .u16 x13), (.int .u8 x14)]) ∧ 
  CallsH Tryd.prog 23 #[(.pointer p1), (.agg #[(.int .u32 x10), (.int .u32 x11), (.int .u16 x12), (.int .u16 x13), (.int .u8 x14)])] h7 fun r16 h15 =>
  ∃ x17 : Int, ∃ x18 : Int, ∃ x19 : Int, r16 = (.tuple #[(.int .i64 x17), (.int .i64 x18), (.int .i64 x19)]) ∧ 
  br (decide (x17 < 0))
  (K (.tuple #[(.int .i64 0), (.bool false)]) h15)
  (drf p1 fun a20 =>
  ∃ A21 : Option Addr, ∃ l21 : Nat, ∃ c21 : Nat, HV Tryd.prog (Instr.loadAt 61 (.pointer (some (a20.add 1)))) h15 (.slice A21 l21 c21) ∧ 
  ∃ a22 : Addr, PV Tryd.prog (Instr.indexAt 61 (.slice A21 l21 c21) (.int .i64 x17)) (.pointer (some a22)) ∧
  ∃ x23 : Int, HV Tryd.prog (Instr.loadAt 3 (.pointer (some (a22.add 6)))) h15 (.int .i64 x23) ∧ 
  K (.tuple #[(.int .i64 x23), (.bool true)]) h15))
def hash_Table_Get_lp (i : Nat) (Q : Qx) (tm : Tm) (h : Hp) : Prop := False
def hash_Table_Get_cut (i : Nat) : Option (List Nat) := none
set_option maxRecDepth 100000 in
theorem hash_Table_Get_eq (p1 : Option Addr) (x2 : Int) (x3 : Int) (x4 : Int) (x5 : Int) (x6 : Int) (h : Hp) (K : Value → Hp → Prop) : hash_Table_Get p1 x2 x3 x4 x5 x6 h K =
    codeWp Tryd.prog 31 hash_Table_Get_lp hash_Table_Get_cut (bodyOf Tryd.f17) 1 (endQ Tryd.prog Tryd.f17.results.toList K) (argTm [(.pointer p1), (.agg #[(.int .u32 x2), (.int .u32 x3), (.int .u16 x4), (.int .u16 x5), (.int .u8 x6)])]) h := by kernel_rfl
set_option maxRecDepth 100000 in
theorem hash_Table_Get_ok (p1 : Option Addr) (x2 : Int) (x3 : Int) (x4 : Int) (x5 : Int) (x6 : Int) {h : Hp} {K : Value → Hp → Prop} (H : hash_Table_Get p1 x2 x3 x4 x5 x6 h K) : CallsH Tryd.prog 17 #[(.pointer p1), (.agg #[(.int .u32 x2), (.int .u32 x3), (.int .u16 x4), (.int .u16 x5), (.int .u8 x6)])] h K :=
  calls_of (args := [(.pointer p1), (.agg #[(.int .u32 x2), (.int .u32 x3), (.int .u16 x4), (.int .u16 x5), (.int .u8 x6)])]) (n := 31) (lp := hash_Table_Get_lp) (cut := hash_Table_Get_cut) Tryd.func17 (c := bodyOf Tryd.f17) (by kernel_rfl) (by kernel_rfl) (by kernel_rfl) (good_by (c := (bodyOf Tryd.f17)) (i := 1) (l := []) (by kernel_rfl) (fun _ h => by cases h))
    (Eq.mp (hash_Table_Get_eq p1 x2 x3 x4 x5 x6 h K) H)

/-! ### (*quintet/hash.Table[int]).Len: function 18 -/
def hash_Table_Len (p1 : Option Addr) (h : Hp) (K : Value → Hp → Prop) : Prop :=
  ∃ b2 : Bool, PV Tryd.prog (binOp .eql 49 (.pointer p1) (.pointer none)) (.bool b2) ∧
  br b2
  (K (.int .i64 0) h)
  (drf p1 fun a3 =>
  ∃ x4 : Int, HV Tryd.prog (Instr.loadAt 3 (.pointer (some (a3.add 2)))) h (.int .i64 x4) ∧ 
  K (.int .i64 x4) h)
def hash_Table_Len_lp (i : Nat) (Q : Qx) (tm : Tm) (h : Hp) : Prop := False
def hash_Table_Len_cut (i : Nat) : Option (List Nat) := none
set_option maxRecDepth 100000 in
theorem hash_Table_Len_eq (p1 : Option Addr) (h : Hp) (K : Value → Hp → Prop) : hash_Table_Len p1 h K =
    codeWp Tryd.prog 9 hash_Table_Len_lp hash_Table_Len_cut (bodyOf Tryd.f18) 1 (endQ Tryd.prog Tryd.f18.results.toList K) (argTm [(.pointer p1)]) h := by kernel_rfl
set_option maxRecDepth 100000 in
theorem hash_Table_Len_ok (p1 : Option Addr) {h : Hp} {K : Value → Hp → Prop} (H : hash_Table_Len p1 h K) : CallsH Tryd.prog 18 #[(.pointer p1)] h K :=
  calls_of (args := [(.pointer p1)]) (n := 9) (lp := hash_Table_Len_lp) (cut := hash_Table_Len_cut) Tryd.func18 (c := bodyOf Tryd.f18) (by kernel_rfl) (by kernel_rfl) (by kernel_rfl) (good_by (c := (bodyOf Tryd.f18)) (i := 1) (l := []) (by kernel_rfl) (fun _ h => by cases h))
    (Eq.mp (hash_Table_Len_eq p1 h K) H)

/-! ### (*quintet/hash.Table[int]).Delete: function 19 -/
def hash_Table_Delete (p1 : Option Addr) (x2 : Int) (x3 : Int) (x4 : Int) (x5 : Int) (x6 : Int) (h : Hp) (K : Value → Hp → Prop) : Prop :=
  newC h (.cells #[(.int .u32 x2), (.int .u32 x3), (.int .u16 x4), (.int .u16 x5), (.int .u8 x6)] 26 (0, 0)) fun a8 h7 => 
  ∃ b9 : Bool, PV Tryd.prog (binOp .eql 49 (.pointer p1) (.pointer none)) (.bool b9) ∧
  br b9
  (K (.bool false) h7)
  (∃ x10 : Int, ∃ x11 : Int, ∃ x12 : Int, ∃ x13 : Int, ∃ x14 : Int, HV Tryd.prog (Instr.loadAt 26 (.pointer (some a8))) h7 (.agg #[(.int .u32 x10), (.int .u32 x11), (.int .u16 x12), (.int .u16 x13), (.int .u8 x14)]) ∧ 
  CallsH Tryd.prog 23 #[(.pointer p1), (.agg #[(.int .u32 x10), (.int .u32 x11), (.int .u16 x12), (.int .u16 x13), (.int .u8 x14)])] h7 fun r16 h15 =>
  ∃ x17 : Int, ∃ x18 : Int, ∃ x19 : Int, r16 = (.tuple #[(.int .i64 x17), (.int .i64 x18), (.int .i64 x19)]) ∧ 
  br (decide (x17 < 0))
  (K (.bool false) h15)
  (drf p1 fun a20 =>
  ∃ A21 : Option Addr, ∃ l21 : Nat, ∃ c21 : Nat, HV Tryd.prog (Instr.loadAt 61 (.pointer (some (a20.add 1)))) h15 (.slice A21 l21 c21) ∧ 
  ∃ a22 : Addr, PV Tryd.prog (Instr.indexAt 61 (.slice A21 l21 c21) (.int .i64 x17)) (.pointer (some a22)) ∧
  HU Tryd.prog (Instr.storeAt 65 (.pointer (some a22)) (.agg #[(.int .u8 2), (.int .u32 0), (.int .u32 0), (.int .u16 0), (.int .u16 0), (.int .u8 0), (.int .i64 0)])) h15 fun h23 => 
  drf p1 fun a24 =>
  ∃ x25 : Int, HV Tryd.prog (Instr.loadAt 3 (.pointer (some (a24.add 2)))) h23 (.int .i64 x25) ∧ 
  drf p1 fun a26 =>
  HU Tryd.prog (Instr.storeAt 3 (.pointer (some (a26.add 2))) (.int .i64 (IntKind.i64.wrap (x25 - 1)))) h23 fun h27 => 
  drf p1 fun a28 =>
  ∃ x29 : Int, HV Tryd.prog (Instr.loadAt 3 (.pointer (some (a28.add 3)))) h27 (.int .i64 x29) ∧ 
  drf p1 fun a30 =>
  HU Tryd.prog (Instr.storeAt 3 (.pointer (some (a30.add 3))) (.int .i64 (IntKind.i64.wrap (x29 + 1)))) h27 fun h31 => 
  CallsH Tryd.prog 24 #[(.pointer p1)] h31 fun r33 h32 =>
  r33 = (.tuple #[]) ∧ 
  K (.bool true) h32))
def hash_Table_Delete_lp (i : Nat) (Q : Qx) (tm : Tm) (h : Hp) : Prop := False
def hash_Table_Delete_cut (i : Nat) : Option (List Nat) := none
set_option maxRecDepth 100000 in
theorem hash_Table_Delete_eq (p1 : Option Addr) (x2 : Int) (x3 : Int) (x4 : Int) (x5 : Int) (x6 : Int) (h : Hp) (K : Value → Hp → Prop) : hash_Table_Delete p1 x2 x3 x4 x5 x6 h K =
    codeWp Tryd.prog 42 hash_Table_Delete_lp hash_Table_Delete_cut (bodyOf Tryd.f19) 1 (endQ Tryd.prog Tryd.f19.results.toList K) (argTm [(.pointer p1), (.agg #[(.int .u32 x2), (.int .u32 x3), (.int .u16 x4), (.int .u16 x5), (.int .u8 x6)])]) h := by kernel_rfl
set_option maxRecDepth 100000 in
theorem hash_Table_Delete_ok (p1 : Option Addr) (x2 : Int) (x3 : Int) (x4 : Int) (x5 : Int) (x6 : Int) {h : Hp} {K : Value → Hp → Prop} (H : hash_Table_Delete p1 x2 x3 x4 x5 x6 h K) : CallsH Tryd.prog 19 #[(.pointer p1), (.agg #[(.int .u32 x2), (.int .u32 x3), (.int .u16 x4), (.int .u16 x5), (.int .u8 x6)])] h K :=
  calls_of (args := [(.pointer p1), (.agg #[(.int .u32 x2), (.int .u32 x3), (.int .u16 x4), (.int .u16 x5), (.int .u8 x6)])]) (n := 42) (lp := hash_Table_Delete_lp) (cut := hash_Table_Delete_cut) Tryd.func19 (c := bodyOf Tryd.f19) (by kernel_rfl) (by kernel_rfl) (by kernel_rfl) (good_by (c := (bodyOf Tryd.f19)) (i := 1) (l := []) (by kernel_rfl) (fun _ h => by cases h))
    (Eq.mp (hash_Table_Delete_eq p1 x2 x3 x4 x5 x6 h K) H)

/-! ### (*quintet/hash.Table[string]).lay: function 22 -/
def hash_TableS_lay_l1 (p12 : Option Addr) (A13 : Option Addr) (l13 : Nat) (c13 : Nat) (x14 : Int) (K0 : Hp → Prop)  : Nat → Int → Hp → Prop
  | 0, _, _ => False
  | k + 1, x15, h =>
    br (decide (x15 < x14))
    (∃ a49 : Addr, PV Tryd.prog (Instr.indexAt 41 (.slice A13 l13 c13) (.int .i64 x15)) (.pointer (some a49)) ∧
    ∃ x50 : Int, ∃ x51 : Int, ∃ x52 : Int, ∃ x53 : Int, ∃ x54 : Int, ∃ x55 : Int, ∃ s56 : ByteArray, HV Tryd.prog (Instr.loadAt 48 (.pointer (some a49))) h (.agg #[(.int .u8 x50), (.int .u32 x51), (.int .u32 x52), (.int .u16 x53), (.int .u16 x54), (.int .u8 x55), (.string s56)]) ∧ 
    newC h (.cells #[(.int .u8 0), (.int .u32 0), (.int .u32 0), (.int .u16 0), (.int .u16 0), (.int .u8 0), (.string ⟨#[]⟩)] 48 (0, 0)) fun a58 h57 => 
    HU Tryd.prog (Instr.storeAt 48 (.pointer (some a58)) (.agg #[(.int .u8 x50), (.int .u32 x51), (.int .u32 x52), (.int .u16 x53), (.int .u16 x54), (.int .u8 x55), (.string s56)])) h57 fun h59 => 
    ∃ x60 : Int, HV Tryd.prog (Instr.loadAt 46 (.pointer (some a58))) h59 (.int .u8 x60) ∧ 
    br (x60 == 1)
    (∃ x61 : Int, ∃ x62 : Int, ∃ x63 : Int, ∃ x64 : Int, ∃ x65 : Int, HV Tryd.prog (Instr.loadAt 26 (.pointer (some (a58.add 1)))) h59 (.agg #[(.int .u32 x61), (.int .u32 x62), (.int .u16 x63), (.int .u16 x64), (.int .u8 x65)]) ∧ 
    CallsH Tryd.prog 12 #[(.pointer p12), (.agg #[(.int .u32 x61), (.int .u32 x62), (.int .u16 x63), (.int .u16 x64), (.int .u8 x65)])] h59 fun r67 h66 =>
    ∃ x68 : Int, ∃ x69 : Int, ∃ x70 : Int, r67 = (.tuple #[(.int .i64 x68), (.int .i64 x69), (.int .i64 x70)]) ∧ 
    drf p12 fun a71 =>
    ∃ A72 : Option Addr, ∃ l72 : Nat, ∃ c72 : Nat, HV Tryd.prog (Instr.loadAt 41 (.pointer (some (a71.add 1)))) h66 (.slice A72 l72 c72) ∧ 
    ∃ x73 : Int, ∃ x74 : Int, ∃ x75 : Int, ∃ x76 : Int, ∃ x77 : Int, ∃ x78 : Int, ∃ s79 : ByteArray, HV Tryd.prog (Instr.loadAt 48 (.pointer (some a58))) h66 (.agg #[(.int .u8 x73), (.int .u32 x74), (.int .u32 x75), (.int .u16 x76), (.int .u16 x77), (.int .u8 x78), (.string s79)]) ∧ 
    ∃ a80 : Addr, PV Tryd.prog (Instr.indexAt 41 (.slice A72 l72 c72) (.int .i64 x69)) (.pointer (some a80)) ∧
    HU Tryd.prog (Instr.storeAt 48 (.pointer (some a80)) (.agg #[(.int .u8 x73), (.int .u32 x74), (.int .u32 x75), (.int .u16 x76), (.int .u16 x77), (.int .u8 x78), (.string s79)])) h66 fun h81 => 
    hash_TableS_lay_l1 p12 A13 l13 c13 x14 K0 k (IntKind.i64.wrap (x15 + 1)) h81)
    (hash_TableS_lay_l1 p12 A13 l13 c13 x14 K0 k (IntKind.i64.wrap (x15 + 1)) h59))
    (K0 h)
def hash_TableS_lay_l1_L (Q : Qx) (k : Nat) (tm : Tm) (h : Hp) : Prop :=
  selP (tm 0) fun p12 =>
  selS (tm 22) fun A13 l13 c13 =>
  selI .i64 (tm 23) fun x14 =>
  selI .i64 (tm 24) fun x15 =>
  hash_TableS_lay_l1 p12 A13 l13 c13 x14 (fun  h => Q (.exit 0) (mkTm []) h) k x15 h
def hash_TableS_lay (p1 : Option Addr) (x2 : Int) (h : Hp) (K : Value → Hp → Prop) : Prop :=
  drf p1 fun a3 =>
  ∃ A4 : Option Addr, ∃ l4 : Nat, ∃ c4 : Nat, HV Tryd.prog (Instr.loadAt 41 (.pointer (some (a3.add 1)))) h (.slice A4 l4 c4) ∧ 
  HW Tryd.prog (Instr.makeSlice 41 (.int .i64 x2) (.int .i64 x2)) h fun r6 h5 =>
  ∃ A7 : Option Addr, ∃ l7 : Nat, ∃ c7 : Nat, r6 = (.slice A7 l7 c7) ∧ 
  drf p1 fun a8 =>
  HU Tryd.prog (Instr.storeAt 41 (.pointer (some (a8.add 1))) (.slice A7 l7 c7)) h5 fun h9 => 
  drf p1 fun a10 =>
  HU Tryd.prog (Instr.storeAt 3 (.pointer (some (a10.add 3))) (.int .i64 0)) h9 fun h11 => 
  ∃ k83, hash_TableS_lay_l1 p1 A4 l4 c4 (l4 : Int)
  (fun  (h82 : Hp) =>
  K (.tuple #[]) h82)
  k83 0 h11
def hash_TableS_lay_lp (i : Nat) (Q : Qx) (tm : Tm) (h : Hp) : Prop := match Nat.beq i 62 with
  | true => ∃ k, hash_TableS_lay_l1_L Q k tm h
  | false => False
def hash_TableS_lay_cut (i : Nat) : Option (List Nat) := none
set_option maxRecDepth 100000 in
theorem hash_TableS_lay_l1_step (Q : Qx) (k : Nat) (p12 : Option Addr) (A13 : Option Addr) (l13 : Nat) (c13 : Nat) (x14 : Int) (x15 : Int) (h : Hp) : hash_TableS_lay_l1_L Q (k + 1) (mkTm [(0, some (.pointer p12)), (22, some (.slice A13 l13 c13)), (23, some (.int .i64 x14)), (24, some (.int .i64 x15))]) h =
    codeWp Tryd.prog 47 hash_TableS_lay_lp hash_TableS_lay_cut (sub (bodyOf Tryd.f22) [true, true, true, true, false, false]) 124 (thenQ (fun tm h => hash_TableS_lay_l1_L Q k (mask [0, 22, 23, 24] tm) h) (maskQ (fun e => match e with | .exit 0 => [] | _ => []) Q)) (mkTm [(0, some (.pointer p12)), (22, some (.slice A13 l13 c13)), (23, some (.int .i64 x14)), (24, some (.int .i64 x15))]) h := by kernel_rfl
theorem hash_TableS_lay_l1_mask (Q : Qx) (k : Nat) (tm : Tm) (h : Hp) : hash_TableS_lay_l1_L Q k tm h ↔ hash_TableS_lay_l1_L Q k (mask [0, 22, 23, 24] tm) h := Iff.rfl
set_option maxRecDepth 100000 in
theorem hash_TableS_lay_l1_snd : SndAt Tryd.prog 47 none (sub (bodyOf Tryd.f22) [true, true, true, true, false]) (hash_TableS_lay_lp 62) := by
  refine loop_sound (lp := hash_TableS_lay_lp) (cut := hash_TableS_lay_cut) (i := 62) (c := (sub (bodyOf Tryd.f22) [true, true, true, true, false, false])) [0, 22, 23, 24] (fun e => match e with | .exit 0 => [] | _ => []) hash_TableS_lay_l1_L ?_ ?_ ?_
  · exact good_by (c := (sub (bodyOf Tryd.f22) [true, true, true, true, false, false])) (i := 124) (l := []) (by kernel_rfl) (fun _ h => by cases h)
  · intro Q tm h H
    obtain ⟨p12, e0, H⟩ := selP_ex H
    obtain ⟨A13, l13, c13, e22, H⟩ := selS_ex H
    obtain ⟨x14, e23, H⟩ := selI_ex H
    obtain ⟨x15, e24, H⟩ := selI_ex H
    exact H
  · intro Q k tm h H
    have H0 := H
    obtain ⟨p12, e0, H⟩ := selP_ex H
    obtain ⟨A13, l13, c13, e22, H⟩ := selS_ex H
    obtain ⟨x14, e23, H⟩ := selI_ex H
    obtain ⟨x15, e24, H⟩ := selI_ex H
    have e : mask [0, 22, 23, 24] tm = mkTm [(0, some (.pointer p12)), (22, some (.slice A13 l13 c13)), (23, some (.int .i64 x14)), (24, some (.int .i64 x15))] := by simp only [mask, List.map_cons, List.map_nil, e0, e22, e23, e24] <;> rfl
    rw [e]
    refine Eq.mp (hash_TableS_lay_l1_step Q k p12 A13 l13 c13 x14 x15 h) ?_
    rw [← e]
    exact (hash_TableS_lay_l1_mask Q (k + 1) tm h).mp H0
set_option maxRecDepth 100000 in
theorem hash_TableS_lay_eq (p1 : Option Addr) (x2 : Int) (h : Hp) (K : Value → Hp → Prop) : hash_TableS_lay p1 x2 h K =
    codeWp Tryd.prog 47 hash_TableS_lay_lp hash_TableS_lay_cut (bodyOf Tryd.f22) 1 (endQ Tryd.prog Tryd.f22.results.toList K) (argTm [(.pointer p1), (.int .i64 x2)]) h := by kernel_rfl
set_option maxRecDepth 100000 in
theorem hash_TableS_lay_ok (p1 : Option Addr) (x2 : Int) {h : Hp} {K : Value → Hp → Prop} (H : hash_TableS_lay p1 x2 h K) : CallsH Tryd.prog 22 #[(.pointer p1), (.int .i64 x2)] h K :=
  calls_of (args := [(.pointer p1), (.int .i64 x2)]) (n := 47) (lp := hash_TableS_lay_lp) (cut := hash_TableS_lay_cut) Tryd.func22 (c := bodyOf Tryd.f22) (by kernel_rfl) (by kernel_rfl) (by kernel_rfl) (good_by (c := (bodyOf Tryd.f22)) (i := 1) (l := [(62, (sub (bodyOf Tryd.f22) [true, true, true, true, false]))]) (by kernel_rfl) (List.forall_mem_cons.2 ⟨hash_TableS_lay_l1_snd, (fun _ h => by cases h)⟩))
    (Eq.mp (hash_TableS_lay_eq p1 x2 h K) H)

/-! ### (*quintet/hash.Table[int]).seek: function 23 -/
def hash_Table_seek_g1 (p20 : Option Addr) (a21 : Addr) (K0 : Int → Int → Int → Hp → Prop)  : Nat → Int → Int → Int → Hp → Prop
  | 0, _, _, _, _ => False
  | k + 1, x22, x23, x24, h =>
    drf p20 fun a61 =>
    ∃ A62 : Option Addr, ∃ l62 : Nat, ∃ c62 : Nat, HV Tryd.prog (Instr.loadAt 61 (.pointer (some (a61.add 1)))) h (.slice A62 l62 c62) ∧ 
    ∃ a63 : Addr, PV Tryd.prog (Instr.indexAt 61 (.slice A62 l62 c62) (.int .i64 x24)) (.pointer (some a63)) ∧
    ∃ x64 : Int, HV Tryd.prog (Instr.loadAt 46 (.pointer (some a63))) h (.int .u8 x64) ∧ 
    br (x64 == 1)
    (∃ x65 : Int, ∃ x66 : Int, ∃ x67 : Int, ∃ x68 : Int, ∃ x69 : Int, HV Tryd.prog (Instr.loadAt 26 (.pointer (some (a63.add 1)))) h (.agg #[(.int .u32 x65), (.int .u32 x66), (.int .u16 x67), (.int .u16 x68), (.int .u8 x69)]) ∧ 
    ∃ x70 : Int, ∃ x71 : Int, ∃ x72 : Int, ∃ x73 : Int, ∃ x74 : Int, HV Tryd.prog (Instr.loadAt 26 (.pointer (some a21))) h (.agg #[(.int .u32 x70), (.int .u32 x71), (.int .u16 x72), (.int .u16 x73), (.int .u8 x74)]) ∧ 
    ∃ b75 : Bool, PV Tryd.prog (binOp .eql 26 (.agg #[(.int .u32 x65), (.int .u32 x66), (.int .u16 x67), (.int .u16 x68), (.int .u8 x69)]) (.agg #[(.int .u32 x70), (.int .u32 x71), (.int .u16 x72), (.int .u16 x73), (.int .u8 x74)])) (.bool b75) ∧
    br b75
    (K0 x24 x22 (IntKind.i64.wrap (x23 + 1)) h)
    (∃ x76 : Int, HV Tryd.prog (Instr.loadAt 46 (.pointer (some a63))) h (.int .u8 x76) ∧ 
    br (x76 == 2)
    (br (decide (x22 < 0))
    (drf p20 fun a77 =>
    ∃ A78 : Option Addr, ∃ l78 : Nat, ∃ c78 : Nat, HV Tryd.prog (Instr.loadAt 61 (.pointer (some (a77.add 1)))) h (.slice A78 l78 c78) ∧ 
    br (decide ((IntKind.i64.wrap (x24 + 1)) < (l78 : Int)))
    (hash_Table_seek_g1 p20 a21 K0 k x24 (IntKind.i64.wrap (x23 + 1)) (IntKind.i64.wrap (x24 + 1)) h)
    (hash_Table_seek_g1 p20 a21 K0 k x24 (IntKind.i64.wrap (x23 + 1)) 0 h))
    (∃ x79 : Int, HV Tryd.prog (Instr.loadAt 46 (.pointer (some a63))) h (.int .u8 x79) ∧ 
    br (x79 == 0)
    (br (decide (x22 < 0))
    (K0 (-1) x24 (IntKind.i64.wrap (x23 + 1)) h)
    (K0 (-1) x22 (IntKind.i64.wrap (x23 + 1)) h))
    (drf p20 fun a80 =>
    ∃ A81 : Option Addr, ∃ l81 : Nat, ∃ c81 : Nat, HV Tryd.prog (Instr.loadAt 61 (.pointer (some (a80.add 1)))) h (.slice A81 l81 c81) ∧ 
    br (decide ((IntKind.i64.wrap (x24 + 1)) < (l81 : Int)))
    (hash_Table_seek_g1 p20 a21 K0 k x22 (IntKind.i64.wrap (x23 + 1)) (IntKind.i64.wrap (x24 + 1)) h)
    (hash_Table_seek_g1 p20 a21 K0 k x22 (IntKind.i64.wrap (x23 + 1)) 0 h))))
    (∃ x82 : Int, HV Tryd.prog (Instr.loadAt 46 (.pointer (some a63))) h (.int .u8 x82) ∧ 
    br (x82 == 0)
    (br (decide (x22 < 0))
    (K0 (-1) x24 (IntKind.i64.wrap (x23 + 1)) h)
    (K0 (-1) x22 (IntKind.i64.wrap (x23 + 1)) h))
    (drf p20 fun a83 =>
    ∃ A84 : Option Addr, ∃ l84 : Nat, ∃ c84 : Nat, HV Tryd.prog (Instr.loadAt 61 (.pointer (some (a83.add 1)))) h (.slice A84 l84 c84) ∧ 
    br (decide ((IntKind.i64.wrap (x24 + 1)) < (l84 : Int)))
    (hash_Table_seek_g1 p20 a21 K0 k x22 (IntKind.i64.wrap (x23 + 1)) (IntKind.i64.wrap (x24 + 1)) h)
    (hash_Table_seek_g1 p20 a21 K0 k x22 (IntKind.i64.wrap (x23 + 1)) 0 h)))))
    (∃ x85 : Int, HV Tryd.prog (Instr.loadAt 46 (.pointer (some a63))) h (.int .u8 x85) ∧ 
    br (x85 == 2)
    (br (decide (x22 < 0))
    (drf p20 fun a86 =>
    ∃ A87 : Option Addr, ∃ l87 : Nat, ∃ c87 : Nat, HV Tryd.prog (Instr.loadAt 61 (.pointer (some (a86.add 1)))) h (.slice A87 l87 c87) ∧ 
    br (decide ((IntKind.i64.wrap (x24 + 1)) < (l87 : Int)))
    (hash_Table_seek_g1 p20 a21 K0 k x24 (IntKind.i64.wrap (x23 + 1)) (IntKind.i64.wrap (x24 + 1)) h)
    (hash_Table_seek_g1 p20 a21 K0 k x24 (IntKind.i64.wrap (x23 + 1)) 0 h))
    (∃ x88 : Int, HV Tryd.prog (Instr.loadAt 46 (.pointer (some a63))) h (.int .u8 x88) ∧ 
    br (x88 == 0)
    (br (decide (x22 < 0))
    (K0 (-1) x24 (IntKind.i64.wrap (x23 + 1)) h)
    (K0 (-1) x22 (IntKind.i64.wrap (x23 + 1)) h))
    (drf p20 fun a89 =>
    ∃ A90 : Option Addr, ∃ l90 : Nat, ∃ c90 : Nat, HV Tryd.prog (Instr.loadAt 61 (.pointer (some (a89.add 1)))) h (.slice A90 l90 c90) ∧ 
    br (decide ((IntKind.i64.wrap (x24 + 1)) < (l90 : Int)))
    (hash_Table_seek_g1 p20 a21 K0 k x22 (IntKind.i64.wrap (x23 + 1)) (IntKind.i64.wrap (x24 + 1)) h)
    (hash_Table_seek_g1 p20 a21 K0 k x22 (IntKind.i64.wrap (x23 + 1)) 0 h))))
    (∃ x91 : Int, HV Tryd.prog (Instr.loadAt 46 (.pointer (some a63))) h (.int .u8 x91) ∧ 
    br (x91 == 0)
    (br (decide (x22 < 0))
    (K0 (-1) x24 (IntKind.i64.wrap (x23 + 1)) h)
    (K0 (-1) x22 (IntKind.i64.wrap (x23 + 1)) h))
    (drf p20 fun a92 =>
    ∃ A93 : Option Addr, ∃ l93 : Nat, ∃ c93 : Nat, HV Tryd.prog (Instr.loadAt 61 (.pointer (some (a92.add 1)))) h (.slice A93 l93 c93) ∧ 
    br (decide ((IntKind.i64.wrap (x24 + 1)) < (l93 : Int)))
    (hash_Table_seek_g1 p20 a21 K0 k x22 (IntKind.i64.wrap (x23 + 1)) (IntKind.i64.wrap (x24 + 1)) h)
    (hash_Table_seek_g1 p20 a21 K0 k x22 (IntKind.i64.wrap (x23 + 1)) 0 h))))
def hash_Table_seek_g1_L (Q : Qx) (k : Nat) (tm : Tm) (h : Hp) : Prop :=
  selP (tm 0) fun p20 =>
  selA (tm 3) fun a21 =>
  selI .i64 (tm 5) fun x22 =>
  selI .i64 (tm 6) fun x23 =>
  selI .i64 (tm 7) fun x24 =>
  hash_Table_seek_g1 p20 a21 (fun (x58 : Int) (x59 : Int) (x60 : Int) h => Q (.ret) (mkTm [(4, some (.int .i64 x58)), (5, some (.int .i64 x59)), (6, some (.int .i64 x60))]) h) k x22 x23 x24 h
def hash_Table_seek (p1 : Option Addr) (x2 : Int) (x3 : Int) (x4 : Int) (x5 : Int) (x6 : Int) (h : Hp) (K : Value → Hp → Prop) : Prop :=
  newC h (.cells #[(.int .u32 x2), (.int .u32 x3), (.int .u16 x4), (.int .u16 x5), (.int .u8 x6)] 26 (0, 0)) fun a8 h7 => 
  ∃ k94, ∃ x95 : Int, ∃ x96 : Int, ∃ x97 : Int, ∃ x98 : Int, ∃ x99 : Int, HV Tryd.prog (Instr.loadAt 26 (.pointer (some a8))) h7 (.agg #[(.int .u32 x95), (.int .u32 x96), (.int .u16 x97), (.int .u16 x98), (.int .u8 x99)]) ∧ 
  CallsH Tryd.prog 21 #[(.agg #[(.int .u32 x95), (.int .u32 x96), (.int .u16 x97), (.int .u16 x98), (.int .u8 x99)])] h7 fun r101 h100 =>
  ∃ x102 : Int, r101 = (.int .u64 x102) ∧ 
  drf p1 fun a103 =>
  ∃ A104 : Option Addr, ∃ l104 : Nat, ∃ c104 : Nat, HV Tryd.prog (Instr.loadAt 61 (.pointer (some (a103.add 1)))) h100 (.slice A104 l104 c104) ∧ HV Tryd.prog (Instr.loadAt 61 (.pointer (some (a103.add 1)))) h7 (.slice A104 l104 c104) ∧ 
  ∃ x105 : Int, PV Tryd.prog (binOp .rem 57 (.int .u64 x102) (.int .u64 (IntKind.u64.wrap ((l104 : Int))))) (.int .u64 x105) ∧
  hash_Table_seek_g1 p1 a8
  (fun (x106 : Int) (x107 : Int) (x108 : Int) (h109 : Hp) =>
  K (.tuple #[(.int .i64 x106), (.int .i64 x107), (.int .i64 x108)]) h109)
  (k94 + 1) (-1) 0 (IntKind.i64.wrap (x105)) h100
def hash_Table_seek_g1_S (Q : Qx) (tm : Tm) (h : Hp) : Prop := ∃ k, codeWp Tryd.prog 75 lp0 cut0 (sub (bodyOf Tryd.f23) [true, false]) 6 (gotoQ 0 (fun tm h => hash_Table_seek_g1_L Q k (mask [0, 3, 5, 6, 7] tm) h) Q) tm h
def hash_Table_seek_lp (i : Nat) (Q : Qx) (tm : Tm) (h : Hp) : Prop := match Nat.beq i 3 with
  | true => hash_Table_seek_g1_S Q tm h
  | false => False
def hash_Table_seek_cut (i : Nat) : Option (List Nat) := match Nat.beq i 3 with
  | true => some []
  | false => none
set_option maxRecDepth 100000 in
theorem hash_Table_seek_g1_step (Q : Qx) (k : Nat) (p20 : Option Addr) (a21 : Addr) (x22 : Int) (x23 : Int) (x24 : Int) (h : Hp) : hash_Table_seek_g1_L Q (k + 1) (mkTm [(0, some (.pointer p20)), (3, some (.pointer (some a21))), (5, some (.int .i64 x22)), (6, some (.int .i64 x23)), (7, some (.int .i64 x24))]) h =
    codeWp Tryd.prog 75 lp0 cut0 (Code.seq .skip (sub (bodyOf Tryd.f23) [true, false, true, true, true])) 1 (gotoQ 0 (fun tm h => hash_Table_seek_g1_L Q k (mask [0, 3, 5, 6, 7] tm) h) (maskQ (fun e => match e with | .ret => [4, 5, 6] | _ => []) Q)) (mkTm [(0, some (.pointer p20)), (3, some (.pointer (some a21))), (5, some (.int .i64 x22)), (6, some (.int .i64 x23)), (7, some (.int .i64 x24))]) h := by kernel_rfl
theorem hash_Table_seek_g1_mask (Q : Qx) (k : Nat) (tm : Tm) (h : Hp) : hash_Table_seek_g1_L Q k tm h ↔ hash_Table_seek_g1_L Q k (mask [0, 3, 5, 6, 7] tm) h := Iff.rfl
set_option maxRecDepth 100000 in
theorem hash_Table_seek_g1_snd : SndAt Tryd.prog 75 none (sub (bodyOf Tryd.f23) [true]) (hash_Table_seek_lp 3) := by
  refine scope_sound (lp := lp0) (cut := cut0) (c := (sub (bodyOf Tryd.f23) [true, false])) (rest := (Code.seq .skip (sub (bodyOf Tryd.f23) [true, false, true, true, true]))) (i := 6) (j := 1) (l := 0) [0, 3, 5, 6, 7] (fun e => match e with | .ret => [4, 5, 6] | _ => []) hash_Table_seek_g1_L (by kernel_rfl) ?_ ?_ ?_ ?_
  · exact good_by (c := (sub (bodyOf Tryd.f23) [true, false])) (i := 6) (l := []) (by kernel_rfl) (fun _ h => by cases h)
  · exact good_by (c := (Code.seq .skip (sub (bodyOf Tryd.f23) [true, false, true, true, true]))) (i := 1) (l := []) (by kernel_rfl) (fun _ h => by cases h)
  · intro Q tm h H
    obtain ⟨p20, e0, H⟩ := selP_ex H
    obtain ⟨a21, e3, H⟩ := selA_ex H
    obtain ⟨x22, e5, H⟩ := selI_ex H
    obtain ⟨x23, e6, H⟩ := selI_ex H
    obtain ⟨x24, e7, H⟩ := selI_ex H
    exact H
  · intro Q k tm h H
    have H0 := H
    obtain ⟨p20, e0, H⟩ := selP_ex H
    obtain ⟨a21, e3, H⟩ := selA_ex H
    obtain ⟨x22, e5, H⟩ := selI_ex H
    obtain ⟨x23, e6, H⟩ := selI_ex H
    obtain ⟨x24, e7, H⟩ := selI_ex H
    have e : mask [0, 3, 5, 6, 7] tm = mkTm [(0, some (.pointer p20)), (3, some (.pointer (some a21))), (5, some (.int .i64 x22)), (6, some (.int .i64 x23)), (7, some (.int .i64 x24))] := by simp only [mask, List.map_cons, List.map_nil, e0, e3, e5, e6, e7] <;> rfl
    rw [e]
    refine Eq.mp (hash_Table_seek_g1_step Q k p20 a21 x22 x23 x24 h) ?_
    rw [← e]
    exact (hash_Table_seek_g1_mask Q (k + 1) tm h).mp H0
set_option maxRecDepth 100000 in
theorem hash_Table_seek_eq (p1 : Option Addr) (x2 : Int) (x3 : Int) (x4 : Int) (x5 : Int) (x6 : Int) (h : Hp) (K : Value → Hp → Prop) : hash_Table_seek p1 x2 x3 x4 x5 x6 h K =
    codeWp Tryd.prog 75 hash_Table_seek_lp hash_Table_seek_cut (bodyOf Tryd.f23) 1 (endQ Tryd.prog Tryd.f23.results.toList K) (argTm [(.pointer p1), (.agg #[(.int .u32 x2), (.int .u32 x3), (.int .u16 x4), (.int .u16 x5), (.int .u8 x6)])]) h := by kernel_rfl
set_option maxRecDepth 100000 in
theorem hash_Table_seek_ok (p1 : Option Addr) (x2 : Int) (x3 : Int) (x4 : Int) (x5 : Int) (x6 : Int) {h : Hp} {K : Value → Hp → Prop} (H : hash_Table_seek p1 x2 x3 x4 x5 x6 h K) : CallsH Tryd.prog 23 #[(.pointer p1), (.agg #[(.int .u32 x2), (.int .u32 x3), (.int .u16 x4), (.int .u16 x5), (.int .u8 x6)])] h K :=
  calls_of (args := [(.pointer p1), (.agg #[(.int .u32 x2), (.int .u32 x3), (.int .u16 x4), (.int .u16 x5), (.int .u8 x6)])]) (n := 75) (lp := hash_Table_seek_lp) (cut := hash_Table_seek_cut) Tryd.func23 (c := bodyOf Tryd.f23) (by kernel_rfl) (by kernel_rfl) (by kernel_rfl) (good_by (c := (bodyOf Tryd.f23)) (i := 1) (l := [(3, (sub (bodyOf Tryd.f23) [true]))]) (by kernel_rfl) (List.forall_mem_cons.2 ⟨hash_Table_seek_g1_snd, (fun _ h => by cases h)⟩))
    (Eq.mp (hash_Table_seek_eq p1 x2 x3 x4 x5 x6 h K) H)

/-! ### (*quintet/hash.Table[int]).mend: function 24 -/
def hash_Table_mend (p1 : Option Addr) (h : Hp) (K : Value → Hp → Prop) : Prop :=
  drf p1 fun a2 =>
  ∃ A3 : Option Addr, ∃ l3 : Nat, ∃ c3 : Nat, HV Tryd.prog (Instr.loadAt 61 (.pointer (some (a2.add 1)))) h (.slice A3 l3 c3) ∧ 
  drf p1 fun a4 =>
  ∃ x5 : Int, HV Tryd.prog (Instr.loadAt 3 (.pointer (some (a4.add 2)))) h (.int .i64 x5) ∧ 
  br (decide ((IntKind.i64.wrap (2 * x5)) > (l3 : Int)))
  (CallsH Tryd.prog 29 #[(.pointer p1), (.int .i64 (IntKind.i64.wrap (2 * (l3 : Int))))] h fun r7 h6 =>
  r7 = (.tuple #[]) ∧ 
  K (.tuple #[]) h6)
  (drf p1 fun a8 =>
  ∃ x9 : Int, HV Tryd.prog (Instr.loadAt 3 (.pointer (some (a8.add 2)))) h (.int .i64 x9) ∧ 
  drf p1 fun a10 =>
  ∃ x11 : Int, HV Tryd.prog (Instr.loadAt 3 (.pointer (some (a10.add 3)))) h (.int .i64 x11) ∧ 
  br (decide ((IntKind.i64.wrap (2 * (IntKind.i64.wrap (x9 + x11)))) > (l3 : Int)))
  (CallsH Tryd.prog 29 #[(.pointer p1), (.int .i64 (l3 : Int))] h fun r13 h12 =>
  r13 = (.tuple #[]) ∧ 
  K (.tuple #[]) h12)
  (K (.tuple #[]) h))
def hash_Table_mend_lp (i : Nat) (Q : Qx) (tm : Tm) (h : Hp) : Prop := False
def hash_Table_mend_cut (i : Nat) : Option (List Nat) := none
set_option maxRecDepth 100000 in
theorem hash_Table_mend_eq (p1 : Option Addr) (h : Hp) (K : Value → Hp → Prop) : hash_Table_mend p1 h K =
    codeWp Tryd.prog 36 hash_Table_mend_lp hash_Table_mend_cut (bodyOf Tryd.f24) 1 (endQ Tryd.prog Tryd.f24.results.toList K) (argTm [(.pointer p1)]) h := by kernel_rfl
set_option maxRecDepth 100000 in
theorem hash_Table_mend_ok (p1 : Option Addr) {h : Hp} {K : Value → Hp → Prop} (H : hash_Table_mend p1 h K) : CallsH Tryd.prog 24 #[(.pointer p1)] h K :=
  calls_of (args := [(.pointer p1)]) (n := 36) (lp := hash_Table_mend_lp) (cut := hash_Table_mend_cut) Tryd.func24 (c := bodyOf Tryd.f24) (by kernel_rfl) (by kernel_rfl) (by kernel_rfl) (good_by (c := (bodyOf Tryd.f24)) (i := 1) (l := []) (by kernel_rfl) (fun _ h => by cases h))
    (Eq.mp (hash_Table_mend_eq p1 h K) H)

/-! ### (*quintet/hash.Table[int]).lay: function 29 -/
def hash_Table_lay_l1 (p12 : Option Addr) (A13 : Option Addr) (l13 : Nat) (c13 : Nat) (x14 : Int) (K0 : Hp → Prop)  : Nat → Int → Hp → Prop
  | 0, _, _ => False
  | k + 1, x15, h =>
    br (decide (x15 < x14))
    (∃ a49 : Addr, PV Tryd.prog (Instr.indexAt 61 (.slice A13 l13 c13) (.int .i64 x15)) (.pointer (some a49)) ∧
    ∃ x50 : Int, ∃ x51 : Int, ∃ x52 : Int, ∃ x53 : Int, ∃ x54 : Int, ∃ x55 : Int, ∃ x56 : Int, HV Tryd.prog (Instr.loadAt 65 (.pointer (some a49))) h (.agg #[(.int .u8 x50), (.int .u32 x51), (.int .u32 x52), (.int .u16 x53), (.int .u16 x54), (.int .u8 x55), (.int .i64 x56)]) ∧ 
    newC h (.cells #[(.int .u8 0), (.int .u32 0), (.int .u32 0), (.int .u16 0), (.int .u16 0), (.int .u8 0), (.int .i64 0)] 65 (0, 0)) fun a58 h57 => 
    HU Tryd.prog (Instr.storeAt 65 (.pointer (some a58)) (.agg #[(.int .u8 x50), (.int .u32 x51), (.int .u32 x52), (.int .u16 x53), (.int .u16 x54), (.int .u8 x55), (.int .i64 x56)])) h57 fun h59 => 
    ∃ x60 : Int, HV Tryd.prog (Instr.loadAt 46 (.pointer (some a58))) h59 (.int .u8 x60) ∧ 
    br (x60 == 1)
    (∃ x61 : Int, ∃ x62 : Int, ∃ x63 : Int, ∃ x64 : Int, ∃ x65 : Int, HV Tryd.prog (Instr.loadAt 26 (.pointer (some (a58.add 1)))) h59 (.agg #[(.int .u32 x61), (.int .u32 x62), (.int .u16 x63), (.int .u16 x64), (.int .u8 x65)]) ∧ 
    CallsH Tryd.prog 23 #[(.pointer p12), (.agg #[(.int .u32 x61), (.int .u32 x62), (.int .u16 x63), (.int .u16 x64), (.int .u8 x65)])] h59 fun r67 h66 =>
    ∃ x68 : Int, ∃ x69 : Int, ∃ x70 : Int, r67 = (.tuple #[(.int .i64 x68), (.int .i64 x69), (.int .i64 x70)]) ∧ 
    drf p12 fun a71 =>
    ∃ A72 : Option Addr, ∃ l72 : Nat, ∃ c72 : Nat, HV Tryd.prog (Instr.loadAt 61 (.pointer (some (a71.add 1)))) h66 (.slice A72 l72 c72) ∧ 
    ∃ x73 : Int, ∃ x74 : Int, ∃ x75 : Int, ∃ x76 : Int, ∃ x77 : Int, ∃ x78 : Int, ∃ x79 : Int, HV Tryd.prog (Instr.loadAt 65 (.pointer (some a58))) h66 (.agg #[(.int .u8 x73), (.int .u32 x74), (.int .u32 x75), (.int .u16 x76), (.int .u16 x77), (.int .u8 x78), (.int .i64 x79)]) ∧ 
    ∃ a80 : Addr, PV Tryd.prog (Instr.indexAt 61 (.slice A72 l72 c72) (.int .i64 x69)) (.pointer (some a80)) ∧
    HU Tryd.prog (Instr.storeAt 65 (.pointer (some a80)) (.agg #[(.int .u8 x73), (.int .u32 x74), (.int .u32 x75), (.int .u16 x76), (.int .u16 x77), (.int .u8 x78), (.int .i64 x79)])) h66 fun h81 => 
    hash_Table_lay_l1 p12 A13 l13 c13 x14 K0 k (IntKind.i64.wrap (x15 + 1)) h81)
    (hash_Table_lay_l1 p12 A13 l13 c13 x14 K0 k (IntKind.i64.wrap (x15 + 1)) h59))
    (K0 h)
def hash_Table_lay_l1_L (Q : Qx) (k : Nat) (tm : Tm) (h : Hp) : Prop :=
  selP (tm 0) fun p12 =>
  selS (tm 22) fun A13 l13 c13 =>
  selI .i64 (tm 23) fun x14 =>
  selI .i64 (tm 24) fun x15 =>
  hash_Table_lay_l1 p12 A13 l13 c13 x14 (fun  h => Q (.exit 0) (mkTm []) h) k x15 h
def hash_Table_lay (p1 : Option Addr) (x2 : Int) (h : Hp) (K : Value → Hp → Prop) : Prop :=
  drf p1 fun a3 =>
  ∃ A4 : Option Addr, ∃ l4 : Nat, ∃ c4 : Nat, HV Tryd.prog (Instr.loadAt 61 (.pointer (some (a3.add 1)))) h (.slice A4 l4 c4) ∧ 
  HW Tryd.prog (Instr.makeSlice 61 (.int .i64 x2) (.int .i64 x2)) h fun r6 h5 =>
  ∃ A7 : Option Addr, ∃ l7 : Nat, ∃ c7 : Nat, r6 = (.slice A7 l7 c7) ∧ 
  drf p1 fun a8 =>
  HU Tryd.prog (Instr.storeAt 61 (.pointer (some (a8.add 1))) (.slice A7 l7 c7)) h5 fun h9 => 
  drf p1 fun a10 =>
  HU Tryd.prog (Instr.storeAt 3 (.pointer (some (a10.add 3))) (.int .i64 0)) h9 fun h11 => 
  ∃ k83, hash_Table_lay_l1 p1 A4 l4 c4 (l4 : Int)
  (fun  (h82 : Hp) =>
  K (.tuple #[]) h82)
  k83 0 h11
def hash_Table_lay_lp (i : Nat) (Q : Qx) (tm : Tm) (h : Hp) : Prop := match Nat.beq i 62 with
  | true => ∃ k, hash_Table_lay_l1_L Q k tm h
  | false => False
def hash_Table_lay_cut (i : Nat) : Option (List Nat) := none
set_option maxRecDepth 100000 in
theorem hash_Table_lay_l1_step (Q : Qx) (k : Nat) (p12 : Option Addr) (A13 : Option Addr) (l13 : Nat) (c13 : Nat) (x14 : Int) (x15 : Int) (h : Hp) : hash_Table_lay_l1_L Q (k + 1) (mkTm [(0, some (.pointer p12)), (22, some (.slice A13 l13 c13)), (23, some (.int .i64 x14)), (24, some (.int .i64 x15))]) h =
    codeWp Tryd.prog 47 hash_Table_lay_lp hash_Table_lay_cut (sub (bodyOf Tryd.f29) [true, true, true, true, false, false]) 124 (thenQ (fun tm h => hash_Table_lay_l1_L Q k (mask [0, 22, 23, 24] tm) h) (maskQ (fun e => match e with | .exit 0 => [] | _ => []) Q)) (mkTm [(0, some (.pointer p12)), (22, some (.slice A13 l13 c13)), (23, some (.int .i64 x14)), (24, some (.int .i64 x15))]) h := by kernel_rfl
theorem hash_Table_lay_l1_mask (Q : Qx) (k : Nat) (tm : Tm) (h : Hp) : hash_Table_lay_l1_L Q k tm h ↔ hash_Table_lay_l1_L Q k (mask [0, 22, 23, 24] tm) h := Iff.rfl
set_option maxRecDepth 100000 in
theorem hash_Table_lay_l1_snd : SndAt Tryd.prog 47 none (sub (bodyOf Tryd.f29) [true, true, true, true, false]) (hash_Table_lay_lp 62) := by
  refine loop_sound (lp := hash_Table_lay_lp) (cut := hash_Table_lay_cut) (i := 62) (c := (sub (bodyOf Tryd.f29) [true, true, true, true, false, false])) [0, 22, 23, 24] (fun e => match e with | .exit 0 => [] | _ => []) hash_Table_lay_l1_L ?_ ?_ ?_
  · exact good_by (c := (sub (bodyOf Tryd.f29) [true, true, true, true, false, false])) (i := 124) (l := []) (by kernel_rfl) (fun _ h => by cases h)
  · intro Q tm h H
    obtain ⟨p12, e0, H⟩ := selP_ex H
    obtain ⟨A13, l13, c13, e22, H⟩ := selS_ex H
    obtain ⟨x14, e23, H⟩ := selI_ex H
    obtain ⟨x15, e24, H⟩ := selI_ex H
    exact H
  · intro Q k tm h H
    have H0 := H
    obtain ⟨p12, e0, H⟩ := selP_ex H
    obtain ⟨A13, l13, c13, e22, H⟩ := selS_ex H
    obtain ⟨x14, e23, H⟩ := selI_ex H
    obtain ⟨x15, e24, H⟩ := selI_ex H
    have e : mask [0, 22, 23, 24] tm = mkTm [(0, some (.pointer p12)), (22, some (.slice A13 l13 c13)), (23, some (.int .i64 x14)), (24, some (.int .i64 x15))] := by simp only [mask, List.map_cons, List.map_nil, e0, e22, e23, e24] <;> rfl
    rw [e]
    refine Eq.mp (hash_Table_lay_l1_step Q k p12 A13 l13 c13 x14 x15 h) ?_
    rw [← e]
    exact (hash_Table_lay_l1_mask Q (k + 1) tm h).mp H0
set_option maxRecDepth 100000 in
theorem hash_Table_lay_eq (p1 : Option Addr) (x2 : Int) (h : Hp) (K : Value → Hp → Prop) : hash_Table_lay p1 x2 h K =
    codeWp Tryd.prog 47 hash_Table_lay_lp hash_Table_lay_cut (bodyOf Tryd.f29) 1 (endQ Tryd.prog Tryd.f29.results.toList K) (argTm [(.pointer p1), (.int .i64 x2)]) h := by kernel_rfl
set_option maxRecDepth 100000 in
theorem hash_Table_lay_ok (p1 : Option Addr) (x2 : Int) {h : Hp} {K : Value → Hp → Prop} (H : hash_Table_lay p1 x2 h K) : CallsH Tryd.prog 29 #[(.pointer p1), (.int .i64 x2)] h K :=
  calls_of (args := [(.pointer p1), (.int .i64 x2)]) (n := 47) (lp := hash_Table_lay_lp) (cut := hash_Table_lay_cut) Tryd.func29 (c := bodyOf Tryd.f29) (by kernel_rfl) (by kernel_rfl) (by kernel_rfl) (good_by (c := (bodyOf Tryd.f29)) (i := 1) (l := [(62, (sub (bodyOf Tryd.f29) [true, true, true, true, false]))]) (by kernel_rfl) (List.forall_mem_cons.2 ⟨hash_Table_lay_l1_snd, (fun _ h => by cases h)⟩))
    (Eq.mp (hash_Table_lay_eq p1 x2 h K) H)

/-! ### quintet/quintetlaw15.HashTexts: function 3 -/
def quintetlaw15_HashTexts_l3 (A243 : Option Addr) (l243 : Nat) (c243 : Nat) (a244 : Addr) (p245 : Option Addr) (p246 : Option Addr) (K0 : Bool → Hp → Prop) (K1 : Addr → (Option Addr) → (Option Addr) → ByteArray → Bool → Hp → Prop)  : Nat → ByteArray → Bool → Int → Hp → Prop
  | 0, _, _, _, _ => False
  | k + 1, s247, b248, x249, h =>
    br (decide (x249 < (l243 : Int)))
    (∃ a336 : Addr, PV Tryd.prog (Instr.indexAt 22 (.slice A243 l243 c243) (.int .i64 x249)) (.pointer (some a336)) ∧
    ∃ x337 : Int, ∃ x338 : Int, ∃ x339 : Int, ∃ x340 : Int, ∃ x341 : Int, ∃ x342 : Int, ∃ x343 : Int, HV Tryd.prog (Instr.loadAt 32 (.pointer (some a336))) h (.agg #[(.int .i64 x337), (.int .u32 x338), (.int .u32 x339), (.int .u16 x340), (.int .u16 x341), (.int .u8 x342), (.int .i64 x343)]) ∧ 
    newC h (.cells #[(.int .i64 0), (.int .u32 0), (.int .u32 0), (.int .u16 0), (.int .u16 0), (.int .u8 0), (.int .i64 0)] 32 (0, 0)) fun a345 h344 => 
    HU Tryd.prog (Instr.storeAt 32 (.pointer (some a345)) (.agg #[(.int .i64 x337), (.int .u32 x338), (.int .u32 x339), (.int .u16 x340), (.int .u16 x341), (.int .u8 x342), (.int .i64 x343)])) h344 fun h346 => 
    ∃ x347 : Int, HV Tryd.prog (Instr.loadAt 3 (.pointer (some (a345.add 6)))) h346 (.int .i64 x347) ∧ 
    CallsH Tryd.prog 5 #[(.int .i64 x347)] h346 fun r349 h348 =>
    ∃ s350 : ByteArray, r349 = (.string s350) ∧ 
    ∃ x351 : Int, ∃ x352 : Int, ∃ x353 : Int, ∃ x354 : Int, ∃ x355 : Int, HV Tryd.prog (Instr.loadAt 26 (.pointer (some (a345.add 1)))) h348 (.agg #[(.int .u32 x351), (.int .u32 x352), (.int .u16 x353), (.int .u16 x354), (.int .u8 x355)]) ∧ 
    newC h348 (.cells #[(.int .u32 0), (.int .u32 0), (.int .u16 0), (.int .u16 0), (.int .u8 0)] 26 (0, 0)) fun a357 h356 => 
    HU Tryd.prog (Instr.storeAt 26 (.pointer (some a357)) (.agg #[(.int .u32 x351), (.int .u32 x352), (.int .u16 x353), (.int .u16 x354), (.int .u8 x355)])) h356 fun h358 => 
    ∃ x359 : Int, HV Tryd.prog (Instr.loadAt 23 (.pointer (some a357))) h358 (.int .u32 x359) ∧ 
    HU Tryd.prog (Instr.storeAt 23 (.pointer (some a357)) (.int .u32 (bXor .u32 4294967295 x359))) h358 fun h360 => 
    ∃ x361 : Int, HV Tryd.prog (Instr.loadAt 3 (.pointer (some a345))) h360 (.int .i64 x361) ∧ 
    br (x361 == 3)
    (∃ x362 : Int, ∃ x363 : Int, ∃ x364 : Int, ∃ x365 : Int, ∃ x366 : Int, HV Tryd.prog (Instr.loadAt 26 (.pointer (some (a345.add 1)))) h360 (.agg #[(.int .u32 x362), (.int .u32 x363), (.int .u16 x364), (.int .u16 x365), (.int .u8 x366)]) ∧ 
    CallsH Tryd.prog 6 #[(.pointer p245), (.agg #[(.int .u32 x362), (.int .u32 x363), (.int .u16 x364), (.int .u16 x365), (.int .u8 x366)])] h360 fun r368 h367 =>
    ∃ b369 : Bool, r368 = (.bool b369) ∧ 
    ∃ x370 : Int, ∃ x371 : Int, ∃ x372 : Int, ∃ x373 : Int, ∃ x374 : Int, HV Tryd.prog (Instr.loadAt 26 (.pointer (some a357))) h367 (.agg #[(.int .u32 x370), (.int .u32 x371), (.int .u16 x372), (.int .u16 x373), (.int .u8 x374)]) ∧ 
    CallsH Tryd.prog 6 #[(.pointer p246), (.agg #[(.int .u32 x370), (.int .u32 x371), (.int .u16 x372), (.int .u16 x373), (.int .u8 x374)])] h367 fun r376 h375 =>
    ∃ b377 : Bool, r376 = (.bool b377) ∧ 
    br (!(b369 == b377))
    (K0 false h375)
    (∃ x378 : Int, ∃ x379 : Int, ∃ x380 : Int, ∃ x381 : Int, ∃ x382 : Int, HV Tryd.prog (Instr.loadAt 26 (.pointer (some (a345.add 1)))) h375 (.agg #[(.int .u32 x378), (.int .u32 x379), (.int .u16 x380), (.int .u16 x381), (.int .u8 x382)]) ∧ 
    ∃ x383 : Int, ∃ x384 : Int, ∃ x385 : Int, ∃ x386 : Int, ∃ x387 : Int, HV Tryd.prog (Instr.loadAt 26 (.pointer (some a244))) h375 (.agg #[(.int .u32 x383), (.int .u32 x384), (.int .u16 x385), (.int .u16 x386), (.int .u8 x387)]) ∧ 
    ∃ b388 : Bool, PV Tryd.prog (binOp .eql 26 (.agg #[(.int .u32 x378), (.int .u32 x379), (.int .u16 x380), (.int .u16 x381), (.int .u8 x382)]) (.agg #[(.int .u32 x383), (.int .u32 x384), (.int .u16 x385), (.int .u16 x386), (.int .u8 x387)])) (.bool b388) ∧
    br b388
    (quintetlaw15_HashTexts_l3 A243 l243 c243 a244 p245 p246 K0 K1 k ({ data := #[] }) false (IntKind.i64.wrap (x249 + 1)) h375)
    (quintetlaw15_HashTexts_l3 A243 l243 c243 a244 p245 p246 K0 K1 k s247 b248 (IntKind.i64.wrap (x249 + 1)) h375)))
    (∃ x389 : Int, ∃ x390 : Int, ∃ x391 : Int, ∃ x392 : Int, ∃ x393 : Int, HV Tryd.prog (Instr.loadAt 26 (.pointer (some (a345.add 1)))) h360 (.agg #[(.int .u32 x389), (.int .u32 x390), (.int .u16 x391), (.int .u16 x392), (.int .u8 x393)]) ∧ 
    CallsH Tryd.prog 7 #[(.pointer p245), (.agg #[(.int .u32 x389), (.int .u32 x390), (.int .u16 x391), (.int .u16 x392), (.int .u8 x393)]), (.string s350)] h360 fun r395 h394 =>
    ∃ x396 : Int, r395 = (.int .i64 x396) ∧ 
    ∃ x397 : Int, ∃ x398 : Int, ∃ x399 : Int, ∃ x400 : Int, ∃ x401 : Int, HV Tryd.prog (Instr.loadAt 26 (.pointer (some a357))) h394 (.agg #[(.int .u32 x397), (.int .u32 x398), (.int .u16 x399), (.int .u16 x400), (.int .u8 x401)]) ∧ 
    CallsH Tryd.prog 7 #[(.pointer p246), (.agg #[(.int .u32 x397), (.int .u32 x398), (.int .u16 x399), (.int .u16 x400), (.int .u8 x401)]), (.string s350)] h394 fun r403 h402 =>
    ∃ x404 : Int, r403 = (.int .i64 x404) ∧ 
    br (x396 != 0)
    (K0 false h402)
    (br (x404 != 0)
    (K0 false h402)
    (∃ x405 : Int, ∃ x406 : Int, ∃ x407 : Int, ∃ x408 : Int, ∃ x409 : Int, HV Tryd.prog (Instr.loadAt 26 (.pointer (some (a345.add 1)))) h402 (.agg #[(.int .u32 x405), (.int .u32 x406), (.int .u16 x407), (.int .u16 x408), (.int .u8 x409)]) ∧ 
    ∃ x410 : Int, ∃ x411 : Int, ∃ x412 : Int, ∃ x413 : Int, ∃ x414 : Int, HV Tryd.prog (Instr.loadAt 26 (.pointer (some a244))) h402 (.agg #[(.int .u32 x410), (.int .u32 x411), (.int .u16 x412), (.int .u16 x413), (.int .u8 x414)]) ∧ 
    ∃ b415 : Bool, PV Tryd.prog (binOp .eql 26 (.agg #[(.int .u32 x405), (.int .u32 x406), (.int .u16 x407), (.int .u16 x408), (.int .u8 x409)]) (.agg #[(.int .u32 x410), (.int .u32 x411), (.int .u16 x412), (.int .u16 x413), (.int .u8 x414)])) (.bool b415) ∧
    br b415
    (quintetlaw15_HashTexts_l3 A243 l243 c243 a244 p245 p246 K0 K1 k s350 true (IntKind.i64.wrap (x249 + 1)) h402)
    (quintetlaw15_HashTexts_l3 A243 l243 c243 a244 p245 p246 K0 K1 k s247 b248 (IntKind.i64.wrap (x249 + 1)) h402)))))
    (K1 a244 p245 p246 s247 b248 h)
def quintetlaw15_HashTexts_l3_L (Q : Qx) (k : Nat) (tm : Tm) (h : Hp) : Prop :=
  selS (tm 0) fun A243 l243 c243 =>
  selA (tm 3) fun a244 =>
  selP (tm 5) fun p245 =>
  selP (tm 7) fun p246 =>
  selT (tm 9) fun s247 =>
  selB (tm 10) fun b248 =>
  selI .i64 (tm 11) fun x249 =>
  quintetlaw15_HashTexts_l3 A243 l243 c243 a244 p245 p246 (fun (b330 : Bool) h => Q (.ret) (mkTm [(4, some (.bool b330))]) h) (fun (a331 : Addr) (p332 : Option Addr) (p333 : Option Addr) (s334 : ByteArray) (b335 : Bool) h => Q (.exit 0) (mkTm [(3, some (.pointer (some a331))), (5, some (.pointer p332)), (7, some (.pointer p333)), (9, some (.string s334)), (10, some (.bool b335))]) h) k s247 b248 x249 h
def quintetlaw15_HashTexts_j2 (K0 : Bool → Hp → Prop) (A19 : Option Addr) (l19 : Nat) (c19 : Nat) (a20 : Addr) (p21 : Option Addr) (p22 : Option Addr) (h : Hp) : Prop :=
  ∃ k461, quintetlaw15_HashTexts_l3 A19 l19 c19 a20 p21 p22
  (fun (b416 : Bool) (h417 : Hp) =>
  K0 b416 h417)
  (fun (a418 : Addr) (p419 : Option Addr) (p420 : Option Addr) (s421 : ByteArray) (b422 : Bool) (h423 : Hp) =>
  ∃ x424 : Int, ∃ x425 : Int, ∃ x426 : Int, ∃ x427 : Int, ∃ x428 : Int, HV Tryd.prog (Instr.loadAt 26 (.pointer (some a418))) h423 (.agg #[(.int .u32 x424), (.int .u32 x425), (.int .u16 x426), (.int .u16 x427), (.int .u8 x428)]) ∧ 
  newC h423 (.cells #[(.int .u32 0), (.int .u32 0), (.int .u16 0), (.int .u16 0), (.int .u8 0)] 26 (0, 0)) fun a430 h429 => 
  HU Tryd.prog (Instr.storeAt 26 (.pointer (some a430)) (.agg #[(.int .u32 x424), (.int .u32 x425), (.int .u16 x426), (.int .u16 x427), (.int .u8 x428)])) h429 fun h431 => 
  ∃ x432 : Int, HV Tryd.prog (Instr.loadAt 23 (.pointer (some a430))) h431 (.int .u32 x432) ∧ 
  HU Tryd.prog (Instr.storeAt 23 (.pointer (some a430)) (.int .u32 (bXor .u32 4294967295 x432))) h431 fun h433 => 
  ∃ x434 : Int, ∃ x435 : Int, ∃ x436 : Int, ∃ x437 : Int, ∃ x438 : Int, HV Tryd.prog (Instr.loadAt 26 (.pointer (some a418))) h433 (.agg #[(.int .u32 x434), (.int .u32 x435), (.int .u16 x436), (.int .u16 x437), (.int .u8 x438)]) ∧ 
  CallsH Tryd.prog 8 #[(.pointer p419), (.agg #[(.int .u32 x434), (.int .u32 x435), (.int .u16 x436), (.int .u16 x437), (.int .u8 x438)])] h433 fun r440 h439 =>
  ∃ s441 : ByteArray, ∃ b442 : Bool, r440 = (.tuple #[(.string s441), (.bool b442)]) ∧ 
  ∃ x443 : Int, ∃ x444 : Int, ∃ x445 : Int, ∃ x446 : Int, ∃ x447 : Int, HV Tryd.prog (Instr.loadAt 26 (.pointer (some a430))) h439 (.agg #[(.int .u32 x443), (.int .u32 x444), (.int .u16 x445), (.int .u16 x446), (.int .u8 x447)]) ∧ 
  CallsH Tryd.prog 8 #[(.pointer p420), (.agg #[(.int .u32 x443), (.int .u32 x444), (.int .u16 x445), (.int .u16 x446), (.int .u8 x447)])] h439 fun r449 h448 =>
  ∃ s450 : ByteArray, ∃ b451 : Bool, r449 = (.tuple #[(.string s450), (.bool b451)]) ∧ 
  CallsH Tryd.prog 9 #[] h448 fun r453 h452 =>
  ∃ b454 : Bool, r453 = (.bool b454) ∧ 
  br b454
  (br ((s441 : ByteArray).toList == (s421 : ByteArray).toList)
  (br ((s450 : ByteArray).toList == (s421 : ByteArray).toList)
  (br (b442 == b422)
  (br (b451 == b422)
  (CallsH Tryd.prog 10 #[(.pointer p419)] h452 fun r456 h455 =>
  ∃ x457 : Int, r456 = (.int .i64 x457) ∧ 
  CallsH Tryd.prog 10 #[(.pointer p420)] h455 fun r459 h458 =>
  ∃ x460 : Int, r459 = (.int .i64 x460) ∧ 
  K0 (x457 == x460) h458)
  (K0 false h452))
  (K0 false h452))
  (K0 false h452))
  (K0 false h452))
  (K0 false h452))
  k461 ({ data := #[] }) false 0 h
def quintetlaw15_HashTexts_j2_L (Q : Qx) (tm : Tm) (h : Hp) : Prop :=
  selS (tm 0) fun A19 l19 c19 =>
  selA (tm 3) fun a20 =>
  selP (tm 5) fun p21 =>
  selP (tm 7) fun p22 =>
  quintetlaw15_HashTexts_j2 (fun (b242 : Bool) h => Q (.ret) (mkTm [(4, some (.bool b242))]) h) A19 l19 c19 a20 p21 p22 h
def quintetlaw15_HashTexts (A1 : Option Addr) (l1 : Nat) (c1 : Nat) (x2 : Int) (x3 : Int) (x4 : Int) (x5 : Int) (x6 : Int) (h : Hp) (K : Value → Hp → Prop) : Prop :=
  newC h (.cells #[(.int .u32 x2), (.int .u32 x3), (.int .u16 x4), (.int .u16 x5), (.int .u8 x6)] 26 (0, 0)) fun a8 h7 => 
  br (decide ((l1 : Int) > 3000))
  (K (.bool true) h7)
  (CallsH Tryd.prog 4 #[(.int .i64 65536)] h7 fun r10 h9 =>
  ∃ p11 : Option Addr, ∃ x12 : Int, r10 = (.tuple #[(.pointer p11), (.int .i64 x12)]) ∧ 
  CallsH Tryd.prog 4 #[(.int .i64 65536)] h9 fun r14 h13 =>
  ∃ p15 : Option Addr, ∃ x16 : Int, r14 = (.tuple #[(.pointer p15), (.int .i64 x16)]) ∧ 
  ∃ b462 : Bool, PV Tryd.prog (binOp .eql 27 (.pointer p11) (.pointer none)) (.bool b462) ∧
  br b462
  (K (.bool false) h13)
  (∃ b463 : Bool, PV Tryd.prog (binOp .eql 27 (.pointer p15) (.pointer none)) (.bool b463) ∧
  br b463
  (K (.bool false) h13)
  (br (x12 != 0)
  (K (.bool false) h13)
  (br (x16 != 0)
  (K (.bool false) h13)
  (quintetlaw15_HashTexts_j2
  (fun (b464 : Bool) (h465 : Hp) =>
  K (.bool b464) h465)
  A1 l1 c1 a8 p11 p15 h13)))))
def quintetlaw15_HashTexts_lp (i : Nat) (Q : Qx) (tm : Tm) (h : Hp) : Prop := match Nat.beq i 2042 with
  | true => ∃ k, quintetlaw15_HashTexts_l3_L Q k tm h
  | false => match Nat.beq i 31 with
  | true => quintetlaw15_HashTexts_j2_L Q tm h
  | false => False
def quintetlaw15_HashTexts_cut (i : Nat) : Option (List Nat) := match Nat.beq i 31 with
  | true => some [0, 3, 5, 7]
  | false => none
set_option maxRecDepth 100000 in
theorem quintetlaw15_HashTexts_l3_step (Q : Qx) (k : Nat) (A243 : Option Addr) (l243 : Nat) (c243 : Nat) (a244 : Addr) (p245 : Option Addr) (p246 : Option Addr) (s247 : ByteArray) (b248 : Bool) (x249 : Int) (h : Hp) : quintetlaw15_HashTexts_l3_L Q (k + 1) (mkTm [(0, some (.slice A243 l243 c243)), (3, some (.pointer (some a244))), (5, some (.pointer p245)), (7, some (.pointer p246)), (9, some (.string s247)), (10, some (.bool b248)), (11, some (.int .i64 x249))]) h =
    codeWp Tryd.prog 150 quintetlaw15_HashTexts_lp quintetlaw15_HashTexts_cut (sub (bodyOf Tryd.f3) [true, true, true, true, true, true, true, false, true, false, false]) 4084 (thenQ (fun tm h => quintetlaw15_HashTexts_l3_L Q k (mask [0, 3, 5, 7, 9, 10, 11] tm) h) (maskQ (fun e => match e with | .ret => [4] | .exit 0 => [3, 5, 7, 9, 10] | _ => []) Q)) (mkTm [(0, some (.slice A243 l243 c243)), (3, some (.pointer (some a244))), (5, some (.pointer p245)), (7, some (.pointer p246)), (9, some (.string s247)), (10, some (.bool b248)), (11, some (.int .i64 x249))]) h := by kernel_rfl
theorem quintetlaw15_HashTexts_l3_mask (Q : Qx) (k : Nat) (tm : Tm) (h : Hp) : quintetlaw15_HashTexts_l3_L Q k tm h ↔ quintetlaw15_HashTexts_l3_L Q k (mask [0, 3, 5, 7, 9, 10, 11] tm) h := Iff.rfl
set_option maxRecDepth 100000 in
theorem quintetlaw15_HashTexts_l3_snd : SndAt Tryd.prog 150 none (sub (bodyOf Tryd.f3) [true, true, true, true, true, true, true, false, true, false]) (quintetlaw15_HashTexts_lp 2042) := by
  refine loop_sound (lp := quintetlaw15_HashTexts_lp) (cut := quintetlaw15_HashTexts_cut) (i := 2042) (c := (sub (bodyOf Tryd.f3) [true, true, true, true, true, true, true, false, true, false, false])) [0, 3, 5, 7, 9, 10, 11] (fun e => match e with | .ret => [4] | .exit 0 => [3, 5, 7, 9, 10] | _ => []) quintetlaw15_HashTexts_l3_L ?_ ?_ ?_
  · exact good_by (c := (sub (bodyOf Tryd.f3) [true, true, true, true, true, true, true, false, true, false, false])) (i := 4084) (l := []) (by kernel_rfl) (fun _ h => by cases h)
  · intro Q tm h H
    obtain ⟨A243, l243, c243, e0, H⟩ := selS_ex H
    obtain ⟨a244, e3, H⟩ := selA_ex H
    obtain ⟨p245, e5, H⟩ := selP_ex H
    obtain ⟨p246, e7, H⟩ := selP_ex H
    obtain ⟨s247, e9, H⟩ := selT_ex H
    obtain ⟨b248, e10, H⟩ := selB_ex H
    obtain ⟨x249, e11, H⟩ := selI_ex H
    exact H
  · intro Q k tm h H
    have H0 := H
    obtain ⟨A243, l243, c243, e0, H⟩ := selS_ex H
    obtain ⟨a244, e3, H⟩ := selA_ex H
    obtain ⟨p245, e5, H⟩ := selP_ex H
    obtain ⟨p246, e7, H⟩ := selP_ex H
    obtain ⟨s247, e9, H⟩ := selT_ex H
    obtain ⟨b248, e10, H⟩ := selB_ex H
    obtain ⟨x249, e11, H⟩ := selI_ex H
    have e : mask [0, 3, 5, 7, 9, 10, 11] tm = mkTm [(0, some (.slice A243 l243 c243)), (3, some (.pointer (some a244))), (5, some (.pointer p245)), (7, some (.pointer p246)), (9, some (.string s247)), (10, some (.bool b248)), (11, some (.int .i64 x249))] := by simp only [mask, List.map_cons, List.map_nil, e0, e3, e5, e7, e9, e10, e11] <;> rfl
    rw [e]
    refine Eq.mp (quintetlaw15_HashTexts_l3_step Q k A243 l243 c243 a244 p245 p246 s247 b248 x249 h) ?_
    rw [← e]
    exact (quintetlaw15_HashTexts_l3_mask Q (k + 1) tm h).mp H0
set_option maxRecDepth 100000 in
theorem quintetlaw15_HashTexts_j2_step (Q : Qx) (A19 : Option Addr) (l19 : Nat) (c19 : Nat) (a20 : Addr) (p21 : Option Addr) (p22 : Option Addr) (h : Hp) : quintetlaw15_HashTexts_j2_L Q (mkTm [(0, some (.slice A19 l19 c19)), (3, some (.pointer (some a20))), (5, some (.pointer p21)), (7, some (.pointer p22))]) h =
    codeWp Tryd.prog 150 quintetlaw15_HashTexts_lp quintetlaw15_HashTexts_cut (sub (bodyOf Tryd.f3) [true, true, true, true, true]) 63 (maskQ (fun e => match e with | .ret => [4] | _ => []) Q) (mkTm [(0, some (.slice A19 l19 c19)), (3, some (.pointer (some a20))), (5, some (.pointer p21)), (7, some (.pointer p22))]) h := by kernel_rfl
theorem quintetlaw15_HashTexts_j2_mask (Q : Qx) (tm : Tm) (h : Hp) : quintetlaw15_HashTexts_j2_L Q tm h ↔ quintetlaw15_HashTexts_j2_L Q (mask [0, 3, 5, 7] tm) h := Iff.rfl
set_option maxRecDepth 100000 in
theorem quintetlaw15_HashTexts_j2_snd : SndAt Tryd.prog 150 none (sub (bodyOf Tryd.f3) [true, true, true, true, true]) (quintetlaw15_HashTexts_lp 31) := by
  refine join_sound (lp := quintetlaw15_HashTexts_lp) (cut := quintetlaw15_HashTexts_cut) (i := 31) (c := (sub (bodyOf Tryd.f3) [true, true, true, true, true])) [0, 3, 5, 7] (fun e => match e with | .ret => [4] | _ => []) quintetlaw15_HashTexts_j2_L ?_ ?_
  · exact good_by (c := (sub (bodyOf Tryd.f3) [true, true, true, true, true])) (i := 63) (l := [(2042, (sub (bodyOf Tryd.f3) [true, true, true, true, true, true, true, false, true, false]))]) (by kernel_rfl) (List.forall_mem_cons.2 ⟨quintetlaw15_HashTexts_l3_snd, (fun _ h => by cases h)⟩)
  · intro Q tm h H
    have H0 := H
    obtain ⟨A19, l19, c19, e0, H⟩ := selS_ex H
    obtain ⟨a20, e3, H⟩ := selA_ex H
    obtain ⟨p21, e5, H⟩ := selP_ex H
    obtain ⟨p22, e7, H⟩ := selP_ex H
    have e : mask [0, 3, 5, 7] tm = mkTm [(0, some (.slice A19 l19 c19)), (3, some (.pointer (some a20))), (5, some (.pointer p21)), (7, some (.pointer p22))] := by simp only [mask, List.map_cons, List.map_nil, e0, e3, e5, e7] <;> rfl
    rw [e]
    refine Eq.mp (quintetlaw15_HashTexts_j2_step Q A19 l19 c19 a20 p21 p22 h) ?_
    rw [← e]
    exact (quintetlaw15_HashTexts_j2_mask Q tm h).mp H0
set_option maxRecDepth 100000 in
theorem quintetlaw15_HashTexts_eq (A1 : Option Addr) (l1 : Nat) (c1 : Nat) (x2 : Int) (x3 : Int) (x4 : Int) (x5 : Int) (x6 : Int) (h : Hp) (K : Value → Hp → Prop) : quintetlaw15_HashTexts A1 l1 c1 x2 x3 x4 x5 x6 h K =
    codeWp Tryd.prog 150 quintetlaw15_HashTexts_lp quintetlaw15_HashTexts_cut (bodyOf Tryd.f3) 1 (endQ Tryd.prog Tryd.f3.results.toList K) (argTm [(.slice A1 l1 c1), (.agg #[(.int .u32 x2), (.int .u32 x3), (.int .u16 x4), (.int .u16 x5), (.int .u8 x6)])]) h := by kernel_rfl
set_option maxRecDepth 100000 in
theorem quintetlaw15_HashTexts_ok (A1 : Option Addr) (l1 : Nat) (c1 : Nat) (x2 : Int) (x3 : Int) (x4 : Int) (x5 : Int) (x6 : Int) {h : Hp} {K : Value → Hp → Prop} (H : quintetlaw15_HashTexts A1 l1 c1 x2 x3 x4 x5 x6 h K) : CallsH Tryd.prog 3 #[(.slice A1 l1 c1), (.agg #[(.int .u32 x2), (.int .u32 x3), (.int .u16 x4), (.int .u16 x5), (.int .u8 x6)])] h K :=
  calls_of (args := [(.slice A1 l1 c1), (.agg #[(.int .u32 x2), (.int .u32 x3), (.int .u16 x4), (.int .u16 x5), (.int .u8 x6)])]) (n := 150) (lp := quintetlaw15_HashTexts_lp) (cut := quintetlaw15_HashTexts_cut) Tryd.func3 (c := bodyOf Tryd.f3) (by kernel_rfl) (by kernel_rfl) (by kernel_rfl) (good_by (c := (bodyOf Tryd.f3)) (i := 1) (l := [(31, (sub (bodyOf Tryd.f3) [true, true, true, true, true]))]) (by kernel_rfl) (List.forall_mem_cons.2 ⟨quintetlaw15_HashTexts_j2_snd, (fun _ h => by cases h)⟩))
    (Eq.mp (quintetlaw15_HashTexts_eq A1 l1 c1 x2 x3 x4 x5 x6 h K) H)

/-! ### quintet/quintetlaw15.awake: function 9 -/
def quintetlaw15_awake_j1 (K0 : Bool → Hp → Prop) (p6 : Option Addr) (h : Hp) : Prop :=
  CallsH Tryd.prog 16 #[(.int .u8 0)] h fun r97 h96 =>
  ∃ x98 : Int, ∃ x99 : Int, ∃ x100 : Int, ∃ x101 : Int, ∃ x102 : Int, r97 = (.agg #[(.int .u32 x98), (.int .u32 x99), (.int .u16 x100), (.int .u16 x101), (.int .u8 x102)]) ∧ 
  CallsH Tryd.prog 15 #[(.pointer p6), (.agg #[(.int .u32 x98), (.int .u32 x99), (.int .u16 x100), (.int .u16 x101), (.int .u8 x102)]), (.int .i64 5)] h96 fun r104 h103 =>
  ∃ x105 : Int, r104 = (.int .i64 x105) ∧ 
  CallsH Tryd.prog 16 #[(.int .u8 6)] h103 fun r107 h106 =>
  ∃ x108 : Int, ∃ x109 : Int, ∃ x110 : Int, ∃ x111 : Int, ∃ x112 : Int, r107 = (.agg #[(.int .u32 x108), (.int .u32 x109), (.int .u16 x110), (.int .u16 x111), (.int .u8 x112)]) ∧ 
  CallsH Tryd.prog 15 #[(.pointer p6), (.agg #[(.int .u32 x108), (.int .u32 x109), (.int .u16 x110), (.int .u16 x111), (.int .u8 x112)]), (.int .i64 7)] h106 fun r114 h113 =>
  ∃ x115 : Int, r114 = (.int .i64 x115) ∧ 
  CallsH Tryd.prog 16 #[(.int .u8 7)] h113 fun r117 h116 =>
  ∃ x118 : Int, ∃ x119 : Int, ∃ x120 : Int, ∃ x121 : Int, ∃ x122 : Int, r117 = (.agg #[(.int .u32 x118), (.int .u32 x119), (.int .u16 x120), (.int .u16 x121), (.int .u8 x122)]) ∧ 
  CallsH Tryd.prog 15 #[(.pointer p6), (.agg #[(.int .u32 x118), (.int .u32 x119), (.int .u16 x120), (.int .u16 x121), (.int .u8 x122)]), (.int .i64 8)] h116 fun r124 h123 =>
  ∃ x125 : Int, r124 = (.int .i64 x125) ∧ 
  CallsH Tryd.prog 16 #[(.int .u8 6)] h123 fun r127 h126 =>
  ∃ x128 : Int, ∃ x129 : Int, ∃ x130 : Int, ∃ x131 : Int, ∃ x132 : Int, r127 = (.agg #[(.int .u32 x128), (.int .u32 x129), (.int .u16 x130), (.int .u16 x131), (.int .u8 x132)]) ∧ 
  CallsH Tryd.prog 15 #[(.pointer p6), (.agg #[(.int .u32 x128), (.int .u32 x129), (.int .u16 x130), (.int .u16 x131), (.int .u8 x132)]), (.int .i64 9)] h126 fun r134 h133 =>
  ∃ x135 : Int, r134 = (.int .i64 x135) ∧ 
  CallsH Tryd.prog 16 #[(.int .u8 6)] h133 fun r137 h136 =>
  ∃ x138 : Int, ∃ x139 : Int, ∃ x140 : Int, ∃ x141 : Int, ∃ x142 : Int, r137 = (.agg #[(.int .u32 x138), (.int .u32 x139), (.int .u16 x140), (.int .u16 x141), (.int .u8 x142)]) ∧ 
  CallsH Tryd.prog 17 #[(.pointer p6), (.agg #[(.int .u32 x138), (.int .u32 x139), (.int .u16 x140), (.int .u16 x141), (.int .u8 x142)])] h136 fun r144 h143 =>
  ∃ x145 : Int, ∃ b146 : Bool, r144 = (.tuple #[(.int .i64 x145), (.bool b146)]) ∧ 
  CallsH Tryd.prog 16 #[(.int .u8 7)] h143 fun r148 h147 =>
  ∃ x149 : Int, ∃ x150 : Int, ∃ x151 : Int, ∃ x152 : Int, ∃ x153 : Int, r148 = (.agg #[(.int .u32 x149), (.int .u32 x150), (.int .u16 x151), (.int .u16 x152), (.int .u8 x153)]) ∧ 
  CallsH Tryd.prog 17 #[(.pointer p6), (.agg #[(.int .u32 x149), (.int .u32 x150), (.int .u16 x151), (.int .u16 x152), (.int .u8 x153)])] h147 fun r155 h154 =>
  ∃ x156 : Int, ∃ b157 : Bool, r155 = (.tuple #[(.int .i64 x156), (.bool b157)]) ∧ 
  br (x105 == 0)
  (br (x115 == 0)
  (br (x125 == 150)
  (br (x135 == 0)
  (br (x145 == 9)
  (br b146
  (br (x156 == 0)
  (br (!b157)
  (CallsH Tryd.prog 18 #[(.pointer p6)] h154 fun r159 h158 =>
  ∃ x160 : Int, r159 = (.int .i64 x160) ∧ 
  br (x160 == 2)
  (CallsH Tryd.prog 16 #[(.int .u8 6)] h158 fun r162 h161 =>
  ∃ x163 : Int, ∃ x164 : Int, ∃ x165 : Int, ∃ x166 : Int, ∃ x167 : Int, r162 = (.agg #[(.int .u32 x163), (.int .u32 x164), (.int .u16 x165), (.int .u16 x166), (.int .u8 x167)]) ∧ 
  CallsH Tryd.prog 19 #[(.pointer p6), (.agg #[(.int .u32 x163), (.int .u32 x164), (.int .u16 x165), (.int .u16 x166), (.int .u8 x167)])] h161 fun r169 h168 =>
  ∃ b170 : Bool, r169 = (.bool b170) ∧ 
  br b170
  (CallsH Tryd.prog 16 #[(.int .u8 6)] h168 fun r172 h171 =>
  ∃ x173 : Int, ∃ x174 : Int, ∃ x175 : Int, ∃ x176 : Int, ∃ x177 : Int, r172 = (.agg #[(.int .u32 x173), (.int .u32 x174), (.int .u16 x175), (.int .u16 x176), (.int .u8 x177)]) ∧ 
  CallsH Tryd.prog 19 #[(.pointer p6), (.agg #[(.int .u32 x173), (.int .u32 x174), (.int .u16 x175), (.int .u16 x176), (.int .u8 x177)])] h171 fun r179 h178 =>
  ∃ b180 : Bool, r179 = (.bool b180) ∧ 
  br (!b180)
  (CallsH Tryd.prog 18 #[(.pointer p6)] h178 fun r182 h181 =>
  ∃ x183 : Int, r182 = (.int .i64 x183) ∧ 
  K0 (x183 == 1) h181)
  (K0 false h178))
  (K0 false h168))
  (K0 false h158))
  (K0 false h154))
  (K0 false h154))
  (K0 false h154))
  (K0 false h154))
  (K0 false h154))
  (K0 false h154))
  (K0 false h154))
  (K0 false h154)
def quintetlaw15_awake_j1_L (Q : Qx) (tm : Tm) (h : Hp) : Prop :=
  selP (tm 1) fun p6 =>
  quintetlaw15_awake_j1 (fun (b95 : Bool) h => Q (.ret) (mkTm [(0, some (.bool b95))]) h) p6 h
def quintetlaw15_awake (h : Hp) (K : Value → Hp → Prop) : Prop :=
  CallsH Tryd.prog 14 #[(.int .i64 2)] h fun r2 h1 =>
  ∃ p3 : Option Addr, ∃ x4 : Int, r2 = (.tuple #[(.pointer p3), (.int .i64 x4)]) ∧ 
  ∃ b184 : Bool, PV Tryd.prog (binOp .eql 49 (.pointer p3) (.pointer none)) (.bool b184) ∧
  br b184
  (K (.bool false) h1)
  (br (x4 != 0)
  (K (.bool false) h1)
  (quintetlaw15_awake_j1
  (fun (b185 : Bool) (h186 : Hp) =>
  K (.bool b185) h186)
  p3 h1))
def quintetlaw15_awake_lp (i : Nat) (Q : Qx) (tm : Tm) (h : Hp) : Prop := match Nat.beq i 7 with
  | true => quintetlaw15_awake_j1_L Q tm h
  | false => False
def quintetlaw15_awake_cut (i : Nat) : Option (List Nat) := match Nat.beq i 7 with
  | true => some [1]
  | false => none
set_option maxRecDepth 100000 in
theorem quintetlaw15_awake_j1_step (Q : Qx) (p6 : Option Addr) (h : Hp) : quintetlaw15_awake_j1_L Q (mkTm [(1, some (.pointer p6))]) h =
    codeWp Tryd.prog 95 quintetlaw15_awake_lp quintetlaw15_awake_cut (sub (bodyOf Tryd.f9) [true, true, true]) 15 (maskQ (fun e => match e with | .ret => [0] | _ => []) Q) (mkTm [(1, some (.pointer p6))]) h := by kernel_rfl
theorem quintetlaw15_awake_j1_mask (Q : Qx) (tm : Tm) (h : Hp) : quintetlaw15_awake_j1_L Q tm h ↔ quintetlaw15_awake_j1_L Q (mask [1] tm) h := Iff.rfl
set_option maxRecDepth 100000 in
theorem quintetlaw15_awake_j1_snd : SndAt Tryd.prog 95 none (sub (bodyOf Tryd.f9) [true, true, true]) (quintetlaw15_awake_lp 7) := by
  refine join_sound (lp := quintetlaw15_awake_lp) (cut := quintetlaw15_awake_cut) (i := 7) (c := (sub (bodyOf Tryd.f9) [true, true, true])) [1] (fun e => match e with | .ret => [0] | _ => []) quintetlaw15_awake_j1_L ?_ ?_
  · exact good_by (c := (sub (bodyOf Tryd.f9) [true, true, true])) (i := 15) (l := []) (by kernel_rfl) (fun _ h => by cases h)
  · intro Q tm h H
    have H0 := H
    obtain ⟨p6, e1, H⟩ := selP_ex H
    have e : mask [1] tm = mkTm [(1, some (.pointer p6))] := by simp only [mask, List.map_cons, List.map_nil, e1] <;> rfl
    rw [e]
    refine Eq.mp (quintetlaw15_awake_j1_step Q p6 h) ?_
    rw [← e]
    exact (quintetlaw15_awake_j1_mask Q tm h).mp H0
set_option maxRecDepth 100000 in
theorem quintetlaw15_awake_eq (h : Hp) (K : Value → Hp → Prop) : quintetlaw15_awake  h K =
    codeWp Tryd.prog 95 quintetlaw15_awake_lp quintetlaw15_awake_cut (bodyOf Tryd.f9) 1 (endQ Tryd.prog Tryd.f9.results.toList K) (argTm []) h := by kernel_rfl
set_option maxRecDepth 100000 in
theorem quintetlaw15_awake_ok {h : Hp} {K : Value → Hp → Prop} (H : quintetlaw15_awake  h K) : CallsH Tryd.prog 9 #[] h K :=
  calls_of (args := []) (n := 95) (lp := quintetlaw15_awake_lp) (cut := quintetlaw15_awake_cut) Tryd.func9 (c := bodyOf Tryd.f9) (by kernel_rfl) (by kernel_rfl) (by kernel_rfl) (good_by (c := (bodyOf Tryd.f9)) (i := 1) (l := [(7, (sub (bodyOf Tryd.f9) [true, true, true]))]) (by kernel_rfl) (List.forall_mem_cons.2 ⟨quintetlaw15_awake_j1_snd, (fun _ h => by cases h)⟩))
    (Eq.mp (quintetlaw15_awake_eq  h K) H)

/-! ### quintet/quintetlaw15.proto: function 16 -/
def quintetlaw15_proto (x1 : Int) (h : Hp) (K : Value → Hp → Prop) : Prop :=
  newC h (.cells #[(.int .u32 0), (.int .u32 0), (.int .u16 0), (.int .u16 0), (.int .u8 0)] 26 (0, 0)) fun a3 h2 => 
  HU Tryd.prog (Instr.storeAt 26 (.pointer (some a3)) (.agg #[(.int .u32 0), (.int .u32 0), (.int .u16 0), (.int .u16 0), (.int .u8 x1)])) h2 fun h4 => 
  ∃ x5 : Int, ∃ x6 : Int, ∃ x7 : Int, ∃ x8 : Int, ∃ x9 : Int, HV Tryd.prog (Instr.loadAt 26 (.pointer (some a3))) h4 (.agg #[(.int .u32 x5), (.int .u32 x6), (.int .u16 x7), (.int .u16 x8), (.int .u8 x9)]) ∧ K (.agg #[(.int .u32 x5), (.int .u32 x6), (.int .u16 x7), (.int .u16 x8), (.int .u8 x9)]) h4
def quintetlaw15_proto_lp (i : Nat) (Q : Qx) (tm : Tm) (h : Hp) : Prop := False
def quintetlaw15_proto_cut (i : Nat) : Option (List Nat) := none
set_option maxRecDepth 100000 in
theorem quintetlaw15_proto_eq (x1 : Int) (h : Hp) (K : Value → Hp → Prop) : quintetlaw15_proto x1 h K =
    codeWp Tryd.prog 5 quintetlaw15_proto_lp quintetlaw15_proto_cut (bodyOf Tryd.f16) 1 (endQ Tryd.prog Tryd.f16.results.toList K) (argTm [(.int .u8 x1)]) h := by kernel_rfl
set_option maxRecDepth 100000 in
theorem quintetlaw15_proto_ok (x1 : Int) {h : Hp} {K : Value → Hp → Prop} (H : quintetlaw15_proto x1 h K) : CallsH Tryd.prog 16 #[(.int .u8 x1)] h K :=
  calls_of (args := [(.int .u8 x1)]) (n := 5) (lp := quintetlaw15_proto_lp) (cut := quintetlaw15_proto_cut) Tryd.func16 (c := bodyOf Tryd.f16) (by kernel_rfl) (by kernel_rfl) (by kernel_rfl) (good_by (c := (bodyOf Tryd.f16)) (i := 1) (l := []) (by kernel_rfl) (fun _ h => by cases h))
    (Eq.mp (quintetlaw15_proto_eq x1 h K) H)

end Go.Proofs.YtoheablfncdibaaDoor.Fs
