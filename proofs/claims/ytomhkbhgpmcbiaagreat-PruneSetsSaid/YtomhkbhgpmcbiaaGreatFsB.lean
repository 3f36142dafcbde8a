/- Printed by sx.py: words over the heap alone for Go functions, and that each call does what its word says. -/
import Derived.Test.YtomhkbhgpmcbiaaGreatSxSel
import Derived.Test.YtomhkbhgpmcbiaaGreatSxNest
import Derived.Test.YtomhkbhgpmcbiaaGreatProg
namespace Go.Proofs.YtomhkbhgpmcbiaaGreat.Fs
open Go Go.RowKit Go.Proofs.YtomhkbhgpmcbiaaGreat.Sx
set_option linter.unusedVariables false

/-! ### quintet/table.New: function 15 -/
def table_New (x1 : Int) (x2 : Int) (x3 : Int) (x4 : Int) (x5 : Int) (x6 : Int) (x7 : Int) (h : Hp) (K : Value → Hp → Prop) : Prop :=
  newC h (.cells #[(.int .i64 x1), (.int .i64 x2), (.int .i64 x3), (.int .i64 x4), (.int .i64 x5), (.int .i64 x6), (.int .i64 x7)] 24 (0, 0)) fun a9 h8 => 
  ∃ x10 : Int, ∃ x11 : Int, ∃ x12 : Int, ∃ x13 : Int, ∃ x14 : Int, ∃ x15 : Int, ∃ x16 : Int, HV Tryz.prog (Instr.loadAt 24 (.pointer (some a9))) h8 (.agg #[(.int .i64 x10), (.int .i64 x11), (.int .i64 x12), (.int .i64 x13), (.int .i64 x14), (.int .i64 x15), (.int .i64 x16)]) ∧ 
  CallsH Tryz.prog 38 #[(.agg #[(.int .i64 x10), (.int .i64 x11), (.int .i64 x12), (.int .i64 x13), (.int .i64 x14), (.int .i64 x15), (.int .i64 x16)])] h8 fun r18 h17 =>
  ∃ x19 : Int, r18 = (.int .i64 x19) ∧ 
  br (x19 != 0)
  (K (.tuple #[(.pointer none), (.int .i64 x19)]) h17)
  (∃ x20 : Int, ∃ x21 : Int, ∃ x22 : Int, ∃ x23 : Int, ∃ x24 : Int, ∃ x25 : Int, ∃ x26 : Int, HV Tryz.prog (Instr.loadAt 24 (.pointer (some a9))) h17 (.agg #[(.int .i64 x20), (.int .i64 x21), (.int .i64 x22), (.int .i64 x23), (.int .i64 x24), (.int .i64 x25), (.int .i64 x26)]) ∧ 
  newC h17 (.cells #[(.int .i64 x20), (.int .i64 x21), (.int .i64 x22), (.int .i64 x23), (.int .i64 x24), (.int .i64 x25), (.int .i64 x26), (.slice none 0 0)] 101 (0, 0)) fun a28 h27 => 
  K (.tuple #[(.pointer (some a28)), (.int .i64 0)]) h27)
def table_New_lp (i : Nat) (Q : Qx) (tm : Tm) (h : Hp) : Prop := False
def table_New_cut (i : Nat) : Option (List Nat) := none
set_option maxRecDepth 100000 in
theorem table_New_eq (x1 : Int) (x2 : Int) (x3 : Int) (x4 : Int) (x5 : Int) (x6 : Int) (x7 : Int) (h : Hp) (K : Value → Hp → Prop) : table_New x1 x2 x3 x4 x5 x6 x7 h K =
    codeWp Tryz.prog 13 table_New_lp table_New_cut (bodyOf Tryz.f15) 1 (endQ Tryz.prog Tryz.f15.results.toList K) (argTm [(.agg #[(.int .i64 x1), (.int .i64 x2), (.int .i64 x3), (.int .i64 x4), (.int .i64 x5), (.int .i64 x6), (.int .i64 x7)])]) h := by kernel_rfl
set_option maxRecDepth 100000 in
theorem table_New_ok (x1 : Int) (x2 : Int) (x3 : Int) (x4 : Int) (x5 : Int) (x6 : Int) (x7 : Int) {h : Hp} {K : Value → Hp → Prop} (H : table_New x1 x2 x3 x4 x5 x6 x7 h K) : CallsH Tryz.prog 15 #[(.agg #[(.int .i64 x1), (.int .i64 x2), (.int .i64 x3), (.int .i64 x4), (.int .i64 x5), (.int .i64 x6), (.int .i64 x7)])] h K :=
  calls_of (args := [(.agg #[(.int .i64 x1), (.int .i64 x2), (.int .i64 x3), (.int .i64 x4), (.int .i64 x5), (.int .i64 x6), (.int .i64 x7)])]) (n := 13) (lp := table_New_lp) (cut := table_New_cut) Tryz.func15 (c := bodyOf Tryz.f15) (by kernel_rfl) (by kernel_rfl) (by kernel_rfl) (good_by (c := (bodyOf Tryz.f15)) (i := 1) (l := []) (by kernel_rfl) (fun _ h => by cases h))
    (Eq.mp (table_New_eq x1 x2 x3 x4 x5 x6 x7 h K) H)

/-! ### (*quintet/table.Table).Insert: function 30 -/
def table_Table_Insert (p1 : Option Addr) (x2 : Int) (x3 : Int) (x4 : Int) (x5 : Int) (x6 : Int) (x7 : Int) (x8 : Int) (x9 : Int) (x10 : Int) (x11 : Int) (x12 : Int) (x13 : Int) (x14 : Int) (h : Hp) (K : Value → Hp → Prop) : Prop :=
  newC h (.cells #[(.int .i64 x3), (.int .u32 x4), (.int .i64 x5), (.int .u32 x6), (.int .i64 x7), (.int .u16 x8), (.int .u16 x9), (.int .u16 x10), (.int .u16 x11), (.int .u8 x12), (.int .u8 x13), (.int .i64 x14)] 52 (0, 0)) fun a16 h15 => 
  ∃ b17 : Bool, PV Tryz.prog (binOp .eql 67 (.pointer p1) (.pointer none)) (.bool b17) ∧
  br b17
  (K (.int .i64 3) h15)
  (drf p1 fun a18 =>
  ∃ A19 : Option Addr, ∃ l19 : Nat, ∃ c19 : Nat, HV Tryz.prog (Instr.loadAt 42 (.pointer (some (a18.add 7)))) h15 (.slice A19 l19 c19) ∧ 
  ∃ x20 : Int, ∃ x21 : Int, ∃ x22 : Int, ∃ x23 : Int, ∃ x24 : Int, ∃ x25 : Int, ∃ x26 : Int, ∃ x27 : Int, ∃ x28 : Int, ∃ x29 : Int, ∃ x30 : Int, ∃ x31 : Int, HV Tryz.prog (Instr.loadAt 52 (.pointer (some a16))) h15 (.agg #[(.int .i64 x20), (.int .u32 x21), (.int .i64 x22), (.int .u32 x23), (.int .i64 x24), (.int .u16 x25), (.int .u16 x26), (.int .u16 x27), (.int .u16 x28), (.int .u8 x29), (.int .u8 x30), (.int .i64 x31)]) ∧ 
  CallsH Tryz.prog 53 #[(.pointer p1), (.slice A19 l19 c19), (.agg #[(.int .i64 x20), (.int .u32 x21), (.int .i64 x22), (.int .u32 x23), (.int .i64 x24), (.int .u16 x25), (.int .u16 x26), (.int .u16 x27), (.int .u16 x28), (.int .u8 x29), (.int .u8 x30), (.int .i64 x31)])] h15 fun r33 h32 =>
  ∃ x34 : Int, r33 = (.int .i64 x34) ∧ 
  br (x34 != 0)
  (K (.int .i64 x34) h32)
  (drf p1 fun a35 =>
  ∃ A36 : Option Addr, ∃ l36 : Nat, ∃ c36 : Nat, HV Tryz.prog (Instr.loadAt 42 (.pointer (some (a35.add 7)))) h32 (.slice A36 l36 c36) ∧ 
  CallsH Tryz.prog 54 #[(.int .i64 x2), (.int .i64 0), (.int .i64 (l36 : Int))] h32 fun r38 h37 =>
  ∃ b39 : Bool, r38 = (.bool b39) ∧ 
  br (!b39)
  (K (.int .i64 112) h37)
  (drf p1 fun a40 =>
  ∃ x41 : Int, HV Tryz.prog (Instr.loadAt 3 (.pointer (some a40))) h37 (.int .i64 x41) ∧ 
  br (decide ((l36 : Int) ≥ x41))
  (K (.int .i64 113) h37)
  (∃ x42 : Int, ∃ x43 : Int, ∃ x44 : Int, ∃ x45 : Int, ∃ x46 : Int, ∃ x47 : Int, ∃ x48 : Int, ∃ x49 : Int, ∃ x50 : Int, ∃ x51 : Int, ∃ x52 : Int, ∃ x53 : Int, HV Tryz.prog (Instr.loadAt 52 (.pointer (some a16))) h37 (.agg #[(.int .i64 x42), (.int .u32 x43), (.int .i64 x44), (.int .u32 x45), (.int .i64 x46), (.int .u16 x47), (.int .u16 x48), (.int .u16 x49), (.int .u16 x50), (.int .u8 x51), (.int .u8 x52), (.int .i64 x53)]) ∧ 
  CallsH Tryz.prog 55 #[(.pointer p1), (.int .i64 x2), (.agg #[(.int .i64 x42), (.int .u32 x43), (.int .i64 x44), (.int .u32 x45), (.int .i64 x46), (.int .u16 x47), (.int .u16 x48), (.int .u16 x49), (.int .u16 x50), (.int .u8 x51), (.int .u8 x52), (.int .i64 x53)])] h37 fun r55 h54 =>
  r55 = (.tuple #[]) ∧ 
  K (.int .i64 0) h54))))
def table_Table_Insert_lp (i : Nat) (Q : Qx) (tm : Tm) (h : Hp) : Prop := False
def table_Table_Insert_cut (i : Nat) : Option (List Nat) := none
set_option maxRecDepth 100000 in
theorem table_Table_Insert_eq (p1 : Option Addr) (x2 : Int) (x3 : Int) (x4 : Int) (x5 : Int) (x6 : Int) (x7 : Int) (x8 : Int) (x9 : Int) (x10 : Int) (x11 : Int) (x12 : Int) (x13 : Int) (x14 : Int) (h : Hp) (K : Value → Hp → Prop) : table_Table_Insert p1 x2 x3 x4 x5 x6 x7 x8 x9 x10 x11 x12 x13 x14 h K =
    codeWp Tryz.prog 43 table_Table_Insert_lp table_Table_Insert_cut (bodyOf Tryz.f30) 1 (endQ Tryz.prog Tryz.f30.results.toList K) (argTm [(.pointer p1), (.int .i64 x2), (.agg #[(.int .i64 x3), (.int .u32 x4), (.int .i64 x5), (.int .u32 x6), (.int .i64 x7), (.int .u16 x8), (.int .u16 x9), (.int .u16 x10), (.int .u16 x11), (.int .u8 x12), (.int .u8 x13), (.int .i64 x14)])]) h := by kernel_rfl
set_option maxRecDepth 100000 in
theorem table_Table_Insert_ok (p1 : Option Addr) (x2 : Int) (x3 : Int) (x4 : Int) (x5 : Int) (x6 : Int) (x7 : Int) (x8 : Int) (x9 : Int) (x10 : Int) (x11 : Int) (x12 : Int) (x13 : Int) (x14 : Int) {h : Hp} {K : Value → Hp → Prop} (H : table_Table_Insert p1 x2 x3 x4 x5 x6 x7 x8 x9 x10 x11 x12 x13 x14 h K) : CallsH Tryz.prog 30 #[(.pointer p1), (.int .i64 x2), (.agg #[(.int .i64 x3), (.int .u32 x4), (.int .i64 x5), (.int .u32 x6), (.int .i64 x7), (.int .u16 x8), (.int .u16 x9), (.int .u16 x10), (.int .u16 x11), (.int .u8 x12), (.int .u8 x13), (.int .i64 x14)])] h K :=
  calls_of (args := [(.pointer p1), (.int .i64 x2), (.agg #[(.int .i64 x3), (.int .u32 x4), (.int .i64 x5), (.int .u32 x6), (.int .i64 x7), (.int .u16 x8), (.int .u16 x9), (.int .u16 x10), (.int .u16 x11), (.int .u8 x12), (.int .u8 x13), (.int .i64 x14)])]) (n := 43) (lp := table_Table_Insert_lp) (cut := table_Table_Insert_cut) Tryz.func30 (c := bodyOf Tryz.f30) (by kernel_rfl) (by kernel_rfl) (by kernel_rfl) (good_by (c := (bodyOf Tryz.f30)) (i := 1) (l := []) (by kernel_rfl) (fun _ h => by cases h))
    (Eq.mp (table_Table_Insert_eq p1 x2 x3 x4 x5 x6 x7 x8 x9 x10 x11 x12 x13 x14 h K) H)

/-! ### quintet/table.Check: function 38 -/
def table_Check_l3 (x53 : Int) (x54 : Int) (x55 : Int) (K0 : Bool → Hp → Prop)  : Nat → Bool → Int → Hp → Prop
  | 0, _, _, _ => False
  | k + 1, b52, x56, h =>
    br (decide (x56 < 3))
    (∃ x62 : Int, PV Tryz.prog (Instr.index 128 (.agg #[(.int .i64 x53), (.int .i64 x54), (.int .i64 x55)]) (.int .i64 x56)) (.int .i64 x62) ∧
    br b52
    (CallsH Tryz.prog 54 #[(.int .i64 x62), (.int .i64 0), (.int .i64 1048576)] h fun r64 h63 =>
    ∃ b65 : Bool, r64 = (.bool b65) ∧ 
    table_Check_l3 x53 x54 x55 K0 k b65 (IntKind.i64.wrap (x56 + 1)) h63)
    (table_Check_l3 x53 x54 x55 K0 k false (IntKind.i64.wrap (x56 + 1)) h))
    (K0 b52 h)
def table_Check_l3_L (Q : Qx) (k : Nat) (tm : Tm) (h : Hp) : Prop :=
  selB (tm 3) fun b52 =>
  selAg (tm 30) fun m30_0 =>
  selC m30_0 fun u30_0 m30_1 =>
  selC m30_1 fun u30_1 m30_2 =>
  selC m30_2 fun u30_2 m30_3 =>
  selN m30_3
  (selI .i64 (some u30_0) fun x53 =>
  selI .i64 (some u30_1) fun x54 =>
  selI .i64 (some u30_2) fun x55 =>
  selI .i64 (tm 31) fun x56 =>
  table_Check_l3 x53 x54 x55 (fun (b61 : Bool) h => Q (.exit 0) (mkTm [(3, some (.bool b61))]) h) k b52 x56 h)
def table_Check_j2 (K0 : Int → Hp → Prop) (a26 : Addr) (b27 : Bool) (h : Hp) : Prop :=
  ∃ x49 : Int, HV Tryz.prog (Instr.loadAt 3 (.pointer (some (a26.add 2)))) h (.int .i64 x49) ∧ 
  ∃ x50 : Int, HV Tryz.prog (Instr.loadAt 3 (.pointer (some (a26.add 3)))) h (.int .i64 x50) ∧ 
  ∃ x51 : Int, HV Tryz.prog (Instr.loadAt 3 (.pointer (some (a26.add 4)))) h (.int .i64 x51) ∧ 
  ∃ k68, table_Check_l3 x49 x50 x51
  (fun (b66 : Bool) (h67 : Hp) =>
  br (!b66)
  (K0 110 h67)
  (K0 0 h67))
  k68 b27 0 h
def table_Check_j2_L (Q : Qx) (tm : Tm) (h : Hp) : Prop :=
  selA (tm 1) fun a26 =>
  selB (tm 3) fun b27 =>
  table_Check_j2 (fun (x48 : Int) h => Q (.ret) (mkTm [(2, some (.int .i64 x48))]) h) a26 b27 h
def table_Check (x1 : Int) (x2 : Int) (x3 : Int) (x4 : Int) (x5 : Int) (x6 : Int) (x7 : Int) (h : Hp) (K : Value → Hp → Prop) : Prop :=
  newC h (.cells #[(.int .i64 x1), (.int .i64 x2), (.int .i64 x3), (.int .i64 x4), (.int .i64 x5), (.int .i64 x6), (.int .i64 x7)] 24 (0, 0)) fun a9 h8 => 
  ∃ x69 : Int, HV Tryz.prog (Instr.loadAt 3 (.pointer (some a9))) h8 (.int .i64 x69) ∧ 
  CallsH Tryz.prog 54 #[(.int .i64 x69), (.int .i64 1), (.int .i64 64)] h8 fun r71 h70 =>
  ∃ b72 : Bool, r71 = (.bool b72) ∧ 
  br b72
  (∃ x73 : Int, HV Tryz.prog (Instr.loadAt 22 (.pointer (some (a9.add 1)))) h70 (.int .i64 x73) ∧ 
  CallsH Tryz.prog 54 #[(.int .i64 x73), (.int .i64 1), (.int .i64 4)] h70 fun r75 h74 =>
  ∃ b76 : Bool, r75 = (.bool b76) ∧ 
  br b76
  (∃ x77 : Int, HV Tryz.prog (Instr.loadAt 3 (.pointer (some (a9.add 5)))) h74 (.int .i64 x77) ∧ 
  CallsH Tryz.prog 54 #[(.int .i64 x77), (.int .i64 1), (.int .i64 16)] h74 fun r79 h78 =>
  ∃ b80 : Bool, r79 = (.bool b80) ∧ 
  br b80
  (∃ x81 : Int, HV Tryz.prog (Instr.loadAt 3 (.pointer (some (a9.add 6)))) h78 (.int .i64 x81) ∧ 
  CallsH Tryz.prog 54 #[(.int .i64 x81), (.int .i64 0), (.int .i64 10)] h78 fun r83 h82 =>
  ∃ b84 : Bool, r83 = (.bool b84) ∧ 
  table_Check_j2
  (fun (x85 : Int) (h86 : Hp) =>
  K (.int .i64 x85) h86)
  a9 b84 h82)
  (table_Check_j2
  (fun (x87 : Int) (h88 : Hp) =>
  K (.int .i64 x87) h88)
  a9 false h78))
  (table_Check_j2
  (fun (x89 : Int) (h90 : Hp) =>
  K (.int .i64 x89) h90)
  a9 false h74))
  (table_Check_j2
  (fun (x91 : Int) (h92 : Hp) =>
  K (.int .i64 x91) h92)
  a9 false h70)
def table_Check_lp (i : Nat) (Q : Qx) (tm : Tm) (h : Hp) : Prop := match Nat.beq i 58 with
  | true => ∃ k, table_Check_l3_L Q k tm h
  | false => match Nat.beq i 3 with
  | true => table_Check_j2_L Q tm h
  | false => False
def table_Check_cut (i : Nat) : Option (List Nat) := match Nat.beq i 3 with
  | true => some [1, 3]
  | false => none
set_option maxRecDepth 100000 in
theorem table_Check_l3_step (Q : Qx) (k : Nat) (b52 : Bool) (x53 : Int) (x54 : Int) (x55 : Int) (x56 : Int) (h : Hp) : table_Check_l3_L Q (k + 1) (mkTm [(3, some (.bool b52)), (30, some (.agg #[(.int .i64 x53), (.int .i64 x54), (.int .i64 x55)])), (31, some (.int .i64 x56))]) h =
    codeWp Tryz.prog 42 table_Check_lp table_Check_cut (sub (bodyOf Tryz.f38) [true, true, false, true, false, false]) 116 (thenQ (fun tm h => table_Check_l3_L Q k (mask [3, 30, 31] tm) h) (maskQ (fun e => match e with | .exit 0 => [3] | _ => []) Q)) (mkTm [(3, some (.bool b52)), (30, some (.agg #[(.int .i64 x53), (.int .i64 x54), (.int .i64 x55)])), (31, some (.int .i64 x56))]) h := by kernel_rfl
theorem table_Check_l3_mask (Q : Qx) (k : Nat) (tm : Tm) (h : Hp) : table_Check_l3_L Q k tm h ↔ table_Check_l3_L Q k (mask [3, 30, 31] tm) h := Iff.rfl
set_option maxRecDepth 100000 in
theorem table_Check_l3_snd : SndAt Tryz.prog 42 none (sub (bodyOf Tryz.f38) [true, true, false, true, false]) (table_Check_lp 58) := by
  refine loop_sound (lp := table_Check_lp) (cut := table_Check_cut) (i := 58) (c := (sub (bodyOf Tryz.f38) [true, true, false, true, false, false])) [3, 30, 31] (fun e => match e with | .exit 0 => [3] | _ => []) table_Check_l3_L ?_ ?_ ?_
  · exact good_by (c := (sub (bodyOf Tryz.f38) [true, true, false, true, false, false])) (i := 116) (l := []) (by kernel_rfl) (fun _ h => by cases h)
  · intro Q tm h H
    obtain ⟨b52, e3, H⟩ := selB_ex H
    obtain ⟨m30_0, e30, H⟩ := selAg_ex H
    obtain ⟨u30_0, m30_1, f, G⟩ := selC_ex H
    clear H
    subst f
    have H := G
    clear G
    obtain ⟨u30_1, m30_2, f, G⟩ := selC_ex H
    clear H
    subst f
    have H := G
    clear G
    obtain ⟨u30_2, m30_3, f, G⟩ := selC_ex H
    clear H
    subst f
    have H := G
    clear G
    obtain ⟨f, G⟩ := selN_ex H
    clear H
    subst f
    have H := G
    clear G
    obtain ⟨x53, f, G⟩ := selI_ex H
    clear H
    have H := G
    clear G
    obtain rfl := Option.some.inj f
    obtain ⟨x54, f, G⟩ := selI_ex H
    clear H
    have H := G
    clear G
    obtain rfl := Option.some.inj f
    obtain ⟨x55, f, G⟩ := selI_ex H
    clear H
    have H := G
    clear G
    obtain rfl := Option.some.inj f
    obtain ⟨x56, e31, H⟩ := selI_ex H
    exact H
  · intro Q k tm h H
    have H0 := H
    obtain ⟨b52, e3, H⟩ := selB_ex H
    obtain ⟨m30_0, e30, H⟩ := selAg_ex H
    obtain ⟨u30_0, m30_1, f, G⟩ := selC_ex H
    clear H
    subst f
    have H := G
    clear G
    obtain ⟨u30_1, m30_2, f, G⟩ := selC_ex H
    clear H
    subst f
    have H := G
    clear G
    obtain ⟨u30_2, m30_3, f, G⟩ := selC_ex H
    clear H
    subst f
    have H := G
    clear G
    obtain ⟨f, G⟩ := selN_ex H
    clear H
    subst f
    have H := G
    clear G
    obtain ⟨x53, f, G⟩ := selI_ex H
    clear H
    have H := G
    clear G
    obtain rfl := Option.some.inj f
    obtain ⟨x54, f, G⟩ := selI_ex H
    clear H
    have H := G
    clear G
    obtain rfl := Option.some.inj f
    obtain ⟨x55, f, G⟩ := selI_ex H
    clear H
    have H := G
    clear G
    obtain rfl := Option.some.inj f
    obtain ⟨x56, e31, H⟩ := selI_ex H
    have e : mask [3, 30, 31] tm = mkTm [(3, some (.bool b52)), (30, some (.agg #[(.int .i64 x53), (.int .i64 x54), (.int .i64 x55)])), (31, some (.int .i64 x56))] := by simp only [mask, List.map_cons, List.map_nil, e3, e30, e31] <;> rfl
    rw [e]
    refine Eq.mp (table_Check_l3_step Q k b52 x53 x54 x55 x56 h) ?_
    rw [← e]
    exact (table_Check_l3_mask Q (k + 1) tm h).mp H0
set_option maxRecDepth 100000 in
theorem table_Check_j2_step (Q : Qx) (a26 : Addr) (b27 : Bool) (h : Hp) : table_Check_j2_L Q (mkTm [(1, some (.pointer (some a26))), (3, some (.bool b27))]) h =
    codeWp Tryz.prog 42 table_Check_lp table_Check_cut (sub (bodyOf Tryz.f38) [true, true]) 7 (maskQ (fun e => match e with | .ret => [2] | _ => []) Q) (mkTm [(1, some (.pointer (some a26))), (3, some (.bool b27))]) h := by kernel_rfl
theorem table_Check_j2_mask (Q : Qx) (tm : Tm) (h : Hp) : table_Check_j2_L Q tm h ↔ table_Check_j2_L Q (mask [1, 3] tm) h := Iff.rfl
set_option maxRecDepth 100000 in
theorem table_Check_j2_snd : SndAt Tryz.prog 42 none (sub (bodyOf Tryz.f38) [true, true]) (table_Check_lp 3) := by
  refine join_sound (lp := table_Check_lp) (cut := table_Check_cut) (i := 3) (c := (sub (bodyOf Tryz.f38) [true, true])) [1, 3] (fun e => match e with | .ret => [2] | _ => []) table_Check_j2_L ?_ ?_
  · exact good_by (c := (sub (bodyOf Tryz.f38) [true, true])) (i := 7) (l := [(58, (sub (bodyOf Tryz.f38) [true, true, false, true, false]))]) (by kernel_rfl) (List.forall_mem_cons.2 ⟨table_Check_l3_snd, (fun _ h => by cases h)⟩)
  · intro Q tm h H
    have H0 := H
    obtain ⟨a26, e1, H⟩ := selA_ex H
    obtain ⟨b27, e3, H⟩ := selB_ex H
    have e : mask [1, 3] tm = mkTm [(1, some (.pointer (some a26))), (3, some (.bool b27))] := by simp only [mask, List.map_cons, List.map_nil, e1, e3] <;> rfl
    rw [e]
    refine Eq.mp (table_Check_j2_step Q a26 b27 h) ?_
    rw [← e]
    exact (table_Check_j2_mask Q tm h).mp H0
set_option maxRecDepth 100000 in
theorem table_Check_eq (x1 : Int) (x2 : Int) (x3 : Int) (x4 : Int) (x5 : Int) (x6 : Int) (x7 : Int) (h : Hp) (K : Value → Hp → Prop) : table_Check x1 x2 x3 x4 x5 x6 x7 h K =
    codeWp Tryz.prog 42 table_Check_lp table_Check_cut (bodyOf Tryz.f38) 1 (endQ Tryz.prog Tryz.f38.results.toList K) (argTm [(.agg #[(.int .i64 x1), (.int .i64 x2), (.int .i64 x3), (.int .i64 x4), (.int .i64 x5), (.int .i64 x6), (.int .i64 x7)])]) h := by kernel_rfl
set_option maxRecDepth 100000 in
theorem table_Check_ok (x1 : Int) (x2 : Int) (x3 : Int) (x4 : Int) (x5 : Int) (x6 : Int) (x7 : Int) {h : Hp} {K : Value → Hp → Prop} (H : table_Check x1 x2 x3 x4 x5 x6 x7 h K) : CallsH Tryz.prog 38 #[(.agg #[(.int .i64 x1), (.int .i64 x2), (.int .i64 x3), (.int .i64 x4), (.int .i64 x5), (.int .i64 x6), (.int .i64 x7)])] h K :=
  calls_of (args := [(.agg #[(.int .i64 x1), (.int .i64 x2), (.int .i64 x3), (.int .i64 x4), (.int .i64 x5), (.int .i64 x6), (.int .i64 x7)])]) (n := 42) (lp := table_Check_lp) (cut := table_Check_cut) Tryz.func38 (c := bodyOf Tryz.f38) (by kernel_rfl) (by kernel_rfl) (by kernel_rfl) (good_by (c := (bodyOf Tryz.f38)) (i := 1) (l := [(3, (sub (bodyOf Tryz.f38) [true, true]))]) (by kernel_rfl) (List.forall_mem_cons.2 ⟨table_Check_j2_snd, (fun _ h => by cases h)⟩))
    (Eq.mp (table_Check_eq x1 x2 x3 x4 x5 x6 x7 h K) H)

/-! ### (*quintet/table.Table).Clone: function 50 -/
def table_Table_Clone (p1 : Option Addr) (h : Hp) (K : Value → Hp → Prop) : Prop :=
  ∃ b2 : Bool, PV Tryz.prog (binOp .eql 67 (.pointer p1) (.pointer none)) (.bool b2) ∧
  br b2
  (K (.pointer none) h)
  (drf p1 fun a3 =>
  ∃ x4 : Int, ∃ x5 : Int, ∃ x6 : Int, ∃ x7 : Int, ∃ x8 : Int, ∃ x9 : Int, ∃ x10 : Int, HV Tryz.prog (Instr.loadAt 24 (.pointer (some a3))) h (.agg #[(.int .i64 x4), (.int .i64 x5), (.int .i64 x6), (.int .i64 x7), (.int .i64 x8), (.int .i64 x9), (.int .i64 x10)]) ∧ 
  CallsH Tryz.prog 52 #[(.pointer p1)] h fun r12 h11 =>
  ∃ A13 : Option Addr, ∃ l13 : Nat, ∃ c13 : Nat, r12 = (.slice A13 l13 c13) ∧ HV Tryz.prog (Instr.loadAt 24 (.pointer (some a3))) h11 (.agg #[(.int .i64 x4), (.int .i64 x5), (.int .i64 x6), (.int .i64 x7), (.int .i64 x8), (.int .i64 x9), (.int .i64 x10)]) ∧ 
  newC h11 (.cells #[(.int .i64 x4), (.int .i64 x5), (.int .i64 x6), (.int .i64 x7), (.int .i64 x8), (.int .i64 x9), (.int .i64 x10), (.slice A13 l13 c13)] 101 (0, 0)) fun a15 h14 => 
  K (.pointer (some a15)) h14)
def table_Table_Clone_lp (i : Nat) (Q : Qx) (tm : Tm) (h : Hp) : Prop := False
def table_Table_Clone_cut (i : Nat) : Option (List Nat) := none
set_option maxRecDepth 100000 in
theorem table_Table_Clone_eq (p1 : Option Addr) (h : Hp) (K : Value → Hp → Prop) : table_Table_Clone p1 h K =
    codeWp Tryz.prog 13 table_Table_Clone_lp table_Table_Clone_cut (bodyOf Tryz.f50) 1 (endQ Tryz.prog Tryz.f50.results.toList K) (argTm [(.pointer p1)]) h := by kernel_rfl
set_option maxRecDepth 100000 in
theorem table_Table_Clone_ok (p1 : Option Addr) {h : Hp} {K : Value → Hp → Prop} (H : table_Table_Clone p1 h K) : CallsH Tryz.prog 50 #[(.pointer p1)] h K :=
  calls_of (args := [(.pointer p1)]) (n := 13) (lp := table_Table_Clone_lp) (cut := table_Table_Clone_cut) Tryz.func50 (c := bodyOf Tryz.f50) (by kernel_rfl) (by kernel_rfl) (by kernel_rfl) (good_by (c := (bodyOf Tryz.f50)) (i := 1) (l := []) (by kernel_rfl) (fun _ h => by cases h))
    (Eq.mp (table_Table_Clone_eq p1 h K) H)

/-! ### (*quintet/table.Table).Rules: function 52 -/
def table_Table_Rules (p1 : Option Addr) (h : Hp) (K : Value → Hp → Prop) : Prop :=
  ∃ b2 : Bool, PV Tryz.prog (binOp .eql 67 (.pointer p1) (.pointer none)) (.bool b2) ∧
  br b2
  (K (.slice none 0 0) h)
  (drf p1 fun a3 =>
  ∃ A4 : Option Addr, ∃ l4 : Nat, ∃ c4 : Nat, HV Tryz.prog (Instr.loadAt 42 (.pointer (some (a3.add 7)))) h (.slice A4 l4 c4) ∧ 
  HW Tryz.prog (Instr.makeSlice 42 (.int .i64 (l4 : Int)) (.int .i64 (l4 : Int))) h fun r6 h5 =>
  ∃ A7 : Option Addr, ∃ l7 : Nat, ∃ c7 : Nat, r6 = (.slice A7 l7 c7) ∧ 
  drf p1 fun a8 =>
  ∃ A9 : Option Addr, ∃ l9 : Nat, ∃ c9 : Nat, HV Tryz.prog (Instr.loadAt 42 (.pointer (some (a8.add 7)))) h5 (.slice A9 l9 c9) ∧ 
  HW Tryz.prog (Builtin.copy_ #[42, 42] 3 #[(.slice A7 l7 c7), (.slice A9 l9 c9)]) h5 fun r11 h10 =>
  ∃ x12 : Int, r11 = (.int .i64 x12) ∧ 
  K (.slice A7 l7 c7) h10)
def table_Table_Rules_lp (i : Nat) (Q : Qx) (tm : Tm) (h : Hp) : Prop := False
def table_Table_Rules_cut (i : Nat) : Option (List Nat) := none
set_option maxRecDepth 100000 in
theorem table_Table_Rules_eq (p1 : Option Addr) (h : Hp) (K : Value → Hp → Prop) : table_Table_Rules p1 h K =
    codeWp Tryz.prog 19 table_Table_Rules_lp table_Table_Rules_cut (bodyOf Tryz.f52) 1 (endQ Tryz.prog Tryz.f52.results.toList K) (argTm [(.pointer p1)]) h := by kernel_rfl
set_option maxRecDepth 100000 in
theorem table_Table_Rules_ok (p1 : Option Addr) {h : Hp} {K : Value → Hp → Prop} (H : table_Table_Rules p1 h K) : CallsH Tryz.prog 52 #[(.pointer p1)] h K :=
  calls_of (args := [(.pointer p1)]) (n := 19) (lp := table_Table_Rules_lp) (cut := table_Table_Rules_cut) Tryz.func52 (c := bodyOf Tryz.f52) (by kernel_rfl) (by kernel_rfl) (by kernel_rfl) (good_by (c := (bodyOf Tryz.f52)) (i := 1) (l := []) (by kernel_rfl) (fun _ h => by cases h))
    (Eq.mp (table_Table_Rules_eq p1 h K) H)

/-! ### (*quintet/table.Table).takes: function 53 -/
def table_Table_takes (p1 : Option Addr) (A2 : Option Addr) (l2 : Nat) (c2 : Nat) (x3 : Int) (x4 : Int) (x5 : Int) (x6 : Int) (x7 : Int) (x8 : Int) (x9 : Int) (x10 : Int) (x11 : Int) (x12 : Int) (x13 : Int) (x14 : Int) (h : Hp) (K : Value → Hp → Prop) : Prop :=
  newC h (.cells #[(.int .i64 x3), (.int .u32 x4), (.int .i64 x5), (.int .u32 x6), (.int .i64 x7), (.int .u16 x8), (.int .u16 x9), (.int .u16 x10), (.int .u16 x11), (.int .u8 x12), (.int .u8 x13), (.int .i64 x14)] 52 (0, 0)) fun a16 h15 => 
  ∃ x17 : Int, ∃ x18 : Int, ∃ x19 : Int, ∃ x20 : Int, ∃ x21 : Int, ∃ x22 : Int, ∃ x23 : Int, ∃ x24 : Int, ∃ x25 : Int, ∃ x26 : Int, ∃ x27 : Int, ∃ x28 : Int, HV Tryz.prog (Instr.loadAt 52 (.pointer (some a16))) h15 (.agg #[(.int .i64 x17), (.int .u32 x18), (.int .i64 x19), (.int .u32 x20), (.int .i64 x21), (.int .u16 x22), (.int .u16 x23), (.int .u16 x24), (.int .u16 x25), (.int .u8 x26), (.int .u8 x27), (.int .i64 x28)]) ∧ 
  CallsH Tryz.prog 72 #[(.agg #[(.int .i64 x17), (.int .u32 x18), (.int .i64 x19), (.int .u32 x20), (.int .i64 x21), (.int .u16 x22), (.int .u16 x23), (.int .u16 x24), (.int .u16 x25), (.int .u8 x26), (.int .u8 x27), (.int .i64 x28)])] h15 fun r30 h29 =>
  ∃ x31 : Int, ∃ x32 : Int, r30 = (.tuple #[(.int .i64 x31), (.int .i64 x32)]) ∧ 
  br (x31 != 0)
  (K (.int .i64 x31) h29)
  (∃ x33 : Int, HV Tryz.prog (Instr.loadAt 3 (.pointer (some a16))) h29 (.int .i64 x33) ∧ 
  CallsH Tryz.prog 73 #[(.slice A2 l2 c2), (.int .i64 x33)] h29 fun r35 h34 =>
  ∃ x36 : Int, r35 = (.int .i64 x36) ∧ 
  br (decide (x36 ≥ 0))
  (K (.int .i64 111) h34)
  (K (.int .i64 0) h34))
def table_Table_takes_lp (i : Nat) (Q : Qx) (tm : Tm) (h : Hp) : Prop := False
def table_Table_takes_cut (i : Nat) : Option (List Nat) := none
set_option maxRecDepth 100000 in
theorem table_Table_takes_eq (p1 : Option Addr) (A2 : Option Addr) (l2 : Nat) (c2 : Nat) (x3 : Int) (x4 : Int) (x5 : Int) (x6 : Int) (x7 : Int) (x8 : Int) (x9 : Int) (x10 : Int) (x11 : Int) (x12 : Int) (x13 : Int) (x14 : Int) (h : Hp) (K : Value → Hp → Prop) : table_Table_takes p1 A2 l2 c2 x3 x4 x5 x6 x7 x8 x9 x10 x11 x12 x13 x14 h K =
    codeWp Tryz.prog 22 table_Table_takes_lp table_Table_takes_cut (bodyOf Tryz.f53) 1 (endQ Tryz.prog Tryz.f53.results.toList K) (argTm [(.pointer p1), (.slice A2 l2 c2), (.agg #[(.int .i64 x3), (.int .u32 x4), (.int .i64 x5), (.int .u32 x6), (.int .i64 x7), (.int .u16 x8), (.int .u16 x9), (.int .u16 x10), (.int .u16 x11), (.int .u8 x12), (.int .u8 x13), (.int .i64 x14)])]) h := by kernel_rfl
set_option maxRecDepth 100000 in
theorem table_Table_takes_ok (p1 : Option Addr) (A2 : Option Addr) (l2 : Nat) (c2 : Nat) (x3 : Int) (x4 : Int) (x5 : Int) (x6 : Int) (x7 : Int) (x8 : Int) (x9 : Int) (x10 : Int) (x11 : Int) (x12 : Int) (x13 : Int) (x14 : Int) {h : Hp} {K : Value → Hp → Prop} (H : table_Table_takes p1 A2 l2 c2 x3 x4 x5 x6 x7 x8 x9 x10 x11 x12 x13 x14 h K) : CallsH Tryz.prog 53 #[(.pointer p1), (.slice A2 l2 c2), (.agg #[(.int .i64 x3), (.int .u32 x4), (.int .i64 x5), (.int .u32 x6), (.int .i64 x7), (.int .u16 x8), (.int .u16 x9), (.int .u16 x10), (.int .u16 x11), (.int .u8 x12), (.int .u8 x13), (.int .i64 x14)])] h K :=
  calls_of (args := [(.pointer p1), (.slice A2 l2 c2), (.agg #[(.int .i64 x3), (.int .u32 x4), (.int .i64 x5), (.int .u32 x6), (.int .i64 x7), (.int .u16 x8), (.int .u16 x9), (.int .u16 x10), (.int .u16 x11), (.int .u8 x12), (.int .u8 x13), (.int .i64 x14)])]) (n := 22) (lp := table_Table_takes_lp) (cut := table_Table_takes_cut) Tryz.func53 (c := bodyOf Tryz.f53) (by kernel_rfl) (by kernel_rfl) (by kernel_rfl) (good_by (c := (bodyOf Tryz.f53)) (i := 1) (l := []) (by kernel_rfl) (fun _ h => by cases h))
    (Eq.mp (table_Table_takes_eq p1 A2 l2 c2 x3 x4 x5 x6 x7 x8 x9 x10 x11 x12 x13 x14 h K) H)

/-! ### quintet/table.in: function 54 -/
def table_in (x1 : Int) (x2 : Int) (x3 : Int) (h : Hp) (K : Value → Hp → Prop) : Prop :=
  br (decide (x1 ≥ x2))
  (K (.bool (decide (x1 ≤ x3))) h)
  (K (.bool false) h)
def table_in_lp (i : Nat) (Q : Qx) (tm : Tm) (h : Hp) : Prop := False
def table_in_cut (i : Nat) : Option (List Nat) := none
set_option maxRecDepth 100000 in
theorem table_in_eq (x1 : Int) (x2 : Int) (x3 : Int) (h : Hp) (K : Value → Hp → Prop) : table_in x1 x2 x3 h K =
    codeWp Tryz.prog 15 table_in_lp table_in_cut (bodyOf Tryz.f54) 1 (endQ Tryz.prog Tryz.f54.results.toList K) (argTm [(.int .i64 x1), (.int .i64 x2), (.int .i64 x3)]) h := by kernel_rfl
set_option maxRecDepth 100000 in
theorem table_in_ok (x1 : Int) (x2 : Int) (x3 : Int) {h : Hp} {K : Value → Hp → Prop} (H : table_in x1 x2 x3 h K) : CallsH Tryz.prog 54 #[(.int .i64 x1), (.int .i64 x2), (.int .i64 x3)] h K :=
  calls_of (args := [(.int .i64 x1), (.int .i64 x2), (.int .i64 x3)]) (n := 15) (lp := table_in_lp) (cut := table_in_cut) Tryz.func54 (c := bodyOf Tryz.f54) (by kernel_rfl) (by kernel_rfl) (by kernel_rfl) (good_by (c := (bodyOf Tryz.f54)) (i := 1) (l := []) (by kernel_rfl) (fun _ h => by cases h))
    (Eq.mp (table_in_eq x1 x2 x3 h K) H)

/-! ### (*quintet/table.Table).lay: function 55 -/
def table_Table_lay (p1 : Option Addr) (x2 : Int) (x3 : Int) (x4 : Int) (x5 : Int) (x6 : Int) (x7 : Int) (x8 : Int) (x9 : Int) (x10 : Int) (x11 : Int) (x12 : Int) (x13 : Int) (x14 : Int) (h : Hp) (K : Value → Hp → Prop) : Prop :=
  newC h (.cells #[(.int .i64 x3), (.int .u32 x4), (.int .i64 x5), (.int .u32 x6), (.int .i64 x7), (.int .u16 x8), (.int .u16 x9), (.int .u16 x10), (.int .u16 x11), (.int .u8 x12), (.int .u8 x13), (.int .i64 x14)] 52 (0, 0)) fun a16 h15 => 
  drf p1 fun a17 =>
  ∃ A18 : Option Addr, ∃ l18 : Nat, ∃ c18 : Nat, HV Tryz.prog (Instr.loadAt 42 (.pointer (some (a17.add 7)))) h15 (.slice A18 l18 c18) ∧ 
  newC h15 (.cells #[(.int .i64 0), (.int .u32 0), (.int .i64 0), (.int .u32 0), (.int .i64 0), (.int .u16 0), (.int .u16 0), (.int .u16 0), (.int .u16 0), (.int .u8 0), (.int .u8 0), (.int .i64 0)] 52 (0, 0)) fun a20 h19 => 
  HW Tryz.prog (Builtin.append_ #[42, 42] 42 #[(.slice A18 l18 c18), (.slice (some a20) 1 1)]) h19 fun r22 h21 =>
  ∃ A23 : Option Addr, ∃ l23 : Nat, ∃ c23 : Nat, r22 = (.slice A23 l23 c23) ∧ 
  drf p1 fun a24 =>
  HU Tryz.prog (Instr.storeAt 42 (.pointer (some (a24.add 7))) (.slice A23 l23 c23)) h21 fun h25 => 
  drf p1 fun a26 =>
  ∃ A27 : Option Addr, ∃ l27 : Nat, ∃ c27 : Nat, HV Tryz.prog (Instr.loadAt 42 (.pointer (some (a26.add 7)))) h25 (.slice A27 l27 c27) ∧ 
  ∃ A28 : Option Addr, ∃ l28 : Nat, ∃ c28 : Nat, PV Tryz.prog (Instr.sliceAt 42 (.slice A27 l27 c27) (some (.int .i64 (IntKind.i64.wrap (x2 + 1)))) none none) (.slice A28 l28 c28) ∧
  drf p1 fun a29 =>
  ∃ A30 : Option Addr, ∃ l30 : Nat, ∃ c30 : Nat, HV Tryz.prog (Instr.loadAt 42 (.pointer (some (a29.add 7)))) h25 (.slice A30 l30 c30) ∧ 
  ∃ A31 : Option Addr, ∃ l31 : Nat, ∃ c31 : Nat, PV Tryz.prog (Instr.sliceAt 42 (.slice A30 l30 c30) (some (.int .i64 x2)) none none) (.slice A31 l31 c31) ∧
  HW Tryz.prog (Builtin.copy_ #[42, 42] 3 #[(.slice A28 l28 c28), (.slice A31 l31 c31)]) h25 fun r33 h32 =>
  ∃ x34 : Int, r33 = (.int .i64 x34) ∧ 
  drf p1 fun a35 =>
  ∃ A36 : Option Addr, ∃ l36 : Nat, ∃ c36 : Nat, HV Tryz.prog (Instr.loadAt 42 (.pointer (some (a35.add 7)))) h32 (.slice A36 l36 c36) ∧ 
  ∃ x37 : Int, ∃ x38 : Int, ∃ x39 : Int, ∃ x40 : Int, ∃ x41 : Int, ∃ x42 : Int, ∃ x43 : Int, ∃ x44 : Int, ∃ x45 : Int, ∃ x46 : Int, ∃ x47 : Int, ∃ x48 : Int, HV Tryz.prog (Instr.loadAt 52 (.pointer (some a16))) h32 (.agg #[(.int .i64 x37), (.int .u32 x38), (.int .i64 x39), (.int .u32 x40), (.int .i64 x41), (.int .u16 x42), (.int .u16 x43), (.int .u16 x44), (.int .u16 x45), (.int .u8 x46), (.int .u8 x47), (.int .i64 x48)]) ∧ 
  ∃ a49 : Addr, PV Tryz.prog (Instr.indexAt 42 (.slice A36 l36 c36) (.int .i64 x2)) (.pointer (some a49)) ∧
  HU Tryz.prog (Instr.storeAt 52 (.pointer (some a49)) (.agg #[(.int .i64 x37), (.int .u32 x38), (.int .i64 x39), (.int .u32 x40), (.int .i64 x41), (.int .u16 x42), (.int .u16 x43), (.int .u16 x44), (.int .u16 x45), (.int .u8 x46), (.int .u8 x47), (.int .i64 x48)])) h32 fun h50 => 
  K (.tuple #[]) h50
def table_Table_lay_lp (i : Nat) (Q : Qx) (tm : Tm) (h : Hp) : Prop := False
def table_Table_lay_cut (i : Nat) : Option (List Nat) := none
set_option maxRecDepth 100000 in
theorem table_Table_lay_eq (p1 : Option Addr) (x2 : Int) (x3 : Int) (x4 : Int) (x5 : Int) (x6 : Int) (x7 : Int) (x8 : Int) (x9 : Int) (x10 : Int) (x11 : Int) (x12 : Int) (x13 : Int) (x14 : Int) (h : Hp) (K : Value → Hp → Prop) : table_Table_lay p1 x2 x3 x4 x5 x6 x7 x8 x9 x10 x11 x12 x13 x14 h K =
    codeWp Tryz.prog 37 table_Table_lay_lp table_Table_lay_cut (bodyOf Tryz.f55) 1 (endQ Tryz.prog Tryz.f55.results.toList K) (argTm [(.pointer p1), (.int .i64 x2), (.agg #[(.int .i64 x3), (.int .u32 x4), (.int .i64 x5), (.int .u32 x6), (.int .i64 x7), (.int .u16 x8), (.int .u16 x9), (.int .u16 x10), (.int .u16 x11), (.int .u8 x12), (.int .u8 x13), (.int .i64 x14)])]) h := by kernel_rfl
set_option maxRecDepth 100000 in
theorem table_Table_lay_ok (p1 : Option Addr) (x2 : Int) (x3 : Int) (x4 : Int) (x5 : Int) (x6 : Int) (x7 : Int) (x8 : Int) (x9 : Int) (x10 : Int) (x11 : Int) (x12 : Int) (x13 : Int) (x14 : Int) {h : Hp} {K : Value → Hp → Prop} (H : table_Table_lay p1 x2 x3 x4 x5 x6 x7 x8 x9 x10 x11 x12 x13 x14 h K) : CallsH Tryz.prog 55 #[(.pointer p1), (.int .i64 x2), (.agg #[(.int .i64 x3), (.int .u32 x4), (.int .i64 x5), (.int .u32 x6), (.int .i64 x7), (.int .u16 x8), (.int .u16 x9), (.int .u16 x10), (.int .u16 x11), (.int .u8 x12), (.int .u8 x13), (.int .i64 x14)])] h K :=
  calls_of (args := [(.pointer p1), (.int .i64 x2), (.agg #[(.int .i64 x3), (.int .u32 x4), (.int .i64 x5), (.int .u32 x6), (.int .i64 x7), (.int .u16 x8), (.int .u16 x9), (.int .u16 x10), (.int .u16 x11), (.int .u8 x12), (.int .u8 x13), (.int .i64 x14)])]) (n := 37) (lp := table_Table_lay_lp) (cut := table_Table_lay_cut) Tryz.func55 (c := bodyOf Tryz.f55) (by kernel_rfl) (by kernel_rfl) (by kernel_rfl) (good_by (c := (bodyOf Tryz.f55)) (i := 1) (l := []) (by kernel_rfl) (fun _ h => by cases h))
    (Eq.mp (table_Table_lay_eq p1 x2 x3 x4 x5 x6 x7 x8 x9 x10 x11 x12 x13 x14 h K) H)

/-! ### quintet/table.find: function 73 -/
def table_find_l1 (A3 : Option Addr) (l3 : Nat) (c3 : Nat) (x4 : Int) (x5 : Int) (K0 : Int → Hp → Prop) (K1 : Hp → Prop)  : Nat → Int → Hp → Prop
  | 0, _, _ => False
  | k + 1, x6, h =>
    br (decide (x6 < x5))
    (∃ a10 : Addr, PV Tryz.prog (Instr.indexAt 42 (.slice A3 l3 c3) (.int .i64 x6)) (.pointer (some a10)) ∧
    ∃ x11 : Int, HV Tryz.prog (Instr.loadAt 3 (.pointer (some a10))) h (.int .i64 x11) ∧ 
    br (x11 == x4)
    (K0 x6 h)
    (table_find_l1 A3 l3 c3 x4 x5 K0 K1 k (IntKind.i64.wrap (x6 + 1)) h))
    (K1 h)
def table_find_l1_L (Q : Qx) (k : Nat) (tm : Tm) (h : Hp) : Prop :=
  selS (tm 0) fun A3 l3 c3 =>
  selI .i64 (tm 1) fun x4 =>
  selI .i64 (tm 7) fun x5 =>
  selI .i64 (tm 8) fun x6 =>
  table_find_l1 A3 l3 c3 x4 x5 (fun (x9 : Int) h => Q (.ret) (mkTm [(4, some (.int .i64 x9))]) h) (fun  h => Q (.exit 0) (mkTm []) h) k x6 h
def table_find (A1 : Option Addr) (l1 : Nat) (c1 : Nat) (x2 : Int) (h : Hp) (K : Value → Hp → Prop) : Prop :=
  ∃ k15, table_find_l1 A1 l1 c1 x2 (l1 : Int)
  (fun (x12 : Int) (h13 : Hp) =>
  K (.int .i64 x12) h13)
  (fun  (h14 : Hp) =>
  K (.int .i64 (-1)) h14)
  k15 0 h
def table_find_lp (i : Nat) (Q : Qx) (tm : Tm) (h : Hp) : Prop := match Nat.beq i 26 with
  | true => ∃ k, table_find_l1_L Q k tm h
  | false => False
def table_find_cut (i : Nat) : Option (List Nat) := none
set_option maxRecDepth 100000 in
theorem table_find_l1_step (Q : Qx) (k : Nat) (A3 : Option Addr) (l3 : Nat) (c3 : Nat) (x4 : Int) (x5 : Int) (x6 : Int) (h : Hp) : table_find_l1_L Q (k + 1) (mkTm [(0, some (.slice A3 l3 c3)), (1, some (.int .i64 x4)), (7, some (.int .i64 x5)), (8, some (.int .i64 x6))]) h =
    codeWp Tryz.prog 20 table_find_lp table_find_cut (sub (bodyOf Tryz.f73) [true, false, true, false, false]) 52 (thenQ (fun tm h => table_find_l1_L Q k (mask [0, 1, 7, 8] tm) h) (maskQ (fun e => match e with | .ret => [4] | .exit 0 => [] | _ => []) Q)) (mkTm [(0, some (.slice A3 l3 c3)), (1, some (.int .i64 x4)), (7, some (.int .i64 x5)), (8, some (.int .i64 x6))]) h := by kernel_rfl
theorem table_find_l1_mask (Q : Qx) (k : Nat) (tm : Tm) (h : Hp) : table_find_l1_L Q k tm h ↔ table_find_l1_L Q k (mask [0, 1, 7, 8] tm) h := Iff.rfl
set_option maxRecDepth 100000 in
theorem table_find_l1_snd : SndAt Tryz.prog 20 none (sub (bodyOf Tryz.f73) [true, false, true, false]) (table_find_lp 26) := by
  refine loop_sound (lp := table_find_lp) (cut := table_find_cut) (i := 26) (c := (sub (bodyOf Tryz.f73) [true, false, true, false, false])) [0, 1, 7, 8] (fun e => match e with | .ret => [4] | .exit 0 => [] | _ => []) table_find_l1_L ?_ ?_ ?_
  · exact good_by (c := (sub (bodyOf Tryz.f73) [true, false, true, false, false])) (i := 52) (l := []) (by kernel_rfl) (fun _ h => by cases h)
  · intro Q tm h H
    obtain ⟨A3, l3, c3, e0, H⟩ := selS_ex H
    obtain ⟨x4, e1, H⟩ := selI_ex H
    obtain ⟨x5, e7, H⟩ := selI_ex H
    obtain ⟨x6, e8, H⟩ := selI_ex H
    exact H
  · intro Q k tm h H
    have H0 := H
    obtain ⟨A3, l3, c3, e0, H⟩ := selS_ex H
    obtain ⟨x4, e1, H⟩ := selI_ex H
    obtain ⟨x5, e7, H⟩ := selI_ex H
    obtain ⟨x6, e8, H⟩ := selI_ex H
    have e : mask [0, 1, 7, 8] tm = mkTm [(0, some (.slice A3 l3 c3)), (1, some (.int .i64 x4)), (7, some (.int .i64 x5)), (8, some (.int .i64 x6))] := by simp only [mask, List.map_cons, List.map_nil, e0, e1, e7, e8] <;> rfl
    rw [e]
    refine Eq.mp (table_find_l1_step Q k A3 l3 c3 x4 x5 x6 h) ?_
    rw [← e]
    exact (table_find_l1_mask Q (k + 1) tm h).mp H0
set_option maxRecDepth 100000 in
theorem table_find_eq (A1 : Option Addr) (l1 : Nat) (c1 : Nat) (x2 : Int) (h : Hp) (K : Value → Hp → Prop) : table_find A1 l1 c1 x2 h K =
    codeWp Tryz.prog 20 table_find_lp table_find_cut (bodyOf Tryz.f73) 1 (endQ Tryz.prog Tryz.f73.results.toList K) (argTm [(.slice A1 l1 c1), (.int .i64 x2)]) h := by kernel_rfl
set_option maxRecDepth 100000 in
theorem table_find_ok (A1 : Option Addr) (l1 : Nat) (c1 : Nat) (x2 : Int) {h : Hp} {K : Value → Hp → Prop} (H : table_find A1 l1 c1 x2 h K) : CallsH Tryz.prog 73 #[(.slice A1 l1 c1), (.int .i64 x2)] h K :=
  calls_of (args := [(.slice A1 l1 c1), (.int .i64 x2)]) (n := 20) (lp := table_find_lp) (cut := table_find_cut) Tryz.func73 (c := bodyOf Tryz.f73) (by kernel_rfl) (by kernel_rfl) (by kernel_rfl) (good_by (c := (bodyOf Tryz.f73)) (i := 1) (l := [(26, (sub (bodyOf Tryz.f73) [true, false, true, false]))]) (by kernel_rfl) (List.forall_mem_cons.2 ⟨table_find_l1_snd, (fun _ h => by cases h)⟩))
    (Eq.mp (table_find_eq A1 l1 c1 x2 h K) H)

/-! ### (*quintet/table.Table).Delete: function 135 -/
def table_Table_Delete (p1 : Option Addr) (x2 : Int) (h : Hp) (K : Value → Hp → Prop) : Prop :=
  ∃ b3 : Bool, PV Tryz.prog (binOp .eql 67 (.pointer p1) (.pointer none)) (.bool b3) ∧
  br b3
  (K (.int .i64 3) h)
  (drf p1 fun a4 =>
  ∃ A5 : Option Addr, ∃ l5 : Nat, ∃ c5 : Nat, HV Tryz.prog (Instr.loadAt 42 (.pointer (some (a4.add 7)))) h (.slice A5 l5 c5) ∧ 
  CallsH Tryz.prog 73 #[(.slice A5 l5 c5), (.int .i64 x2)] h fun r7 h6 =>
  ∃ x8 : Int, r7 = (.int .i64 x8) ∧ 
  br (decide (x8 < 0))
  (K (.int .i64 114) h6)
  (CallsH Tryz.prog 138 #[(.pointer p1), (.int .i64 x8)] h6 fun r10 h9 =>
  r10 = (.tuple #[]) ∧ 
  K (.int .i64 0) h9))
def table_Table_Delete_lp (i : Nat) (Q : Qx) (tm : Tm) (h : Hp) : Prop := False
def table_Table_Delete_cut (i : Nat) : Option (List Nat) := none
set_option maxRecDepth 100000 in
theorem table_Table_Delete_eq (p1 : Option Addr) (x2 : Int) (h : Hp) (K : Value → Hp → Prop) : table_Table_Delete p1 x2 h K =
    codeWp Tryz.prog 19 table_Table_Delete_lp table_Table_Delete_cut (bodyOf Tryz.f135) 1 (endQ Tryz.prog Tryz.f135.results.toList K) (argTm [(.pointer p1), (.int .i64 x2)]) h := by kernel_rfl
set_option maxRecDepth 100000 in
theorem table_Table_Delete_ok (p1 : Option Addr) (x2 : Int) {h : Hp} {K : Value → Hp → Prop} (H : table_Table_Delete p1 x2 h K) : CallsH Tryz.prog 135 #[(.pointer p1), (.int .i64 x2)] h K :=
  calls_of (args := [(.pointer p1), (.int .i64 x2)]) (n := 19) (lp := table_Table_Delete_lp) (cut := table_Table_Delete_cut) Tryz.func135 (c := bodyOf Tryz.f135) (by kernel_rfl) (by kernel_rfl) (by kernel_rfl) (good_by (c := (bodyOf Tryz.f135)) (i := 1) (l := []) (by kernel_rfl) (fun _ h => by cases h))
    (Eq.mp (table_Table_Delete_eq p1 x2 h K) H)

/-! ### (*quintet/table.Table).Set: function 137 -/
def table_Table_Set_l1 (p4 : Option Addr) (A5 : Option Addr) (l5 : Nat) (c5 : Nat) (A6 : Option Addr) (l6 : Nat) (c6 : Nat) (x7 : Int) (K0 : Int → Hp → Prop) (K1 : (Option Addr) → (Option Addr) → Nat → Nat → Hp → Prop)  : Nat → Int → Hp → Prop
  | 0, _, _ => False
  | k + 1, x8, h =>
    br (decide (x8 < x7))
    (∃ a46 : Addr, PV Tryz.prog (Instr.indexAt 42 (.slice A6 l6 c6) (.int .i64 x8)) (.pointer (some a46)) ∧
    ∃ x47 : Int, ∃ x48 : Int, ∃ x49 : Int, ∃ x50 : Int, ∃ x51 : Int, ∃ x52 : Int, ∃ x53 : Int, ∃ x54 : Int, ∃ x55 : Int, ∃ x56 : Int, ∃ x57 : Int, ∃ x58 : Int, HV Tryz.prog (Instr.loadAt 52 (.pointer (some a46))) h (.agg #[(.int .i64 x47), (.int .u32 x48), (.int .i64 x49), (.int .u32 x50), (.int .i64 x51), (.int .u16 x52), (.int .u16 x53), (.int .u16 x54), (.int .u16 x55), (.int .u8 x56), (.int .u8 x57), (.int .i64 x58)]) ∧ 
    newC h (.cells #[(.int .i64 0), (.int .u32 0), (.int .i64 0), (.int .u32 0), (.int .i64 0), (.int .u16 0), (.int .u16 0), (.int .u16 0), (.int .u16 0), (.int .u8 0), (.int .u8 0), (.int .i64 0)] 52 (0, 0)) fun a60 h59 => 
    HU Tryz.prog (Instr.storeAt 52 (.pointer (some a60)) (.agg #[(.int .i64 x47), (.int .u32 x48), (.int .i64 x49), (.int .u32 x50), (.int .i64 x51), (.int .u16 x52), (.int .u16 x53), (.int .u16 x54), (.int .u16 x55), (.int .u8 x56), (.int .u8 x57), (.int .i64 x58)])) h59 fun h61 => 
    ∃ A62 : Option Addr, ∃ l62 : Nat, ∃ c62 : Nat, PV Tryz.prog (Instr.sliceAt 42 (.slice A5 l5 c5) none (some (.int .i64 x8)) none) (.slice A62 l62 c62) ∧
    ∃ x63 : Int, ∃ x64 : Int, ∃ x65 : Int, ∃ x66 : Int, ∃ x67 : Int, ∃ x68 : Int, ∃ x69 : Int, ∃ x70 : Int, ∃ x71 : Int, ∃ x72 : Int, ∃ x73 : Int, ∃ x74 : Int, HV Tryz.prog (Instr.loadAt 52 (.pointer (some a60))) h61 (.agg #[(.int .i64 x63), (.int .u32 x64), (.int .i64 x65), (.int .u32 x66), (.int .i64 x67), (.int .u16 x68), (.int .u16 x69), (.int .u16 x70), (.int .u16 x71), (.int .u8 x72), (.int .u8 x73), (.int .i64 x74)]) ∧ 
    CallsH Tryz.prog 53 #[(.pointer p4), (.slice A62 l62 c62), (.agg #[(.int .i64 x63), (.int .u32 x64), (.int .i64 x65), (.int .u32 x66), (.int .i64 x67), (.int .u16 x68), (.int .u16 x69), (.int .u16 x70), (.int .u16 x71), (.int .u8 x72), (.int .u8 x73), (.int .i64 x74)])] h61 fun r76 h75 =>
    ∃ x77 : Int, r76 = (.int .i64 x77) ∧ 
    br (x77 != 0)
    (K0 x77 h75)
    (drf p4 fun a78 =>
    ∃ x79 : Int, HV Tryz.prog (Instr.loadAt 3 (.pointer (some a78))) h75 (.int .i64 x79) ∧ 
    br (decide (x8 ≥ x79))
    (K0 113 h75)
    (table_Table_Set_l1 p4 A5 l5 c5 A6 l6 c6 x7 K0 K1 k (IntKind.i64.wrap (x8 + 1)) h75)))
    (K1 p4 A5 l5 c5 h)
def table_Table_Set_l1_L (Q : Qx) (k : Nat) (tm : Tm) (h : Hp) : Prop :=
  selP (tm 0) fun p4 =>
  selS (tm 1) fun A5 l5 c5 =>
  selS (tm 10) fun A6 l6 c6 =>
  selI .i64 (tm 11) fun x7 =>
  selI .i64 (tm 12) fun x8 =>
  table_Table_Set_l1 p4 A5 l5 c5 A6 l6 c6 x7 (fun (x43 : Int) h => Q (.ret) (mkTm [(4, some (.int .i64 x43))]) h) (fun (p44 : Option Addr) (A45 : Option Addr) (l45 : Nat) (c45 : Nat) h => Q (.exit 0) (mkTm [(0, some (.pointer p44)), (1, some (.slice A45 l45 c45))]) h) k x8 h
def table_Table_Set (p1 : Option Addr) (A2 : Option Addr) (l2 : Nat) (c2 : Nat) (h : Hp) (K : Value → Hp → Prop) : Prop :=
  ∃ b3 : Bool, PV Tryz.prog (binOp .eql 67 (.pointer p1) (.pointer none)) (.bool b3) ∧
  br b3
  (K (.int .i64 3) h)
  (∃ k95, table_Table_Set_l1 p1 A2 l2 c2 A2 l2 c2 (l2 : Int)
  (fun (x80 : Int) (h81 : Hp) =>
  K (.int .i64 x80) h81)
  (fun (p82 : Option Addr) (A83 : Option Addr) (l83 : Nat) (c83 : Nat) (h84 : Hp) =>
  HW Tryz.prog (Instr.makeSlice 42 (.int .i64 (l83 : Int)) (.int .i64 (l83 : Int))) h84 fun r86 h85 =>
  ∃ A87 : Option Addr, ∃ l87 : Nat, ∃ c87 : Nat, r86 = (.slice A87 l87 c87) ∧ 
  drf p82 fun a88 =>
  HU Tryz.prog (Instr.storeAt 42 (.pointer (some (a88.add 7))) (.slice A87 l87 c87)) h85 fun h89 => 
  drf p82 fun a90 =>
  ∃ A91 : Option Addr, ∃ l91 : Nat, ∃ c91 : Nat, HV Tryz.prog (Instr.loadAt 42 (.pointer (some (a90.add 7)))) h89 (.slice A91 l91 c91) ∧ 
  HW Tryz.prog (Builtin.copy_ #[42, 42] 3 #[(.slice A91 l91 c91), (.slice A83 l83 c83)]) h89 fun r93 h92 =>
  ∃ x94 : Int, r93 = (.int .i64 x94) ∧ 
  K (.int .i64 0) h92)
  k95 0 h)
def table_Table_Set_lp (i : Nat) (Q : Qx) (tm : Tm) (h : Hp) : Prop := match Nat.beq i 58 with
  | true => ∃ k, table_Table_Set_l1_L Q k tm h
  | false => False
def table_Table_Set_cut (i : Nat) : Option (List Nat) := none
set_option maxRecDepth 100000 in
theorem table_Table_Set_l1_step (Q : Qx) (k : Nat) (p4 : Option Addr) (A5 : Option Addr) (l5 : Nat) (c5 : Nat) (A6 : Option Addr) (l6 : Nat) (c6 : Nat) (x7 : Int) (x8 : Int) (h : Hp) : table_Table_Set_l1_L Q (k + 1) (mkTm [(0, some (.pointer p4)), (1, some (.slice A5 l5 c5)), (10, some (.slice A6 l6 c6)), (11, some (.int .i64 x7)), (12, some (.int .i64 x8))]) h =
    codeWp Tryz.prog 46 table_Table_Set_lp table_Table_Set_cut (sub (bodyOf Tryz.f137) [true, true, false, true, false, false]) 116 (thenQ (fun tm h => table_Table_Set_l1_L Q k (mask [0, 1, 10, 11, 12] tm) h) (maskQ (fun e => match e with | .ret => [4] | .exit 0 => [0, 1] | _ => []) Q)) (mkTm [(0, some (.pointer p4)), (1, some (.slice A5 l5 c5)), (10, some (.slice A6 l6 c6)), (11, some (.int .i64 x7)), (12, some (.int .i64 x8))]) h := by kernel_rfl
theorem table_Table_Set_l1_mask (Q : Qx) (k : Nat) (tm : Tm) (h : Hp) : table_Table_Set_l1_L Q k tm h ↔ table_Table_Set_l1_L Q k (mask [0, 1, 10, 11, 12] tm) h := Iff.rfl
set_option maxRecDepth 100000 in
theorem table_Table_Set_l1_snd : SndAt Tryz.prog 46 none (sub (bodyOf Tryz.f137) [true, true, false, true, false]) (table_Table_Set_lp 58) := by
  refine loop_sound (lp := table_Table_Set_lp) (cut := table_Table_Set_cut) (i := 58) (c := (sub (bodyOf Tryz.f137) [true, true, false, true, false, false])) [0, 1, 10, 11, 12] (fun e => match e with | .ret => [4] | .exit 0 => [0, 1] | _ => []) table_Table_Set_l1_L ?_ ?_ ?_
  · exact good_by (c := (sub (bodyOf Tryz.f137) [true, true, false, true, false, false])) (i := 116) (l := []) (by kernel_rfl) (fun _ h => by cases h)
  · intro Q tm h H
    obtain ⟨p4, e0, H⟩ := selP_ex H
    obtain ⟨A5, l5, c5, e1, H⟩ := selS_ex H
    obtain ⟨A6, l6, c6, e10, H⟩ := selS_ex H
    obtain ⟨x7, e11, H⟩ := selI_ex H
    obtain ⟨x8, e12, H⟩ := selI_ex H
    exact H
  · intro Q k tm h H
    have H0 := H
    obtain ⟨p4, e0, H⟩ := selP_ex H
    obtain ⟨A5, l5, c5, e1, H⟩ := selS_ex H
    obtain ⟨A6, l6, c6, e10, H⟩ := selS_ex H
    obtain ⟨x7, e11, H⟩ := selI_ex H
    obtain ⟨x8, e12, H⟩ := selI_ex H
    have e : mask [0, 1, 10, 11, 12] tm = mkTm [(0, some (.pointer p4)), (1, some (.slice A5 l5 c5)), (10, some (.slice A6 l6 c6)), (11, some (.int .i64 x7)), (12, some (.int .i64 x8))] := by simp only [mask, List.map_cons, List.map_nil, e0, e1, e10, e11, e12] <;> rfl
    rw [e]
    refine Eq.mp (table_Table_Set_l1_step Q k p4 A5 l5 c5 A6 l6 c6 x7 x8 h) ?_
    rw [← e]
    exact (table_Table_Set_l1_mask Q (k + 1) tm h).mp H0
set_option maxRecDepth 100000 in
theorem table_Table_Set_eq (p1 : Option Addr) (A2 : Option Addr) (l2 : Nat) (c2 : Nat) (h : Hp) (K : Value → Hp → Prop) : table_Table_Set p1 A2 l2 c2 h K =
    codeWp Tryz.prog 46 table_Table_Set_lp table_Table_Set_cut (bodyOf Tryz.f137) 1 (endQ Tryz.prog Tryz.f137.results.toList K) (argTm [(.pointer p1), (.slice A2 l2 c2)]) h := by kernel_rfl
set_option maxRecDepth 100000 in
theorem table_Table_Set_ok (p1 : Option Addr) (A2 : Option Addr) (l2 : Nat) (c2 : Nat) {h : Hp} {K : Value → Hp → Prop} (H : table_Table_Set p1 A2 l2 c2 h K) : CallsH Tryz.prog 137 #[(.pointer p1), (.slice A2 l2 c2)] h K :=
  calls_of (args := [(.pointer p1), (.slice A2 l2 c2)]) (n := 46) (lp := table_Table_Set_lp) (cut := table_Table_Set_cut) Tryz.func137 (c := bodyOf Tryz.f137) (by kernel_rfl) (by kernel_rfl) (by kernel_rfl) (good_by (c := (bodyOf Tryz.f137)) (i := 1) (l := [(58, (sub (bodyOf Tryz.f137) [true, true, false, true, false]))]) (by kernel_rfl) (List.forall_mem_cons.2 ⟨table_Table_Set_l1_snd, (fun _ h => by cases h)⟩))
    (Eq.mp (table_Table_Set_eq p1 A2 l2 c2 h K) H)

/-! ### (*quintet/table.Table).lift: function 138 -/
def table_Table_lift (p1 : Option Addr) (x2 : Int) (h : Hp) (K : Value → Hp → Prop) : Prop :=
  drf p1 fun a3 =>
  ∃ A4 : Option Addr, ∃ l4 : Nat, ∃ c4 : Nat, HV Tryz.prog (Instr.loadAt 42 (.pointer (some (a3.add 7)))) h (.slice A4 l4 c4) ∧ 
  ∃ A5 : Option Addr, ∃ l5 : Nat, ∃ c5 : Nat, PV Tryz.prog (Instr.sliceAt 42 (.slice A4 l4 c4) (some (.int .i64 x2)) none none) (.slice A5 l5 c5) ∧
  drf p1 fun a6 =>
  ∃ A7 : Option Addr, ∃ l7 : Nat, ∃ c7 : Nat, HV Tryz.prog (Instr.loadAt 42 (.pointer (some (a6.add 7)))) h (.slice A7 l7 c7) ∧ 
  ∃ A8 : Option Addr, ∃ l8 : Nat, ∃ c8 : Nat, PV Tryz.prog (Instr.sliceAt 42 (.slice A7 l7 c7) (some (.int .i64 (IntKind.i64.wrap (x2 + 1)))) none none) (.slice A8 l8 c8) ∧
  HW Tryz.prog (Builtin.copy_ #[42, 42] 3 #[(.slice A5 l5 c5), (.slice A8 l8 c8)]) h fun r10 h9 =>
  ∃ x11 : Int, r10 = (.int .i64 x11) ∧ 
  drf p1 fun a12 =>
  ∃ A13 : Option Addr, ∃ l13 : Nat, ∃ c13 : Nat, HV Tryz.prog (Instr.loadAt 42 (.pointer (some (a12.add 7)))) h9 (.slice A13 l13 c13) ∧ 
  drf p1 fun a14 =>
  ∃ A15 : Option Addr, ∃ l15 : Nat, ∃ c15 : Nat, HV Tryz.prog (Instr.loadAt 42 (.pointer (some (a14.add 7)))) h9 (.slice A15 l15 c15) ∧ 
  ∃ A16 : Option Addr, ∃ l16 : Nat, ∃ c16 : Nat, PV Tryz.prog (Instr.sliceAt 42 (.slice A13 l13 c13) none (some (.int .i64 (IntKind.i64.wrap ((l15 : Int) - 1)))) none) (.slice A16 l16 c16) ∧
  drf p1 fun a17 =>
  HU Tryz.prog (Instr.storeAt 42 (.pointer (some (a17.add 7))) (.slice A16 l16 c16)) h9 fun h18 => 
  K (.tuple #[]) h18
def table_Table_lift_lp (i : Nat) (Q : Qx) (tm : Tm) (h : Hp) : Prop := False
def table_Table_lift_cut (i : Nat) : Option (List Nat) := none
set_option maxRecDepth 100000 in
theorem table_Table_lift_eq (p1 : Option Addr) (x2 : Int) (h : Hp) (K : Value → Hp → Prop) : table_Table_lift p1 x2 h K =
    codeWp Tryz.prog 32 table_Table_lift_lp table_Table_lift_cut (bodyOf Tryz.f138) 1 (endQ Tryz.prog Tryz.f138.results.toList K) (argTm [(.pointer p1), (.int .i64 x2)]) h := by kernel_rfl
set_option maxRecDepth 100000 in
theorem table_Table_lift_ok (p1 : Option Addr) (x2 : Int) {h : Hp} {K : Value → Hp → Prop} (H : table_Table_lift p1 x2 h K) : CallsH Tryz.prog 138 #[(.pointer p1), (.int .i64 x2)] h K :=
  calls_of (args := [(.pointer p1), (.int .i64 x2)]) (n := 32) (lp := table_Table_lift_lp) (cut := table_Table_lift_cut) Tryz.func138 (c := bodyOf Tryz.f138) (by kernel_rfl) (by kernel_rfl) (by kernel_rfl) (good_by (c := (bodyOf Tryz.f138)) (i := 1) (l := []) (by kernel_rfl) (fun _ h => by cases h))
    (Eq.mp (table_Table_lift_eq p1 x2 h K) H)

end Go.Proofs.YtomhkbhgpmcbiaaGreat.Fs
