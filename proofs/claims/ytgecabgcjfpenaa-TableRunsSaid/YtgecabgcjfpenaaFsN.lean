/- Printed by sx.py: words over the heap alone for Go functions, and that each call does what its word says. -/
import Derived.Test.YtgecabgcjfpenaaSxSel
import Derived.Test.YtgecabgcjfpenaaSxRange
import Derived.Test.YtgecabgcjfpenaaProg
namespace Go.Proofs.Ytgecabgcjfpenaa.Fs
open Go Go.RowKit Go.Proofs.Ytgecabgcjfpenaa.Sx
set_option linter.unusedVariables false

/-! ### quintet/quintetlaw11.TableNil: function 8 -/
def quintetlaw11_TableNil (x1 : Int) (x2 : Int) (x3 : Int) (x4 : Int) (x5 : Int) (x6 : Int) (x7 : Int) (x8 : Int) (x9 : Int) (x10 : Int) (x11 : Int) (x12 : Int) (x13 : Int) (x14 : Int) (x15 : Int) (x16 : Int) (x17 : Int) (x18 : Int) (x19 : Int) (x20 : Int) (A21 : Option Addr) (l21 : Nat) (c21 : Nat) (h : Hp) (K : Value → Hp → Prop) : Prop :=
  newC h (.cells #[(.int .i64 x1), (.int .i64 x2), (.int .i64 x3), (.int .i64 x4), (.int .u32 x5), (.int .i64 x6), (.int .u32 x7), (.int .i64 x8), (.int .u16 x9), (.int .u16 x10), (.int .u16 x11), (.int .u16 x12), (.int .u8 x13), (.int .u8 x14), (.int .i64 x15), (.int .u32 x16), (.int .u32 x17), (.int .u16 x18), (.int .u16 x19), (.int .u8 x20), (.slice A21 l21 c21)] 66 (0, 0)) fun a23 h22 => 
  newC h22 (.cells #[(.bool false)] 4 (0, 0)) fun a25 h24 => 
  ∃ x26 : Int, HV Try.prog (Instr.loadAt 3 (.pointer (some (a23.add 1)))) h24 (.int .i64 x26) ∧ 
  ∃ x27 : Int, ∃ x28 : Int, ∃ x29 : Int, ∃ x30 : Int, ∃ x31 : Int, ∃ x32 : Int, ∃ x33 : Int, ∃ x34 : Int, ∃ x35 : Int, ∃ x36 : Int, ∃ x37 : Int, ∃ x38 : Int, HV Try.prog (Instr.loadAt 55 (.pointer (some (a23.add 3)))) h24 (.agg #[(.int .i64 x27), (.int .u32 x28), (.int .i64 x29), (.int .u32 x30), (.int .i64 x31), (.int .u16 x32), (.int .u16 x33), (.int .u16 x34), (.int .u16 x35), (.int .u8 x36), (.int .u8 x37), (.int .i64 x38)]) ∧ 
  CallsH Try.prog 19 #[(.pointer none), (.int .i64 x26), (.agg #[(.int .i64 x27), (.int .u32 x28), (.int .i64 x29), (.int .u32 x30), (.int .i64 x31), (.int .u16 x32), (.int .u16 x33), (.int .u16 x34), (.int .u16 x35), (.int .u8 x36), (.int .u8 x37), (.int .i64 x38)])] h24 fun r40 h39 =>
  ∃ x41 : Int, r40 = (.int .i64 x41) ∧ 
  ∃ x42 : Int, HV Try.prog (Instr.loadAt 3 (.pointer (some (a23.add 2)))) h39 (.int .i64 x42) ∧ 
  CallsH Try.prog 23 #[(.pointer none), (.int .i64 x42)] h39 fun r44 h43 =>
  ∃ x45 : Int, r44 = (.int .i64 x45) ∧ 
  ∃ x46 : Int, HV Try.prog (Instr.loadAt 3 (.pointer (some (a23.add 2)))) h43 (.int .i64 x46) ∧ 
  ∃ x47 : Int, HV Try.prog (Instr.loadAt 3 (.pointer (some (a23.add 1)))) h43 (.int .i64 x47) ∧ 
  CallsH Try.prog 28 #[(.pointer none), (.int .i64 x46), (.int .i64 x47)] h43 fun r49 h48 =>
  ∃ x50 : Int, r49 = (.int .i64 x50) ∧ 
  CallsH Try.prog 14 #[(.pointer none), (.slice none 0 0)] h48 fun r52 h51 =>
  ∃ x53 : Int, r52 = (.int .i64 x53) ∧ 
  ∃ x54 : Int, HV Try.prog (Instr.loadAt 3 (.pointer (some (a23.add 1)))) h51 (.int .i64 x54) ∧ 
  CallsH Try.prog 21 #[(.pointer none), (.int .i64 x54)] h51 fun r56 h55 =>
  ∃ x57 : Int, ∃ x58 : Int, ∃ x59 : Int, ∃ x60 : Int, ∃ x61 : Int, ∃ x62 : Int, ∃ x63 : Int, ∃ x64 : Int, ∃ x65 : Int, ∃ x66 : Int, ∃ x67 : Int, ∃ x68 : Int, ∃ x69 : Int, r56 = (.tuple #[(.agg #[(.int .i64 x57), (.int .u32 x58), (.int .i64 x59), (.int .u32 x60), (.int .i64 x61), (.int .u16 x62), (.int .u16 x63), (.int .u16 x64), (.int .u16 x65), (.int .u8 x66), (.int .u8 x67), (.int .i64 x68)]), (.int .i64 x69)]) ∧ 
  newC h55 (.cells #[(.int .i64 0), (.int .u32 0), (.int .i64 0), (.int .u32 0), (.int .i64 0), (.int .u16 0), (.int .u16 0), (.int .u16 0), (.int .u16 0), (.int .u8 0), (.int .u8 0), (.int .i64 0)] 55 (0, 0)) fun a71 h70 => 
  HU Try.prog (Instr.storeAt 55 (.pointer (some a71)) (.agg #[(.int .i64 x57), (.int .u32 x58), (.int .i64 x59), (.int .u32 x60), (.int .i64 x61), (.int .u16 x62), (.int .u16 x63), (.int .u16 x64), (.int .u16 x65), (.int .u8 x66), (.int .u8 x67), (.int .i64 x68)])) h70 fun h72 => 
  ∃ x73 : Int, ∃ x74 : Int, ∃ x75 : Int, ∃ x76 : Int, ∃ x77 : Int, HV Try.prog (Instr.loadAt 36 (.pointer (some (a23.add 15)))) h72 (.agg #[(.int .u32 x73), (.int .u32 x74), (.int .u16 x75), (.int .u16 x76), (.int .u8 x77)]) ∧ 
  CallsH Try.prog 16 #[(.pointer none), (.agg #[(.int .u32 x73), (.int .u32 x74), (.int .u16 x75), (.int .u16 x76), (.int .u8 x77)])] h72 fun r79 h78 =>
  ∃ b80 : Bool, ∃ x81 : Int, ∃ x82 : Int, ∃ x83 : Int, r79 = (.tuple #[(.agg #[(.bool b80), (.int .i64 x81), (.int .i64 x82)]), (.int .i64 x83)]) ∧ 
  newC h78 (.cells #[(.bool false), (.int .i64 0), (.int .i64 0)] 40 (0, 0)) fun a85 h84 => 
  HU Try.prog (Instr.storeAt 40 (.pointer (some a85)) (.agg #[(.bool b80), (.int .i64 x81), (.int .i64 x82)])) h84 fun h86 => 
  CallsH Try.prog 29 #[(.pointer none)] h86 fun r88 h87 =>
  ∃ v89 : Value, r88 = v89 ∧ 
  ∃ b90 : Bool, PV Try.prog (binOp .eql 74 v89 .nilFunc) (.bool b90) ∧
  br b90
  (HU Try.prog (Instr.storeAt 4 (.pointer (some a25)) (.bool false)) h87 fun h91 => 
  shut [] h91 fun h92 =>
  ∃ b93 : Bool, HV Try.prog (Instr.loadAt 4 (.pointer (some a25))) h92 (.bool b93) ∧ K (.bool b93) h92)
  (RangeW Try.prog 107 v89 #[51, 52] (sub (bodyOf Try.f8) [true, true, true, true, true, true, true, true, true, true, false, true, false, false]) (sub (bodyOf Try.f8) [true, true, true, true, true, true, true, true, true, true, false, true, false, true]) (mkTm [(2, some (.pointer (some a25)))]) h87
  (fun (D94 : Nat) (h95 : Hp) =>
  br (x41 == 3)
  (br (x45 == 3)
  (br (x50 == 3)
  (br (x53 == 3)
  (CallsH Try.prog 12 #[] h95 fun r100 h99 =>
  ∃ b101 : Bool, r100 = (.bool b101) ∧ 
  br b101
  (br (x69 == 3)
  (∃ x102 : Int, ∃ x103 : Int, ∃ x104 : Int, ∃ x105 : Int, ∃ x106 : Int, ∃ x107 : Int, ∃ x108 : Int, ∃ x109 : Int, ∃ x110 : Int, ∃ x111 : Int, ∃ x112 : Int, ∃ x113 : Int, HV Try.prog (Instr.loadAt 55 (.pointer (some a71))) h99 (.agg #[(.int .i64 x102), (.int .u32 x103), (.int .i64 x104), (.int .u32 x105), (.int .i64 x106), (.int .u16 x107), (.int .u16 x108), (.int .u16 x109), (.int .u16 x110), (.int .u8 x111), (.int .u8 x112), (.int .i64 x113)]) ∧ 
  ∃ b114 : Bool, PV Try.prog (binOp .eql 55 (.agg #[(.int .i64 x102), (.int .u32 x103), (.int .i64 x104), (.int .u32 x105), (.int .i64 x106), (.int .u16 x107), (.int .u16 x108), (.int .u16 x109), (.int .u16 x110), (.int .u8 x111), (.int .u8 x112), (.int .i64 x113)]) (.agg #[(.int .i64 0), (.int .u32 0), (.int .i64 0), (.int .u32 0), (.int .i64 0), (.int .u16 0), (.int .u16 0), (.int .u16 0), (.int .u16 0), (.int .u8 0), (.int .u8 0), (.int .i64 0)])) (.bool b114) ∧
  br b114
  (∃ b115 : Bool, ∃ x116 : Int, ∃ x117 : Int, HV Try.prog (Instr.loadAt 40 (.pointer (some a85))) h99 (.agg #[(.bool b115), (.int .i64 x116), (.int .i64 x117)]) ∧ 
  ∃ b118 : Bool, PV Try.prog (binOp .eql 40 (.agg #[(.bool b115), (.int .i64 x116), (.int .i64 x117)]) (.agg #[(.bool false), (.int .i64 0), (.int .i64 0)])) (.bool b118) ∧
  br b118
  (br (x83 == (-1))
  (∃ x119 : Int, HV Try.prog (Instr.loadAt 3 (.pointer (some (a23.add 2)))) h99 (.int .i64 x119) ∧ 
  CallsH Try.prog 18 #[(.pointer none), (.int .i64 x119)] h99 fun r121 h120 =>
  ∃ x122 : Int, r121 = (.int .i64 x122) ∧ 
  br (x122 == (-1))
  (CallsH Try.prog 22 #[(.pointer none)] h120 fun r124 h123 =>
  ∃ A125 : Option Addr, ∃ l125 : Nat, ∃ c125 : Nat, r124 = (.slice A125 l125 c125) ∧ 
  br ((l125 : Int) == 0)
  (CallsH Try.prog 25 #[(.pointer none)] h123 fun r127 h126 =>
  ∃ p128 : Option Addr, r127 = (.pointer p128) ∧ 
  ∃ b129 : Bool, PV Try.prog (binOp .eql 27 (.pointer p128) (.pointer none)) (.bool b129) ∧
  HU Try.prog (Instr.storeAt 4 (.pointer (some a25)) (.bool b129)) h126 fun h130 => 
  shut [D94] h130 fun h131 =>
  ∃ b132 : Bool, HV Try.prog (Instr.loadAt 4 (.pointer (some a25))) h131 (.bool b132) ∧ K (.bool b132) h131)
  (HU Try.prog (Instr.storeAt 4 (.pointer (some a25)) (.bool false)) h123 fun h133 => 
  shut [D94] h133 fun h134 =>
  ∃ b135 : Bool, HV Try.prog (Instr.loadAt 4 (.pointer (some a25))) h134 (.bool b135) ∧ K (.bool b135) h134))
  (HU Try.prog (Instr.storeAt 4 (.pointer (some a25)) (.bool false)) h120 fun h136 => 
  shut [D94] h136 fun h137 =>
  ∃ b138 : Bool, HV Try.prog (Instr.loadAt 4 (.pointer (some a25))) h137 (.bool b138) ∧ K (.bool b138) h137))
  (HU Try.prog (Instr.storeAt 4 (.pointer (some a25)) (.bool false)) h99 fun h139 => 
  shut [D94] h139 fun h140 =>
  ∃ b141 : Bool, HV Try.prog (Instr.loadAt 4 (.pointer (some a25))) h140 (.bool b141) ∧ K (.bool b141) h140))
  (HU Try.prog (Instr.storeAt 4 (.pointer (some a25)) (.bool false)) h99 fun h142 => 
  shut [D94] h142 fun h143 =>
  ∃ b144 : Bool, HV Try.prog (Instr.loadAt 4 (.pointer (some a25))) h143 (.bool b144) ∧ K (.bool b144) h143))
  (HU Try.prog (Instr.storeAt 4 (.pointer (some a25)) (.bool false)) h99 fun h145 => 
  shut [D94] h145 fun h146 =>
  ∃ b147 : Bool, HV Try.prog (Instr.loadAt 4 (.pointer (some a25))) h146 (.bool b147) ∧ K (.bool b147) h146))
  (HU Try.prog (Instr.storeAt 4 (.pointer (some a25)) (.bool false)) h99 fun h148 => 
  shut [D94] h148 fun h149 =>
  ∃ b150 : Bool, HV Try.prog (Instr.loadAt 4 (.pointer (some a25))) h149 (.bool b150) ∧ K (.bool b150) h149))
  (HU Try.prog (Instr.storeAt 4 (.pointer (some a25)) (.bool false)) h99 fun h151 => 
  shut [D94] h151 fun h152 =>
  ∃ b153 : Bool, HV Try.prog (Instr.loadAt 4 (.pointer (some a25))) h152 (.bool b153) ∧ K (.bool b153) h152))
  (CallsH Try.prog 12 #[] h95 fun r155 h154 =>
  ∃ b156 : Bool, r155 = (.bool b156) ∧ 
  br b156
  (HU Try.prog (Instr.storeAt 4 (.pointer (some a25)) (.bool false)) h154 fun h157 => 
  shut [D94] h157 fun h158 =>
  ∃ b159 : Bool, HV Try.prog (Instr.loadAt 4 (.pointer (some a25))) h158 (.bool b159) ∧ K (.bool b159) h158)
  (HU Try.prog (Instr.storeAt 4 (.pointer (some a25)) (.bool false)) h154 fun h160 => 
  shut [D94] h160 fun h161 =>
  ∃ b162 : Bool, HV Try.prog (Instr.loadAt 4 (.pointer (some a25))) h161 (.bool b162) ∧ K (.bool b162) h161)))
  (CallsH Try.prog 12 #[] h95 fun r164 h163 =>
  ∃ b165 : Bool, r164 = (.bool b165) ∧ 
  br b165
  (HU Try.prog (Instr.storeAt 4 (.pointer (some a25)) (.bool false)) h163 fun h166 => 
  shut [D94] h166 fun h167 =>
  ∃ b168 : Bool, HV Try.prog (Instr.loadAt 4 (.pointer (some a25))) h167 (.bool b168) ∧ K (.bool b168) h167)
  (HU Try.prog (Instr.storeAt 4 (.pointer (some a25)) (.bool false)) h163 fun h169 => 
  shut [D94] h169 fun h170 =>
  ∃ b171 : Bool, HV Try.prog (Instr.loadAt 4 (.pointer (some a25))) h170 (.bool b171) ∧ K (.bool b171) h170)))
  (CallsH Try.prog 12 #[] h95 fun r173 h172 =>
  ∃ b174 : Bool, r173 = (.bool b174) ∧ 
  br b174
  (HU Try.prog (Instr.storeAt 4 (.pointer (some a25)) (.bool false)) h172 fun h175 => 
  shut [D94] h175 fun h176 =>
  ∃ b177 : Bool, HV Try.prog (Instr.loadAt 4 (.pointer (some a25))) h176 (.bool b177) ∧ K (.bool b177) h176)
  (HU Try.prog (Instr.storeAt 4 (.pointer (some a25)) (.bool false)) h172 fun h178 => 
  shut [D94] h178 fun h179 =>
  ∃ b180 : Bool, HV Try.prog (Instr.loadAt 4 (.pointer (some a25))) h179 (.bool b180) ∧ K (.bool b180) h179)))
  (CallsH Try.prog 12 #[] h95 fun r182 h181 =>
  ∃ b183 : Bool, r182 = (.bool b183) ∧ 
  br b183
  (HU Try.prog (Instr.storeAt 4 (.pointer (some a25)) (.bool false)) h181 fun h184 => 
  shut [D94] h184 fun h185 =>
  ∃ b186 : Bool, HV Try.prog (Instr.loadAt 4 (.pointer (some a25))) h185 (.bool b186) ∧ K (.bool b186) h185)
  (HU Try.prog (Instr.storeAt 4 (.pointer (some a25)) (.bool false)) h181 fun h187 => 
  shut [D94] h187 fun h188 =>
  ∃ b189 : Bool, HV Try.prog (Instr.loadAt 4 (.pointer (some a25))) h188 (.bool b189) ∧ K (.bool b189) h188)))
  (fun (c98 : Code) (D96 : Nat) (h97 : Hp) =>
  jmpQ c98
  (shut [D96] h97 fun h190 =>
  ∃ b191 : Bool, HV Try.prog (Instr.loadAt 4 (.pointer (some a25))) h190 (.bool b191) ∧ K (.bool b191) h190)
  []))

def quintetlaw11_TableNil_cut (i : Nat) : Option (List Nat) := match Nat.beq i 16378 with
  | true => some [2]
  | false => none
set_option maxRecDepth 100000 in
theorem quintetlaw11_TableNil_eq (x1 : Int) (x2 : Int) (x3 : Int) (x4 : Int) (x5 : Int) (x6 : Int) (x7 : Int) (x8 : Int) (x9 : Int) (x10 : Int) (x11 : Int) (x12 : Int) (x13 : Int) (x14 : Int) (x15 : Int) (x16 : Int) (x17 : Int) (x18 : Int) (x19 : Int) (x20 : Int) (A21 : Option Addr) (l21 : Nat) (c21 : Nat) (h : Hp) (K : Value → Hp → Prop) : quintetlaw11_TableNil x1 x2 x3 x4 x5 x6 x7 x8 x9 x10 x11 x12 x13 x14 x15 x16 x17 x18 x19 x20 A21 l21 c21 h K =
    rcodeWp Try.prog 107 lpR0 quintetlaw11_TableNil_cut (bodyOf Try.f8) 1 (endR Try.prog Try.f8.results.toList K) (argTm [(.agg #[(.int .i64 x1), (.int .i64 x2), (.int .i64 x3), (.int .i64 x4), (.int .u32 x5), (.int .i64 x6), (.int .u32 x7), (.int .i64 x8), (.int .u16 x9), (.int .u16 x10), (.int .u16 x11), (.int .u16 x12), (.int .u8 x13), (.int .u8 x14), (.int .i64 x15), (.int .u32 x16), (.int .u32 x17), (.int .u16 x18), (.int .u16 x19), (.int .u8 x20), (.slice A21 l21 c21)])]) [] h := by kernel_rfl
set_option maxRecDepth 100000 in
theorem quintetlaw11_TableNil_ok (x1 : Int) (x2 : Int) (x3 : Int) (x4 : Int) (x5 : Int) (x6 : Int) (x7 : Int) (x8 : Int) (x9 : Int) (x10 : Int) (x11 : Int) (x12 : Int) (x13 : Int) (x14 : Int) (x15 : Int) (x16 : Int) (x17 : Int) (x18 : Int) (x19 : Int) (x20 : Int) (A21 : Option Addr) (l21 : Nat) (c21 : Nat) {h : Hp} {K : Value → Hp → Prop} (H : quintetlaw11_TableNil x1 x2 x3 x4 x5 x6 x7 x8 x9 x10 x11 x12 x13 x14 x15 x16 x17 x18 x19 x20 A21 l21 c21 h K) : CallsH Try.prog 8 #[(.agg #[(.int .i64 x1), (.int .i64 x2), (.int .i64 x3), (.int .i64 x4), (.int .u32 x5), (.int .i64 x6), (.int .u32 x7), (.int .i64 x8), (.int .u16 x9), (.int .u16 x10), (.int .u16 x11), (.int .u16 x12), (.int .u8 x13), (.int .u8 x14), (.int .i64 x15), (.int .u32 x16), (.int .u32 x17), (.int .u16 x18), (.int .u16 x19), (.int .u8 x20), (.slice A21 l21 c21)])] h K :=
  calls_ofR (args := [(.agg #[(.int .i64 x1), (.int .i64 x2), (.int .i64 x3), (.int .i64 x4), (.int .u32 x5), (.int .i64 x6), (.int .u32 x7), (.int .i64 x8), (.int .u16 x9), (.int .u16 x10), (.int .u16 x11), (.int .u16 x12), (.int .u8 x13), (.int .u8 x14), (.int .i64 x15), (.int .u32 x16), (.int .u32 x17), (.int .u16 x18), (.int .u16 x19), (.int .u8 x20), (.slice A21 l21 c21)])]) (n := 107) (lp := lpR0) (cut := quintetlaw11_TableNil_cut) Try.func8 (c := bodyOf Try.f8) (by kernel_rfl) (by kernel_rfl) (by kernel_rfl) (good_byR (l := []) (by kernel_rfl) (fun _ h => by cases h))
    (Eq.mp (quintetlaw11_TableNil_eq x1 x2 x3 x4 x5 x6 x7 x8 x9 x10 x11 x12 x13 x14 x15 x16 x17 x18 x19 x20 A21 l21 c21 h K) H)

/-! ### (*quintet/table.Table).All: function 29 -/
def table_Table_All (p1 : Option Addr) (h : Hp) (K : Value → Hp → Prop) : Prop :=
  newC h (.cells #[(.pointer p1)] 27 (0, 0)) fun a3 h2 => 
  K (.func (.func 46) #[] #[(.pointer (some a3))]) h2
def table_Table_All_lp (i : Nat) (Q : Qx) (tm : Tm) (h : Hp) : Prop := False
def table_Table_All_cut (i : Nat) : Option (List Nat) := none
set_option maxRecDepth 100000 in
theorem table_Table_All_eq (p1 : Option Addr) (h : Hp) (K : Value → Hp → Prop) : table_Table_All p1 h K =
    codeWp Try.prog 4 table_Table_All_lp table_Table_All_cut (bodyOf Try.f29) 1 (endQ Try.prog Try.f29.results.toList K) (argTm [(.pointer p1)]) h := by kernel_rfl
set_option maxRecDepth 100000 in
theorem table_Table_All_ok (p1 : Option Addr) {h : Hp} {K : Value → Hp → Prop} (H : table_Table_All p1 h K) : CallsH Try.prog 29 #[(.pointer p1)] h K :=
  calls_of (args := [(.pointer p1)]) (n := 4) (lp := table_Table_All_lp) (cut := table_Table_All_cut) Try.func29 (c := bodyOf Try.f29) (by kernel_rfl) (by kernel_rfl) (by kernel_rfl) (good_by (c := (bodyOf Try.f29)) (i := 1) (l := []) (by kernel_rfl) (fun _ h => by cases h))
    (Eq.mp (table_Table_All_eq p1 h K) H)

/-! ### (*quintet/table.Table).All$1: function 46 -/
def table_Table_All_1_l1 (v8 : Value) (A9 : Option Addr) (l9 : Nat) (c9 : Nat) (x10 : Int) (K0 : Hp → Prop) (K1 : Hp → Prop)  : Nat → Int → Hp → Prop
  | 0, _, _ => False
  | k + 1, x11, h =>
    br (decide (x11 < x10))
    (∃ a43 : Addr, PV Try.prog (Instr.indexAt 32 (.slice A9 l9 c9) (.int .i64 x11)) (.pointer (some a43)) ∧
    ∃ x44 : Int, ∃ x45 : Int, ∃ x46 : Int, ∃ x47 : Int, ∃ x48 : Int, ∃ x49 : Int, ∃ x50 : Int, ∃ x51 : Int, ∃ x52 : Int, ∃ x53 : Int, ∃ x54 : Int, ∃ x55 : Int, HV Try.prog (Instr.loadAt 55 (.pointer (some a43))) h (.agg #[(.int .i64 x44), (.int .u32 x45), (.int .i64 x46), (.int .u32 x47), (.int .i64 x48), (.int .u16 x49), (.int .u16 x50), (.int .u16 x51), (.int .u16 x52), (.int .u8 x53), (.int .u8 x54), (.int .i64 x55)]) ∧ 
    newC h (.cells #[(.int .i64 0), (.int .u32 0), (.int .i64 0), (.int .u32 0), (.int .i64 0), (.int .u16 0), (.int .u16 0), (.int .u16 0), (.int .u16 0), (.int .u8 0), (.int .u8 0), (.int .i64 0)] 55 (0, 0)) fun a57 h56 => 
    HU Try.prog (Instr.storeAt 55 (.pointer (some a57)) (.agg #[(.int .i64 x44), (.int .u32 x45), (.int .i64 x46), (.int .u32 x47), (.int .i64 x48), (.int .u16 x49), (.int .u16 x50), (.int .u16 x51), (.int .u16 x52), (.int .u8 x53), (.int .u8 x54), (.int .i64 x55)])) h56 fun h58 => 
    ∃ x59 : Int, ∃ x60 : Int, ∃ x61 : Int, ∃ x62 : Int, ∃ x63 : Int, ∃ x64 : Int, ∃ x65 : Int, ∃ x66 : Int, ∃ x67 : Int, ∃ x68 : Int, ∃ x69 : Int, ∃ x70 : Int, HV Try.prog (Instr.loadAt 55 (.pointer (some a57))) h58 (.agg #[(.int .i64 x59), (.int .u32 x60), (.int .i64 x61), (.int .u32 x62), (.int .i64 x63), (.int .u16 x64), (.int .u16 x65), (.int .u16 x66), (.int .u16 x67), (.int .u8 x68), (.int .u8 x69), (.int .i64 x70)]) ∧ 
    HN Try.prog (callS v8 #[(.int .i64 x11), (.agg #[(.int .i64 x59), (.int .u32 x60), (.int .i64 x61), (.int .u32 x62), (.int .i64 x63), (.int .u16 x64), (.int .u16 x65), (.int .u16 x66), (.int .u16 x67), (.int .u8 x68), (.int .u8 x69), (.int .i64 x70)])]) h58 fun r72 h71 =>
    ∃ b73 : Bool, r72 = (.bool b73) ∧ 
    br (!b73)
    (K0 h71)
    (table_Table_All_1_l1 v8 A9 l9 c9 x10 K0 K1 k (IntKind.i64.wrap (x11 + 1)) h71))
    (K1 h)
def table_Table_All_1_l1_L (Q : Qx) (k : Nat) (tm : Tm) (h : Hp) : Prop :=
  selV (tm 0) fun v8 =>
  selS (tm 10) fun A9 l9 c9 =>
  selI .i64 (tm 11) fun x10 =>
  selI .i64 (tm 12) fun x11 =>
  table_Table_All_1_l1 v8 A9 l9 c9 x10 (fun  h => Q (.ret) (mkTm []) h) (fun  h => Q (.exit 0) (mkTm []) h) k x11 h
def table_Table_All_1 (f1 : Fn) (f1r : Array Value) (f1c : Array Value) (a2 : Addr) (h : Hp) (K : Value → Hp → Prop) : Prop :=
  ∃ p3 : Option Addr, HV Try.prog (Instr.loadAt 27 (.pointer (some a2))) h (.pointer p3) ∧ 
  ∃ b4 : Bool, PV Try.prog (binOp .eql 27 (.pointer p3) (.pointer none)) (.bool b4) ∧
  br b4
  (K (.tuple #[]) h)
  (∃ p5 : Option Addr, HV Try.prog (Instr.loadAt 27 (.pointer (some a2))) h (.pointer p5) ∧ 
  drf p5 fun a6 =>
  ∃ A7 : Option Addr, ∃ l7 : Nat, ∃ c7 : Nat, HV Try.prog (Instr.loadAt 32 (.pointer (some (a6.add 7)))) h (.slice A7 l7 c7) ∧ 
  ∃ k76, table_Table_All_1_l1 (.func f1 f1r f1c) A7 l7 c7 (l7 : Int)
  (fun  (h74 : Hp) =>
  K (.tuple #[]) h74)
  (fun  (h75 : Hp) =>
  K (.tuple #[]) h75)
  k76 0 h)
def table_Table_All_1_lp (i : Nat) (Q : Qx) (tm : Tm) (h : Hp) : Prop := match Nat.beq i 14 with
  | true => ∃ k, table_Table_All_1_l1_L Q k tm h
  | false => False
def table_Table_All_1_cut (i : Nat) : Option (List Nat) := none
set_option maxRecDepth 100000 in
theorem table_Table_All_1_l1_step (Q : Qx) (k : Nat) (v8 : Value) (A9 : Option Addr) (l9 : Nat) (c9 : Nat) (x10 : Int) (x11 : Int) (h : Hp) : table_Table_All_1_l1_L Q (k + 1) (mkTm [(0, some v8), (10, some (.slice A9 l9 c9)), (11, some (.int .i64 x10)), (12, some (.int .i64 x11))]) h =
    codeWp Try.prog 23 table_Table_All_1_lp table_Table_All_1_cut (sub (bodyOf Try.f46) [true, true, false, false]) 28 (thenQ (fun tm h => table_Table_All_1_l1_L Q k (mask [0, 10, 11, 12] tm) h) (maskQ (fun e => match e with | .ret => [] | .exit 0 => [] | _ => []) Q)) (mkTm [(0, some v8), (10, some (.slice A9 l9 c9)), (11, some (.int .i64 x10)), (12, some (.int .i64 x11))]) h := by kernel_rfl
theorem table_Table_All_1_l1_mask (Q : Qx) (k : Nat) (tm : Tm) (h : Hp) : table_Table_All_1_l1_L Q k tm h ↔ table_Table_All_1_l1_L Q k (mask [0, 10, 11, 12] tm) h := Iff.rfl
set_option maxRecDepth 100000 in
theorem table_Table_All_1_l1_snd : SndAt Try.prog 23 none (sub (bodyOf Try.f46) [true, true, false]) (table_Table_All_1_lp 14) := by
  refine loop_sound (lp := table_Table_All_1_lp) (cut := table_Table_All_1_cut) (i := 14) (c := (sub (bodyOf Try.f46) [true, true, false, false])) [0, 10, 11, 12] (fun e => match e with | .ret => [] | .exit 0 => [] | _ => []) table_Table_All_1_l1_L ?_ ?_ ?_
  · exact good_by (c := (sub (bodyOf Try.f46) [true, true, false, false])) (i := 28) (l := []) (by kernel_rfl) (fun _ h => by cases h)
  · intro Q tm h H
    obtain ⟨v8, e0, H⟩ := selV_ex H
    obtain ⟨A9, l9, c9, e10, H⟩ := selS_ex H
    obtain ⟨x10, e11, H⟩ := selI_ex H
    obtain ⟨x11, e12, H⟩ := selI_ex H
    exact H
  · intro Q k tm h H
    have H0 := H
    obtain ⟨v8, e0, H⟩ := selV_ex H
    obtain ⟨A9, l9, c9, e10, H⟩ := selS_ex H
    obtain ⟨x10, e11, H⟩ := selI_ex H
    obtain ⟨x11, e12, H⟩ := selI_ex H
    have e : mask [0, 10, 11, 12] tm = mkTm [(0, some v8), (10, some (.slice A9 l9 c9)), (11, some (.int .i64 x10)), (12, some (.int .i64 x11))] := by simp only [mask, List.map_cons, List.map_nil, e0, e10, e11, e12] <;> rfl
    rw [e]
    refine Eq.mp (table_Table_All_1_l1_step Q k v8 A9 l9 c9 x10 x11 h) ?_
    rw [← e]
    exact (table_Table_All_1_l1_mask Q (k + 1) tm h).mp H0
set_option maxRecDepth 100000 in
theorem table_Table_All_1_eq (f1 : Fn) (f1r : Array Value) (f1c : Array Value) (a2 : Addr) (h : Hp) (K : Value → Hp → Prop) : table_Table_All_1 f1 f1r f1c a2 h K =
    codeWp Try.prog 23 table_Table_All_1_lp table_Table_All_1_cut (bodyOf Try.f46) 1 (endQ Try.prog Try.f46.results.toList K) (argTm [(.func f1 f1r f1c), (.pointer (some a2))]) h := by kernel_rfl
set_option maxRecDepth 100000 in
theorem table_Table_All_1_ok (f1 : Fn) (f1r : Array Value) (f1c : Array Value) (a2 : Addr) {h : Hp} {K : Value → Hp → Prop} (H : table_Table_All_1 f1 f1r f1c a2 h K) : CallsH Try.prog 46 #[(.func f1 f1r f1c), (.pointer (some a2))] h K :=
  calls_of (args := [(.func f1 f1r f1c), (.pointer (some a2))]) (n := 23) (lp := table_Table_All_1_lp) (cut := table_Table_All_1_cut) Try.func46 (c := bodyOf Try.f46) (by kernel_rfl) (by kernel_rfl) (by kernel_rfl) (good_by (c := (bodyOf Try.f46)) (i := 1) (l := [(14, (sub (bodyOf Try.f46) [true, true, false]))]) (by kernel_rfl) (List.forall_mem_cons.2 ⟨table_Table_All_1_l1_snd, (fun _ h => by cases h)⟩))
    (Eq.mp (table_Table_All_1_eq f1 f1r f1c a2 h K) H)

end Go.Proofs.Ytgecabgcjfpenaa.Fs
