/- Printed by sx.py: words over the heap alone for Go functions, and that each call does what its word says. -/
import Derived.Test.YtgahbkbmolfpnaaGreatSxSel
import Derived.Test.YtgahbkbmolfpnaaGreatSxNest
import Derived.Test.YtgahbkbmolfpnaaGreatProg
namespace Go.Proofs.YtgahbkbmolfpnaaGreat.Fs
open Go Go.RowKit Go.Proofs.YtgahbkbmolfpnaaGreat.Sx
set_option linter.unusedVariables false

/-! ### quintet/quintetlaw14.NestSizes: function 3 -/
def quintetlaw14_NestSizes (A1 : Option Addr) (l1 : Nat) (c1 : Nat) (x2 : Int) (x3 : Int) (x4 : Int) (x5 : Int) (x6 : Int) (h : Hp) (K : Value → Hp → Prop) : Prop :=
  newC h (.cells #[(.int .u32 x2), (.int .u32 x3), (.int .u16 x4), (.int .u16 x5), (.int .u8 x6)] 26 (0, 0)) fun a8 h7 => 
  br (decide ((l1 : Int) > 16777216))
  (CallsH Tryz.prog 4 #[] h7 fun r10 h9 =>
  ∃ b11 : Bool, r10 = (.bool b11) ∧ 
  K (.bool b11) h9)
  (CallsH Tryz.prog 5 #[(.slice A1 l1 c1)] h7 fun r13 h12 =>
  ∃ A14 : Option Addr, ∃ l14 : Nat, ∃ c14 : Nat, r13 = (.slice A14 l14 c14) ∧ 
  CallsH Tryz.prog 6 #[(.slice A14 l14 c14)] h12 fun r16 h15 =>
  ∃ x17 : Int, ∃ x18 : Int, r16 = (.tuple #[(.int .i64 x17), (.int .i64 x18)]) ∧ 
  CallsH Tryz.prog 7 #[(.slice A1 l1 c1)] h15 fun r20 h19 =>
  ∃ x21 : Int, ∃ x22 : Int, r20 = (.tuple #[(.int .i64 x21), (.int .i64 x22)]) ∧ 
  CallsH Tryz.prog 8 #[(.slice A14 l14 c14)] h19 fun r24 h23 =>
  ∃ x25 : Int, ∃ x26 : Int, r24 = (.tuple #[(.int .i64 x25), (.int .i64 x26)]) ∧ 
  CallsH Tryz.prog 9 #[(.slice A1 l1 c1)] h23 fun r28 h27 =>
  ∃ x29 : Int, ∃ x30 : Int, r28 = (.tuple #[(.int .i64 x29), (.int .i64 x30)]) ∧ 
  CallsH Tryz.prog 10 #[(.slice A14 l14 c14)] h27 fun r32 h31 =>
  ∃ x33 : Int, ∃ x34 : Int, r32 = (.tuple #[(.int .i64 x33), (.int .i64 x34)]) ∧ 
  CallsH Tryz.prog 11 #[(.slice A1 l1 c1)] h31 fun r36 h35 =>
  ∃ x37 : Int, ∃ x38 : Int, r36 = (.tuple #[(.int .i64 x37), (.int .i64 x38)]) ∧ 
  ∃ x39 : Int, ∃ x40 : Int, ∃ x41 : Int, ∃ x42 : Int, ∃ x43 : Int, HV Tryz.prog (Instr.loadAt 26 (.pointer (some a8))) h35 (.agg #[(.int .u32 x39), (.int .u32 x40), (.int .u16 x41), (.int .u16 x42), (.int .u8 x43)]) ∧ 
  CallsH Tryz.prog 12 #[(.slice A14 l14 c14), (.agg #[(.int .u32 x39), (.int .u32 x40), (.int .u16 x41), (.int .u16 x42), (.int .u8 x43)])] h35 fun r45 h44 =>
  ∃ x46 : Int, r45 = (.int .i64 x46) ∧ 
  CallsH Tryz.prog 13 #[(.slice A14 l14 c14), (.slice A1 l1 c1)] h44 fun r48 h47 =>
  ∃ b49 : Bool, r48 = (.bool b49) ∧ 
  CallsH Tryz.prog 4 #[] h47 fun r51 h50 =>
  ∃ b52 : Bool, r51 = (.bool b52) ∧ 
  br b52
  (br (x17 == x21)
  (br (x18 == x22)
  (br (x25 == x29)
  (br (x26 == x30)
  (br (x33 == x37)
  (br (x34 == x38)
  (∃ x53 : Int, ∃ x54 : Int, ∃ x55 : Int, ∃ x56 : Int, ∃ x57 : Int, HV Tryz.prog (Instr.loadAt 26 (.pointer (some a8))) h50 (.agg #[(.int .u32 x53), (.int .u32 x54), (.int .u16 x55), (.int .u16 x56), (.int .u8 x57)]) ∧ 
  CallsH Tryz.prog 14 #[(.slice A1 l1 c1), (.agg #[(.int .u32 x53), (.int .u32 x54), (.int .u16 x55), (.int .u16 x56), (.int .u8 x57)])] h50 fun r59 h58 =>
  ∃ x60 : Int, r59 = (.int .i64 x60) ∧ 
  br (x46 == x60)
  (K (.bool b49) h58)
  (K (.bool false) h58))
  (K (.bool false) h50))
  (K (.bool false) h50))
  (K (.bool false) h50))
  (K (.bool false) h50))
  (K (.bool false) h50))
  (K (.bool false) h50))
  (K (.bool false) h50))
def quintetlaw14_NestSizes_lp (i : Nat) (Q : Qx) (tm : Tm) (h : Hp) : Prop := False
def quintetlaw14_NestSizes_cut (i : Nat) : Option (List Nat) := none
set_option maxRecDepth 100000 in
theorem quintetlaw14_NestSizes_eq (A1 : Option Addr) (l1 : Nat) (c1 : Nat) (x2 : Int) (x3 : Int) (x4 : Int) (x5 : Int) (x6 : Int) (h : Hp) (K : Value → Hp → Prop) : quintetlaw14_NestSizes A1 l1 c1 x2 x3 x4 x5 x6 h K =
    codeWp Tryz.prog 103 quintetlaw14_NestSizes_lp quintetlaw14_NestSizes_cut (bodyOf Tryz.f3) 1 (endQ Tryz.prog Tryz.f3.results.toList K) (argTm [(.slice A1 l1 c1), (.agg #[(.int .u32 x2), (.int .u32 x3), (.int .u16 x4), (.int .u16 x5), (.int .u8 x6)])]) h := by kernel_rfl
set_option maxRecDepth 100000 in
theorem quintetlaw14_NestSizes_ok (A1 : Option Addr) (l1 : Nat) (c1 : Nat) (x2 : Int) (x3 : Int) (x4 : Int) (x5 : Int) (x6 : Int) {h : Hp} {K : Value → Hp → Prop} (H : quintetlaw14_NestSizes A1 l1 c1 x2 x3 x4 x5 x6 h K) : CallsH Tryz.prog 3 #[(.slice A1 l1 c1), (.agg #[(.int .u32 x2), (.int .u32 x3), (.int .u16 x4), (.int .u16 x5), (.int .u8 x6)])] h K :=
  calls_of (args := [(.slice A1 l1 c1), (.agg #[(.int .u32 x2), (.int .u32 x3), (.int .u16 x4), (.int .u16 x5), (.int .u8 x6)])]) (n := 103) (lp := quintetlaw14_NestSizes_lp) (cut := quintetlaw14_NestSizes_cut) Tryz.func3 (c := bodyOf Tryz.f3) (by kernel_rfl) (by kernel_rfl) (by kernel_rfl) (good_by (c := (bodyOf Tryz.f3)) (i := 1) (l := []) (by kernel_rfl) (fun _ h => by cases h))
    (Eq.mp (quintetlaw14_NestSizes_eq A1 l1 c1 x2 x3 x4 x5 x6 h K) H)

/-! ### quintet/quintetkeep.Lend: function 5 -/
def quintetkeep_Lend (A1 : Option Addr) (l1 : Nat) (c1 : Nat) (h : Hp) (K : Value → Hp → Prop) : Prop :=
  HW Tryz.prog (Instr.makeSlice 22 (.int .i64 (IntKind.i64.wrap ((l1 : Int) + 2))) (.int .i64 (IntKind.i64.wrap ((l1 : Int) + 2)))) h fun r3 h2 =>
  ∃ A4 : Option Addr, ∃ l4 : Nat, ∃ c4 : Nat, r3 = (.slice A4 l4 c4) ∧ 
  HW Tryz.prog (Builtin.copy_ #[22, 22] 3 #[(.slice A4 l4 c4), (.slice A1 l1 c1)]) h2 fun r6 h5 =>
  ∃ x7 : Int, r6 = (.int .i64 x7) ∧ 
  CallsH Tryz.prog 19 #[(.int .i64 0)] h5 fun r9 h8 =>
  ∃ x10 : Int, ∃ x11 : Int, ∃ x12 : Int, ∃ x13 : Int, ∃ x14 : Int, ∃ x15 : Int, ∃ x16 : Int, ∃ x17 : Int, ∃ x18 : Int, ∃ x19 : Int, ∃ x20 : Int, ∃ x21 : Int, r9 = (.agg #[(.int .i64 x10), (.int .u32 x11), (.int .i64 x12), (.int .u32 x13), (.int .i64 x14), (.int .u16 x15), (.int .u16 x16), (.int .u16 x17), (.int .u16 x18), (.int .u8 x19), (.int .u8 x20), (.int .i64 x21)]) ∧ 
  ∃ a22 : Addr, PV Tryz.prog (Instr.indexAt 22 (.slice A4 l4 c4) (.int .i64 (l1 : Int))) (.pointer (some a22)) ∧
  HU Tryz.prog (Instr.storeAt 49 (.pointer (some a22)) (.agg #[(.int .i64 x10), (.int .u32 x11), (.int .i64 x12), (.int .u32 x13), (.int .i64 x14), (.int .u16 x15), (.int .u16 x16), (.int .u16 x17), (.int .u16 x18), (.int .u8 x19), (.int .u8 x20), (.int .i64 x21)])) h8 fun h23 => 
  CallsH Tryz.prog 19 #[(.int .i64 1)] h23 fun r25 h24 =>
  ∃ x26 : Int, ∃ x27 : Int, ∃ x28 : Int, ∃ x29 : Int, ∃ x30 : Int, ∃ x31 : Int, ∃ x32 : Int, ∃ x33 : Int, ∃ x34 : Int, ∃ x35 : Int, ∃ x36 : Int, ∃ x37 : Int, r25 = (.agg #[(.int .i64 x26), (.int .u32 x27), (.int .i64 x28), (.int .u32 x29), (.int .i64 x30), (.int .u16 x31), (.int .u16 x32), (.int .u16 x33), (.int .u16 x34), (.int .u8 x35), (.int .u8 x36), (.int .i64 x37)]) ∧ 
  ∃ a38 : Addr, PV Tryz.prog (Instr.indexAt 22 (.slice A4 l4 c4) (.int .i64 (IntKind.i64.wrap ((l1 : Int) + 1)))) (.pointer (some a38)) ∧
  HU Tryz.prog (Instr.storeAt 49 (.pointer (some a38)) (.agg #[(.int .i64 x26), (.int .u32 x27), (.int .i64 x28), (.int .u32 x29), (.int .i64 x30), (.int .u16 x31), (.int .u16 x32), (.int .u16 x33), (.int .u16 x34), (.int .u8 x35), (.int .u8 x36), (.int .i64 x37)])) h24 fun h39 => 
  ∃ A40 : Option Addr, ∃ l40 : Nat, ∃ c40 : Nat, PV Tryz.prog (Instr.sliceAt 22 (.slice A4 l4 c4) none (some (.int .i64 (l1 : Int))) none) (.slice A40 l40 c40) ∧
  K (.slice A40 l40 c40) h39
def quintetkeep_Lend_lp (i : Nat) (Q : Qx) (tm : Tm) (h : Hp) : Prop := False
def quintetkeep_Lend_cut (i : Nat) : Option (List Nat) := none
set_option maxRecDepth 100000 in
theorem quintetkeep_Lend_eq (A1 : Option Addr) (l1 : Nat) (c1 : Nat) (h : Hp) (K : Value → Hp → Prop) : quintetkeep_Lend A1 l1 c1 h K =
    codeWp Tryz.prog 26 quintetkeep_Lend_lp quintetkeep_Lend_cut (bodyOf Tryz.f5) 1 (endQ Tryz.prog Tryz.f5.results.toList K) (argTm [(.slice A1 l1 c1)]) h := by kernel_rfl
set_option maxRecDepth 100000 in
theorem quintetkeep_Lend_ok (A1 : Option Addr) (l1 : Nat) (c1 : Nat) {h : Hp} {K : Value → Hp → Prop} (H : quintetkeep_Lend A1 l1 c1 h K) : CallsH Tryz.prog 5 #[(.slice A1 l1 c1)] h K :=
  calls_of (args := [(.slice A1 l1 c1)]) (n := 26) (lp := quintetkeep_Lend_lp) (cut := quintetkeep_Lend_cut) Tryz.func5 (c := bodyOf Tryz.f5) (by kernel_rfl) (by kernel_rfl) (by kernel_rfl) (good_by (c := (bodyOf Tryz.f5)) (i := 1) (l := []) (by kernel_rfl) (fun _ h => by cases h))
    (Eq.mp (quintetkeep_Lend_eq A1 l1 c1 h K) H)

/-! ### quintet/quintetkeep.Back: function 13 -/
def quintetkeep_Back_l3 (A105 : Option Addr) (l105 : Nat) (c105 : Nat) (b106 : Bool) (K0 : Bool → Hp → Prop)  : Nat → Int → Hp → Prop
  | 0, _, _ => False
  | k + 1, x107, h =>
    br (decide (x107 < (l105 : Int)))
    (CallsH Tryz.prog 19 #[(.int .i64 5)] h fun r126 h125 =>
    ∃ x127 : Int, ∃ x128 : Int, ∃ x129 : Int, ∃ x130 : Int, ∃ x131 : Int, ∃ x132 : Int, ∃ x133 : Int, ∃ x134 : Int, ∃ x135 : Int, ∃ x136 : Int, ∃ x137 : Int, ∃ x138 : Int, r126 = (.agg #[(.int .i64 x127), (.int .u32 x128), (.int .i64 x129), (.int .u32 x130), (.int .i64 x131), (.int .u16 x132), (.int .u16 x133), (.int .u16 x134), (.int .u16 x135), (.int .u8 x136), (.int .u8 x137), (.int .i64 x138)]) ∧ 
    ∃ a139 : Addr, PV Tryz.prog (Instr.indexAt 22 (.slice A105 l105 c105) (.int .i64 x107)) (.pointer (some a139)) ∧
    HU Tryz.prog (Instr.storeAt 49 (.pointer (some a139)) (.agg #[(.int .i64 x127), (.int .u32 x128), (.int .i64 x129), (.int .u32 x130), (.int .i64 x131), (.int .u16 x132), (.int .u16 x133), (.int .u16 x134), (.int .u16 x135), (.int .u8 x136), (.int .u8 x137), (.int .i64 x138)])) h125 fun h140 => 
    quintetkeep_Back_l3 A105 l105 c105 b106 K0 k (IntKind.i64.wrap (x107 + 1)) h140)
    (K0 b106 h)
def quintetkeep_Back_l3_L (Q : Qx) (k : Nat) (tm : Tm) (h : Hp) : Prop :=
  selS (tm 5) fun A105 l105 c105 =>
  selB (tm 6) fun b106 =>
  selI .i64 (tm 7) fun x107 =>
  quintetkeep_Back_l3 A105 l105 c105 b106 (fun (b124 : Bool) h => Q (.exit 0) (mkTm [(6, some (.bool b124))]) h) k x107 h
def quintetkeep_Back_j2 (K0 : Bool → Hp → Prop) (A63 : Option Addr) (l63 : Nat) (c63 : Nat) (b64 : Bool) (h : Hp) : Prop :=
  ∃ k143, quintetkeep_Back_l3 A63 l63 c63 b64
  (fun (b141 : Bool) (h142 : Hp) =>
  K0 b141 h142)
  k143 0 h
def quintetkeep_Back_j2_L (Q : Qx) (tm : Tm) (h : Hp) : Prop :=
  selS (tm 5) fun A63 l63 c63 =>
  selB (tm 6) fun b64 =>
  quintetkeep_Back_j2 (fun (b104 : Bool) h => Q (.ret) (mkTm [(4, some (.bool b104))]) h) A63 l63 c63 b64 h
def quintetkeep_Back (A1 : Option Addr) (l1 : Nat) (c1 : Nat) (A2 : Option Addr) (l2 : Nat) (c2 : Nat) (h : Hp) (K : Value → Hp → Prop) : Prop :=
  ∃ A3 : Option Addr, ∃ l3 : Nat, ∃ c3 : Nat, PV Tryz.prog (Instr.sliceAt 22 (.slice A1 l1 c1) none (some (.int .i64 (IntKind.i64.wrap ((l2 : Int) + 2)))) none) (.slice A3 l3 c3) ∧
  ∃ a144 : Addr, PV Tryz.prog (Instr.indexAt 22 (.slice A3 l3 c3) (.int .i64 (l2 : Int))) (.pointer (some a144)) ∧
  ∃ x145 : Int, ∃ x146 : Int, ∃ x147 : Int, ∃ x148 : Int, ∃ x149 : Int, ∃ x150 : Int, ∃ x151 : Int, ∃ x152 : Int, ∃ x153 : Int, ∃ x154 : Int, ∃ x155 : Int, ∃ x156 : Int, HV Tryz.prog (Instr.loadAt 49 (.pointer (some a144))) h (.agg #[(.int .i64 x145), (.int .u32 x146), (.int .i64 x147), (.int .u32 x148), (.int .i64 x149), (.int .u16 x150), (.int .u16 x151), (.int .u16 x152), (.int .u16 x153), (.int .u8 x154), (.int .u8 x155), (.int .i64 x156)]) ∧ 
  CallsH Tryz.prog 19 #[(.int .i64 0)] h fun r158 h157 =>
  ∃ x159 : Int, ∃ x160 : Int, ∃ x161 : Int, ∃ x162 : Int, ∃ x163 : Int, ∃ x164 : Int, ∃ x165 : Int, ∃ x166 : Int, ∃ x167 : Int, ∃ x168 : Int, ∃ x169 : Int, ∃ x170 : Int, r158 = (.agg #[(.int .i64 x159), (.int .u32 x160), (.int .i64 x161), (.int .u32 x162), (.int .i64 x163), (.int .u16 x164), (.int .u16 x165), (.int .u16 x166), (.int .u16 x167), (.int .u8 x168), (.int .u8 x169), (.int .i64 x170)]) ∧ HV Tryz.prog (Instr.loadAt 49 (.pointer (some a144))) h157 (.agg #[(.int .i64 x145), (.int .u32 x146), (.int .i64 x147), (.int .u32 x148), (.int .i64 x149), (.int .u16 x150), (.int .u16 x151), (.int .u16 x152), (.int .u16 x153), (.int .u8 x154), (.int .u8 x155), (.int .i64 x156)]) ∧ 
  ∃ b171 : Bool, PV Tryz.prog (binOp .eql 49 (.agg #[(.int .i64 x145), (.int .u32 x146), (.int .i64 x147), (.int .u32 x148), (.int .i64 x149), (.int .u16 x150), (.int .u16 x151), (.int .u16 x152), (.int .u16 x153), (.int .u8 x154), (.int .u8 x155), (.int .i64 x156)]) (.agg #[(.int .i64 x159), (.int .u32 x160), (.int .i64 x161), (.int .u32 x162), (.int .i64 x163), (.int .u16 x164), (.int .u16 x165), (.int .u16 x166), (.int .u16 x167), (.int .u8 x168), (.int .u8 x169), (.int .i64 x170)])) (.bool b171) ∧
  br b171
  (∃ a172 : Addr, PV Tryz.prog (Instr.indexAt 22 (.slice A3 l3 c3) (.int .i64 (IntKind.i64.wrap ((l2 : Int) + 1)))) (.pointer (some a172)) ∧
  ∃ x173 : Int, ∃ x174 : Int, ∃ x175 : Int, ∃ x176 : Int, ∃ x177 : Int, ∃ x178 : Int, ∃ x179 : Int, ∃ x180 : Int, ∃ x181 : Int, ∃ x182 : Int, ∃ x183 : Int, ∃ x184 : Int, HV Tryz.prog (Instr.loadAt 49 (.pointer (some a172))) h157 (.agg #[(.int .i64 x173), (.int .u32 x174), (.int .i64 x175), (.int .u32 x176), (.int .i64 x177), (.int .u16 x178), (.int .u16 x179), (.int .u16 x180), (.int .u16 x181), (.int .u8 x182), (.int .u8 x183), (.int .i64 x184)]) ∧ 
  CallsH Tryz.prog 19 #[(.int .i64 1)] h157 fun r186 h185 =>
  ∃ x187 : Int, ∃ x188 : Int, ∃ x189 : Int, ∃ x190 : Int, ∃ x191 : Int, ∃ x192 : Int, ∃ x193 : Int, ∃ x194 : Int, ∃ x195 : Int, ∃ x196 : Int, ∃ x197 : Int, ∃ x198 : Int, r186 = (.agg #[(.int .i64 x187), (.int .u32 x188), (.int .i64 x189), (.int .u32 x190), (.int .i64 x191), (.int .u16 x192), (.int .u16 x193), (.int .u16 x194), (.int .u16 x195), (.int .u8 x196), (.int .u8 x197), (.int .i64 x198)]) ∧ HV Tryz.prog (Instr.loadAt 49 (.pointer (some a172))) h185 (.agg #[(.int .i64 x173), (.int .u32 x174), (.int .i64 x175), (.int .u32 x176), (.int .i64 x177), (.int .u16 x178), (.int .u16 x179), (.int .u16 x180), (.int .u16 x181), (.int .u8 x182), (.int .u8 x183), (.int .i64 x184)]) ∧ 
  ∃ b199 : Bool, PV Tryz.prog (binOp .eql 49 (.agg #[(.int .i64 x173), (.int .u32 x174), (.int .i64 x175), (.int .u32 x176), (.int .i64 x177), (.int .u16 x178), (.int .u16 x179), (.int .u16 x180), (.int .u16 x181), (.int .u8 x182), (.int .u8 x183), (.int .i64 x184)]) (.agg #[(.int .i64 x187), (.int .u32 x188), (.int .i64 x189), (.int .u32 x190), (.int .i64 x191), (.int .u16 x192), (.int .u16 x193), (.int .u16 x194), (.int .u16 x195), (.int .u8 x196), (.int .u8 x197), (.int .i64 x198)])) (.bool b199) ∧
  br b199
  (CallsH Tryz.prog 33 #[(.slice A1 l1 c1), (.slice A2 l2 c2)] h185 fun r201 h200 =>
  ∃ b202 : Bool, r201 = (.bool b202) ∧ 
  quintetkeep_Back_j2
  (fun (b203 : Bool) (h204 : Hp) =>
  K (.bool b203) h204)
  A3 l3 c3 b202 h200)
  (quintetkeep_Back_j2
  (fun (b205 : Bool) (h206 : Hp) =>
  K (.bool b205) h206)
  A3 l3 c3 false h185))
  (quintetkeep_Back_j2
  (fun (b207 : Bool) (h208 : Hp) =>
  K (.bool b207) h208)
  A3 l3 c3 false h157)
def quintetkeep_Back_lp (i : Nat) (Q : Qx) (tm : Tm) (h : Hp) : Prop := match Nat.beq i 122 with
  | true => ∃ k, quintetkeep_Back_l3_L Q k tm h
  | false => match Nat.beq i 7 with
  | true => quintetkeep_Back_j2_L Q tm h
  | false => False
def quintetkeep_Back_cut (i : Nat) : Option (List Nat) := match Nat.beq i 7 with
  | true => some [5, 6]
  | false => none
set_option maxRecDepth 100000 in
theorem quintetkeep_Back_l3_step (Q : Qx) (k : Nat) (A105 : Option Addr) (l105 : Nat) (c105 : Nat) (b106 : Bool) (x107 : Int) (h : Hp) : quintetkeep_Back_l3_L Q (k + 1) (mkTm [(5, some (.slice A105 l105 c105)), (6, some (.bool b106)), (7, some (.int .i64 x107))]) h =
    codeWp Tryz.prog 46 quintetkeep_Back_lp quintetkeep_Back_cut (sub (bodyOf Tryz.f13) [true, true, true, false, true, false, false]) 244 (thenQ (fun tm h => quintetkeep_Back_l3_L Q k (mask [5, 6, 7] tm) h) (maskQ (fun e => match e with | .exit 0 => [6] | _ => []) Q)) (mkTm [(5, some (.slice A105 l105 c105)), (6, some (.bool b106)), (7, some (.int .i64 x107))]) h := by kernel_rfl
theorem quintetkeep_Back_l3_mask (Q : Qx) (k : Nat) (tm : Tm) (h : Hp) : quintetkeep_Back_l3_L Q k tm h ↔ quintetkeep_Back_l3_L Q k (mask [5, 6, 7] tm) h := Iff.rfl
set_option maxRecDepth 100000 in
theorem quintetkeep_Back_l3_snd : SndAt Tryz.prog 46 none (sub (bodyOf Tryz.f13) [true, true, true, false, true, false]) (quintetkeep_Back_lp 122) := by
  refine loop_sound (lp := quintetkeep_Back_lp) (cut := quintetkeep_Back_cut) (i := 122) (c := (sub (bodyOf Tryz.f13) [true, true, true, false, true, false, false])) [5, 6, 7] (fun e => match e with | .exit 0 => [6] | _ => []) quintetkeep_Back_l3_L ?_ ?_ ?_
  · exact good_by (c := (sub (bodyOf Tryz.f13) [true, true, true, false, true, false, false])) (i := 244) (l := []) (by kernel_rfl) (fun _ h => by cases h)
  · intro Q tm h H
    obtain ⟨A105, l105, c105, e5, H⟩ := selS_ex H
    obtain ⟨b106, e6, H⟩ := selB_ex H
    obtain ⟨x107, e7, H⟩ := selI_ex H
    exact H
  · intro Q k tm h H
    have H0 := H
    obtain ⟨A105, l105, c105, e5, H⟩ := selS_ex H
    obtain ⟨b106, e6, H⟩ := selB_ex H
    obtain ⟨x107, e7, H⟩ := selI_ex H
    have e : mask [5, 6, 7] tm = mkTm [(5, some (.slice A105 l105 c105)), (6, some (.bool b106)), (7, some (.int .i64 x107))] := by simp only [mask, List.map_cons, List.map_nil, e5, e6, e7] <;> rfl
    rw [e]
    refine Eq.mp (quintetkeep_Back_l3_step Q k A105 l105 c105 b106 x107 h) ?_
    rw [← e]
    exact (quintetkeep_Back_l3_mask Q (k + 1) tm h).mp H0
set_option maxRecDepth 100000 in
theorem quintetkeep_Back_j2_step (Q : Qx) (A63 : Option Addr) (l63 : Nat) (c63 : Nat) (b64 : Bool) (h : Hp) : quintetkeep_Back_j2_L Q (mkTm [(5, some (.slice A63 l63 c63)), (6, some (.bool b64))]) h =
    codeWp Tryz.prog 46 quintetkeep_Back_lp quintetkeep_Back_cut (sub (bodyOf Tryz.f13) [true, true, true]) 15 (maskQ (fun e => match e with | .ret => [4] | _ => []) Q) (mkTm [(5, some (.slice A63 l63 c63)), (6, some (.bool b64))]) h := by kernel_rfl
theorem quintetkeep_Back_j2_mask (Q : Qx) (tm : Tm) (h : Hp) : quintetkeep_Back_j2_L Q tm h ↔ quintetkeep_Back_j2_L Q (mask [5, 6] tm) h := Iff.rfl
set_option maxRecDepth 100000 in
theorem quintetkeep_Back_j2_snd : SndAt Tryz.prog 46 none (sub (bodyOf Tryz.f13) [true, true, true]) (quintetkeep_Back_lp 7) := by
  refine join_sound (lp := quintetkeep_Back_lp) (cut := quintetkeep_Back_cut) (i := 7) (c := (sub (bodyOf Tryz.f13) [true, true, true])) [5, 6] (fun e => match e with | .ret => [4] | _ => []) quintetkeep_Back_j2_L ?_ ?_
  · exact good_by (c := (sub (bodyOf Tryz.f13) [true, true, true])) (i := 15) (l := [(122, (sub (bodyOf Tryz.f13) [true, true, true, false, true, false]))]) (by kernel_rfl) (List.forall_mem_cons.2 ⟨quintetkeep_Back_l3_snd, (fun _ h => by cases h)⟩)
  · intro Q tm h H
    have H0 := H
    obtain ⟨A63, l63, c63, e5, H⟩ := selS_ex H
    obtain ⟨b64, e6, H⟩ := selB_ex H
    have e : mask [5, 6] tm = mkTm [(5, some (.slice A63 l63 c63)), (6, some (.bool b64))] := by simp only [mask, List.map_cons, List.map_nil, e5, e6] <;> rfl
    rw [e]
    refine Eq.mp (quintetkeep_Back_j2_step Q A63 l63 c63 b64 h) ?_
    rw [← e]
    exact (quintetkeep_Back_j2_mask Q tm h).mp H0
set_option maxRecDepth 100000 in
theorem quintetkeep_Back_eq (A1 : Option Addr) (l1 : Nat) (c1 : Nat) (A2 : Option Addr) (l2 : Nat) (c2 : Nat) (h : Hp) (K : Value → Hp → Prop) : quintetkeep_Back A1 l1 c1 A2 l2 c2 h K =
    codeWp Tryz.prog 46 quintetkeep_Back_lp quintetkeep_Back_cut (bodyOf Tryz.f13) 1 (endQ Tryz.prog Tryz.f13.results.toList K) (argTm [(.slice A1 l1 c1), (.slice A2 l2 c2)]) h := by kernel_rfl
set_option maxRecDepth 100000 in
theorem quintetkeep_Back_ok (A1 : Option Addr) (l1 : Nat) (c1 : Nat) (A2 : Option Addr) (l2 : Nat) (c2 : Nat) {h : Hp} {K : Value → Hp → Prop} (H : quintetkeep_Back A1 l1 c1 A2 l2 c2 h K) : CallsH Tryz.prog 13 #[(.slice A1 l1 c1), (.slice A2 l2 c2)] h K :=
  calls_of (args := [(.slice A1 l1 c1), (.slice A2 l2 c2)]) (n := 46) (lp := quintetkeep_Back_lp) (cut := quintetkeep_Back_cut) Tryz.func13 (c := bodyOf Tryz.f13) (by kernel_rfl) (by kernel_rfl) (by kernel_rfl) (good_by (c := (bodyOf Tryz.f13)) (i := 1) (l := [(7, (sub (bodyOf Tryz.f13) [true, true, true]))]) (by kernel_rfl) (List.forall_mem_cons.2 ⟨quintetkeep_Back_j2_snd, (fun _ h => by cases h)⟩))
    (Eq.mp (quintetkeep_Back_eq A1 l1 c1 A2 l2 c2 h K) H)

/-! ### quintet/quintetkeep.Same: function 33 -/
def quintetkeep_Same_l1 (A3 : Option Addr) (l3 : Nat) (c3 : Nat) (A4 : Option Addr) (l4 : Nat) (c4 : Nat) (K0 : Bool → Hp → Prop) (K1 : Hp → Prop)  : Nat → Int → Hp → Prop
  | 0, _, _ => False
  | k + 1, x5, h =>
    br (decide (x5 < (l3 : Int)))
    (∃ a34 : Addr, PV Tryz.prog (Instr.indexAt 22 (.slice A3 l3 c3) (.int .i64 x5)) (.pointer (some a34)) ∧
    ∃ x35 : Int, ∃ x36 : Int, ∃ x37 : Int, ∃ x38 : Int, ∃ x39 : Int, ∃ x40 : Int, ∃ x41 : Int, ∃ x42 : Int, ∃ x43 : Int, ∃ x44 : Int, ∃ x45 : Int, ∃ x46 : Int, HV Tryz.prog (Instr.loadAt 49 (.pointer (some a34))) h (.agg #[(.int .i64 x35), (.int .u32 x36), (.int .i64 x37), (.int .u32 x38), (.int .i64 x39), (.int .u16 x40), (.int .u16 x41), (.int .u16 x42), (.int .u16 x43), (.int .u8 x44), (.int .u8 x45), (.int .i64 x46)]) ∧ 
    ∃ a47 : Addr, PV Tryz.prog (Instr.indexAt 22 (.slice A4 l4 c4) (.int .i64 x5)) (.pointer (some a47)) ∧
    ∃ x48 : Int, ∃ x49 : Int, ∃ x50 : Int, ∃ x51 : Int, ∃ x52 : Int, ∃ x53 : Int, ∃ x54 : Int, ∃ x55 : Int, ∃ x56 : Int, ∃ x57 : Int, ∃ x58 : Int, ∃ x59 : Int, HV Tryz.prog (Instr.loadAt 49 (.pointer (some a47))) h (.agg #[(.int .i64 x48), (.int .u32 x49), (.int .i64 x50), (.int .u32 x51), (.int .i64 x52), (.int .u16 x53), (.int .u16 x54), (.int .u16 x55), (.int .u16 x56), (.int .u8 x57), (.int .u8 x58), (.int .i64 x59)]) ∧ 
    ∃ b60 : Bool, PV Tryz.prog (binOp .neq 49 (.agg #[(.int .i64 x35), (.int .u32 x36), (.int .i64 x37), (.int .u32 x38), (.int .i64 x39), (.int .u16 x40), (.int .u16 x41), (.int .u16 x42), (.int .u16 x43), (.int .u8 x44), (.int .u8 x45), (.int .i64 x46)]) (.agg #[(.int .i64 x48), (.int .u32 x49), (.int .i64 x50), (.int .u32 x51), (.int .i64 x52), (.int .u16 x53), (.int .u16 x54), (.int .u16 x55), (.int .u16 x56), (.int .u8 x57), (.int .u8 x58), (.int .i64 x59)])) (.bool b60) ∧
    br b60
    (K0 false h)
    (quintetkeep_Same_l1 A3 l3 c3 A4 l4 c4 K0 K1 k (IntKind.i64.wrap (x5 + 1)) h))
    (K1 h)
def quintetkeep_Same_l1_L (Q : Qx) (k : Nat) (tm : Tm) (h : Hp) : Prop :=
  selS (tm 0) fun A3 l3 c3 =>
  selS (tm 1) fun A4 l4 c4 =>
  selI .i64 (tm 5) fun x5 =>
  quintetkeep_Same_l1 A3 l3 c3 A4 l4 c4 (fun (b33 : Bool) h => Q (.ret) (mkTm [(4, some (.bool b33))]) h) (fun  h => Q (.exit 0) (mkTm []) h) k x5 h
def quintetkeep_Same (A1 : Option Addr) (l1 : Nat) (c1 : Nat) (A2 : Option Addr) (l2 : Nat) (c2 : Nat) (h : Hp) (K : Value → Hp → Prop) : Prop :=
  br ((l1 : Int) != (l2 : Int))
  (K (.bool false) h)
  (∃ k64, quintetkeep_Same_l1 A1 l1 c1 A2 l2 c2
  (fun (b61 : Bool) (h62 : Hp) =>
  K (.bool b61) h62)
  (fun  (h63 : Hp) =>
  K (.bool true) h63)
  k64 0 h)
def quintetkeep_Same_lp (i : Nat) (Q : Qx) (tm : Tm) (h : Hp) : Prop := match Nat.beq i 58 with
  | true => ∃ k, quintetkeep_Same_l1_L Q k tm h
  | false => False
def quintetkeep_Same_cut (i : Nat) : Option (List Nat) := none
set_option maxRecDepth 100000 in
theorem quintetkeep_Same_l1_step (Q : Qx) (k : Nat) (A3 : Option Addr) (l3 : Nat) (c3 : Nat) (A4 : Option Addr) (l4 : Nat) (c4 : Nat) (x5 : Int) (h : Hp) : quintetkeep_Same_l1_L Q (k + 1) (mkTm [(0, some (.slice A3 l3 c3)), (1, some (.slice A4 l4 c4)), (5, some (.int .i64 x5))]) h =
    codeWp Tryz.prog 26 quintetkeep_Same_lp quintetkeep_Same_cut (sub (bodyOf Tryz.f33) [true, true, false, true, false, false]) 116 (thenQ (fun tm h => quintetkeep_Same_l1_L Q k (mask [0, 1, 5] tm) h) (maskQ (fun e => match e with | .ret => [4] | .exit 0 => [] | _ => []) Q)) (mkTm [(0, some (.slice A3 l3 c3)), (1, some (.slice A4 l4 c4)), (5, some (.int .i64 x5))]) h := by kernel_rfl
theorem quintetkeep_Same_l1_mask (Q : Qx) (k : Nat) (tm : Tm) (h : Hp) : quintetkeep_Same_l1_L Q k tm h ↔ quintetkeep_Same_l1_L Q k (mask [0, 1, 5] tm) h := Iff.rfl
set_option maxRecDepth 100000 in
theorem quintetkeep_Same_l1_snd : SndAt Tryz.prog 26 none (sub (bodyOf Tryz.f33) [true, true, false, true, false]) (quintetkeep_Same_lp 58) := by
  refine loop_sound (lp := quintetkeep_Same_lp) (cut := quintetkeep_Same_cut) (i := 58) (c := (sub (bodyOf Tryz.f33) [true, true, false, true, false, false])) [0, 1, 5] (fun e => match e with | .ret => [4] | .exit 0 => [] | _ => []) quintetkeep_Same_l1_L ?_ ?_ ?_
  · exact good_by (c := (sub (bodyOf Tryz.f33) [true, true, false, true, false, false])) (i := 116) (l := []) (by kernel_rfl) (fun _ h => by cases h)
  · intro Q tm h H
    obtain ⟨A3, l3, c3, e0, H⟩ := selS_ex H
    obtain ⟨A4, l4, c4, e1, H⟩ := selS_ex H
    obtain ⟨x5, e5, H⟩ := selI_ex H
    exact H
  · intro Q k tm h H
    have H0 := H
    obtain ⟨A3, l3, c3, e0, H⟩ := selS_ex H
    obtain ⟨A4, l4, c4, e1, H⟩ := selS_ex H
    obtain ⟨x5, e5, H⟩ := selI_ex H
    have e : mask [0, 1, 5] tm = mkTm [(0, some (.slice A3 l3 c3)), (1, some (.slice A4 l4 c4)), (5, some (.int .i64 x5))] := by simp only [mask, List.map_cons, List.map_nil, e0, e1, e5] <;> rfl
    rw [e]
    refine Eq.mp (quintetkeep_Same_l1_step Q k A3 l3 c3 A4 l4 c4 x5 h) ?_
    rw [← e]
    exact (quintetkeep_Same_l1_mask Q (k + 1) tm h).mp H0
set_option maxRecDepth 100000 in
theorem quintetkeep_Same_eq (A1 : Option Addr) (l1 : Nat) (c1 : Nat) (A2 : Option Addr) (l2 : Nat) (c2 : Nat) (h : Hp) (K : Value → Hp → Prop) : quintetkeep_Same A1 l1 c1 A2 l2 c2 h K =
    codeWp Tryz.prog 26 quintetkeep_Same_lp quintetkeep_Same_cut (bodyOf Tryz.f33) 1 (endQ Tryz.prog Tryz.f33.results.toList K) (argTm [(.slice A1 l1 c1), (.slice A2 l2 c2)]) h := by kernel_rfl
set_option maxRecDepth 100000 in
theorem quintetkeep_Same_ok (A1 : Option Addr) (l1 : Nat) (c1 : Nat) (A2 : Option Addr) (l2 : Nat) (c2 : Nat) {h : Hp} {K : Value → Hp → Prop} (H : quintetkeep_Same A1 l1 c1 A2 l2 c2 h K) : CallsH Tryz.prog 33 #[(.slice A1 l1 c1), (.slice A2 l2 c2)] h K :=
  calls_of (args := [(.slice A1 l1 c1), (.slice A2 l2 c2)]) (n := 26) (lp := quintetkeep_Same_lp) (cut := quintetkeep_Same_cut) Tryz.func33 (c := bodyOf Tryz.f33) (by kernel_rfl) (by kernel_rfl) (by kernel_rfl) (good_by (c := (bodyOf Tryz.f33)) (i := 1) (l := [(58, (sub (bodyOf Tryz.f33) [true, true, false, true, false]))]) (by kernel_rfl) (List.forall_mem_cons.2 ⟨quintetkeep_Same_l1_snd, (fun _ h => by cases h)⟩))
    (Eq.mp (quintetkeep_Same_eq A1 l1 c1 A2 l2 c2 h K) H)

/-! ### quintet/quintetkeep.mark: function 19 -/
def quintetkeep_mark (x1 : Int) (h : Hp) (K : Value → Hp → Prop) : Prop :=
  newC h (.cells #[(.int .i64 0), (.int .u32 0), (.int .i64 0), (.int .u32 0), (.int .i64 0), (.int .u16 0), (.int .u16 0), (.int .u16 0), (.int .u16 0), (.int .u8 0), (.int .u8 0), (.int .i64 0)] 49 (0, 0)) fun a3 h2 => 
  HU Tryz.prog (Instr.storeAt 49 (.pointer (some a3)) (.agg #[(.int .i64 (IntKind.i64.wrap ((-7) - x1))), (.int .u32 0), (.int .i64 0), (.int .u32 0), (.int .i64 0), (.int .u16 0), (.int .u16 0), (.int .u16 0), (.int .u16 0), (.int .u8 0), (.int .u8 0), (.int .i64 77)])) h2 fun h4 => 
  ∃ x5 : Int, ∃ x6 : Int, ∃ x7 : Int, ∃ x8 : Int, ∃ x9 : Int, ∃ x10 : Int, ∃ x11 : Int, ∃ x12 : Int, ∃ x13 : Int, ∃ x14 : Int, ∃ x15 : Int, ∃ x16 : Int, HV Tryz.prog (Instr.loadAt 49 (.pointer (some a3))) h4 (.agg #[(.int .i64 x5), (.int .u32 x6), (.int .i64 x7), (.int .u32 x8), (.int .i64 x9), (.int .u16 x10), (.int .u16 x11), (.int .u16 x12), (.int .u16 x13), (.int .u8 x14), (.int .u8 x15), (.int .i64 x16)]) ∧ K (.agg #[(.int .i64 x5), (.int .u32 x6), (.int .i64 x7), (.int .u32 x8), (.int .i64 x9), (.int .u16 x10), (.int .u16 x11), (.int .u16 x12), (.int .u16 x13), (.int .u8 x14), (.int .u8 x15), (.int .i64 x16)]) h4
def quintetkeep_mark_lp (i : Nat) (Q : Qx) (tm : Tm) (h : Hp) : Prop := False
def quintetkeep_mark_cut (i : Nat) : Option (List Nat) := none
set_option maxRecDepth 100000 in
theorem quintetkeep_mark_eq (x1 : Int) (h : Hp) (K : Value → Hp → Prop) : quintetkeep_mark x1 h K =
    codeWp Tryz.prog 6 quintetkeep_mark_lp quintetkeep_mark_cut (bodyOf Tryz.f19) 1 (endQ Tryz.prog Tryz.f19.results.toList K) (argTm [(.int .i64 x1)]) h := by kernel_rfl
set_option maxRecDepth 100000 in
theorem quintetkeep_mark_ok (x1 : Int) {h : Hp} {K : Value → Hp → Prop} (H : quintetkeep_mark x1 h K) : CallsH Tryz.prog 19 #[(.int .i64 x1)] h K :=
  calls_of (args := [(.int .i64 x1)]) (n := 6) (lp := quintetkeep_mark_lp) (cut := quintetkeep_mark_cut) Tryz.func19 (c := bodyOf Tryz.f19) (by kernel_rfl) (by kernel_rfl) (by kernel_rfl) (good_by (c := (bodyOf Tryz.f19)) (i := 1) (l := []) (by kernel_rfl) (fun _ h => by cases h))
    (Eq.mp (quintetkeep_mark_eq x1 h K) H)

end Go.Proofs.YtgahbkbmolfpnaaGreat.Fs
