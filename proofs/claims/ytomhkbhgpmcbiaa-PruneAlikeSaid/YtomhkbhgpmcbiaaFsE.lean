/- Printed by sx.py: words over the heap alone for Go functions, and that each call does what its word says. -/
import Derived.Test.YtomhkbhgpmcbiaaSxSel
import Derived.Test.YtomhkbhgpmcbiaaSxNest
import Derived.Test.YtomhkbhgpmcbiaaProg
namespace Go.Proofs.Ytomhkbhgpmcbiaa.Fs
open Go Go.RowKit Go.Proofs.Ytomhkbhgpmcbiaa.Sx
set_option linter.unusedVariables false

/-! ### quintet/quintetlaw16.PruneNew: function 3 -/
def quintetlaw16_PruneNew_j1 (K0 : Bool → Hp → Prop) (a39 : Addr) (a40 : Addr) (p41 : Option Addr) (h : Hp) : Prop :=
  ∃ b105 : Bool, PV Try.prog (binOp .eql 31 (.pointer p41) (.pointer none)) (.bool b105) ∧
  br b105
  (CallsH Try.prog 9 #[] h fun r107 h106 =>
  ∃ b108 : Bool, r107 = (.bool b108) ∧ 
  K0 b108 h106)
  (∃ x109 : Int, ∃ x110 : Int, ∃ x111 : Int, ∃ x112 : Int, ∃ x113 : Int, HV Try.prog (Instr.loadAt 28 (.pointer (some a40))) h (.agg #[(.int .u32 x109), (.int .u32 x110), (.int .u16 x111), (.int .u16 x112), (.int .u8 x113)]) ∧ 
  CallsH Try.prog 10 #[(.pointer p41), (.agg #[(.int .u32 x109), (.int .u32 x110), (.int .u16 x111), (.int .u16 x112), (.int .u8 x113)])] h fun r115 h114 =>
  ∃ b116 : Bool, ∃ x117 : Int, ∃ x118 : Int, ∃ x119 : Int, ∃ x120 : Int, ∃ x121 : Int, ∃ x122 : Int, ∃ x123 : Int, r115 = (.tuple #[(.agg #[(.bool b116), (.int .i64 x117), (.int .i64 x118)]), (.agg #[(.int .i64 x119), (.int .i64 x120), (.int .i64 x121), (.int .i64 x122), (.int .i64 x123)])]) ∧ 
  newC h114 (.cells #[(.bool false), (.int .i64 0), (.int .i64 0)] 36 (0, 0)) fun a125 h124 => 
  newC h124 (.cells #[(.int .i64 0), (.int .i64 0), (.int .i64 0), (.int .i64 0), (.int .i64 0)] 38 (0, 0)) fun a127 h126 => 
  HU Try.prog (Instr.storeAt 36 (.pointer (some a125)) (.agg #[(.bool b116), (.int .i64 x117), (.int .i64 x118)])) h126 fun h128 => 
  HU Try.prog (Instr.storeAt 38 (.pointer (some a127)) (.agg #[(.int .i64 x119), (.int .i64 x120), (.int .i64 x121), (.int .i64 x122), (.int .i64 x123)])) h128 fun h129 => 
  CallsH Try.prog 9 #[] h129 fun r131 h130 =>
  ∃ b132 : Bool, r131 = (.bool b132) ∧ 
  br b132
  (∃ b133 : Bool, ∃ x134 : Int, ∃ x135 : Int, HV Try.prog (Instr.loadAt 36 (.pointer (some a125))) h130 (.agg #[(.bool b133), (.int .i64 x134), (.int .i64 x135)]) ∧ 
  ∃ x136 : Int, HV Try.prog (Instr.loadAt 22 (.pointer (some (a39.add 1)))) h130 (.int .i64 x136) ∧ 
  ∃ b137 : Bool, PV Try.prog (binOp .eql 36 (.agg #[(.bool b133), (.int .i64 x134), (.int .i64 x135)]) (.agg #[(.bool false), (.int .i64 0), (.int .i64 x136)])) (.bool b137) ∧
  br b137
  (∃ x138 : Int, ∃ x139 : Int, ∃ x140 : Int, ∃ x141 : Int, ∃ x142 : Int, ∃ x143 : Int, ∃ x144 : Int, HV Try.prog (Instr.loadAt 24 (.pointer (some a39))) h130 (.agg #[(.int .i64 x138), (.int .i64 x139), (.int .i64 x140), (.int .i64 x141), (.int .i64 x142), (.int .i64 x143), (.int .i64 x144)]) ∧ 
  ∃ x145 : Int, ∃ x146 : Int, ∃ x147 : Int, ∃ x148 : Int, ∃ x149 : Int, HV Try.prog (Instr.loadAt 28 (.pointer (some a40))) h130 (.agg #[(.int .u32 x145), (.int .u32 x146), (.int .u16 x147), (.int .u16 x148), (.int .u8 x149)]) ∧ 
  ∃ b150 : Bool, ∃ x151 : Int, ∃ x152 : Int, HV Try.prog (Instr.loadAt 36 (.pointer (some a125))) h130 (.agg #[(.bool b150), (.int .i64 x151), (.int .i64 x152)]) ∧ 
  ∃ x153 : Int, ∃ x154 : Int, ∃ x155 : Int, ∃ x156 : Int, ∃ x157 : Int, HV Try.prog (Instr.loadAt 38 (.pointer (some a127))) h130 (.agg #[(.int .i64 x153), (.int .i64 x154), (.int .i64 x155), (.int .i64 x156), (.int .i64 x157)]) ∧ 
  CallsH Try.prog 12 #[(.pointer p41)] h130 fun r159 h158 =>
  ∃ x160 : Int, ∃ x161 : Int, ∃ x162 : Int, ∃ x163 : Int, r159 = (.agg #[(.int .i64 x160), (.int .i64 x161), (.int .i64 x162), (.int .i64 x163)]) ∧ HV Try.prog (Instr.loadAt 38 (.pointer (some a127))) h158 (.agg #[(.int .i64 x153), (.int .i64 x154), (.int .i64 x155), (.int .i64 x156), (.int .i64 x157)]) ∧ HV Try.prog (Instr.loadAt 36 (.pointer (some a125))) h158 (.agg #[(.bool b150), (.int .i64 x151), (.int .i64 x152)]) ∧ HV Try.prog (Instr.loadAt 28 (.pointer (some a40))) h158 (.agg #[(.int .u32 x145), (.int .u32 x146), (.int .u16 x147), (.int .u16 x148), (.int .u8 x149)]) ∧ HV Try.prog (Instr.loadAt 24 (.pointer (some a39))) h158 (.agg #[(.int .i64 x138), (.int .i64 x139), (.int .i64 x140), (.int .i64 x141), (.int .i64 x142), (.int .i64 x143), (.int .i64 x144)]) ∧ 
  CallsH Try.prog 11 #[(.agg #[(.int .i64 x138), (.int .i64 x139), (.int .i64 x140), (.int .i64 x141), (.int .i64 x142), (.int .i64 x143), (.int .i64 x144)]), (.slice none 0 0), (.agg #[(.int .u32 x145), (.int .u32 x146), (.int .u16 x147), (.int .u16 x148), (.int .u8 x149)]), (.agg #[(.bool b150), (.int .i64 x151), (.int .i64 x152)]), (.agg #[(.int .i64 x153), (.int .i64 x154), (.int .i64 x155), (.int .i64 x156), (.int .i64 x157)]), (.agg #[(.int .i64 x160), (.int .i64 x161), (.int .i64 x162), (.int .i64 x163)])] h158 fun r165 h164 =>
  ∃ b166 : Bool, r165 = (.bool b166) ∧ 
  K0 b166 h164)
  (K0 false h130))
  (K0 false h130))
def quintetlaw16_PruneNew_j1_L (Q : Qx) (tm : Tm) (h : Hp) : Prop :=
  selA (tm 2) fun a39 =>
  selA (tm 3) fun a40 =>
  selP (tm 6) fun p41 =>
  quintetlaw16_PruneNew_j1 (fun (b104 : Bool) h => Q (.ret) (mkTm [(4, some (.bool b104))]) h) a39 a40 p41 h
def quintetlaw16_PruneNew (x1 : Int) (x2 : Int) (x3 : Int) (x4 : Int) (x5 : Int) (x6 : Int) (x7 : Int) (x8 : Int) (x9 : Int) (x10 : Int) (x11 : Int) (x12 : Int) (h : Hp) (K : Value → Hp → Prop) : Prop :=
  newC h (.cells #[(.int .i64 x1), (.int .i64 x2), (.int .i64 x3), (.int .i64 x4), (.int .i64 x5), (.int .i64 x6), (.int .i64 x7)] 24 (0, 0)) fun a14 h13 => 
  newC h13 (.cells #[(.int .u32 x8), (.int .u32 x9), (.int .u16 x10), (.int .u16 x11), (.int .u8 x12)] 28 (0, 0)) fun a16 h15 => 
  ∃ x17 : Int, ∃ x18 : Int, ∃ x19 : Int, ∃ x20 : Int, ∃ x21 : Int, ∃ x22 : Int, ∃ x23 : Int, HV Try.prog (Instr.loadAt 24 (.pointer (some a14))) h15 (.agg #[(.int .i64 x17), (.int .i64 x18), (.int .i64 x19), (.int .i64 x20), (.int .i64 x21), (.int .i64 x22), (.int .i64 x23)]) ∧ 
  CallsH Try.prog 7 #[(.agg #[(.int .i64 x17), (.int .i64 x18), (.int .i64 x19), (.int .i64 x20), (.int .i64 x21), (.int .i64 x22), (.int .i64 x23)])] h15 fun r25 h24 =>
  ∃ x26 : Int, r25 = (.int .i64 x26) ∧ 
  ∃ x27 : Int, ∃ x28 : Int, ∃ x29 : Int, ∃ x30 : Int, ∃ x31 : Int, ∃ x32 : Int, ∃ x33 : Int, HV Try.prog (Instr.loadAt 24 (.pointer (some a14))) h24 (.agg #[(.int .i64 x27), (.int .i64 x28), (.int .i64 x29), (.int .i64 x30), (.int .i64 x31), (.int .i64 x32), (.int .i64 x33)]) ∧ 
  CallsH Try.prog 8 #[(.agg #[(.int .i64 x27), (.int .i64 x28), (.int .i64 x29), (.int .i64 x30), (.int .i64 x31), (.int .i64 x32), (.int .i64 x33)])] h24 fun r35 h34 =>
  ∃ p36 : Option Addr, ∃ x37 : Int, r35 = (.tuple #[(.pointer p36), (.int .i64 x37)]) ∧ 
  br (x37 != x26)
  (K (.bool false) h34)
  (∃ b167 : Bool, PV Try.prog (binOp .eql 31 (.pointer p36) (.pointer none)) (.bool b167) ∧
  br (!(b167 == (x26 != 0)))
  (K (.bool false) h34)
  (quintetlaw16_PruneNew_j1
  (fun (b168 : Bool) (h169 : Hp) =>
  K (.bool b168) h169)
  a14 a16 p36 h34))
def quintetlaw16_PruneNew_lp (i : Nat) (Q : Qx) (tm : Tm) (h : Hp) : Prop := match Nat.beq i 15 with
  | true => quintetlaw16_PruneNew_j1_L Q tm h
  | false => False
def quintetlaw16_PruneNew_cut (i : Nat) : Option (List Nat) := match Nat.beq i 15 with
  | true => some [2, 3, 6]
  | false => none
set_option maxRecDepth 100000 in
theorem quintetlaw16_PruneNew_j1_step (Q : Qx) (a39 : Addr) (a40 : Addr) (p41 : Option Addr) (h : Hp) : quintetlaw16_PruneNew_j1_L Q (mkTm [(2, some (.pointer (some a39))), (3, some (.pointer (some a40))), (6, some (.pointer p41))]) h =
    codeWp Try.prog 53 quintetlaw16_PruneNew_lp quintetlaw16_PruneNew_cut (sub (bodyOf Try.f3) [true, true, true, true]) 31 (maskQ (fun e => match e with | .ret => [4] | _ => []) Q) (mkTm [(2, some (.pointer (some a39))), (3, some (.pointer (some a40))), (6, some (.pointer p41))]) h := by kernel_rfl
theorem quintetlaw16_PruneNew_j1_mask (Q : Qx) (tm : Tm) (h : Hp) : quintetlaw16_PruneNew_j1_L Q tm h ↔ quintetlaw16_PruneNew_j1_L Q (mask [2, 3, 6] tm) h := Iff.rfl
set_option maxRecDepth 100000 in
theorem quintetlaw16_PruneNew_j1_snd : SndAt Try.prog 53 none (sub (bodyOf Try.f3) [true, true, true, true]) (quintetlaw16_PruneNew_lp 15) := by
  refine join_sound (lp := quintetlaw16_PruneNew_lp) (cut := quintetlaw16_PruneNew_cut) (i := 15) (c := (sub (bodyOf Try.f3) [true, true, true, true])) [2, 3, 6] (fun e => match e with | .ret => [4] | _ => []) quintetlaw16_PruneNew_j1_L ?_ ?_
  · exact good_by (c := (sub (bodyOf Try.f3) [true, true, true, true])) (i := 31) (l := []) (by kernel_rfl) (fun _ h => by cases h)
  · intro Q tm h H
    have H0 := H
    obtain ⟨a39, e2, H⟩ := selA_ex H
    obtain ⟨a40, e3, H⟩ := selA_ex H
    obtain ⟨p41, e6, H⟩ := selP_ex H
    have e : mask [2, 3, 6] tm = mkTm [(2, some (.pointer (some a39))), (3, some (.pointer (some a40))), (6, some (.pointer p41))] := by simp only [mask, List.map_cons, List.map_nil, e2, e3, e6] <;> rfl
    rw [e]
    refine Eq.mp (quintetlaw16_PruneNew_j1_step Q a39 a40 p41 h) ?_
    rw [← e]
    exact (quintetlaw16_PruneNew_j1_mask Q tm h).mp H0
set_option maxRecDepth 100000 in
theorem quintetlaw16_PruneNew_eq (x1 : Int) (x2 : Int) (x3 : Int) (x4 : Int) (x5 : Int) (x6 : Int) (x7 : Int) (x8 : Int) (x9 : Int) (x10 : Int) (x11 : Int) (x12 : Int) (h : Hp) (K : Value → Hp → Prop) : quintetlaw16_PruneNew x1 x2 x3 x4 x5 x6 x7 x8 x9 x10 x11 x12 h K =
    codeWp Try.prog 53 quintetlaw16_PruneNew_lp quintetlaw16_PruneNew_cut (bodyOf Try.f3) 1 (endQ Try.prog Try.f3.results.toList K) (argTm [(.agg #[(.int .i64 x1), (.int .i64 x2), (.int .i64 x3), (.int .i64 x4), (.int .i64 x5), (.int .i64 x6), (.int .i64 x7)]), (.agg #[(.int .u32 x8), (.int .u32 x9), (.int .u16 x10), (.int .u16 x11), (.int .u8 x12)])]) h := by kernel_rfl
set_option maxRecDepth 100000 in
theorem quintetlaw16_PruneNew_ok (x1 : Int) (x2 : Int) (x3 : Int) (x4 : Int) (x5 : Int) (x6 : Int) (x7 : Int) (x8 : Int) (x9 : Int) (x10 : Int) (x11 : Int) (x12 : Int) {h : Hp} {K : Value → Hp → Prop} (H : quintetlaw16_PruneNew x1 x2 x3 x4 x5 x6 x7 x8 x9 x10 x11 x12 h K) : CallsH Try.prog 3 #[(.agg #[(.int .i64 x1), (.int .i64 x2), (.int .i64 x3), (.int .i64 x4), (.int .i64 x5), (.int .i64 x6), (.int .i64 x7)]), (.agg #[(.int .u32 x8), (.int .u32 x9), (.int .u16 x10), (.int .u16 x11), (.int .u8 x12)])] h K :=
  calls_of (args := [(.agg #[(.int .i64 x1), (.int .i64 x2), (.int .i64 x3), (.int .i64 x4), (.int .i64 x5), (.int .i64 x6), (.int .i64 x7)]), (.agg #[(.int .u32 x8), (.int .u32 x9), (.int .u16 x10), (.int .u16 x11), (.int .u8 x12)])]) (n := 53) (lp := quintetlaw16_PruneNew_lp) (cut := quintetlaw16_PruneNew_cut) Try.func3 (c := bodyOf Try.f3) (by kernel_rfl) (by kernel_rfl) (by kernel_rfl) (good_by (c := (bodyOf Try.f3)) (i := 1) (l := [(15, (sub (bodyOf Try.f3) [true, true, true, true]))]) (by kernel_rfl) (List.forall_mem_cons.2 ⟨quintetlaw16_PruneNew_j1_snd, (fun _ h => by cases h)⟩))
    (Eq.mp (quintetlaw16_PruneNew_eq x1 x2 x3 x4 x5 x6 x7 x8 x9 x10 x11 x12 h K) H)

/-! ### quintet/quintetlaw16.awake: function 9 -/
def quintetlaw16_awake_j1 (K0 : Bool → Hp → Prop) (p15 : Option Addr) (h : Hp) : Prop :=
  CallsH Try.prog 21 #[(.int .i64 1), (.int .i64 2)] h fun r157 h156 =>
  ∃ x158 : Int, ∃ x159 : Int, ∃ x160 : Int, ∃ x161 : Int, ∃ x162 : Int, ∃ x163 : Int, ∃ x164 : Int, ∃ x165 : Int, ∃ x166 : Int, ∃ x167 : Int, ∃ x168 : Int, ∃ x169 : Int, r157 = (.agg #[(.int .i64 x158), (.int .u32 x159), (.int .i64 x160), (.int .u32 x161), (.int .i64 x162), (.int .u16 x163), (.int .u16 x164), (.int .u16 x165), (.int .u16 x166), (.int .u8 x167), (.int .u8 x168), (.int .i64 x169)]) ∧ 
  newC h156 (.cells #[(.int .i64 0), (.int .u32 0), (.int .i64 0), (.int .u32 0), (.int .i64 0), (.int .u16 0), (.int .u16 0), (.int .u16 0), (.int .u16 0), (.int .u8 0), (.int .u8 0), (.int .i64 0)] 60 (0, 0)) fun a171 h170 => 
  HU Try.prog (Instr.storeAt 60 (.pointer (some a171)) (.agg #[(.int .i64 x158), (.int .u32 x159), (.int .i64 x160), (.int .u32 x161), (.int .i64 x162), (.int .u16 x163), (.int .u16 x164), (.int .u16 x165), (.int .u16 x166), (.int .u8 x167), (.int .u8 x168), (.int .i64 x169)])) h170 fun h172 => 
  HU Try.prog (Instr.storeAt 54 (.pointer (some (a171.add 1))) (.agg #[(.int .u32 167772160), (.int .i64 8)])) h172 fun h173 => 
  CallsH Try.prog 21 #[(.int .i64 2), (.int .i64 3)] h173 fun r175 h174 =>
  ∃ x176 : Int, ∃ x177 : Int, ∃ x178 : Int, ∃ x179 : Int, ∃ x180 : Int, ∃ x181 : Int, ∃ x182 : Int, ∃ x183 : Int, ∃ x184 : Int, ∃ x185 : Int, ∃ x186 : Int, ∃ x187 : Int, r175 = (.agg #[(.int .i64 x176), (.int .u32 x177), (.int .i64 x178), (.int .u32 x179), (.int .i64 x180), (.int .u16 x181), (.int .u16 x182), (.int .u16 x183), (.int .u16 x184), (.int .u8 x185), (.int .u8 x186), (.int .i64 x187)]) ∧ 
  newC h174 (.cells #[(.int .i64 0), (.int .u32 0), (.int .i64 0), (.int .u32 0), (.int .i64 0), (.int .u16 0), (.int .u16 0), (.int .u16 0), (.int .u16 0), (.int .u8 0), (.int .u8 0), (.int .i64 0)] 60 (0, 0)) fun a189 h188 => 
  HU Try.prog (Instr.storeAt 60 (.pointer (some a189)) (.agg #[(.int .i64 x176), (.int .u32 x177), (.int .i64 x178), (.int .u32 x179), (.int .i64 x180), (.int .u16 x181), (.int .u16 x182), (.int .u16 x183), (.int .u16 x184), (.int .u8 x185), (.int .u8 x186), (.int .i64 x187)])) h188 fun h190 => 
  HU Try.prog (Instr.storeAt 54 (.pointer (some (a189.add 3))) (.agg #[(.int .u32 167772160), (.int .i64 8)])) h190 fun h191 => 
  ∃ x192 : Int, ∃ x193 : Int, ∃ x194 : Int, ∃ x195 : Int, ∃ x196 : Int, ∃ x197 : Int, ∃ x198 : Int, ∃ x199 : Int, ∃ x200 : Int, ∃ x201 : Int, ∃ x202 : Int, ∃ x203 : Int, HV Try.prog (Instr.loadAt 60 (.pointer (some a171))) h191 (.agg #[(.int .i64 x192), (.int .u32 x193), (.int .i64 x194), (.int .u32 x195), (.int .i64 x196), (.int .u16 x197), (.int .u16 x198), (.int .u16 x199), (.int .u16 x200), (.int .u8 x201), (.int .u8 x202), (.int .i64 x203)]) ∧ 
  CallsH Try.prog 15 #[(.pointer p15), (.int .i64 0), (.agg #[(.int .i64 x192), (.int .u32 x193), (.int .i64 x194), (.int .u32 x195), (.int .i64 x196), (.int .u16 x197), (.int .u16 x198), (.int .u16 x199), (.int .u16 x200), (.int .u8 x201), (.int .u8 x202), (.int .i64 x203)])] h191 fun r205 h204 =>
  ∃ x206 : Int, r205 = (.int .i64 x206) ∧ 
  ∃ x207 : Int, ∃ x208 : Int, ∃ x209 : Int, ∃ x210 : Int, ∃ x211 : Int, ∃ x212 : Int, ∃ x213 : Int, ∃ x214 : Int, ∃ x215 : Int, ∃ x216 : Int, ∃ x217 : Int, ∃ x218 : Int, HV Try.prog (Instr.loadAt 60 (.pointer (some a189))) h204 (.agg #[(.int .i64 x207), (.int .u32 x208), (.int .i64 x209), (.int .u32 x210), (.int .i64 x211), (.int .u16 x212), (.int .u16 x213), (.int .u16 x214), (.int .u16 x215), (.int .u8 x216), (.int .u8 x217), (.int .i64 x218)]) ∧ 
  CallsH Try.prog 15 #[(.pointer p15), (.int .i64 1), (.agg #[(.int .i64 x207), (.int .u32 x208), (.int .i64 x209), (.int .u32 x210), (.int .i64 x211), (.int .u16 x212), (.int .u16 x213), (.int .u16 x214), (.int .u16 x215), (.int .u8 x216), (.int .u8 x217), (.int .i64 x218)])] h204 fun r220 h219 =>
  ∃ x221 : Int, r220 = (.int .i64 x221) ∧ 
  ∃ x222 : Int, ∃ x223 : Int, ∃ x224 : Int, ∃ x225 : Int, ∃ x226 : Int, ∃ x227 : Int, ∃ x228 : Int, ∃ x229 : Int, ∃ x230 : Int, ∃ x231 : Int, ∃ x232 : Int, ∃ x233 : Int, HV Try.prog (Instr.loadAt 60 (.pointer (some a171))) h219 (.agg #[(.int .i64 x222), (.int .u32 x223), (.int .i64 x224), (.int .u32 x225), (.int .i64 x226), (.int .u16 x227), (.int .u16 x228), (.int .u16 x229), (.int .u16 x230), (.int .u8 x231), (.int .u8 x232), (.int .i64 x233)]) ∧ 
  CallsH Try.prog 15 #[(.pointer p15), (.int .i64 0), (.agg #[(.int .i64 x222), (.int .u32 x223), (.int .i64 x224), (.int .u32 x225), (.int .i64 x226), (.int .u16 x227), (.int .u16 x228), (.int .u16 x229), (.int .u16 x230), (.int .u8 x231), (.int .u8 x232), (.int .i64 x233)])] h219 fun r235 h234 =>
  ∃ x236 : Int, r235 = (.int .i64 x236) ∧ 
  CallsH Try.prog 10 #[(.pointer p15), (.agg #[(.int .u32 167772169), (.int .u32 167772160), (.int .u16 0), (.int .u16 0), (.int .u8 0)])] h234 fun r238 h237 =>
  ∃ b239 : Bool, ∃ x240 : Int, ∃ x241 : Int, ∃ x242 : Int, ∃ x243 : Int, ∃ x244 : Int, ∃ x245 : Int, ∃ x246 : Int, r238 = (.tuple #[(.agg #[(.bool b239), (.int .i64 x240), (.int .i64 x241)]), (.agg #[(.int .i64 x242), (.int .i64 x243), (.int .i64 x244), (.int .i64 x245), (.int .i64 x246)])]) ∧ 
  newC h237 (.cells #[(.bool false), (.int .i64 0), (.int .i64 0)] 36 (0, 0)) fun a248 h247 => 
  newC h247 (.cells #[(.int .i64 0), (.int .i64 0), (.int .i64 0), (.int .i64 0), (.int .i64 0)] 38 (0, 0)) fun a250 h249 => 
  HU Try.prog (Instr.storeAt 36 (.pointer (some a248)) (.agg #[(.bool b239), (.int .i64 x240), (.int .i64 x241)])) h249 fun h251 => 
  HU Try.prog (Instr.storeAt 38 (.pointer (some a250)) (.agg #[(.int .i64 x242), (.int .i64 x243), (.int .i64 x244), (.int .i64 x245), (.int .i64 x246)])) h251 fun h252 => 
  CallsH Try.prog 10 #[(.pointer p15), (.agg #[(.int .u32 150994944), (.int .u32 167772160), (.int .u16 0), (.int .u16 0), (.int .u8 0)])] h252 fun r254 h253 =>
  ∃ b255 : Bool, ∃ x256 : Int, ∃ x257 : Int, ∃ x258 : Int, ∃ x259 : Int, ∃ x260 : Int, ∃ x261 : Int, ∃ x262 : Int, r254 = (.tuple #[(.agg #[(.bool b255), (.int .i64 x256), (.int .i64 x257)]), (.agg #[(.int .i64 x258), (.int .i64 x259), (.int .i64 x260), (.int .i64 x261), (.int .i64 x262)])]) ∧ 
  newC h253 (.cells #[(.bool false), (.int .i64 0), (.int .i64 0)] 36 (0, 0)) fun a264 h263 => 
  newC h263 (.cells #[(.int .i64 0), (.int .i64 0), (.int .i64 0), (.int .i64 0), (.int .i64 0)] 38 (0, 0)) fun a266 h265 => 
  HU Try.prog (Instr.storeAt 36 (.pointer (some a264)) (.agg #[(.bool b255), (.int .i64 x256), (.int .i64 x257)])) h265 fun h267 => 
  HU Try.prog (Instr.storeAt 38 (.pointer (some a266)) (.agg #[(.int .i64 x258), (.int .i64 x259), (.int .i64 x260), (.int .i64 x261), (.int .i64 x262)])) h267 fun h268 => 
  CallsH Try.prog 10 #[(.pointer p15), (.agg #[(.int .u32 150994944), (.int .u32 150994944), (.int .u16 0), (.int .u16 0), (.int .u8 0)])] h268 fun r270 h269 =>
  ∃ b271 : Bool, ∃ x272 : Int, ∃ x273 : Int, ∃ x274 : Int, ∃ x275 : Int, ∃ x276 : Int, ∃ x277 : Int, ∃ x278 : Int, r270 = (.tuple #[(.agg #[(.bool b271), (.int .i64 x272), (.int .i64 x273)]), (.agg #[(.int .i64 x274), (.int .i64 x275), (.int .i64 x276), (.int .i64 x277), (.int .i64 x278)])]) ∧ 
  newC h269 (.cells #[(.bool false), (.int .i64 0), (.int .i64 0)] 36 (0, 0)) fun a280 h279 => 
  newC h279 (.cells #[(.int .i64 0), (.int .i64 0), (.int .i64 0), (.int .i64 0), (.int .i64 0)] 38 (0, 0)) fun a282 h281 => 
  HU Try.prog (Instr.storeAt 36 (.pointer (some a280)) (.agg #[(.bool b271), (.int .i64 x272), (.int .i64 x273)])) h281 fun h283 => 
  HU Try.prog (Instr.storeAt 38 (.pointer (some a282)) (.agg #[(.int .i64 x274), (.int .i64 x275), (.int .i64 x276), (.int .i64 x277), (.int .i64 x278)])) h283 fun h284 => 
  br (x206 == 0)
  (br (x221 == 0)
  (br (x236 == 111)
  (∃ b285 : Bool, ∃ x286 : Int, ∃ x287 : Int, HV Try.prog (Instr.loadAt 36 (.pointer (some a248))) h284 (.agg #[(.bool b285), (.int .i64 x286), (.int .i64 x287)]) ∧ 
  ∃ b288 : Bool, PV Try.prog (binOp .eql 36 (.agg #[(.bool b285), (.int .i64 x286), (.int .i64 x287)]) (.agg #[(.bool true), (.int .i64 1), (.int .i64 2)])) (.bool b288) ∧
  br b288
  (∃ x289 : Int, HV Try.prog (Instr.loadAt 3 (.pointer (some (a250.add 1)))) h284 (.int .i64 x289) ∧ 
  br (decide (x289 ≥ 1))
  (∃ x290 : Int, HV Try.prog (Instr.loadAt 3 (.pointer (some (a264.add 1)))) h284 (.int .i64 x290) ∧ 
  br (x290 == 2)
  (∃ b291 : Bool, ∃ x292 : Int, ∃ x293 : Int, HV Try.prog (Instr.loadAt 36 (.pointer (some a280))) h284 (.agg #[(.bool b291), (.int .i64 x292), (.int .i64 x293)]) ∧ 
  ∃ b294 : Bool, PV Try.prog (binOp .eql 36 (.agg #[(.bool b291), (.int .i64 x292), (.int .i64 x293)]) (.agg #[(.bool false), (.int .i64 0), (.int .i64 1)])) (.bool b294) ∧
  K0 b294 h284)
  (K0 false h284))
  (K0 false h284))
  (K0 false h284))
  (K0 false h284))
  (K0 false h284))
  (K0 false h284)
def quintetlaw16_awake_j1_L (Q : Qx) (tm : Tm) (h : Hp) : Prop :=
  selP (tm 1) fun p15 =>
  quintetlaw16_awake_j1 (fun (b155 : Bool) h => Q (.ret) (mkTm [(0, some (.bool b155))]) h) p15 h
def quintetlaw16_awake (h : Hp) (K : Value → Hp → Prop) : Prop :=
  CallsH Try.prog 17 #[] h fun r2 h1 =>
  ∃ x3 : Int, ∃ x4 : Int, ∃ x5 : Int, ∃ x6 : Int, ∃ x7 : Int, ∃ x8 : Int, ∃ x9 : Int, r2 = (.agg #[(.int .i64 x3), (.int .i64 x4), (.int .i64 x5), (.int .i64 x6), (.int .i64 x7), (.int .i64 x8), (.int .i64 x9)]) ∧ 
  CallsH Try.prog 8 #[(.agg #[(.int .i64 x3), (.int .i64 x4), (.int .i64 x5), (.int .i64 x6), (.int .i64 x7), (.int .i64 x8), (.int .i64 x9)])] h1 fun r11 h10 =>
  ∃ p12 : Option Addr, ∃ x13 : Int, r11 = (.tuple #[(.pointer p12), (.int .i64 x13)]) ∧ 
  ∃ b295 : Bool, PV Try.prog (binOp .eql 31 (.pointer p12) (.pointer none)) (.bool b295) ∧
  br b295
  (K (.bool false) h10)
  (br (x13 != 0)
  (K (.bool false) h10)
  (quintetlaw16_awake_j1
  (fun (b296 : Bool) (h297 : Hp) =>
  K (.bool b296) h297)
  p12 h10))
def quintetlaw16_awake_lp (i : Nat) (Q : Qx) (tm : Tm) (h : Hp) : Prop := match Nat.beq i 7 with
  | true => quintetlaw16_awake_j1_L Q tm h
  | false => False
def quintetlaw16_awake_cut (i : Nat) : Option (List Nat) := match Nat.beq i 7 with
  | true => some [1]
  | false => none
set_option maxRecDepth 100000 in
theorem quintetlaw16_awake_j1_step (Q : Qx) (p15 : Option Addr) (h : Hp) : quintetlaw16_awake_j1_L Q (mkTm [(1, some (.pointer p15))]) h =
    codeWp Try.prog 88 quintetlaw16_awake_lp quintetlaw16_awake_cut (sub (bodyOf Try.f9) [true, true, true]) 15 (maskQ (fun e => match e with | .ret => [0] | _ => []) Q) (mkTm [(1, some (.pointer p15))]) h := by kernel_rfl
theorem quintetlaw16_awake_j1_mask (Q : Qx) (tm : Tm) (h : Hp) : quintetlaw16_awake_j1_L Q tm h ↔ quintetlaw16_awake_j1_L Q (mask [1] tm) h := Iff.rfl
set_option maxRecDepth 100000 in
theorem quintetlaw16_awake_j1_snd : SndAt Try.prog 88 none (sub (bodyOf Try.f9) [true, true, true]) (quintetlaw16_awake_lp 7) := by
  refine join_sound (lp := quintetlaw16_awake_lp) (cut := quintetlaw16_awake_cut) (i := 7) (c := (sub (bodyOf Try.f9) [true, true, true])) [1] (fun e => match e with | .ret => [0] | _ => []) quintetlaw16_awake_j1_L ?_ ?_
  · exact good_by (c := (sub (bodyOf Try.f9) [true, true, true])) (i := 15) (l := []) (by kernel_rfl) (fun _ h => by cases h)
  · intro Q tm h H
    have H0 := H
    obtain ⟨p15, e1, H⟩ := selP_ex H
    have e : mask [1] tm = mkTm [(1, some (.pointer p15))] := by simp only [mask, List.map_cons, List.map_nil, e1] <;> rfl
    rw [e]
    refine Eq.mp (quintetlaw16_awake_j1_step Q p15 h) ?_
    rw [← e]
    exact (quintetlaw16_awake_j1_mask Q tm h).mp H0
set_option maxRecDepth 100000 in
theorem quintetlaw16_awake_eq (h : Hp) (K : Value → Hp → Prop) : quintetlaw16_awake  h K =
    codeWp Try.prog 88 quintetlaw16_awake_lp quintetlaw16_awake_cut (bodyOf Try.f9) 1 (endQ Try.prog Try.f9.results.toList K) (argTm []) h := by kernel_rfl
set_option maxRecDepth 100000 in
theorem quintetlaw16_awake_ok {h : Hp} {K : Value → Hp → Prop} (H : quintetlaw16_awake  h K) : CallsH Try.prog 9 #[] h K :=
  calls_of (args := []) (n := 88) (lp := quintetlaw16_awake_lp) (cut := quintetlaw16_awake_cut) Try.func9 (c := bodyOf Try.f9) (by kernel_rfl) (by kernel_rfl) (by kernel_rfl) (good_by (c := (bodyOf Try.f9)) (i := 1) (l := [(7, (sub (bodyOf Try.f9) [true, true, true]))]) (by kernel_rfl) (List.forall_mem_cons.2 ⟨quintetlaw16_awake_j1_snd, (fun _ h => by cases h)⟩))
    (Eq.mp (quintetlaw16_awake_eq  h K) H)

/-! ### quintet/quintetlaw16.example: function 17 -/
def quintetlaw16_example (h : Hp) (K : Value → Hp → Prop) : Prop :=
  newC h (.cells #[(.int .i64 0), (.int .i64 0), (.int .i64 0), (.int .i64 0), (.int .i64 0), (.int .i64 0), (.int .i64 0)] 24 (0, 0)) fun a2 h1 => 
  HU Try.prog (Instr.storeAt 24 (.pointer (some a2)) (.agg #[(.int .i64 10), (.int .i64 1), (.int .i64 100), (.int .i64 100), (.int .i64 100), (.int .i64 4), (.int .i64 8)])) h1 fun h3 => 
  ∃ x4 : Int, ∃ x5 : Int, ∃ x6 : Int, ∃ x7 : Int, ∃ x8 : Int, ∃ x9 : Int, ∃ x10 : Int, HV Try.prog (Instr.loadAt 24 (.pointer (some a2))) h3 (.agg #[(.int .i64 x4), (.int .i64 x5), (.int .i64 x6), (.int .i64 x7), (.int .i64 x8), (.int .i64 x9), (.int .i64 x10)]) ∧ K (.agg #[(.int .i64 x4), (.int .i64 x5), (.int .i64 x6), (.int .i64 x7), (.int .i64 x8), (.int .i64 x9), (.int .i64 x10)]) h3
def quintetlaw16_example_lp (i : Nat) (Q : Qx) (tm : Tm) (h : Hp) : Prop := False
def quintetlaw16_example_cut (i : Nat) : Option (List Nat) := none
set_option maxRecDepth 100000 in
theorem quintetlaw16_example_eq (h : Hp) (K : Value → Hp → Prop) : quintetlaw16_example  h K =
    codeWp Try.prog 2 quintetlaw16_example_lp quintetlaw16_example_cut (bodyOf Try.f17) 1 (endQ Try.prog Try.f17.results.toList K) (argTm []) h := by kernel_rfl
set_option maxRecDepth 100000 in
theorem quintetlaw16_example_ok {h : Hp} {K : Value → Hp → Prop} (H : quintetlaw16_example  h K) : CallsH Try.prog 17 #[] h K :=
  calls_of (args := []) (n := 2) (lp := quintetlaw16_example_lp) (cut := quintetlaw16_example_cut) Try.func17 (c := bodyOf Try.f17) (by kernel_rfl) (by kernel_rfl) (by kernel_rfl) (good_by (c := (bodyOf Try.f17)) (i := 1) (l := []) (by kernel_rfl) (fun _ h => by cases h))
    (Eq.mp (quintetlaw16_example_eq  h K) H)

/-! ### quintet/quintetlaw16.every: function 21 -/
def quintetlaw16_every (x1 : Int) (x2 : Int) (h : Hp) (K : Value → Hp → Prop) : Prop :=
  newC h (.cells #[(.int .i64 0), (.int .u32 0), (.int .i64 0), (.int .u32 0), (.int .i64 0), (.int .u16 0), (.int .u16 0), (.int .u16 0), (.int .u16 0), (.int .u8 0), (.int .u8 0), (.int .i64 0)] 60 (0, 0)) fun a4 h3 => 
  HU Try.prog (Instr.storeAt 60 (.pointer (some a4)) (.agg #[(.int .i64 x1), (.int .u32 0), (.int .i64 0), (.int .u32 0), (.int .i64 0), (.int .u16 0), (.int .u16 65535), (.int .u16 0), (.int .u16 65535), (.int .u8 0), (.int .u8 0), (.int .i64 x2)])) h3 fun h5 => 
  ∃ x6 : Int, ∃ x7 : Int, ∃ x8 : Int, ∃ x9 : Int, ∃ x10 : Int, ∃ x11 : Int, ∃ x12 : Int, ∃ x13 : Int, ∃ x14 : Int, ∃ x15 : Int, ∃ x16 : Int, ∃ x17 : Int, HV Try.prog (Instr.loadAt 60 (.pointer (some a4))) h5 (.agg #[(.int .i64 x6), (.int .u32 x7), (.int .i64 x8), (.int .u32 x9), (.int .i64 x10), (.int .u16 x11), (.int .u16 x12), (.int .u16 x13), (.int .u16 x14), (.int .u8 x15), (.int .u8 x16), (.int .i64 x17)]) ∧ K (.agg #[(.int .i64 x6), (.int .u32 x7), (.int .i64 x8), (.int .u32 x9), (.int .i64 x10), (.int .u16 x11), (.int .u16 x12), (.int .u16 x13), (.int .u16 x14), (.int .u8 x15), (.int .u8 x16), (.int .i64 x17)]) h5
def quintetlaw16_every_lp (i : Nat) (Q : Qx) (tm : Tm) (h : Hp) : Prop := False
def quintetlaw16_every_cut (i : Nat) : Option (List Nat) := none
set_option maxRecDepth 100000 in
theorem quintetlaw16_every_eq (x1 : Int) (x2 : Int) (h : Hp) (K : Value → Hp → Prop) : quintetlaw16_every x1 x2 h K =
    codeWp Try.prog 10 quintetlaw16_every_lp quintetlaw16_every_cut (bodyOf Try.f21) 1 (endQ Try.prog Try.f21.results.toList K) (argTm [(.int .i64 x1), (.int .i64 x2)]) h := by kernel_rfl
set_option maxRecDepth 100000 in
theorem quintetlaw16_every_ok (x1 : Int) (x2 : Int) {h : Hp} {K : Value → Hp → Prop} (H : quintetlaw16_every x1 x2 h K) : CallsH Try.prog 21 #[(.int .i64 x1), (.int .i64 x2)] h K :=
  calls_of (args := [(.int .i64 x1), (.int .i64 x2)]) (n := 10) (lp := quintetlaw16_every_lp) (cut := quintetlaw16_every_cut) Try.func21 (c := bodyOf Try.f21) (by kernel_rfl) (by kernel_rfl) (by kernel_rfl) (good_by (c := (bodyOf Try.f21)) (i := 1) (l := []) (by kernel_rfl) (fun _ h => by cases h))
    (Eq.mp (quintetlaw16_every_eq x1 x2 h K) H)

/-! ### quintet/quintetlaw16.PruneAlike: function 4 -/
def quintetlaw16_PruneAlike_l64 (A3932 : Option Addr) (l3932 : Nat) (c3932 : Nat) (A3933 : Option Addr) (l3933 : Nat) (c3933 : Nat) (A3934 : Option Addr) (l3934 : Nat) (c3934 : Nat) (A3935 : Option Addr) (l3935 : Nat) (c3935 : Nat) (p3936 : Option Addr) (p3937 : Option Addr) (A3938 : Option Addr) (l3938 : Nat) (c3938 : Nat) (x3939 : Int) (K0 : (Option Addr) → Nat → Nat → (Option Addr) → Nat → Nat → (Option Addr) → Nat → Nat → (Option Addr) → Nat → Nat → (Option Addr) → (Option Addr) → (Option Addr) → Nat → Nat → Int → Int → Hp → Prop)  : Nat → Int → Hp → Prop
  | 0, _, _ => False
  | k + 1, x3940, h =>
    ∃ a3953 : Addr, PV Try.prog (Instr.indexAt 50 (.slice A3938 l3938 c3938) (.int .i64 x3940)) (.pointer (some a3953)) ∧
    ∃ b3954 : Bool, HV Try.prog (Instr.loadAt 4 (.pointer (some a3953))) h (.bool b3954) ∧ 
    br b3954
    (∃ x3955 : Int, PV Try.prog (binOp .rem 3 (.int .i64 (IntKind.i64.wrap (x3940 + 1))) (.int .i64 (l3932 : Int))) (.int .i64 x3955) ∧
    quintetlaw16_PruneAlike_l64 A3932 l3932 c3932 A3933 l3933 c3933 A3934 l3934 c3934 A3935 l3935 c3935 p3936 p3937 A3938 l3938 c3938 x3939 K0 k x3955 h)
    (K0 A3932 l3932 c3932 A3933 l3933 c3933 A3934 l3934 c3934 A3935 l3935 c3935 p3936 p3937 A3938 l3938 c3938 x3939 x3940 h)
def quintetlaw16_PruneAlike_l64_L (Q : Qx) (k : Nat) (tm : Tm) (h : Hp) : Prop :=
  selS (tm 0) fun A3932 l3932 c3932 =>
  selS (tm 1) fun A3933 l3933 c3933 =>
  selS (tm 2) fun A3934 l3934 c3934 =>
  selS (tm 3) fun A3935 l3935 c3935 =>
  selP (tm 10) fun p3936 =>
  selP (tm 12) fun p3937 =>
  selS (tm 14) fun A3938 l3938 c3938 =>
  selI .i64 (tm 15) fun x3939 =>
  selI .i64 (tm 16) fun x3940 =>
  quintetlaw16_PruneAlike_l64 A3932 l3932 c3932 A3933 l3933 c3933 A3934 l3934 c3934 A3935 l3935 c3935 p3936 p3937 A3938 l3938 c3938 x3939 (fun (A3944 : Option Addr) (l3944 : Nat) (c3944 : Nat) (A3945 : Option Addr) (l3945 : Nat) (c3945 : Nat) (A3946 : Option Addr) (l3946 : Nat) (c3946 : Nat) (A3947 : Option Addr) (l3947 : Nat) (c3947 : Nat) (p3948 : Option Addr) (p3949 : Option Addr) (A3950 : Option Addr) (l3950 : Nat) (c3950 : Nat) (x3951 : Int) (x3952 : Int) h => Q (.exit 2) (mkTm [(0, some (.slice A3944 l3944 c3944)), (1, some (.slice A3945 l3945 c3945)), (2, some (.slice A3946 l3946 c3946)), (3, some (.slice A3947 l3947 c3947)), (10, some (.pointer p3948)), (12, some (.pointer p3949)), (14, some (.slice A3950 l3950 c3950)), (15, some (.int .i64 x3951)), (16, some (.int .i64 x3952))]) h) k x3940 h
def quintetlaw16_PruneAlike_l65 (A3966 : Option Addr) (l3966 : Nat) (c3966 : Nat) (A3967 : Option Addr) (l3967 : Nat) (c3967 : Nat) (A3968 : Option Addr) (l3968 : Nat) (c3968 : Nat) (A3969 : Option Addr) (l3969 : Nat) (c3969 : Nat) (p3970 : Option Addr) (p3971 : Option Addr) (A3972 : Option Addr) (l3972 : Nat) (c3972 : Nat) (x3973 : Int) (x3974 : Int) (K0 : (Option Addr) → Nat → Nat → (Option Addr) → Nat → Nat → (Option Addr) → Nat → Nat → (Option Addr) → Nat → Nat → (Option Addr) → (Option Addr) → (Option Addr) → Nat → Nat → Int → Int → Int → Hp → Prop)  : Nat → Int → Int → Hp → Prop
  | 0, _, _, _ => False
  | k + 1, x3975, x3976, h =>
    br (decide (x3976 < x3974))
    (∃ a3989 : Addr, PV Try.prog (Instr.indexAt 50 (.slice A3972 l3972 c3972) (.int .i64 x3976)) (.pointer (some a3989)) ∧
    ∃ b3990 : Bool, HV Try.prog (Instr.loadAt 4 (.pointer (some a3989))) h (.bool b3990) ∧ 
    br b3990
    (quintetlaw16_PruneAlike_l65 A3966 l3966 c3966 A3967 l3967 c3967 A3968 l3968 c3968 A3969 l3969 c3969 p3970 p3971 A3972 l3972 c3972 x3973 x3974 K0 k (IntKind.i64.wrap (x3975 + 1)) (IntKind.i64.wrap (x3976 + 1)) h)
    (quintetlaw16_PruneAlike_l65 A3966 l3966 c3966 A3967 l3967 c3967 A3968 l3968 c3968 A3969 l3969 c3969 p3970 p3971 A3972 l3972 c3972 x3973 x3974 K0 k x3975 (IntKind.i64.wrap (x3976 + 1)) h))
    (K0 A3966 l3966 c3966 A3967 l3967 c3967 A3968 l3968 c3968 A3969 l3969 c3969 p3970 p3971 A3972 l3972 c3972 x3973 x3974 x3975 h)
def quintetlaw16_PruneAlike_l65_L (Q : Qx) (k : Nat) (tm : Tm) (h : Hp) : Prop :=
  selS (tm 0) fun A3966 l3966 c3966 =>
  selS (tm 1) fun A3967 l3967 c3967 =>
  selS (tm 2) fun A3968 l3968 c3968 =>
  selS (tm 3) fun A3969 l3969 c3969 =>
  selP (tm 10) fun p3970 =>
  selP (tm 12) fun p3971 =>
  selS (tm 14) fun A3972 l3972 c3972 =>
  selI .i64 (tm 15) fun x3973 =>
  selI .i64 (tm 16) fun x3974 =>
  selI .i64 (tm 17) fun x3975 =>
  selI .i64 (tm 18) fun x3976 =>
  quintetlaw16_PruneAlike_l65 A3966 l3966 c3966 A3967 l3967 c3967 A3968 l3968 c3968 A3969 l3969 c3969 p3970 p3971 A3972 l3972 c3972 x3973 x3974 (fun (A3979 : Option Addr) (l3979 : Nat) (c3979 : Nat) (A3980 : Option Addr) (l3980 : Nat) (c3980 : Nat) (A3981 : Option Addr) (l3981 : Nat) (c3981 : Nat) (A3982 : Option Addr) (l3982 : Nat) (c3982 : Nat) (p3983 : Option Addr) (p3984 : Option Addr) (A3985 : Option Addr) (l3985 : Nat) (c3985 : Nat) (x3986 : Int) (x3987 : Int) (x3988 : Int) h => Q (.exit 4) (mkTm [(0, some (.slice A3979 l3979 c3979)), (1, some (.slice A3980 l3980 c3980)), (2, some (.slice A3981 l3981 c3981)), (3, some (.slice A3982 l3982 c3982)), (10, some (.pointer p3983)), (12, some (.pointer p3984)), (14, some (.slice A3985 l3985 c3985)), (15, some (.int .i64 x3986)), (16, some (.int .i64 x3987)), (17, some (.int .i64 x3988))]) h) k x3975 x3976 h
def quintetlaw16_PruneAlike_j66 (K0 : Bool → Hp → Prop) (K1 : (Option Addr) → Nat → Nat → (Option Addr) → Nat → Nat → (Option Addr) → Nat → Nat → (Option Addr) → Nat → Nat → (Option Addr) → (Option Addr) → (Option Addr) → Nat → Nat → Int → Hp → Prop) (A4023 : Option Addr) (l4023 : Nat) (c4023 : Nat) (A4024 : Option Addr) (l4024 : Nat) (c4024 : Nat) (A4025 : Option Addr) (l4025 : Nat) (c4025 : Nat) (A4026 : Option Addr) (l4026 : Nat) (c4026 : Nat) (p4027 : Option Addr) (p4028 : Option Addr) (A4029 : Option Addr) (l4029 : Nat) (c4029 : Nat) (x4030 : Int) (x4031 : Int) (x4032 : Int) (h : Hp) : Prop :=
  ∃ a4060 : Addr, PV Try.prog (Instr.indexAt 46 (.slice A4023 l4023 c4023) (.int .i64 x4031)) (.pointer (some a4060)) ∧
  ∃ x4061 : Int, ∃ x4062 : Int, ∃ x4063 : Int, ∃ x4064 : Int, ∃ x4065 : Int, ∃ x4066 : Int, ∃ x4067 : Int, ∃ x4068 : Int, ∃ x4069 : Int, ∃ x4070 : Int, ∃ x4071 : Int, ∃ x4072 : Int, HV Try.prog (Instr.loadAt 60 (.pointer (some a4060))) h (.agg #[(.int .i64 x4061), (.int .u32 x4062), (.int .i64 x4063), (.int .u32 x4064), (.int .i64 x4065), (.int .u16 x4066), (.int .u16 x4067), (.int .u16 x4068), (.int .u16 x4069), (.int .u8 x4070), (.int .u8 x4071), (.int .i64 x4072)]) ∧ 
  CallsH Try.prog 15 #[(.pointer p4028), (.int .i64 x4032), (.agg #[(.int .i64 x4061), (.int .u32 x4062), (.int .i64 x4063), (.int .u32 x4064), (.int .i64 x4065), (.int .u16 x4066), (.int .u16 x4067), (.int .u16 x4068), (.int .u16 x4069), (.int .u8 x4070), (.int .u8 x4071), (.int .i64 x4072)])] h fun r4074 h4073 =>
  ∃ x4075 : Int, r4074 = (.int .i64 x4075) ∧ 
  br (x4075 != 0)
  (K0 false h4073)
  (∃ a4076 : Addr, PV Try.prog (Instr.indexAt 50 (.slice A4029 l4029 c4029) (.int .i64 x4031)) (.pointer (some a4076)) ∧
  HU Try.prog (Instr.storeAt 4 (.pointer (some a4076)) (.bool true)) h4073 fun h4077 => 
  K1 A4023 l4023 c4023 A4024 l4024 c4024 A4025 l4025 c4025 A4026 l4026 c4026 p4027 p4028 A4029 l4029 c4029 x4030 h4077)
def quintetlaw16_PruneAlike_j66_L (Q : Qx) (tm : Tm) (h : Hp) : Prop :=
  selS (tm 0) fun A4023 l4023 c4023 =>
  selS (tm 1) fun A4024 l4024 c4024 =>
  selS (tm 2) fun A4025 l4025 c4025 =>
  selS (tm 3) fun A4026 l4026 c4026 =>
  selP (tm 10) fun p4027 =>
  selP (tm 12) fun p4028 =>
  selS (tm 14) fun A4029 l4029 c4029 =>
  selI .i64 (tm 15) fun x4030 =>
  selI .i64 (tm 16) fun x4031 =>
  selI .i64 (tm 17) fun x4032 =>
  quintetlaw16_PruneAlike_j66 (fun (b4051 : Bool) h => Q (.ret) (mkTm [(8, some (.bool b4051))]) h) (fun (A4052 : Option Addr) (l4052 : Nat) (c4052 : Nat) (A4053 : Option Addr) (l4053 : Nat) (c4053 : Nat) (A4054 : Option Addr) (l4054 : Nat) (c4054 : Nat) (A4055 : Option Addr) (l4055 : Nat) (c4055 : Nat) (p4056 : Option Addr) (p4057 : Option Addr) (A4058 : Option Addr) (l4058 : Nat) (c4058 : Nat) (x4059 : Int) h => Q (.normal) (mkTm [(0, some (.slice A4052 l4052 c4052)), (1, some (.slice A4053 l4053 c4053)), (2, some (.slice A4054 l4054 c4054)), (3, some (.slice A4055 l4055 c4055)), (10, some (.pointer p4056)), (12, some (.pointer p4057)), (14, some (.slice A4058 l4058 c4058)), (15, some (.int .i64 x4059))]) h) A4023 l4023 c4023 A4024 l4024 c4024 A4025 l4025 c4025 A4026 l4026 c4026 p4027 p4028 A4029 l4029 c4029 x4030 x4031 x4032 h
def quintetlaw16_PruneAlike_j63 (K0 : Bool → Hp → Prop) (K1 : (Option Addr) → Nat → Nat → (Option Addr) → Nat → Nat → (Option Addr) → Nat → Nat → (Option Addr) → Nat → Nat → (Option Addr) → (Option Addr) → (Option Addr) → Nat → Nat → Int → Hp → Prop) (A3712 : Option Addr) (l3712 : Nat) (c3712 : Nat) (A3713 : Option Addr) (l3713 : Nat) (c3713 : Nat) (A3714 : Option Addr) (l3714 : Nat) (c3714 : Nat) (A3715 : Option Addr) (l3715 : Nat) (c3715 : Nat) (p3716 : Option Addr) (p3717 : Option Addr) (A3718 : Option Addr) (l3718 : Nat) (c3718 : Nat) (x3719 : Int) (x3720 : Int) (h : Hp) : Prop :=
  ∃ k4133, quintetlaw16_PruneAlike_l64 A3712 l3712 c3712 A3713 l3713 c3713 A3714 l3714 c3714 A3715 l3715 c3715 p3716 p3717 A3718 l3718 c3718 x3719
  (fun (A3956 : Option Addr) (l3956 : Nat) (c3956 : Nat) (A3957 : Option Addr) (l3957 : Nat) (c3957 : Nat) (A3958 : Option Addr) (l3958 : Nat) (c3958 : Nat) (A3959 : Option Addr) (l3959 : Nat) (c3959 : Nat) (p3960 : Option Addr) (p3961 : Option Addr) (A3962 : Option Addr) (l3962 : Nat) (c3962 : Nat) (x3963 : Int) (x3964 : Int) (h3965 : Hp) =>
  ∃ k4132, quintetlaw16_PruneAlike_l65 A3956 l3956 c3956 A3957 l3957 c3957 A3958 l3958 c3958 A3959 l3959 c3959 p3960 p3961 A3962 l3962 c3962 x3963 x3964
  (fun (A3991 : Option Addr) (l3991 : Nat) (c3991 : Nat) (A3992 : Option Addr) (l3992 : Nat) (c3992 : Nat) (A3993 : Option Addr) (l3993 : Nat) (c3993 : Nat) (A3994 : Option Addr) (l3994 : Nat) (c3994 : Nat) (p3995 : Option Addr) (p3996 : Option Addr) (A3997 : Option Addr) (l3997 : Nat) (c3997 : Nat) (x3998 : Int) (x3999 : Int) (x4000 : Int) (h4001 : Hp) =>
  br (decide (x3998 < (l3993 : Int)))
  (∃ a4078 : Addr, PV Try.prog (Instr.indexAt 46 (.slice A3993 l3993 c3993) (.int .i64 x3998)) (.pointer (some a4078)) ∧
  ∃ x4079 : Int, ∃ x4080 : Int, ∃ x4081 : Int, ∃ x4082 : Int, ∃ x4083 : Int, ∃ x4084 : Int, ∃ x4085 : Int, ∃ x4086 : Int, ∃ x4087 : Int, ∃ x4088 : Int, ∃ x4089 : Int, ∃ x4090 : Int, HV Try.prog (Instr.loadAt 60 (.pointer (some a4078))) h4001 (.agg #[(.int .i64 x4079), (.int .u32 x4080), (.int .i64 x4081), (.int .u32 x4082), (.int .i64 x4083), (.int .u16 x4084), (.int .u16 x4085), (.int .u16 x4086), (.int .u16 x4087), (.int .u8 x4088), (.int .u8 x4089), (.int .i64 x4090)]) ∧ 
  CallsH Try.prog 15 #[(.pointer p3996), (.int .i64 0), (.agg #[(.int .i64 x4079), (.int .u32 x4080), (.int .i64 x4081), (.int .u32 x4082), (.int .i64 x4083), (.int .u16 x4084), (.int .u16 x4085), (.int .u16 x4086), (.int .u16 x4087), (.int .u8 x4088), (.int .u8 x4089), (.int .i64 x4090)])] h4001 fun r4092 h4091 =>
  ∃ x4093 : Int, r4092 = (.int .i64 x4093) ∧ 
  br (x4093 == 0)
  (∃ a4094 : Addr, PV Try.prog (Instr.indexAt 46 (.slice A3993 l3993 c3993) (.int .i64 x3998)) (.pointer (some a4094)) ∧
  ∃ x4095 : Int, HV Try.prog (Instr.loadAt 3 (.pointer (some a4094))) h4091 (.int .i64 x4095) ∧ 
  CallsH Try.prog 16 #[(.pointer p3996), (.int .i64 x4095)] h4091 fun r4097 h4096 =>
  ∃ x4098 : Int, r4097 = (.int .i64 x4098) ∧ 
  br (x4098 != 0)
  (K0 false h4096)
  (quintetlaw16_PruneAlike_j66
  (fun (b4099 : Bool) (h4100 : Hp) =>
  K0 b4099 h4100)
  (fun (A4101 : Option Addr) (l4101 : Nat) (c4101 : Nat) (A4102 : Option Addr) (l4102 : Nat) (c4102 : Nat) (A4103 : Option Addr) (l4103 : Nat) (c4103 : Nat) (A4104 : Option Addr) (l4104 : Nat) (c4104 : Nat) (p4105 : Option Addr) (p4106 : Option Addr) (A4107 : Option Addr) (l4107 : Nat) (c4107 : Nat) (x4108 : Int) (h4109 : Hp) =>
  K1 A4101 l4101 c4101 A4102 l4102 c4102 A4103 l4103 c4103 A4104 l4104 c4104 p4105 p4106 A4107 l4107 c4107 x4108 h4109)
  A3991 l3991 c3991 A3992 l3992 c3992 A3993 l3993 c3993 A3994 l3994 c3994 p3995 p3996 A3997 l3997 c3997 x3998 x3999 x4000 h4096))
  (quintetlaw16_PruneAlike_j66
  (fun (b4110 : Bool) (h4111 : Hp) =>
  K0 b4110 h4111)
  (fun (A4112 : Option Addr) (l4112 : Nat) (c4112 : Nat) (A4113 : Option Addr) (l4113 : Nat) (c4113 : Nat) (A4114 : Option Addr) (l4114 : Nat) (c4114 : Nat) (A4115 : Option Addr) (l4115 : Nat) (c4115 : Nat) (p4116 : Option Addr) (p4117 : Option Addr) (A4118 : Option Addr) (l4118 : Nat) (c4118 : Nat) (x4119 : Int) (h4120 : Hp) =>
  K1 A4112 l4112 c4112 A4113 l4113 c4113 A4114 l4114 c4114 A4115 l4115 c4115 p4116 p4117 A4118 l4118 c4118 x4119 h4120)
  A3991 l3991 c3991 A3992 l3992 c3992 A3993 l3993 c3993 A3994 l3994 c3994 p3995 p3996 A3997 l3997 c3997 x3998 x3999 x4000 h4091))
  (quintetlaw16_PruneAlike_j66
  (fun (b4121 : Bool) (h4122 : Hp) =>
  K0 b4121 h4122)
  (fun (A4123 : Option Addr) (l4123 : Nat) (c4123 : Nat) (A4124 : Option Addr) (l4124 : Nat) (c4124 : Nat) (A4125 : Option Addr) (l4125 : Nat) (c4125 : Nat) (A4126 : Option Addr) (l4126 : Nat) (c4126 : Nat) (p4127 : Option Addr) (p4128 : Option Addr) (A4129 : Option Addr) (l4129 : Nat) (c4129 : Nat) (x4130 : Int) (h4131 : Hp) =>
  K1 A4123 l4123 c4123 A4124 l4124 c4124 A4125 l4125 c4125 A4126 l4126 c4126 p4127 p4128 A4129 l4129 c4129 x4130 h4131)
  A3991 l3991 c3991 A3992 l3992 c3992 A3993 l3993 c3993 A3994 l3994 c3994 p3995 p3996 A3997 l3997 c3997 x3998 x3999 x4000 h4001))
  k4132 0 0 h3965)
  k4133 x3720 h
def quintetlaw16_PruneAlike_j63_L (Q : Qx) (tm : Tm) (h : Hp) : Prop :=
  selS (tm 0) fun A3712 l3712 c3712 =>
  selS (tm 1) fun A3713 l3713 c3713 =>
  selS (tm 2) fun A3714 l3714 c3714 =>
  selS (tm 3) fun A3715 l3715 c3715 =>
  selP (tm 10) fun p3716 =>
  selP (tm 12) fun p3717 =>
  selS (tm 14) fun A3718 l3718 c3718 =>
  selI .i64 (tm 15) fun x3719 =>
  selI .i64 (tm 16) fun x3720 =>
  quintetlaw16_PruneAlike_j63 (fun (b3923 : Bool) h => Q (.ret) (mkTm [(8, some (.bool b3923))]) h) (fun (A3924 : Option Addr) (l3924 : Nat) (c3924 : Nat) (A3925 : Option Addr) (l3925 : Nat) (c3925 : Nat) (A3926 : Option Addr) (l3926 : Nat) (c3926 : Nat) (A3927 : Option Addr) (l3927 : Nat) (c3927 : Nat) (p3928 : Option Addr) (p3929 : Option Addr) (A3930 : Option Addr) (l3930 : Nat) (c3930 : Nat) (x3931 : Int) h => Q (.normal) (mkTm [(0, some (.slice A3924 l3924 c3924)), (1, some (.slice A3925 l3925 c3925)), (2, some (.slice A3926 l3926 c3926)), (3, some (.slice A3927 l3927 c3927)), (10, some (.pointer p3928)), (12, some (.pointer p3929)), (14, some (.slice A3930 l3930 c3930)), (15, some (.int .i64 x3931))]) h) A3712 l3712 c3712 A3713 l3713 c3713 A3714 l3714 c3714 A3715 l3715 c3715 p3716 p3717 A3718 l3718 c3718 x3719 x3720 h
def quintetlaw16_PruneAlike_l59 (A3241 : Option Addr) (l3241 : Nat) (c3241 : Nat) (A3242 : Option Addr) (l3242 : Nat) (c3242 : Nat) (A3243 : Option Addr) (l3243 : Nat) (c3243 : Nat) (A3244 : Option Addr) (l3244 : Nat) (c3244 : Nat) (p3245 : Option Addr) (p3246 : Option Addr) (A3247 : Option Addr) (l3247 : Nat) (c3247 : Nat) (K0 : Bool → Hp → Prop) (K1 : (Option Addr) → Nat → Nat → (Option Addr) → (Option Addr) → Hp → Prop)  : Nat → Int → Hp → Prop
  | 0, _, _ => False
  | k + 1, x3248, h =>
    br (decide (x3248 < (l3241 : Int)))
    (br (decide (x3248 < (l3242 : Int)))
    (∃ a4134 : Addr, PV Try.prog (Instr.indexAt 47 (.slice A3242 l3242 c3242) (.int .i64 x3248)) (.pointer (some a4134)) ∧
    ∃ x4135 : Int, HV Try.prog (Instr.loadAt 3 (.pointer (some a4134))) h (.int .i64 x4135) ∧ 
    CallsH Try.prog 14 #[(.int .i64 x4135), (.int .i64 (l3241 : Int))] h fun r4137 h4136 =>
    ∃ x4138 : Int, r4137 = (.int .i64 x4138) ∧ 
    quintetlaw16_PruneAlike_j63
    (fun (b4139 : Bool) (h4140 : Hp) =>
    K0 b4139 h4140)
    (fun (A4141 : Option Addr) (l4141 : Nat) (c4141 : Nat) (A4142 : Option Addr) (l4142 : Nat) (c4142 : Nat) (A4143 : Option Addr) (l4143 : Nat) (c4143 : Nat) (A4144 : Option Addr) (l4144 : Nat) (c4144 : Nat) (p4145 : Option Addr) (p4146 : Option Addr) (A4147 : Option Addr) (l4147 : Nat) (c4147 : Nat) (x4148 : Int) (h4149 : Hp) =>
    quintetlaw16_PruneAlike_l59 A3241 l3241 c3241 A3242 l3242 c3242 A3243 l3243 c3243 A3244 l3244 c3244 p3245 p3246 A3247 l3247 c3247 K0 K1 k (IntKind.i64.wrap (x4148 + 1)) h4149)
    A3241 l3241 c3241 A3242 l3242 c3242 A3243 l3243 c3243 A3244 l3244 c3244 p3245 p3246 A3247 l3247 c3247 x3248 x4138 h4136)
    (quintetlaw16_PruneAlike_j63
    (fun (b4150 : Bool) (h4151 : Hp) =>
    K0 b4150 h4151)
    (fun (A4152 : Option Addr) (l4152 : Nat) (c4152 : Nat) (A4153 : Option Addr) (l4153 : Nat) (c4153 : Nat) (A4154 : Option Addr) (l4154 : Nat) (c4154 : Nat) (A4155 : Option Addr) (l4155 : Nat) (c4155 : Nat) (p4156 : Option Addr) (p4157 : Option Addr) (A4158 : Option Addr) (l4158 : Nat) (c4158 : Nat) (x4159 : Int) (h4160 : Hp) =>
    quintetlaw16_PruneAlike_l59 A3241 l3241 c3241 A3242 l3242 c3242 A3243 l3243 c3243 A3244 l3244 c3244 p3245 p3246 A3247 l3247 c3247 K0 K1 k (IntKind.i64.wrap (x4159 + 1)) h4160)
    A3241 l3241 c3241 A3242 l3242 c3242 A3243 l3243 c3243 A3244 l3244 c3244 p3245 p3246 A3247 l3247 c3247 x3248 x3248 h))
    (K1 A3244 l3244 c3244 p3245 p3246 h)
def quintetlaw16_PruneAlike_l59_L (Q : Qx) (k : Nat) (tm : Tm) (h : Hp) : Prop :=
  selS (tm 0) fun A3241 l3241 c3241 =>
  selS (tm 1) fun A3242 l3242 c3242 =>
  selS (tm 2) fun A3243 l3243 c3243 =>
  selS (tm 3) fun A3244 l3244 c3244 =>
  selP (tm 10) fun p3245 =>
  selP (tm 12) fun p3246 =>
  selS (tm 14) fun A3247 l3247 c3247 =>
  selI .i64 (tm 15) fun x3248 =>
  quintetlaw16_PruneAlike_l59 A3241 l3241 c3241 A3242 l3242 c3242 A3243 l3243 c3243 A3244 l3244 c3244 p3245 p3246 A3247 l3247 c3247 (fun (b3703 : Bool) h => Q (.ret) (mkTm [(8, some (.bool b3703))]) h) (fun (A3704 : Option Addr) (l3704 : Nat) (c3704 : Nat) (p3705 : Option Addr) (p3706 : Option Addr) h => Q (.exit 0) (mkTm [(3, some (.slice A3704 l3704 c3704)), (10, some (.pointer p3705)), (12, some (.pointer p3706))]) h) k x3248 h
def quintetlaw16_PruneAlike_l67 (A4167 : Option Addr) (l4167 : Nat) (c4167 : Nat) (p4168 : Option Addr) (p4169 : Option Addr) (K0 : Bool → Hp → Prop) (K1 : Hp → Prop)  : Nat → Int → Hp → Prop
  | 0, _, _ => False
  | k + 1, x4170, h =>
    br (decide (x4170 < (l4167 : Int)))
    (∃ a4223 : Addr, PV Try.prog (Instr.indexAt 48 (.slice A4167 l4167 c4167) (.int .i64 x4170)) (.pointer (some a4223)) ∧
    ∃ x4224 : Int, ∃ x4225 : Int, ∃ x4226 : Int, ∃ x4227 : Int, ∃ x4228 : Int, HV Try.prog (Instr.loadAt 28 (.pointer (some a4223))) h (.agg #[(.int .u32 x4224), (.int .u32 x4225), (.int .u16 x4226), (.int .u16 x4227), (.int .u8 x4228)]) ∧ 
    CallsH Try.prog 10 #[(.pointer p4168), (.agg #[(.int .u32 x4224), (.int .u32 x4225), (.int .u16 x4226), (.int .u16 x4227), (.int .u8 x4228)])] h fun r4230 h4229 =>
    ∃ b4231 : Bool, ∃ x4232 : Int, ∃ x4233 : Int, ∃ x4234 : Int, ∃ x4235 : Int, ∃ x4236 : Int, ∃ x4237 : Int, ∃ x4238 : Int, r4230 = (.tuple #[(.agg #[(.bool b4231), (.int .i64 x4232), (.int .i64 x4233)]), (.agg #[(.int .i64 x4234), (.int .i64 x4235), (.int .i64 x4236), (.int .i64 x4237), (.int .i64 x4238)])]) ∧ 
    newC h4229 (.cells #[(.bool false), (.int .i64 0), (.int .i64 0)] 36 (0, 0)) fun a4240 h4239 => 
    newC h4239 (.cells #[(.int .i64 0), (.int .i64 0), (.int .i64 0), (.int .i64 0), (.int .i64 0)] 38 (0, 0)) fun a4242 h4241 => 
    HU Try.prog (Instr.storeAt 36 (.pointer (some a4240)) (.agg #[(.bool b4231), (.int .i64 x4232), (.int .i64 x4233)])) h4241 fun h4243 => 
    HU Try.prog (Instr.storeAt 38 (.pointer (some a4242)) (.agg #[(.int .i64 x4234), (.int .i64 x4235), (.int .i64 x4236), (.int .i64 x4237), (.int .i64 x4238)])) h4243 fun h4244 => 
    ∃ a4245 : Addr, PV Try.prog (Instr.indexAt 48 (.slice A4167 l4167 c4167) (.int .i64 x4170)) (.pointer (some a4245)) ∧
    ∃ x4246 : Int, ∃ x4247 : Int, ∃ x4248 : Int, ∃ x4249 : Int, ∃ x4250 : Int, HV Try.prog (Instr.loadAt 28 (.pointer (some a4245))) h4244 (.agg #[(.int .u32 x4246), (.int .u32 x4247), (.int .u16 x4248), (.int .u16 x4249), (.int .u8 x4250)]) ∧ 
    CallsH Try.prog 10 #[(.pointer p4169), (.agg #[(.int .u32 x4246), (.int .u32 x4247), (.int .u16 x4248), (.int .u16 x4249), (.int .u8 x4250)])] h4244 fun r4252 h4251 =>
    ∃ b4253 : Bool, ∃ x4254 : Int, ∃ x4255 : Int, ∃ x4256 : Int, ∃ x4257 : Int, ∃ x4258 : Int, ∃ x4259 : Int, ∃ x4260 : Int, r4252 = (.tuple #[(.agg #[(.bool b4253), (.int .i64 x4254), (.int .i64 x4255)]), (.agg #[(.int .i64 x4256), (.int .i64 x4257), (.int .i64 x4258), (.int .i64 x4259), (.int .i64 x4260)])]) ∧ 
    newC h4251 (.cells #[(.bool false), (.int .i64 0), (.int .i64 0)] 36 (0, 0)) fun a4262 h4261 => 
    newC h4261 (.cells #[(.int .i64 0), (.int .i64 0), (.int .i64 0), (.int .i64 0), (.int .i64 0)] 38 (0, 0)) fun a4264 h4263 => 
    HU Try.prog (Instr.storeAt 36 (.pointer (some a4262)) (.agg #[(.bool b4253), (.int .i64 x4254), (.int .i64 x4255)])) h4263 fun h4265 => 
    HU Try.prog (Instr.storeAt 38 (.pointer (some a4264)) (.agg #[(.int .i64 x4256), (.int .i64 x4257), (.int .i64 x4258), (.int .i64 x4259), (.int .i64 x4260)])) h4265 fun h4266 => 
    ∃ b4267 : Bool, ∃ x4268 : Int, ∃ x4269 : Int, HV Try.prog (Instr.loadAt 36 (.pointer (some a4240))) h4266 (.agg #[(.bool b4267), (.int .i64 x4268), (.int .i64 x4269)]) ∧ 
    ∃ b4270 : Bool, ∃ x4271 : Int, ∃ x4272 : Int, HV Try.prog (Instr.loadAt 36 (.pointer (some a4262))) h4266 (.agg #[(.bool b4270), (.int .i64 x4271), (.int .i64 x4272)]) ∧ 
    ∃ b4273 : Bool, PV Try.prog (binOp .neq 36 (.agg #[(.bool b4267), (.int .i64 x4268), (.int .i64 x4269)]) (.agg #[(.bool b4270), (.int .i64 x4271), (.int .i64 x4272)])) (.bool b4273) ∧
    br b4273
    (K0 false h4266)
    (quintetlaw16_PruneAlike_l67 A4167 l4167 c4167 p4168 p4169 K0 K1 k (IntKind.i64.wrap (x4170 + 1)) h4266))
    (K1 h)
def quintetlaw16_PruneAlike_l67_L (Q : Qx) (k : Nat) (tm : Tm) (h : Hp) : Prop :=
  selS (tm 3) fun A4167 l4167 c4167 =>
  selP (tm 10) fun p4168 =>
  selP (tm 12) fun p4169 =>
  selI .i64 (tm 19) fun x4170 =>
  quintetlaw16_PruneAlike_l67 A4167 l4167 c4167 p4168 p4169 (fun (b4222 : Bool) h => Q (.ret) (mkTm [(8, some (.bool b4222))]) h) (fun  h => Q (.exit 6) (mkTm []) h) k x4170 h
def quintetlaw16_PruneAlike_j51 (K0 : Bool → Hp → Prop) (A2175 : Option Addr) (l2175 : Nat) (c2175 : Nat) (A2176 : Option Addr) (l2176 : Nat) (c2176 : Nat) (A2177 : Option Addr) (l2177 : Nat) (c2177 : Nat) (A2178 : Option Addr) (l2178 : Nat) (c2178 : Nat) (p2179 : Option Addr) (p2180 : Option Addr) (h : Hp) : Prop :=
  CallsH Try.prog 13 #[(.pointer p2179), (.slice A2175 l2175 c2175)] h fun r3233 h3232 =>
  ∃ x3234 : Int, r3233 = (.int .i64 x3234) ∧ 
  br (x3234 != 0)
  (CallsH Try.prog 9 #[] h3232 fun r3236 h3235 =>
  ∃ b3237 : Bool, r3236 = (.bool b3237) ∧ 
  K0 b3237 h3235)
  (HW Try.prog (Instr.makeSlice 50 (.int .i64 (l2175 : Int)) (.int .i64 (l2175 : Int))) h3232 fun r3239 h3238 =>
  ∃ A3240 : Option Addr, ∃ l3240 : Nat, ∃ c3240 : Nat, r3239 = (.slice A3240 l3240 c3240) ∧ 
  ∃ k4281, quintetlaw16_PruneAlike_l59 A2175 l2175 c2175 A2176 l2176 c2176 A2177 l2177 c2177 A2178 l2178 c2178 p2179 p2180 A3240 l3240 c3240
  (fun (b4161 : Bool) (h4162 : Hp) =>
  K0 b4161 h4162)
  (fun (A4163 : Option Addr) (l4163 : Nat) (c4163 : Nat) (p4164 : Option Addr) (p4165 : Option Addr) (h4166 : Hp) =>
  ∃ k4280, quintetlaw16_PruneAlike_l67 A4163 l4163 c4163 p4164 p4165
  (fun (b4274 : Bool) (h4275 : Hp) =>
  K0 b4274 h4275)
  (fun  (h4276 : Hp) =>
  CallsH Try.prog 9 #[] h4276 fun r4278 h4277 =>
  ∃ b4279 : Bool, r4278 = (.bool b4279) ∧ 
  K0 b4279 h4277)
  k4280 0 h4166)
  k4281 0 h3238)
def quintetlaw16_PruneAlike_j51_L (Q : Qx) (tm : Tm) (h : Hp) : Prop :=
  selS (tm 0) fun A2175 l2175 c2175 =>
  selS (tm 1) fun A2176 l2176 c2176 =>
  selS (tm 2) fun A2177 l2177 c2177 =>
  selS (tm 3) fun A2178 l2178 c2178 =>
  selP (tm 10) fun p2179 =>
  selP (tm 12) fun p2180 =>
  quintetlaw16_PruneAlike_j51 (fun (b3231 : Bool) h => Q (.ret) (mkTm [(8, some (.bool b3231))]) h) A2175 l2175 c2175 A2176 l2176 c2176 A2177 l2177 c2177 A2178 l2178 c2178 p2179 p2180 h
def quintetlaw16_PruneAlike_j34 (K0 : Bool → Hp → Prop) (A5 : Option Addr) (l5 : Nat) (c5 : Nat) (A6 : Option Addr) (l6 : Nat) (c6 : Nat) (A7 : Option Addr) (l7 : Nat) (c7 : Nat) (A8 : Option Addr) (l8 : Nat) (c8 : Nat) (h : Hp) : Prop :=
  newC h (.cells #[(.int .i64 0), (.int .i64 0), (.int .i64 0), (.int .i64 0), (.int .i64 0), (.int .i64 0), (.int .i64 0)] 24 (0, 0)) fun a2149 h2148 => 
  HU Try.prog (Instr.storeAt 24 (.pointer (some a2149)) (.agg #[(.int .i64 64), (.int .i64 4), (.int .i64 1048576), (.int .i64 1048576), (.int .i64 1048576), (.int .i64 4), (.int .i64 8)])) h2148 fun h2150 => 
  ∃ x2151 : Int, ∃ x2152 : Int, ∃ x2153 : Int, ∃ x2154 : Int, ∃ x2155 : Int, ∃ x2156 : Int, ∃ x2157 : Int, HV Try.prog (Instr.loadAt 24 (.pointer (some a2149))) h2150 (.agg #[(.int .i64 x2151), (.int .i64 x2152), (.int .i64 x2153), (.int .i64 x2154), (.int .i64 x2155), (.int .i64 x2156), (.int .i64 x2157)]) ∧ 
  CallsH Try.prog 8 #[(.agg #[(.int .i64 x2151), (.int .i64 x2152), (.int .i64 x2153), (.int .i64 x2154), (.int .i64 x2155), (.int .i64 x2156), (.int .i64 x2157)])] h2150 fun r2159 h2158 =>
  ∃ p2160 : Option Addr, ∃ x2161 : Int, r2159 = (.tuple #[(.pointer p2160), (.int .i64 x2161)]) ∧ 
  ∃ x2162 : Int, ∃ x2163 : Int, ∃ x2164 : Int, ∃ x2165 : Int, ∃ x2166 : Int, ∃ x2167 : Int, ∃ x2168 : Int, HV Try.prog (Instr.loadAt 24 (.pointer (some a2149))) h2158 (.agg #[(.int .i64 x2162), (.int .i64 x2163), (.int .i64 x2164), (.int .i64 x2165), (.int .i64 x2166), (.int .i64 x2167), (.int .i64 x2168)]) ∧ 
  CallsH Try.prog 8 #[(.agg #[(.int .i64 x2162), (.int .i64 x2163), (.int .i64 x2164), (.int .i64 x2165), (.int .i64 x2166), (.int .i64 x2167), (.int .i64 x2168)])] h2158 fun r2170 h2169 =>
  ∃ p2171 : Option Addr, ∃ x2172 : Int, r2170 = (.tuple #[(.pointer p2171), (.int .i64 x2172)]) ∧ 
  ∃ b4282 : Bool, PV Try.prog (binOp .eql 31 (.pointer p2160) (.pointer none)) (.bool b4282) ∧
  br b4282
  (K0 false h2169)
  (∃ b4283 : Bool, PV Try.prog (binOp .eql 31 (.pointer p2171) (.pointer none)) (.bool b4283) ∧
  br b4283
  (K0 false h2169)
  (quintetlaw16_PruneAlike_j51
  (fun (b4284 : Bool) (h4285 : Hp) =>
  K0 b4284 h4285)
  A5 l5 c5 A6 l6 c6 A7 l7 c7 A8 l8 c8 p2160 p2171 h2169))
def quintetlaw16_PruneAlike_j34_L (Q : Qx) (tm : Tm) (h : Hp) : Prop :=
  selS (tm 0) fun A5 l5 c5 =>
  selS (tm 1) fun A6 l6 c6 =>
  selS (tm 2) fun A7 l7 c7 =>
  selS (tm 3) fun A8 l8 c8 =>
  quintetlaw16_PruneAlike_j34 (fun (b2147 : Bool) h => Q (.ret) (mkTm [(8, some (.bool b2147))]) h) A5 l5 c5 A6 l6 c6 A7 l7 c7 A8 l8 c8 h
def quintetlaw16_PruneAlike (A1 : Option Addr) (l1 : Nat) (c1 : Nat) (A2 : Option Addr) (l2 : Nat) (c2 : Nat) (A3 : Option Addr) (l3 : Nat) (c3 : Nat) (A4 : Option Addr) (l4 : Nat) (c4 : Nat) (h : Hp) (K : Value → Hp → Prop) : Prop :=
  br (decide ((l1 : Int) > 64))
  (K (.bool true) h)
  (br (decide ((l3 : Int) > 64))
  (K (.bool true) h)
  (br (decide ((l4 : Int) > 2000))
  (K (.bool true) h)
  (quintetlaw16_PruneAlike_j34
  (fun (b4286 : Bool) (h4287 : Hp) =>
  K (.bool b4286) h4287)
  A1 l1 c1 A2 l2 c2 A3 l3 c3 A4 l4 c4 h)))
def quintetlaw16_PruneAlike_lp (i : Nat) (Q : Qx) (tm : Tm) (h : Hp) : Prop := match Nat.beq i 1047116 with
  | true => ∃ k, quintetlaw16_PruneAlike_l64_L Q k tm h
  | false => match Nat.beq i 8376954 with
  | true => ∃ k, quintetlaw16_PruneAlike_l65_L Q k tm h
  | false => match Nat.beq i 2094239 with
  | true => quintetlaw16_PruneAlike_j66_L Q tm h
  | false => match Nat.beq i 130889 with
  | true => quintetlaw16_PruneAlike_j63_L Q tm h
  | false => match Nat.beq i 4090 with
  | true => ∃ k, quintetlaw16_PruneAlike_l59_L Q k tm h
  | false => match Nat.beq i 8186 with
  | true => ∃ k, quintetlaw16_PruneAlike_l67_L Q k tm h
  | false => match Nat.beq i 63 with
  | true => quintetlaw16_PruneAlike_j51_L Q tm h
  | false => match Nat.beq i 3 with
  | true => quintetlaw16_PruneAlike_j34_L Q tm h
  | false => False
def quintetlaw16_PruneAlike_cut (i : Nat) : Option (List Nat) := match Nat.beq i 3 with
  | true => some [0, 1, 2, 3]
  | false => match Nat.beq i 63 with
  | true => some [0, 1, 2, 3, 10, 12]
  | false => match Nat.beq i 130889 with
  | true => some [0, 1, 2, 3, 10, 12, 14, 15, 16]
  | false => match Nat.beq i 2094239 with
  | true => some [0, 1, 2, 3, 10, 12, 14, 15, 16, 17]
  | false => none
set_option maxRecDepth 100000 in
theorem quintetlaw16_PruneAlike_l64_step (Q : Qx) (k : Nat) (A3932 : Option Addr) (l3932 : Nat) (c3932 : Nat) (A3933 : Option Addr) (l3933 : Nat) (c3933 : Nat) (A3934 : Option Addr) (l3934 : Nat) (c3934 : Nat) (A3935 : Option Addr) (l3935 : Nat) (c3935 : Nat) (p3936 : Option Addr) (p3937 : Option Addr) (A3938 : Option Addr) (l3938 : Nat) (c3938 : Nat) (x3939 : Int) (x3940 : Int) (h : Hp) : quintetlaw16_PruneAlike_l64_L Q (k + 1) (mkTm [(0, some (.slice A3932 l3932 c3932)), (1, some (.slice A3933 l3933 c3933)), (2, some (.slice A3934 l3934 c3934)), (3, some (.slice A3935 l3935 c3935)), (10, some (.pointer p3936)), (12, some (.pointer p3937)), (14, some (.slice A3938 l3938 c3938)), (15, some (.int .i64 x3939)), (16, some (.int .i64 x3940))]) h =
    codeWp Try.prog 158 quintetlaw16_PruneAlike_lp quintetlaw16_PruneAlike_cut (sub (bodyOf Try.f4) [true, true, true, true, true, true, true, true, false, true, false, false, true, false, false, true, true, false, false, false]) 2094232 (thenQ (fun tm h => quintetlaw16_PruneAlike_l64_L Q k (mask [0, 1, 2, 3, 10, 12, 14, 15, 16] tm) h) (maskQ (fun e => match e with | .exit 2 => [0, 1, 2, 3, 10, 12, 14, 15, 16] | _ => []) Q)) (mkTm [(0, some (.slice A3932 l3932 c3932)), (1, some (.slice A3933 l3933 c3933)), (2, some (.slice A3934 l3934 c3934)), (3, some (.slice A3935 l3935 c3935)), (10, some (.pointer p3936)), (12, some (.pointer p3937)), (14, some (.slice A3938 l3938 c3938)), (15, some (.int .i64 x3939)), (16, some (.int .i64 x3940))]) h := by kernel_rfl
theorem quintetlaw16_PruneAlike_l64_mask (Q : Qx) (k : Nat) (tm : Tm) (h : Hp) : quintetlaw16_PruneAlike_l64_L Q k tm h ↔ quintetlaw16_PruneAlike_l64_L Q k (mask [0, 1, 2, 3, 10, 12, 14, 15, 16] tm) h := Iff.rfl
set_option maxRecDepth 100000 in
theorem quintetlaw16_PruneAlike_l64_snd : SndAt Try.prog 158 none (sub (bodyOf Try.f4) [true, true, true, true, true, true, true, true, false, true, false, false, true, false, false, true, true, false, false]) (quintetlaw16_PruneAlike_lp 1047116) := by
  refine loop_sound (lp := quintetlaw16_PruneAlike_lp) (cut := quintetlaw16_PruneAlike_cut) (i := 1047116) (c := (sub (bodyOf Try.f4) [true, true, true, true, true, true, true, true, false, true, false, false, true, false, false, true, true, false, false, false])) [0, 1, 2, 3, 10, 12, 14, 15, 16] (fun e => match e with | .exit 2 => [0, 1, 2, 3, 10, 12, 14, 15, 16] | _ => []) quintetlaw16_PruneAlike_l64_L ?_ ?_ ?_
  · exact good_by (c := (sub (bodyOf Try.f4) [true, true, true, true, true, true, true, true, false, true, false, false, true, false, false, true, true, false, false, false])) (i := 2094232) (l := []) (by kernel_rfl) (fun _ h => by cases h)
  · intro Q tm h H
    obtain ⟨A3932, l3932, c3932, e0, H⟩ := selS_ex H
    obtain ⟨A3933, l3933, c3933, e1, H⟩ := selS_ex H
    obtain ⟨A3934, l3934, c3934, e2, H⟩ := selS_ex H
    obtain ⟨A3935, l3935, c3935, e3, H⟩ := selS_ex H
    obtain ⟨p3936, e10, H⟩ := selP_ex H
    obtain ⟨p3937, e12, H⟩ := selP_ex H
    obtain ⟨A3938, l3938, c3938, e14, H⟩ := selS_ex H
    obtain ⟨x3939, e15, H⟩ := selI_ex H
    obtain ⟨x3940, e16, H⟩ := selI_ex H
    exact H
  · intro Q k tm h H
    have H0 := H
    obtain ⟨A3932, l3932, c3932, e0, H⟩ := selS_ex H
    obtain ⟨A3933, l3933, c3933, e1, H⟩ := selS_ex H
    obtain ⟨A3934, l3934, c3934, e2, H⟩ := selS_ex H
    obtain ⟨A3935, l3935, c3935, e3, H⟩ := selS_ex H
    obtain ⟨p3936, e10, H⟩ := selP_ex H
    obtain ⟨p3937, e12, H⟩ := selP_ex H
    obtain ⟨A3938, l3938, c3938, e14, H⟩ := selS_ex H
    obtain ⟨x3939, e15, H⟩ := selI_ex H
    obtain ⟨x3940, e16, H⟩ := selI_ex H
    have e : mask [0, 1, 2, 3, 10, 12, 14, 15, 16] tm = mkTm [(0, some (.slice A3932 l3932 c3932)), (1, some (.slice A3933 l3933 c3933)), (2, some (.slice A3934 l3934 c3934)), (3, some (.slice A3935 l3935 c3935)), (10, some (.pointer p3936)), (12, some (.pointer p3937)), (14, some (.slice A3938 l3938 c3938)), (15, some (.int .i64 x3939)), (16, some (.int .i64 x3940))] := by simp only [mask, List.map_cons, List.map_nil, e0, e1, e2, e3, e10, e12, e14, e15, e16] <;> rfl
    rw [e]
    refine Eq.mp (quintetlaw16_PruneAlike_l64_step Q k A3932 l3932 c3932 A3933 l3933 c3933 A3934 l3934 c3934 A3935 l3935 c3935 p3936 p3937 A3938 l3938 c3938 x3939 x3940 h) ?_
    rw [← e]
    exact (quintetlaw16_PruneAlike_l64_mask Q (k + 1) tm h).mp H0
set_option maxRecDepth 100000 in
theorem quintetlaw16_PruneAlike_l65_step (Q : Qx) (k : Nat) (A3966 : Option Addr) (l3966 : Nat) (c3966 : Nat) (A3967 : Option Addr) (l3967 : Nat) (c3967 : Nat) (A3968 : Option Addr) (l3968 : Nat) (c3968 : Nat) (A3969 : Option Addr) (l3969 : Nat) (c3969 : Nat) (p3970 : Option Addr) (p3971 : Option Addr) (A3972 : Option Addr) (l3972 : Nat) (c3972 : Nat) (x3973 : Int) (x3974 : Int) (x3975 : Int) (x3976 : Int) (h : Hp) : quintetlaw16_PruneAlike_l65_L Q (k + 1) (mkTm [(0, some (.slice A3966 l3966 c3966)), (1, some (.slice A3967 l3967 c3967)), (2, some (.slice A3968 l3968 c3968)), (3, some (.slice A3969 l3969 c3969)), (10, some (.pointer p3970)), (12, some (.pointer p3971)), (14, some (.slice A3972 l3972 c3972)), (15, some (.int .i64 x3973)), (16, some (.int .i64 x3974)), (17, some (.int .i64 x3975)), (18, some (.int .i64 x3976))]) h =
    codeWp Try.prog 158 quintetlaw16_PruneAlike_lp quintetlaw16_PruneAlike_cut (sub (bodyOf Try.f4) [true, true, true, true, true, true, true, true, false, true, false, false, true, false, false, true, true, true, true, false, true, false, false]) 16753908 (thenQ (fun tm h => quintetlaw16_PruneAlike_l65_L Q k (mask [0, 1, 2, 3, 10, 12, 14, 15, 16, 17, 18] tm) h) (maskQ (fun e => match e with | .exit 4 => [0, 1, 2, 3, 10, 12, 14, 15, 16, 17] | _ => []) Q)) (mkTm [(0, some (.slice A3966 l3966 c3966)), (1, some (.slice A3967 l3967 c3967)), (2, some (.slice A3968 l3968 c3968)), (3, some (.slice A3969 l3969 c3969)), (10, some (.pointer p3970)), (12, some (.pointer p3971)), (14, some (.slice A3972 l3972 c3972)), (15, some (.int .i64 x3973)), (16, some (.int .i64 x3974)), (17, some (.int .i64 x3975)), (18, some (.int .i64 x3976))]) h := by kernel_rfl
theorem quintetlaw16_PruneAlike_l65_mask (Q : Qx) (k : Nat) (tm : Tm) (h : Hp) : quintetlaw16_PruneAlike_l65_L Q k tm h ↔ quintetlaw16_PruneAlike_l65_L Q k (mask [0, 1, 2, 3, 10, 12, 14, 15, 16, 17, 18] tm) h := Iff.rfl
set_option maxRecDepth 100000 in
theorem quintetlaw16_PruneAlike_l65_snd : SndAt Try.prog 158 none (sub (bodyOf Try.f4) [true, true, true, true, true, true, true, true, false, true, false, false, true, false, false, true, true, true, true, false, true, false]) (quintetlaw16_PruneAlike_lp 8376954) := by
  refine loop_sound (lp := quintetlaw16_PruneAlike_lp) (cut := quintetlaw16_PruneAlike_cut) (i := 8376954) (c := (sub (bodyOf Try.f4) [true, true, true, true, true, true, true, true, false, true, false, false, true, false, false, true, true, true, true, false, true, false, false])) [0, 1, 2, 3, 10, 12, 14, 15, 16, 17, 18] (fun e => match e with | .exit 4 => [0, 1, 2, 3, 10, 12, 14, 15, 16, 17] | _ => []) quintetlaw16_PruneAlike_l65_L ?_ ?_ ?_
  · exact good_by (c := (sub (bodyOf Try.f4) [true, true, true, true, true, true, true, true, false, true, false, false, true, false, false, true, true, true, true, false, true, false, false])) (i := 16753908) (l := []) (by kernel_rfl) (fun _ h => by cases h)
  · intro Q tm h H
    obtain ⟨A3966, l3966, c3966, e0, H⟩ := selS_ex H
    obtain ⟨A3967, l3967, c3967, e1, H⟩ := selS_ex H
    obtain ⟨A3968, l3968, c3968, e2, H⟩ := selS_ex H
    obtain ⟨A3969, l3969, c3969, e3, H⟩ := selS_ex H
    obtain ⟨p3970, e10, H⟩ := selP_ex H
    obtain ⟨p3971, e12, H⟩ := selP_ex H
    obtain ⟨A3972, l3972, c3972, e14, H⟩ := selS_ex H
    obtain ⟨x3973, e15, H⟩ := selI_ex H
    obtain ⟨x3974, e16, H⟩ := selI_ex H
    obtain ⟨x3975, e17, H⟩ := selI_ex H
    obtain ⟨x3976, e18, H⟩ := selI_ex H
    exact H
  · intro Q k tm h H
    have H0 := H
    obtain ⟨A3966, l3966, c3966, e0, H⟩ := selS_ex H
    obtain ⟨A3967, l3967, c3967, e1, H⟩ := selS_ex H
    obtain ⟨A3968, l3968, c3968, e2, H⟩ := selS_ex H
    obtain ⟨A3969, l3969, c3969, e3, H⟩ := selS_ex H
    obtain ⟨p3970, e10, H⟩ := selP_ex H
    obtain ⟨p3971, e12, H⟩ := selP_ex H
    obtain ⟨A3972, l3972, c3972, e14, H⟩ := selS_ex H
    obtain ⟨x3973, e15, H⟩ := selI_ex H
    obtain ⟨x3974, e16, H⟩ := selI_ex H
    obtain ⟨x3975, e17, H⟩ := selI_ex H
    obtain ⟨x3976, e18, H⟩ := selI_ex H
    have e : mask [0, 1, 2, 3, 10, 12, 14, 15, 16, 17, 18] tm = mkTm [(0, some (.slice A3966 l3966 c3966)), (1, some (.slice A3967 l3967 c3967)), (2, some (.slice A3968 l3968 c3968)), (3, some (.slice A3969 l3969 c3969)), (10, some (.pointer p3970)), (12, some (.pointer p3971)), (14, some (.slice A3972 l3972 c3972)), (15, some (.int .i64 x3973)), (16, some (.int .i64 x3974)), (17, some (.int .i64 x3975)), (18, some (.int .i64 x3976))] := by simp only [mask, List.map_cons, List.map_nil, e0, e1, e2, e3, e10, e12, e14, e15, e16, e17, e18] <;> rfl
    rw [e]
    refine Eq.mp (quintetlaw16_PruneAlike_l65_step Q k A3966 l3966 c3966 A3967 l3967 c3967 A3968 l3968 c3968 A3969 l3969 c3969 p3970 p3971 A3972 l3972 c3972 x3973 x3974 x3975 x3976 h) ?_
    rw [← e]
    exact (quintetlaw16_PruneAlike_l65_mask Q (k + 1) tm h).mp H0
set_option maxRecDepth 100000 in
theorem quintetlaw16_PruneAlike_j66_step (Q : Qx) (A4023 : Option Addr) (l4023 : Nat) (c4023 : Nat) (A4024 : Option Addr) (l4024 : Nat) (c4024 : Nat) (A4025 : Option Addr) (l4025 : Nat) (c4025 : Nat) (A4026 : Option Addr) (l4026 : Nat) (c4026 : Nat) (p4027 : Option Addr) (p4028 : Option Addr) (A4029 : Option Addr) (l4029 : Nat) (c4029 : Nat) (x4030 : Int) (x4031 : Int) (x4032 : Int) (h : Hp) : quintetlaw16_PruneAlike_j66_L Q (mkTm [(0, some (.slice A4023 l4023 c4023)), (1, some (.slice A4024 l4024 c4024)), (2, some (.slice A4025 l4025 c4025)), (3, some (.slice A4026 l4026 c4026)), (10, some (.pointer p4027)), (12, some (.pointer p4028)), (14, some (.slice A4029 l4029 c4029)), (15, some (.int .i64 x4030)), (16, some (.int .i64 x4031)), (17, some (.int .i64 x4032))]) h =
    codeWp Try.prog 158 quintetlaw16_PruneAlike_lp quintetlaw16_PruneAlike_cut (sub (bodyOf Try.f4) [true, true, true, true, true, true, true, true, false, true, false, false, true, false, false, true, true, true, true, true, true]) 4188479 (maskQ (fun e => match e with | .ret => [8] | .normal => [0, 1, 2, 3, 10, 12, 14, 15] | _ => []) Q) (mkTm [(0, some (.slice A4023 l4023 c4023)), (1, some (.slice A4024 l4024 c4024)), (2, some (.slice A4025 l4025 c4025)), (3, some (.slice A4026 l4026 c4026)), (10, some (.pointer p4027)), (12, some (.pointer p4028)), (14, some (.slice A4029 l4029 c4029)), (15, some (.int .i64 x4030)), (16, some (.int .i64 x4031)), (17, some (.int .i64 x4032))]) h := by kernel_rfl
theorem quintetlaw16_PruneAlike_j66_mask (Q : Qx) (tm : Tm) (h : Hp) : quintetlaw16_PruneAlike_j66_L Q tm h ↔ quintetlaw16_PruneAlike_j66_L Q (mask [0, 1, 2, 3, 10, 12, 14, 15, 16, 17] tm) h := Iff.rfl
set_option maxRecDepth 100000 in
theorem quintetlaw16_PruneAlike_j66_snd : SndAt Try.prog 158 none (sub (bodyOf Try.f4) [true, true, true, true, true, true, true, true, false, true, false, false, true, false, false, true, true, true, true, true, true]) (quintetlaw16_PruneAlike_lp 2094239) := by
  refine join_sound (lp := quintetlaw16_PruneAlike_lp) (cut := quintetlaw16_PruneAlike_cut) (i := 2094239) (c := (sub (bodyOf Try.f4) [true, true, true, true, true, true, true, true, false, true, false, false, true, false, false, true, true, true, true, true, true])) [0, 1, 2, 3, 10, 12, 14, 15, 16, 17] (fun e => match e with | .ret => [8] | .normal => [0, 1, 2, 3, 10, 12, 14, 15] | _ => []) quintetlaw16_PruneAlike_j66_L ?_ ?_
  · exact good_by (c := (sub (bodyOf Try.f4) [true, true, true, true, true, true, true, true, false, true, false, false, true, false, false, true, true, true, true, true, true])) (i := 4188479) (l := []) (by kernel_rfl) (fun _ h => by cases h)
  · intro Q tm h H
    have H0 := H
    obtain ⟨A4023, l4023, c4023, e0, H⟩ := selS_ex H
    obtain ⟨A4024, l4024, c4024, e1, H⟩ := selS_ex H
    obtain ⟨A4025, l4025, c4025, e2, H⟩ := selS_ex H
    obtain ⟨A4026, l4026, c4026, e3, H⟩ := selS_ex H
    obtain ⟨p4027, e10, H⟩ := selP_ex H
    obtain ⟨p4028, e12, H⟩ := selP_ex H
    obtain ⟨A4029, l4029, c4029, e14, H⟩ := selS_ex H
    obtain ⟨x4030, e15, H⟩ := selI_ex H
    obtain ⟨x4031, e16, H⟩ := selI_ex H
    obtain ⟨x4032, e17, H⟩ := selI_ex H
    have e : mask [0, 1, 2, 3, 10, 12, 14, 15, 16, 17] tm = mkTm [(0, some (.slice A4023 l4023 c4023)), (1, some (.slice A4024 l4024 c4024)), (2, some (.slice A4025 l4025 c4025)), (3, some (.slice A4026 l4026 c4026)), (10, some (.pointer p4027)), (12, some (.pointer p4028)), (14, some (.slice A4029 l4029 c4029)), (15, some (.int .i64 x4030)), (16, some (.int .i64 x4031)), (17, some (.int .i64 x4032))] := by simp only [mask, List.map_cons, List.map_nil, e0, e1, e2, e3, e10, e12, e14, e15, e16, e17] <;> rfl
    rw [e]
    refine Eq.mp (quintetlaw16_PruneAlike_j66_step Q A4023 l4023 c4023 A4024 l4024 c4024 A4025 l4025 c4025 A4026 l4026 c4026 p4027 p4028 A4029 l4029 c4029 x4030 x4031 x4032 h) ?_
    rw [← e]
    exact (quintetlaw16_PruneAlike_j66_mask Q tm h).mp H0
set_option maxRecDepth 100000 in
theorem quintetlaw16_PruneAlike_j63_step (Q : Qx) (A3712 : Option Addr) (l3712 : Nat) (c3712 : Nat) (A3713 : Option Addr) (l3713 : Nat) (c3713 : Nat) (A3714 : Option Addr) (l3714 : Nat) (c3714 : Nat) (A3715 : Option Addr) (l3715 : Nat) (c3715 : Nat) (p3716 : Option Addr) (p3717 : Option Addr) (A3718 : Option Addr) (l3718 : Nat) (c3718 : Nat) (x3719 : Int) (x3720 : Int) (h : Hp) : quintetlaw16_PruneAlike_j63_L Q (mkTm [(0, some (.slice A3712 l3712 c3712)), (1, some (.slice A3713 l3713 c3713)), (2, some (.slice A3714 l3714 c3714)), (3, some (.slice A3715 l3715 c3715)), (10, some (.pointer p3716)), (12, some (.pointer p3717)), (14, some (.slice A3718 l3718 c3718)), (15, some (.int .i64 x3719)), (16, some (.int .i64 x3720))]) h =
    codeWp Try.prog 158 quintetlaw16_PruneAlike_lp quintetlaw16_PruneAlike_cut (sub (bodyOf Try.f4) [true, true, true, true, true, true, true, true, false, true, false, false, true, false, false, true, true]) 261779 (maskQ (fun e => match e with | .ret => [8] | .normal => [0, 1, 2, 3, 10, 12, 14, 15] | _ => []) Q) (mkTm [(0, some (.slice A3712 l3712 c3712)), (1, some (.slice A3713 l3713 c3713)), (2, some (.slice A3714 l3714 c3714)), (3, some (.slice A3715 l3715 c3715)), (10, some (.pointer p3716)), (12, some (.pointer p3717)), (14, some (.slice A3718 l3718 c3718)), (15, some (.int .i64 x3719)), (16, some (.int .i64 x3720))]) h := by kernel_rfl
theorem quintetlaw16_PruneAlike_j63_mask (Q : Qx) (tm : Tm) (h : Hp) : quintetlaw16_PruneAlike_j63_L Q tm h ↔ quintetlaw16_PruneAlike_j63_L Q (mask [0, 1, 2, 3, 10, 12, 14, 15, 16] tm) h := Iff.rfl
set_option maxRecDepth 100000 in
theorem quintetlaw16_PruneAlike_j63_snd : SndAt Try.prog 158 none (sub (bodyOf Try.f4) [true, true, true, true, true, true, true, true, false, true, false, false, true, false, false, true, true]) (quintetlaw16_PruneAlike_lp 130889) := by
  refine join_sound (lp := quintetlaw16_PruneAlike_lp) (cut := quintetlaw16_PruneAlike_cut) (i := 130889) (c := (sub (bodyOf Try.f4) [true, true, true, true, true, true, true, true, false, true, false, false, true, false, false, true, true])) [0, 1, 2, 3, 10, 12, 14, 15, 16] (fun e => match e with | .ret => [8] | .normal => [0, 1, 2, 3, 10, 12, 14, 15] | _ => []) quintetlaw16_PruneAlike_j63_L ?_ ?_
  · exact good_by (c := (sub (bodyOf Try.f4) [true, true, true, true, true, true, true, true, false, true, false, false, true, false, false, true, true])) (i := 261779) (l := [(1047116, (sub (bodyOf Try.f4) [true, true, true, true, true, true, true, true, false, true, false, false, true, false, false, true, true, false, false])), (8376954, (sub (bodyOf Try.f4) [true, true, true, true, true, true, true, true, false, true, false, false, true, false, false, true, true, true, true, false, true, false])), (2094239, (sub (bodyOf Try.f4) [true, true, true, true, true, true, true, true, false, true, false, false, true, false, false, true, true, true, true, true, true]))]) (by kernel_rfl) (List.forall_mem_cons.2 ⟨quintetlaw16_PruneAlike_l64_snd, (List.forall_mem_cons.2 ⟨quintetlaw16_PruneAlike_l65_snd, (List.forall_mem_cons.2 ⟨quintetlaw16_PruneAlike_j66_snd, (fun _ h => by cases h)⟩)⟩)⟩)
  · intro Q tm h H
    have H0 := H
    obtain ⟨A3712, l3712, c3712, e0, H⟩ := selS_ex H
    obtain ⟨A3713, l3713, c3713, e1, H⟩ := selS_ex H
    obtain ⟨A3714, l3714, c3714, e2, H⟩ := selS_ex H
    obtain ⟨A3715, l3715, c3715, e3, H⟩ := selS_ex H
    obtain ⟨p3716, e10, H⟩ := selP_ex H
    obtain ⟨p3717, e12, H⟩ := selP_ex H
    obtain ⟨A3718, l3718, c3718, e14, H⟩ := selS_ex H
    obtain ⟨x3719, e15, H⟩ := selI_ex H
    obtain ⟨x3720, e16, H⟩ := selI_ex H
    have e : mask [0, 1, 2, 3, 10, 12, 14, 15, 16] tm = mkTm [(0, some (.slice A3712 l3712 c3712)), (1, some (.slice A3713 l3713 c3713)), (2, some (.slice A3714 l3714 c3714)), (3, some (.slice A3715 l3715 c3715)), (10, some (.pointer p3716)), (12, some (.pointer p3717)), (14, some (.slice A3718 l3718 c3718)), (15, some (.int .i64 x3719)), (16, some (.int .i64 x3720))] := by simp only [mask, List.map_cons, List.map_nil, e0, e1, e2, e3, e10, e12, e14, e15, e16] <;> rfl
    rw [e]
    refine Eq.mp (quintetlaw16_PruneAlike_j63_step Q A3712 l3712 c3712 A3713 l3713 c3713 A3714 l3714 c3714 A3715 l3715 c3715 p3716 p3717 A3718 l3718 c3718 x3719 x3720 h) ?_
    rw [← e]
    exact (quintetlaw16_PruneAlike_j63_mask Q tm h).mp H0
set_option maxRecDepth 100000 in
theorem quintetlaw16_PruneAlike_l59_step (Q : Qx) (k : Nat) (A3241 : Option Addr) (l3241 : Nat) (c3241 : Nat) (A3242 : Option Addr) (l3242 : Nat) (c3242 : Nat) (A3243 : Option Addr) (l3243 : Nat) (c3243 : Nat) (A3244 : Option Addr) (l3244 : Nat) (c3244 : Nat) (p3245 : Option Addr) (p3246 : Option Addr) (A3247 : Option Addr) (l3247 : Nat) (c3247 : Nat) (x3248 : Int) (h : Hp) : quintetlaw16_PruneAlike_l59_L Q (k + 1) (mkTm [(0, some (.slice A3241 l3241 c3241)), (1, some (.slice A3242 l3242 c3242)), (2, some (.slice A3243 l3243 c3243)), (3, some (.slice A3244 l3244 c3244)), (10, some (.pointer p3245)), (12, some (.pointer p3246)), (14, some (.slice A3247 l3247 c3247)), (15, some (.int .i64 x3248))]) h =
    codeWp Try.prog 158 quintetlaw16_PruneAlike_lp quintetlaw16_PruneAlike_cut (sub (bodyOf Try.f4) [true, true, true, true, true, true, true, true, false, true, false, false]) 8180 (thenQ (fun tm h => quintetlaw16_PruneAlike_l59_L Q k (mask [0, 1, 2, 3, 10, 12, 14, 15] tm) h) (maskQ (fun e => match e with | .ret => [8] | .exit 0 => [3, 10, 12] | _ => []) Q)) (mkTm [(0, some (.slice A3241 l3241 c3241)), (1, some (.slice A3242 l3242 c3242)), (2, some (.slice A3243 l3243 c3243)), (3, some (.slice A3244 l3244 c3244)), (10, some (.pointer p3245)), (12, some (.pointer p3246)), (14, some (.slice A3247 l3247 c3247)), (15, some (.int .i64 x3248))]) h := by kernel_rfl
theorem quintetlaw16_PruneAlike_l59_mask (Q : Qx) (k : Nat) (tm : Tm) (h : Hp) : quintetlaw16_PruneAlike_l59_L Q k tm h ↔ quintetlaw16_PruneAlike_l59_L Q k (mask [0, 1, 2, 3, 10, 12, 14, 15] tm) h := Iff.rfl
set_option maxRecDepth 100000 in
theorem quintetlaw16_PruneAlike_l59_snd : SndAt Try.prog 158 none (sub (bodyOf Try.f4) [true, true, true, true, true, true, true, true, false, true, false]) (quintetlaw16_PruneAlike_lp 4090) := by
  refine loop_sound (lp := quintetlaw16_PruneAlike_lp) (cut := quintetlaw16_PruneAlike_cut) (i := 4090) (c := (sub (bodyOf Try.f4) [true, true, true, true, true, true, true, true, false, true, false, false])) [0, 1, 2, 3, 10, 12, 14, 15] (fun e => match e with | .ret => [8] | .exit 0 => [3, 10, 12] | _ => []) quintetlaw16_PruneAlike_l59_L ?_ ?_ ?_
  · exact good_by (c := (sub (bodyOf Try.f4) [true, true, true, true, true, true, true, true, false, true, false, false])) (i := 8180) (l := [(130889, (sub (bodyOf Try.f4) [true, true, true, true, true, true, true, true, false, true, false, false, true, false, false, true, true]))]) (by kernel_rfl) (List.forall_mem_cons.2 ⟨quintetlaw16_PruneAlike_j63_snd, (fun _ h => by cases h)⟩)
  · intro Q tm h H
    obtain ⟨A3241, l3241, c3241, e0, H⟩ := selS_ex H
    obtain ⟨A3242, l3242, c3242, e1, H⟩ := selS_ex H
    obtain ⟨A3243, l3243, c3243, e2, H⟩ := selS_ex H
    obtain ⟨A3244, l3244, c3244, e3, H⟩ := selS_ex H
    obtain ⟨p3245, e10, H⟩ := selP_ex H
    obtain ⟨p3246, e12, H⟩ := selP_ex H
    obtain ⟨A3247, l3247, c3247, e14, H⟩ := selS_ex H
    obtain ⟨x3248, e15, H⟩ := selI_ex H
    exact H
  · intro Q k tm h H
    have H0 := H
    obtain ⟨A3241, l3241, c3241, e0, H⟩ := selS_ex H
    obtain ⟨A3242, l3242, c3242, e1, H⟩ := selS_ex H
    obtain ⟨A3243, l3243, c3243, e2, H⟩ := selS_ex H
    obtain ⟨A3244, l3244, c3244, e3, H⟩ := selS_ex H
    obtain ⟨p3245, e10, H⟩ := selP_ex H
    obtain ⟨p3246, e12, H⟩ := selP_ex H
    obtain ⟨A3247, l3247, c3247, e14, H⟩ := selS_ex H
    obtain ⟨x3248, e15, H⟩ := selI_ex H
    have e : mask [0, 1, 2, 3, 10, 12, 14, 15] tm = mkTm [(0, some (.slice A3241 l3241 c3241)), (1, some (.slice A3242 l3242 c3242)), (2, some (.slice A3243 l3243 c3243)), (3, some (.slice A3244 l3244 c3244)), (10, some (.pointer p3245)), (12, some (.pointer p3246)), (14, some (.slice A3247 l3247 c3247)), (15, some (.int .i64 x3248))] := by simp only [mask, List.map_cons, List.map_nil, e0, e1, e2, e3, e10, e12, e14, e15] <;> rfl
    rw [e]
    refine Eq.mp (quintetlaw16_PruneAlike_l59_step Q k A3241 l3241 c3241 A3242 l3242 c3242 A3243 l3243 c3243 A3244 l3244 c3244 p3245 p3246 A3247 l3247 c3247 x3248 h) ?_
    rw [← e]
    exact (quintetlaw16_PruneAlike_l59_mask Q (k + 1) tm h).mp H0
set_option maxRecDepth 100000 in
theorem quintetlaw16_PruneAlike_l67_step (Q : Qx) (k : Nat) (A4167 : Option Addr) (l4167 : Nat) (c4167 : Nat) (p4168 : Option Addr) (p4169 : Option Addr) (x4170 : Int) (h : Hp) : quintetlaw16_PruneAlike_l67_L Q (k + 1) (mkTm [(3, some (.slice A4167 l4167 c4167)), (10, some (.pointer p4168)), (12, some (.pointer p4169)), (19, some (.int .i64 x4170))]) h =
    codeWp Try.prog 158 quintetlaw16_PruneAlike_lp quintetlaw16_PruneAlike_cut (sub (bodyOf Try.f4) [true, true, true, true, true, true, true, true, true, false, true, false, false]) 16372 (thenQ (fun tm h => quintetlaw16_PruneAlike_l67_L Q k (mask [3, 10, 12, 19] tm) h) (maskQ (fun e => match e with | .ret => [8] | .exit 6 => [] | _ => []) Q)) (mkTm [(3, some (.slice A4167 l4167 c4167)), (10, some (.pointer p4168)), (12, some (.pointer p4169)), (19, some (.int .i64 x4170))]) h := by kernel_rfl
theorem quintetlaw16_PruneAlike_l67_mask (Q : Qx) (k : Nat) (tm : Tm) (h : Hp) : quintetlaw16_PruneAlike_l67_L Q k tm h ↔ quintetlaw16_PruneAlike_l67_L Q k (mask [3, 10, 12, 19] tm) h := Iff.rfl
set_option maxRecDepth 100000 in
theorem quintetlaw16_PruneAlike_l67_snd : SndAt Try.prog 158 none (sub (bodyOf Try.f4) [true, true, true, true, true, true, true, true, true, false, true, false]) (quintetlaw16_PruneAlike_lp 8186) := by
  refine loop_sound (lp := quintetlaw16_PruneAlike_lp) (cut := quintetlaw16_PruneAlike_cut) (i := 8186) (c := (sub (bodyOf Try.f4) [true, true, true, true, true, true, true, true, true, false, true, false, false])) [3, 10, 12, 19] (fun e => match e with | .ret => [8] | .exit 6 => [] | _ => []) quintetlaw16_PruneAlike_l67_L ?_ ?_ ?_
  · exact good_by (c := (sub (bodyOf Try.f4) [true, true, true, true, true, true, true, true, true, false, true, false, false])) (i := 16372) (l := []) (by kernel_rfl) (fun _ h => by cases h)
  · intro Q tm h H
    obtain ⟨A4167, l4167, c4167, e3, H⟩ := selS_ex H
    obtain ⟨p4168, e10, H⟩ := selP_ex H
    obtain ⟨p4169, e12, H⟩ := selP_ex H
    obtain ⟨x4170, e19, H⟩ := selI_ex H
    exact H
  · intro Q k tm h H
    have H0 := H
    obtain ⟨A4167, l4167, c4167, e3, H⟩ := selS_ex H
    obtain ⟨p4168, e10, H⟩ := selP_ex H
    obtain ⟨p4169, e12, H⟩ := selP_ex H
    obtain ⟨x4170, e19, H⟩ := selI_ex H
    have e : mask [3, 10, 12, 19] tm = mkTm [(3, some (.slice A4167 l4167 c4167)), (10, some (.pointer p4168)), (12, some (.pointer p4169)), (19, some (.int .i64 x4170))] := by simp only [mask, List.map_cons, List.map_nil, e3, e10, e12, e19] <;> rfl
    rw [e]
    refine Eq.mp (quintetlaw16_PruneAlike_l67_step Q k A4167 l4167 c4167 p4168 p4169 x4170 h) ?_
    rw [← e]
    exact (quintetlaw16_PruneAlike_l67_mask Q (k + 1) tm h).mp H0
set_option maxRecDepth 100000 in
theorem quintetlaw16_PruneAlike_j51_step (Q : Qx) (A2175 : Option Addr) (l2175 : Nat) (c2175 : Nat) (A2176 : Option Addr) (l2176 : Nat) (c2176 : Nat) (A2177 : Option Addr) (l2177 : Nat) (c2177 : Nat) (A2178 : Option Addr) (l2178 : Nat) (c2178 : Nat) (p2179 : Option Addr) (p2180 : Option Addr) (h : Hp) : quintetlaw16_PruneAlike_j51_L Q (mkTm [(0, some (.slice A2175 l2175 c2175)), (1, some (.slice A2176 l2176 c2176)), (2, some (.slice A2177 l2177 c2177)), (3, some (.slice A2178 l2178 c2178)), (10, some (.pointer p2179)), (12, some (.pointer p2180))]) h =
    codeWp Try.prog 158 quintetlaw16_PruneAlike_lp quintetlaw16_PruneAlike_cut (sub (bodyOf Try.f4) [true, true, true, true, true, true]) 127 (maskQ (fun e => match e with | .ret => [8] | _ => []) Q) (mkTm [(0, some (.slice A2175 l2175 c2175)), (1, some (.slice A2176 l2176 c2176)), (2, some (.slice A2177 l2177 c2177)), (3, some (.slice A2178 l2178 c2178)), (10, some (.pointer p2179)), (12, some (.pointer p2180))]) h := by kernel_rfl
theorem quintetlaw16_PruneAlike_j51_mask (Q : Qx) (tm : Tm) (h : Hp) : quintetlaw16_PruneAlike_j51_L Q tm h ↔ quintetlaw16_PruneAlike_j51_L Q (mask [0, 1, 2, 3, 10, 12] tm) h := Iff.rfl
set_option maxRecDepth 100000 in
theorem quintetlaw16_PruneAlike_j51_snd : SndAt Try.prog 158 none (sub (bodyOf Try.f4) [true, true, true, true, true, true]) (quintetlaw16_PruneAlike_lp 63) := by
  refine join_sound (lp := quintetlaw16_PruneAlike_lp) (cut := quintetlaw16_PruneAlike_cut) (i := 63) (c := (sub (bodyOf Try.f4) [true, true, true, true, true, true])) [0, 1, 2, 3, 10, 12] (fun e => match e with | .ret => [8] | _ => []) quintetlaw16_PruneAlike_j51_L ?_ ?_
  · exact good_by (c := (sub (bodyOf Try.f4) [true, true, true, true, true, true])) (i := 127) (l := [(4090, (sub (bodyOf Try.f4) [true, true, true, true, true, true, true, true, false, true, false])), (8186, (sub (bodyOf Try.f4) [true, true, true, true, true, true, true, true, true, false, true, false]))]) (by kernel_rfl) (List.forall_mem_cons.2 ⟨quintetlaw16_PruneAlike_l59_snd, (List.forall_mem_cons.2 ⟨quintetlaw16_PruneAlike_l67_snd, (fun _ h => by cases h)⟩)⟩)
  · intro Q tm h H
    have H0 := H
    obtain ⟨A2175, l2175, c2175, e0, H⟩ := selS_ex H
    obtain ⟨A2176, l2176, c2176, e1, H⟩ := selS_ex H
    obtain ⟨A2177, l2177, c2177, e2, H⟩ := selS_ex H
    obtain ⟨A2178, l2178, c2178, e3, H⟩ := selS_ex H
    obtain ⟨p2179, e10, H⟩ := selP_ex H
    obtain ⟨p2180, e12, H⟩ := selP_ex H
    have e : mask [0, 1, 2, 3, 10, 12] tm = mkTm [(0, some (.slice A2175 l2175 c2175)), (1, some (.slice A2176 l2176 c2176)), (2, some (.slice A2177 l2177 c2177)), (3, some (.slice A2178 l2178 c2178)), (10, some (.pointer p2179)), (12, some (.pointer p2180))] := by simp only [mask, List.map_cons, List.map_nil, e0, e1, e2, e3, e10, e12] <;> rfl
    rw [e]
    refine Eq.mp (quintetlaw16_PruneAlike_j51_step Q A2175 l2175 c2175 A2176 l2176 c2176 A2177 l2177 c2177 A2178 l2178 c2178 p2179 p2180 h) ?_
    rw [← e]
    exact (quintetlaw16_PruneAlike_j51_mask Q tm h).mp H0
set_option maxRecDepth 100000 in
theorem quintetlaw16_PruneAlike_j34_step (Q : Qx) (A5 : Option Addr) (l5 : Nat) (c5 : Nat) (A6 : Option Addr) (l6 : Nat) (c6 : Nat) (A7 : Option Addr) (l7 : Nat) (c7 : Nat) (A8 : Option Addr) (l8 : Nat) (c8 : Nat) (h : Hp) : quintetlaw16_PruneAlike_j34_L Q (mkTm [(0, some (.slice A5 l5 c5)), (1, some (.slice A6 l6 c6)), (2, some (.slice A7 l7 c7)), (3, some (.slice A8 l8 c8))]) h =
    codeWp Try.prog 158 quintetlaw16_PruneAlike_lp quintetlaw16_PruneAlike_cut (sub (bodyOf Try.f4) [true, true]) 7 (maskQ (fun e => match e with | .ret => [8] | _ => []) Q) (mkTm [(0, some (.slice A5 l5 c5)), (1, some (.slice A6 l6 c6)), (2, some (.slice A7 l7 c7)), (3, some (.slice A8 l8 c8))]) h := by kernel_rfl
theorem quintetlaw16_PruneAlike_j34_mask (Q : Qx) (tm : Tm) (h : Hp) : quintetlaw16_PruneAlike_j34_L Q tm h ↔ quintetlaw16_PruneAlike_j34_L Q (mask [0, 1, 2, 3] tm) h := Iff.rfl
set_option maxRecDepth 100000 in
theorem quintetlaw16_PruneAlike_j34_snd : SndAt Try.prog 158 none (sub (bodyOf Try.f4) [true, true]) (quintetlaw16_PruneAlike_lp 3) := by
  refine join_sound (lp := quintetlaw16_PruneAlike_lp) (cut := quintetlaw16_PruneAlike_cut) (i := 3) (c := (sub (bodyOf Try.f4) [true, true])) [0, 1, 2, 3] (fun e => match e with | .ret => [8] | _ => []) quintetlaw16_PruneAlike_j34_L ?_ ?_
  · exact good_by (c := (sub (bodyOf Try.f4) [true, true])) (i := 7) (l := [(63, (sub (bodyOf Try.f4) [true, true, true, true, true, true]))]) (by kernel_rfl) (List.forall_mem_cons.2 ⟨quintetlaw16_PruneAlike_j51_snd, (fun _ h => by cases h)⟩)
  · intro Q tm h H
    have H0 := H
    obtain ⟨A5, l5, c5, e0, H⟩ := selS_ex H
    obtain ⟨A6, l6, c6, e1, H⟩ := selS_ex H
    obtain ⟨A7, l7, c7, e2, H⟩ := selS_ex H
    obtain ⟨A8, l8, c8, e3, H⟩ := selS_ex H
    have e : mask [0, 1, 2, 3] tm = mkTm [(0, some (.slice A5 l5 c5)), (1, some (.slice A6 l6 c6)), (2, some (.slice A7 l7 c7)), (3, some (.slice A8 l8 c8))] := by simp only [mask, List.map_cons, List.map_nil, e0, e1, e2, e3] <;> rfl
    rw [e]
    refine Eq.mp (quintetlaw16_PruneAlike_j34_step Q A5 l5 c5 A6 l6 c6 A7 l7 c7 A8 l8 c8 h) ?_
    rw [← e]
    exact (quintetlaw16_PruneAlike_j34_mask Q tm h).mp H0
set_option maxRecDepth 100000 in
theorem quintetlaw16_PruneAlike_eq (A1 : Option Addr) (l1 : Nat) (c1 : Nat) (A2 : Option Addr) (l2 : Nat) (c2 : Nat) (A3 : Option Addr) (l3 : Nat) (c3 : Nat) (A4 : Option Addr) (l4 : Nat) (c4 : Nat) (h : Hp) (K : Value → Hp → Prop) : quintetlaw16_PruneAlike A1 l1 c1 A2 l2 c2 A3 l3 c3 A4 l4 c4 h K =
    codeWp Try.prog 158 quintetlaw16_PruneAlike_lp quintetlaw16_PruneAlike_cut (bodyOf Try.f4) 1 (endQ Try.prog Try.f4.results.toList K) (argTm [(.slice A1 l1 c1), (.slice A2 l2 c2), (.slice A3 l3 c3), (.slice A4 l4 c4)]) h := by kernel_rfl
set_option maxRecDepth 100000 in
theorem quintetlaw16_PruneAlike_ok (A1 : Option Addr) (l1 : Nat) (c1 : Nat) (A2 : Option Addr) (l2 : Nat) (c2 : Nat) (A3 : Option Addr) (l3 : Nat) (c3 : Nat) (A4 : Option Addr) (l4 : Nat) (c4 : Nat) {h : Hp} {K : Value → Hp → Prop} (H : quintetlaw16_PruneAlike A1 l1 c1 A2 l2 c2 A3 l3 c3 A4 l4 c4 h K) : CallsH Try.prog 4 #[(.slice A1 l1 c1), (.slice A2 l2 c2), (.slice A3 l3 c3), (.slice A4 l4 c4)] h K :=
  calls_of (args := [(.slice A1 l1 c1), (.slice A2 l2 c2), (.slice A3 l3 c3), (.slice A4 l4 c4)]) (n := 158) (lp := quintetlaw16_PruneAlike_lp) (cut := quintetlaw16_PruneAlike_cut) Try.func4 (c := bodyOf Try.f4) (by kernel_rfl) (by kernel_rfl) (by kernel_rfl) (good_by (c := (bodyOf Try.f4)) (i := 1) (l := [(3, (sub (bodyOf Try.f4) [true, true]))]) (by kernel_rfl) (List.forall_mem_cons.2 ⟨quintetlaw16_PruneAlike_j34_snd, (fun _ h => by cases h)⟩))
    (Eq.mp (quintetlaw16_PruneAlike_eq A1 l1 c1 A2 l2 c2 A3 l3 c3 A4 l4 c4 h K) H)

/-! ### quintet/quintetlaw16.PruneApart: function 5 -/
def quintetlaw16_PruneApart_j1 (K0 : Bool → Hp → Prop) (A61 : Option Addr) (l61 : Nat) (c61 : Nat) (x62 : Int) (a63 : Addr) (a64 : Addr) (p65 : Option Addr) (p66 : Option Addr) (h : Hp) : Prop :=
  CallsH Try.prog 13 #[(.pointer p65), (.slice A61 l61 c61)] h fun r179 h178 =>
  ∃ x180 : Int, r179 = (.int .i64 x180) ∧ 
  CallsH Try.prog 13 #[(.pointer p66), (.slice A61 l61 c61)] h178 fun r182 h181 =>
  ∃ x183 : Int, r182 = (.int .i64 x183) ∧ 
  ∃ x184 : Int, ∃ x185 : Int, ∃ x186 : Int, ∃ x187 : Int, ∃ x188 : Int, HV Try.prog (Instr.loadAt 28 (.pointer (some a64))) h181 (.agg #[(.int .u32 x184), (.int .u32 x185), (.int .u16 x186), (.int .u16 x187), (.int .u8 x188)]) ∧ 
  CallsH Try.prog 10 #[(.pointer p65), (.agg #[(.int .u32 x184), (.int .u32 x185), (.int .u16 x186), (.int .u16 x187), (.int .u8 x188)])] h181 fun r190 h189 =>
  ∃ b191 : Bool, ∃ x192 : Int, ∃ x193 : Int, ∃ x194 : Int, ∃ x195 : Int, ∃ x196 : Int, ∃ x197 : Int, ∃ x198 : Int, r190 = (.tuple #[(.agg #[(.bool b191), (.int .i64 x192), (.int .i64 x193)]), (.agg #[(.int .i64 x194), (.int .i64 x195), (.int .i64 x196), (.int .i64 x197), (.int .i64 x198)])]) ∧ 
  newC h189 (.cells #[(.bool false), (.int .i64 0), (.int .i64 0)] 36 (0, 0)) fun a200 h199 => 
  newC h199 (.cells #[(.int .i64 0), (.int .i64 0), (.int .i64 0), (.int .i64 0), (.int .i64 0)] 38 (0, 0)) fun a202 h201 => 
  HU Try.prog (Instr.storeAt 36 (.pointer (some a200)) (.agg #[(.bool b191), (.int .i64 x192), (.int .i64 x193)])) h201 fun h203 => 
  HU Try.prog (Instr.storeAt 38 (.pointer (some a202)) (.agg #[(.int .i64 x194), (.int .i64 x195), (.int .i64 x196), (.int .i64 x197), (.int .i64 x198)])) h203 fun h204 => 
  CallsH Try.prog 12 #[(.pointer p65)] h204 fun r206 h205 =>
  ∃ x207 : Int, ∃ x208 : Int, ∃ x209 : Int, ∃ x210 : Int, r206 = (.agg #[(.int .i64 x207), (.int .i64 x208), (.int .i64 x209), (.int .i64 x210)]) ∧ 
  newC h205 (.cells #[(.int .i64 0), (.int .i64 0), (.int .i64 0), (.int .i64 0)] 43 (0, 0)) fun a212 h211 => 
  HU Try.prog (Instr.storeAt 43 (.pointer (some a212)) (.agg #[(.int .i64 x207), (.int .i64 x208), (.int .i64 x209), (.int .i64 x210)])) h211 fun h213 => 
  ∃ x214 : Int, ∃ x215 : Int, ∃ x216 : Int, ∃ x217 : Int, ∃ x218 : Int, ∃ x219 : Int, ∃ x220 : Int, ∃ x221 : Int, ∃ x222 : Int, ∃ x223 : Int, ∃ x224 : Int, ∃ x225 : Int, HV Try.prog (Instr.loadAt 60 (.pointer (some a63))) h213 (.agg #[(.int .i64 x214), (.int .u32 x215), (.int .i64 x216), (.int .u32 x217), (.int .i64 x218), (.int .u16 x219), (.int .u16 x220), (.int .u16 x221), (.int .u16 x222), (.int .u8 x223), (.int .u8 x224), (.int .i64 x225)]) ∧ 
  CallsH Try.prog 15 #[(.pointer p66), (.int .i64 0), (.agg #[(.int .i64 x214), (.int .u32 x215), (.int .i64 x216), (.int .u32 x217), (.int .i64 x218), (.int .u16 x219), (.int .u16 x220), (.int .u16 x221), (.int .u16 x222), (.int .u8 x223), (.int .u8 x224), (.int .i64 x225)])] h213 fun r227 h226 =>
  ∃ x228 : Int, r227 = (.int .i64 x228) ∧ 
  CallsH Try.prog 16 #[(.pointer p66), (.int .i64 x62)] h226 fun r230 h229 =>
  ∃ x231 : Int, r230 = (.int .i64 x231) ∧ 
  CallsH Try.prog 13 #[(.pointer p66), (.slice none 0 0)] h229 fun r233 h232 =>
  ∃ x234 : Int, r233 = (.int .i64 x234) ∧ 
  ∃ x235 : Int, ∃ x236 : Int, ∃ x237 : Int, ∃ x238 : Int, ∃ x239 : Int, HV Try.prog (Instr.loadAt 28 (.pointer (some a64))) h232 (.agg #[(.int .u32 x235), (.int .u32 x236), (.int .u16 x237), (.int .u16 x238), (.int .u8 x239)]) ∧ 
  CallsH Try.prog 10 #[(.pointer p65), (.agg #[(.int .u32 x235), (.int .u32 x236), (.int .u16 x237), (.int .u16 x238), (.int .u8 x239)])] h232 fun r241 h240 =>
  ∃ b242 : Bool, ∃ x243 : Int, ∃ x244 : Int, ∃ x245 : Int, ∃ x246 : Int, ∃ x247 : Int, ∃ x248 : Int, ∃ x249 : Int, r241 = (.tuple #[(.agg #[(.bool b242), (.int .i64 x243), (.int .i64 x244)]), (.agg #[(.int .i64 x245), (.int .i64 x246), (.int .i64 x247), (.int .i64 x248), (.int .i64 x249)])]) ∧ 
  newC h240 (.cells #[(.bool false), (.int .i64 0), (.int .i64 0)] 36 (0, 0)) fun a251 h250 => 
  newC h250 (.cells #[(.int .i64 0), (.int .i64 0), (.int .i64 0), (.int .i64 0), (.int .i64 0)] 38 (0, 0)) fun a253 h252 => 
  HU Try.prog (Instr.storeAt 36 (.pointer (some a251)) (.agg #[(.bool b242), (.int .i64 x243), (.int .i64 x244)])) h252 fun h254 => 
  HU Try.prog (Instr.storeAt 38 (.pointer (some a253)) (.agg #[(.int .i64 x245), (.int .i64 x246), (.int .i64 x247), (.int .i64 x248), (.int .i64 x249)])) h254 fun h255 => 
  CallsH Try.prog 9 #[] h255 fun r257 h256 =>
  ∃ b258 : Bool, r257 = (.bool b258) ∧ 
  br b258
  (br (x180 == x183)
  (∃ b259 : Bool, ∃ x260 : Int, ∃ x261 : Int, HV Try.prog (Instr.loadAt 36 (.pointer (some a200))) h256 (.agg #[(.bool b259), (.int .i64 x260), (.int .i64 x261)]) ∧ 
  ∃ b262 : Bool, ∃ x263 : Int, ∃ x264 : Int, HV Try.prog (Instr.loadAt 36 (.pointer (some a251))) h256 (.agg #[(.bool b262), (.int .i64 x263), (.int .i64 x264)]) ∧ 
  ∃ b265 : Bool, PV Try.prog (binOp .eql 36 (.agg #[(.bool b259), (.int .i64 x260), (.int .i64 x261)]) (.agg #[(.bool b262), (.int .i64 x263), (.int .i64 x264)])) (.bool b265) ∧
  br b265
  (∃ x266 : Int, ∃ x267 : Int, ∃ x268 : Int, ∃ x269 : Int, ∃ x270 : Int, HV Try.prog (Instr.loadAt 38 (.pointer (some a202))) h256 (.agg #[(.int .i64 x266), (.int .i64 x267), (.int .i64 x268), (.int .i64 x269), (.int .i64 x270)]) ∧ 
  ∃ x271 : Int, ∃ x272 : Int, ∃ x273 : Int, ∃ x274 : Int, ∃ x275 : Int, HV Try.prog (Instr.loadAt 38 (.pointer (some a253))) h256 (.agg #[(.int .i64 x271), (.int .i64 x272), (.int .i64 x273), (.int .i64 x274), (.int .i64 x275)]) ∧ 
  ∃ b276 : Bool, PV Try.prog (binOp .eql 38 (.agg #[(.int .i64 x266), (.int .i64 x267), (.int .i64 x268), (.int .i64 x269), (.int .i64 x270)]) (.agg #[(.int .i64 x271), (.int .i64 x272), (.int .i64 x273), (.int .i64 x274), (.int .i64 x275)])) (.bool b276) ∧
  br b276
  (∃ x277 : Int, ∃ x278 : Int, ∃ x279 : Int, ∃ x280 : Int, HV Try.prog (Instr.loadAt 43 (.pointer (some a212))) h256 (.agg #[(.int .i64 x277), (.int .i64 x278), (.int .i64 x279), (.int .i64 x280)]) ∧ 
  CallsH Try.prog 12 #[(.pointer p65)] h256 fun r282 h281 =>
  ∃ x283 : Int, ∃ x284 : Int, ∃ x285 : Int, ∃ x286 : Int, r282 = (.agg #[(.int .i64 x283), (.int .i64 x284), (.int .i64 x285), (.int .i64 x286)]) ∧ HV Try.prog (Instr.loadAt 43 (.pointer (some a212))) h281 (.agg #[(.int .i64 x277), (.int .i64 x278), (.int .i64 x279), (.int .i64 x280)]) ∧ 
  ∃ b287 : Bool, PV Try.prog (binOp .eql 43 (.agg #[(.int .i64 x277), (.int .i64 x278), (.int .i64 x279), (.int .i64 x280)]) (.agg #[(.int .i64 x283), (.int .i64 x284), (.int .i64 x285), (.int .i64 x286)])) (.bool b287) ∧
  K0 b287 h281)
  (K0 false h256))
  (K0 false h256))
  (K0 false h256))
  (K0 false h256)
def quintetlaw16_PruneApart_j1_L (Q : Qx) (tm : Tm) (h : Hp) : Prop :=
  selS (tm 0) fun A61 l61 c61 =>
  selI .i64 (tm 2) fun x62 =>
  selA (tm 5) fun a63 =>
  selA (tm 7) fun a64 =>
  selP (tm 10) fun p65 =>
  selP (tm 12) fun p66 =>
  quintetlaw16_PruneApart_j1 (fun (b177 : Bool) h => Q (.ret) (mkTm [(8, some (.bool b177))]) h) A61 l61 c61 x62 a63 a64 p65 p66 h
def quintetlaw16_PruneApart (A1 : Option Addr) (l1 : Nat) (c1 : Nat) (x2 : Int) (x3 : Int) (x4 : Int) (x5 : Int) (x6 : Int) (x7 : Int) (x8 : Int) (x9 : Int) (x10 : Int) (x11 : Int) (x12 : Int) (x13 : Int) (x14 : Int) (x15 : Int) (x16 : Int) (x17 : Int) (x18 : Int) (x19 : Int) (h : Hp) (K : Value → Hp → Prop) : Prop :=
  newC h (.cells #[(.int .i64 x2), (.int .u32 x3), (.int .i64 x4), (.int .u32 x5), (.int .i64 x6), (.int .u16 x7), (.int .u16 x8), (.int .u16 x9), (.int .u16 x10), (.int .u8 x11), (.int .u8 x12), (.int .i64 x13)] 60 (0, 0)) fun a21 h20 => 
  newC h20 (.cells #[(.int .u32 x15), (.int .u32 x16), (.int .u16 x17), (.int .u16 x18), (.int .u8 x19)] 28 (0, 0)) fun a23 h22 => 
  br (decide ((l1 : Int) > 64))
  (K (.bool true) h22)
  (CallsH Try.prog 17 #[] h22 fun r25 h24 =>
  ∃ x26 : Int, ∃ x27 : Int, ∃ x28 : Int, ∃ x29 : Int, ∃ x30 : Int, ∃ x31 : Int, ∃ x32 : Int, r25 = (.agg #[(.int .i64 x26), (.int .i64 x27), (.int .i64 x28), (.int .i64 x29), (.int .i64 x30), (.int .i64 x31), (.int .i64 x32)]) ∧ 
  newC h24 (.cells #[(.int .i64 0), (.int .i64 0), (.int .i64 0), (.int .i64 0), (.int .i64 0), (.int .i64 0), (.int .i64 0)] 24 (0, 0)) fun a34 h33 => 
  HU Try.prog (Instr.storeAt 24 (.pointer (some a34)) (.agg #[(.int .i64 x26), (.int .i64 x27), (.int .i64 x28), (.int .i64 x29), (.int .i64 x30), (.int .i64 x31), (.int .i64 x32)])) h33 fun h35 => 
  HU Try.prog (Instr.storeAt 3 (.pointer (some a34)) (.int .i64 64)) h35 fun h36 => 
  ∃ x37 : Int, ∃ x38 : Int, ∃ x39 : Int, ∃ x40 : Int, ∃ x41 : Int, ∃ x42 : Int, ∃ x43 : Int, HV Try.prog (Instr.loadAt 24 (.pointer (some a34))) h36 (.agg #[(.int .i64 x37), (.int .i64 x38), (.int .i64 x39), (.int .i64 x40), (.int .i64 x41), (.int .i64 x42), (.int .i64 x43)]) ∧ 
  CallsH Try.prog 8 #[(.agg #[(.int .i64 x37), (.int .i64 x38), (.int .i64 x39), (.int .i64 x40), (.int .i64 x41), (.int .i64 x42), (.int .i64 x43)])] h36 fun r45 h44 =>
  ∃ p46 : Option Addr, ∃ x47 : Int, r45 = (.tuple #[(.pointer p46), (.int .i64 x47)]) ∧ 
  ∃ x48 : Int, ∃ x49 : Int, ∃ x50 : Int, ∃ x51 : Int, ∃ x52 : Int, ∃ x53 : Int, ∃ x54 : Int, HV Try.prog (Instr.loadAt 24 (.pointer (some a34))) h44 (.agg #[(.int .i64 x48), (.int .i64 x49), (.int .i64 x50), (.int .i64 x51), (.int .i64 x52), (.int .i64 x53), (.int .i64 x54)]) ∧ 
  CallsH Try.prog 8 #[(.agg #[(.int .i64 x48), (.int .i64 x49), (.int .i64 x50), (.int .i64 x51), (.int .i64 x52), (.int .i64 x53), (.int .i64 x54)])] h44 fun r56 h55 =>
  ∃ p57 : Option Addr, ∃ x58 : Int, r56 = (.tuple #[(.pointer p57), (.int .i64 x58)]) ∧ 
  ∃ b288 : Bool, PV Try.prog (binOp .eql 31 (.pointer p46) (.pointer none)) (.bool b288) ∧
  br b288
  (K (.bool false) h55)
  (∃ b289 : Bool, PV Try.prog (binOp .eql 31 (.pointer p57) (.pointer none)) (.bool b289) ∧
  br b289
  (K (.bool false) h55)
  (quintetlaw16_PruneApart_j1
  (fun (b290 : Bool) (h291 : Hp) =>
  K (.bool b290) h291)
  A1 l1 c1 x14 a21 a23 p46 p57 h55)))
def quintetlaw16_PruneApart_lp (i : Nat) (Q : Qx) (tm : Tm) (h : Hp) : Prop := match Nat.beq i 127 with
  | true => quintetlaw16_PruneApart_j1_L Q tm h
  | false => False
def quintetlaw16_PruneApart_cut (i : Nat) : Option (List Nat) := match Nat.beq i 127 with
  | true => some [0, 2, 5, 7, 10, 12]
  | false => none
set_option maxRecDepth 100000 in
theorem quintetlaw16_PruneApart_j1_step (Q : Qx) (A61 : Option Addr) (l61 : Nat) (c61 : Nat) (x62 : Int) (a63 : Addr) (a64 : Addr) (p65 : Option Addr) (p66 : Option Addr) (h : Hp) : quintetlaw16_PruneApart_j1_L Q (mkTm [(0, some (.slice A61 l61 c61)), (2, some (.int .i64 x62)), (5, some (.pointer (some a63))), (7, some (.pointer (some a64))), (10, some (.pointer p65)), (12, some (.pointer p66))]) h =
    codeWp Try.prog 92 quintetlaw16_PruneApart_lp quintetlaw16_PruneApart_cut (sub (bodyOf Try.f5) [true, true, true, true, true, true, true]) 255 (maskQ (fun e => match e with | .ret => [8] | _ => []) Q) (mkTm [(0, some (.slice A61 l61 c61)), (2, some (.int .i64 x62)), (5, some (.pointer (some a63))), (7, some (.pointer (some a64))), (10, some (.pointer p65)), (12, some (.pointer p66))]) h := by kernel_rfl
theorem quintetlaw16_PruneApart_j1_mask (Q : Qx) (tm : Tm) (h : Hp) : quintetlaw16_PruneApart_j1_L Q tm h ↔ quintetlaw16_PruneApart_j1_L Q (mask [0, 2, 5, 7, 10, 12] tm) h := Iff.rfl
set_option maxRecDepth 100000 in
theorem quintetlaw16_PruneApart_j1_snd : SndAt Try.prog 92 none (sub (bodyOf Try.f5) [true, true, true, true, true, true, true]) (quintetlaw16_PruneApart_lp 127) := by
  refine join_sound (lp := quintetlaw16_PruneApart_lp) (cut := quintetlaw16_PruneApart_cut) (i := 127) (c := (sub (bodyOf Try.f5) [true, true, true, true, true, true, true])) [0, 2, 5, 7, 10, 12] (fun e => match e with | .ret => [8] | _ => []) quintetlaw16_PruneApart_j1_L ?_ ?_
  · exact good_by (c := (sub (bodyOf Try.f5) [true, true, true, true, true, true, true])) (i := 255) (l := []) (by kernel_rfl) (fun _ h => by cases h)
  · intro Q tm h H
    have H0 := H
    obtain ⟨A61, l61, c61, e0, H⟩ := selS_ex H
    obtain ⟨x62, e2, H⟩ := selI_ex H
    obtain ⟨a63, e5, H⟩ := selA_ex H
    obtain ⟨a64, e7, H⟩ := selA_ex H
    obtain ⟨p65, e10, H⟩ := selP_ex H
    obtain ⟨p66, e12, H⟩ := selP_ex H
    have e : mask [0, 2, 5, 7, 10, 12] tm = mkTm [(0, some (.slice A61 l61 c61)), (2, some (.int .i64 x62)), (5, some (.pointer (some a63))), (7, some (.pointer (some a64))), (10, some (.pointer p65)), (12, some (.pointer p66))] := by simp only [mask, List.map_cons, List.map_nil, e0, e2, e5, e7, e10, e12] <;> rfl
    rw [e]
    refine Eq.mp (quintetlaw16_PruneApart_j1_step Q A61 l61 c61 x62 a63 a64 p65 p66 h) ?_
    rw [← e]
    exact (quintetlaw16_PruneApart_j1_mask Q tm h).mp H0
set_option maxRecDepth 100000 in
theorem quintetlaw16_PruneApart_eq (A1 : Option Addr) (l1 : Nat) (c1 : Nat) (x2 : Int) (x3 : Int) (x4 : Int) (x5 : Int) (x6 : Int) (x7 : Int) (x8 : Int) (x9 : Int) (x10 : Int) (x11 : Int) (x12 : Int) (x13 : Int) (x14 : Int) (x15 : Int) (x16 : Int) (x17 : Int) (x18 : Int) (x19 : Int) (h : Hp) (K : Value → Hp → Prop) : quintetlaw16_PruneApart A1 l1 c1 x2 x3 x4 x5 x6 x7 x8 x9 x10 x11 x12 x13 x14 x15 x16 x17 x18 x19 h K =
    codeWp Try.prog 92 quintetlaw16_PruneApart_lp quintetlaw16_PruneApart_cut (bodyOf Try.f5) 1 (endQ Try.prog Try.f5.results.toList K) (argTm [(.slice A1 l1 c1), (.agg #[(.int .i64 x2), (.int .u32 x3), (.int .i64 x4), (.int .u32 x5), (.int .i64 x6), (.int .u16 x7), (.int .u16 x8), (.int .u16 x9), (.int .u16 x10), (.int .u8 x11), (.int .u8 x12), (.int .i64 x13)]), (.int .i64 x14), (.agg #[(.int .u32 x15), (.int .u32 x16), (.int .u16 x17), (.int .u16 x18), (.int .u8 x19)])]) h := by kernel_rfl
set_option maxRecDepth 100000 in
theorem quintetlaw16_PruneApart_ok (A1 : Option Addr) (l1 : Nat) (c1 : Nat) (x2 : Int) (x3 : Int) (x4 : Int) (x5 : Int) (x6 : Int) (x7 : Int) (x8 : Int) (x9 : Int) (x10 : Int) (x11 : Int) (x12 : Int) (x13 : Int) (x14 : Int) (x15 : Int) (x16 : Int) (x17 : Int) (x18 : Int) (x19 : Int) {h : Hp} {K : Value → Hp → Prop} (H : quintetlaw16_PruneApart A1 l1 c1 x2 x3 x4 x5 x6 x7 x8 x9 x10 x11 x12 x13 x14 x15 x16 x17 x18 x19 h K) : CallsH Try.prog 5 #[(.slice A1 l1 c1), (.agg #[(.int .i64 x2), (.int .u32 x3), (.int .i64 x4), (.int .u32 x5), (.int .i64 x6), (.int .u16 x7), (.int .u16 x8), (.int .u16 x9), (.int .u16 x10), (.int .u8 x11), (.int .u8 x12), (.int .i64 x13)]), (.int .i64 x14), (.agg #[(.int .u32 x15), (.int .u32 x16), (.int .u16 x17), (.int .u16 x18), (.int .u8 x19)])] h K :=
  calls_of (args := [(.slice A1 l1 c1), (.agg #[(.int .i64 x2), (.int .u32 x3), (.int .i64 x4), (.int .u32 x5), (.int .i64 x6), (.int .u16 x7), (.int .u16 x8), (.int .u16 x9), (.int .u16 x10), (.int .u8 x11), (.int .u8 x12), (.int .i64 x13)]), (.int .i64 x14), (.agg #[(.int .u32 x15), (.int .u32 x16), (.int .u16 x17), (.int .u16 x18), (.int .u8 x19)])]) (n := 92) (lp := quintetlaw16_PruneApart_lp) (cut := quintetlaw16_PruneApart_cut) Try.func5 (c := bodyOf Try.f5) (by kernel_rfl) (by kernel_rfl) (by kernel_rfl) (good_by (c := (bodyOf Try.f5)) (i := 1) (l := [(127, (sub (bodyOf Try.f5) [true, true, true, true, true, true, true]))]) (by kernel_rfl) (List.forall_mem_cons.2 ⟨quintetlaw16_PruneApart_j1_snd, (fun _ h => by cases h)⟩))
    (Eq.mp (quintetlaw16_PruneApart_eq A1 l1 c1 x2 x3 x4 x5 x6 x7 x8 x9 x10 x11 x12 x13 x14 x15 x16 x17 x18 x19 h K) H)

/-! ### quintet/quintetlaw16.PruneNil: function 6 -/
def quintetlaw16_PruneNil (x1 : Int) (x2 : Int) (x3 : Int) (x4 : Int) (x5 : Int) (x6 : Int) (x7 : Int) (x8 : Int) (x9 : Int) (x10 : Int) (x11 : Int) (x12 : Int) (x13 : Int) (x14 : Int) (x15 : Int) (x16 : Int) (x17 : Int) (h : Hp) (K : Value → Hp → Prop) : Prop :=
  newC h (.cells #[(.int .i64 x1), (.int .u32 x2), (.int .i64 x3), (.int .u32 x4), (.int .i64 x5), (.int .u16 x6), (.int .u16 x7), (.int .u16 x8), (.int .u16 x9), (.int .u8 x10), (.int .u8 x11), (.int .i64 x12)] 60 (0, 0)) fun a19 h18 => 
  newC h18 (.cells #[(.int .u32 x13), (.int .u32 x14), (.int .u16 x15), (.int .u16 x16), (.int .u8 x17)] 28 (0, 0)) fun a21 h20 => 
  CallsH Try.prog 9 #[] h20 fun r23 h22 =>
  ∃ b24 : Bool, r23 = (.bool b24) ∧ 
  br b24
  (∃ x25 : Int, ∃ x26 : Int, ∃ x27 : Int, ∃ x28 : Int, ∃ x29 : Int, ∃ x30 : Int, ∃ x31 : Int, ∃ x32 : Int, ∃ x33 : Int, ∃ x34 : Int, ∃ x35 : Int, ∃ x36 : Int, HV Try.prog (Instr.loadAt 60 (.pointer (some a19))) h22 (.agg #[(.int .i64 x25), (.int .u32 x26), (.int .i64 x27), (.int .u32 x28), (.int .i64 x29), (.int .u16 x30), (.int .u16 x31), (.int .u16 x32), (.int .u16 x33), (.int .u8 x34), (.int .u8 x35), (.int .i64 x36)]) ∧ 
  ∃ x37 : Int, ∃ x38 : Int, ∃ x39 : Int, ∃ x40 : Int, ∃ x41 : Int, HV Try.prog (Instr.loadAt 28 (.pointer (some a21))) h22 (.agg #[(.int .u32 x37), (.int .u32 x38), (.int .u16 x39), (.int .u16 x40), (.int .u8 x41)]) ∧ 
  CallsH Try.prog 18 #[(.iface 31 (.pointer none)), (.agg #[(.int .i64 x25), (.int .u32 x26), (.int .i64 x27), (.int .u32 x28), (.int .i64 x29), (.int .u16 x30), (.int .u16 x31), (.int .u16 x32), (.int .u16 x33), (.int .u8 x34), (.int .u8 x35), (.int .i64 x36)]), (.agg #[(.int .u32 x37), (.int .u32 x38), (.int .u16 x39), (.int .u16 x40), (.int .u8 x41)])] h22 fun r43 h42 =>
  ∃ b44 : Bool, r43 = (.bool b44) ∧ 
  K (.bool b44) h42)
  (K (.bool false) h22)
def quintetlaw16_PruneNil_lp (i : Nat) (Q : Qx) (tm : Tm) (h : Hp) : Prop := False
def quintetlaw16_PruneNil_cut (i : Nat) : Option (List Nat) := none
set_option maxRecDepth 100000 in
theorem quintetlaw16_PruneNil_eq (x1 : Int) (x2 : Int) (x3 : Int) (x4 : Int) (x5 : Int) (x6 : Int) (x7 : Int) (x8 : Int) (x9 : Int) (x10 : Int) (x11 : Int) (x12 : Int) (x13 : Int) (x14 : Int) (x15 : Int) (x16 : Int) (x17 : Int) (h : Hp) (K : Value → Hp → Prop) : quintetlaw16_PruneNil x1 x2 x3 x4 x5 x6 x7 x8 x9 x10 x11 x12 x13 x14 x15 x16 x17 h K =
    codeWp Try.prog 14 quintetlaw16_PruneNil_lp quintetlaw16_PruneNil_cut (bodyOf Try.f6) 1 (endQ Try.prog Try.f6.results.toList K) (argTm [(.agg #[(.int .i64 x1), (.int .u32 x2), (.int .i64 x3), (.int .u32 x4), (.int .i64 x5), (.int .u16 x6), (.int .u16 x7), (.int .u16 x8), (.int .u16 x9), (.int .u8 x10), (.int .u8 x11), (.int .i64 x12)]), (.agg #[(.int .u32 x13), (.int .u32 x14), (.int .u16 x15), (.int .u16 x16), (.int .u8 x17)])]) h := by kernel_rfl
set_option maxRecDepth 100000 in
theorem quintetlaw16_PruneNil_ok (x1 : Int) (x2 : Int) (x3 : Int) (x4 : Int) (x5 : Int) (x6 : Int) (x7 : Int) (x8 : Int) (x9 : Int) (x10 : Int) (x11 : Int) (x12 : Int) (x13 : Int) (x14 : Int) (x15 : Int) (x16 : Int) (x17 : Int) {h : Hp} {K : Value → Hp → Prop} (H : quintetlaw16_PruneNil x1 x2 x3 x4 x5 x6 x7 x8 x9 x10 x11 x12 x13 x14 x15 x16 x17 h K) : CallsH Try.prog 6 #[(.agg #[(.int .i64 x1), (.int .u32 x2), (.int .i64 x3), (.int .u32 x4), (.int .i64 x5), (.int .u16 x6), (.int .u16 x7), (.int .u16 x8), (.int .u16 x9), (.int .u8 x10), (.int .u8 x11), (.int .i64 x12)]), (.agg #[(.int .u32 x13), (.int .u32 x14), (.int .u16 x15), (.int .u16 x16), (.int .u8 x17)])] h K :=
  calls_of (args := [(.agg #[(.int .i64 x1), (.int .u32 x2), (.int .i64 x3), (.int .u32 x4), (.int .i64 x5), (.int .u16 x6), (.int .u16 x7), (.int .u16 x8), (.int .u16 x9), (.int .u8 x10), (.int .u8 x11), (.int .i64 x12)]), (.agg #[(.int .u32 x13), (.int .u32 x14), (.int .u16 x15), (.int .u16 x16), (.int .u8 x17)])]) (n := 14) (lp := quintetlaw16_PruneNil_lp) (cut := quintetlaw16_PruneNil_cut) Try.func6 (c := bodyOf Try.f6) (by kernel_rfl) (by kernel_rfl) (by kernel_rfl) (good_by (c := (bodyOf Try.f6)) (i := 1) (l := []) (by kernel_rfl) (fun _ h => by cases h))
    (Eq.mp (quintetlaw16_PruneNil_eq x1 x2 x3 x4 x5 x6 x7 x8 x9 x10 x11 x12 x13 x14 x15 x16 x17 h K) H)

/-! ### quintet/quintetlaw16.pick: function 14 -/
def quintetlaw16_pick (x1 : Int) (x2 : Int) (h : Hp) (K : Value → Hp → Prop) : Prop :=
  br (decide (x1 < 0))
  (∃ x3 : Int, PV Try.prog (binOp .rem 3 (.int .i64 (IntKind.i64.wrap (0 - (IntKind.i64.wrap (x1 + 1))))) (.int .i64 x2)) (.int .i64 x3) ∧
  K (.int .i64 x3) h)
  (∃ x4 : Int, PV Try.prog (binOp .rem 3 (.int .i64 x1) (.int .i64 x2)) (.int .i64 x4) ∧
  K (.int .i64 x4) h)
def quintetlaw16_pick_lp (i : Nat) (Q : Qx) (tm : Tm) (h : Hp) : Prop := False
def quintetlaw16_pick_cut (i : Nat) : Option (List Nat) := none
set_option maxRecDepth 100000 in
theorem quintetlaw16_pick_eq (x1 : Int) (x2 : Int) (h : Hp) (K : Value → Hp → Prop) : quintetlaw16_pick x1 x2 h K =
    codeWp Try.prog 13 quintetlaw16_pick_lp quintetlaw16_pick_cut (bodyOf Try.f14) 1 (endQ Try.prog Try.f14.results.toList K) (argTm [(.int .i64 x1), (.int .i64 x2)]) h := by kernel_rfl
set_option maxRecDepth 100000 in
theorem quintetlaw16_pick_ok (x1 : Int) (x2 : Int) {h : Hp} {K : Value → Hp → Prop} (H : quintetlaw16_pick x1 x2 h K) : CallsH Try.prog 14 #[(.int .i64 x1), (.int .i64 x2)] h K :=
  calls_of (args := [(.int .i64 x1), (.int .i64 x2)]) (n := 13) (lp := quintetlaw16_pick_lp) (cut := quintetlaw16_pick_cut) Try.func14 (c := bodyOf Try.f14) (by kernel_rfl) (by kernel_rfl) (by kernel_rfl) (good_by (c := (bodyOf Try.f14)) (i := 1) (l := []) (by kernel_rfl) (fun _ h => by cases h))
    (Eq.mp (quintetlaw16_pick_eq x1 x2 h K) H)

/-! ### quintet/quintetkeep.None: function 18 -/
def quintetkeep_None (v1 : Value) (x2 : Int) (x3 : Int) (x4 : Int) (x5 : Int) (x6 : Int) (x7 : Int) (x8 : Int) (x9 : Int) (x10 : Int) (x11 : Int) (x12 : Int) (x13 : Int) (x14 : Int) (x15 : Int) (x16 : Int) (x17 : Int) (x18 : Int) (h : Hp) (K : Value → Hp → Prop) : Prop :=
  newC h (.cells #[(.int .i64 x2), (.int .u32 x3), (.int .i64 x4), (.int .u32 x5), (.int .i64 x6), (.int .u16 x7), (.int .u16 x8), (.int .u16 x9), (.int .u16 x10), (.int .u8 x11), (.int .u8 x12), (.int .i64 x13)] 60 (0, 0)) fun a20 h19 => 
  newC h19 (.cells #[(.int .u32 x14), (.int .u32 x15), (.int .u16 x16), (.int .u16 x17), (.int .u8 x18)] 28 (0, 0)) fun a22 h21 => 
  ∃ x23 : Int, ∃ x24 : Int, ∃ x25 : Int, ∃ x26 : Int, ∃ x27 : Int, ∃ x28 : Int, ∃ x29 : Int, ∃ x30 : Int, ∃ x31 : Int, ∃ x32 : Int, ∃ x33 : Int, ∃ x34 : Int, HV Try.prog (Instr.loadAt 60 (.pointer (some a20))) h21 (.agg #[(.int .i64 x23), (.int .u32 x24), (.int .i64 x25), (.int .u32 x26), (.int .i64 x27), (.int .u16 x28), (.int .u16 x29), (.int .u16 x30), (.int .u16 x31), (.int .u8 x32), (.int .u8 x33), (.int .i64 x34)]) ∧ 
  HN Try.prog (callMethod v1 "Insert" #[(.int .i64 0), (.agg #[(.int .i64 x23), (.int .u32 x24), (.int .i64 x25), (.int .u32 x26), (.int .i64 x27), (.int .u16 x28), (.int .u16 x29), (.int .u16 x30), (.int .u16 x31), (.int .u8 x32), (.int .u8 x33), (.int .i64 x34)])]) h21 fun r36 h35 =>
  ∃ x37 : Int, r36 = (.int .i64 x37) ∧ 
  ∃ x38 : Int, HV Try.prog (Instr.loadAt 3 (.pointer (some a20))) h35 (.int .i64 x38) ∧ 
  HN Try.prog (callMethod v1 "Delete" #[(.int .i64 x38)]) h35 fun r40 h39 =>
  ∃ x41 : Int, r40 = (.int .i64 x41) ∧ 
  HN Try.prog (callMethod v1 "Set" #[(.slice none 0 0)]) h39 fun r43 h42 =>
  ∃ x44 : Int, r43 = (.int .i64 x44) ∧ 
  ∃ x45 : Int, ∃ x46 : Int, ∃ x47 : Int, ∃ x48 : Int, ∃ x49 : Int, HV Try.prog (Instr.loadAt 28 (.pointer (some a22))) h42 (.agg #[(.int .u32 x45), (.int .u32 x46), (.int .u16 x47), (.int .u16 x48), (.int .u8 x49)]) ∧ 
  HN Try.prog (callMethod v1 "Ask" #[(.agg #[(.int .u32 x45), (.int .u32 x46), (.int .u16 x47), (.int .u16 x48), (.int .u8 x49)])]) h42 fun r51 h50 =>
  ∃ b52 : Bool, ∃ x53 : Int, ∃ x54 : Int, ∃ x55 : Int, ∃ x56 : Int, ∃ x57 : Int, ∃ x58 : Int, ∃ x59 : Int, r51 = (.tuple #[(.agg #[(.bool b52), (.int .i64 x53), (.int .i64 x54)]), (.agg #[(.int .i64 x55), (.int .i64 x56), (.int .i64 x57), (.int .i64 x58), (.int .i64 x59)])]) ∧ 
  newC h50 (.cells #[(.bool false), (.int .i64 0), (.int .i64 0)] 36 (0, 0)) fun a61 h60 => 
  newC h60 (.cells #[(.int .i64 0), (.int .i64 0), (.int .i64 0), (.int .i64 0), (.int .i64 0)] 38 (0, 0)) fun a63 h62 => 
  HU Try.prog (Instr.storeAt 36 (.pointer (some a61)) (.agg #[(.bool b52), (.int .i64 x53), (.int .i64 x54)])) h62 fun h64 => 
  HU Try.prog (Instr.storeAt 38 (.pointer (some a63)) (.agg #[(.int .i64 x55), (.int .i64 x56), (.int .i64 x57), (.int .i64 x58), (.int .i64 x59)])) h64 fun h65 => 
  br (x37 == 3)
  (br (x41 == 3)
  (br (x44 == 3)
  (∃ b66 : Bool, ∃ x67 : Int, ∃ x68 : Int, HV Try.prog (Instr.loadAt 36 (.pointer (some a61))) h65 (.agg #[(.bool b66), (.int .i64 x67), (.int .i64 x68)]) ∧ 
  ∃ b69 : Bool, PV Try.prog (binOp .eql 36 (.agg #[(.bool b66), (.int .i64 x67), (.int .i64 x68)]) (.agg #[(.bool false), (.int .i64 0), (.int .i64 0)])) (.bool b69) ∧
  br b69
  (∃ x70 : Int, ∃ x71 : Int, ∃ x72 : Int, ∃ x73 : Int, ∃ x74 : Int, HV Try.prog (Instr.loadAt 38 (.pointer (some a63))) h65 (.agg #[(.int .i64 x70), (.int .i64 x71), (.int .i64 x72), (.int .i64 x73), (.int .i64 x74)]) ∧ 
  ∃ b75 : Bool, PV Try.prog (binOp .eql 38 (.agg #[(.int .i64 x70), (.int .i64 x71), (.int .i64 x72), (.int .i64 x73), (.int .i64 x74)]) (.agg #[(.int .i64 0), (.int .i64 0), (.int .i64 0), (.int .i64 0), (.int .i64 0)])) (.bool b75) ∧
  br b75
  (HN Try.prog (callMethod v1 "Stats" #[]) h65 fun r77 h76 =>
  ∃ x78 : Int, ∃ x79 : Int, ∃ x80 : Int, ∃ x81 : Int, r77 = (.agg #[(.int .i64 x78), (.int .i64 x79), (.int .i64 x80), (.int .i64 x81)]) ∧ 
  ∃ b82 : Bool, PV Try.prog (binOp .eql 43 (.agg #[(.int .i64 x78), (.int .i64 x79), (.int .i64 x80), (.int .i64 x81)]) (.agg #[(.int .i64 0), (.int .i64 0), (.int .i64 0), (.int .i64 0)])) (.bool b82) ∧
  K (.bool b82) h76)
  (K (.bool false) h65))
  (K (.bool false) h65))
  (K (.bool false) h65))
  (K (.bool false) h65))
  (K (.bool false) h65)
def quintetkeep_None_lp (i : Nat) (Q : Qx) (tm : Tm) (h : Hp) : Prop := False
def quintetkeep_None_cut (i : Nat) : Option (List Nat) := none
set_option maxRecDepth 100000 in
theorem quintetkeep_None_eq (v1 : Value) (x2 : Int) (x3 : Int) (x4 : Int) (x5 : Int) (x6 : Int) (x7 : Int) (x8 : Int) (x9 : Int) (x10 : Int) (x11 : Int) (x12 : Int) (x13 : Int) (x14 : Int) (x15 : Int) (x16 : Int) (x17 : Int) (x18 : Int) (h : Hp) (K : Value → Hp → Prop) : quintetkeep_None v1 x2 x3 x4 x5 x6 x7 x8 x9 x10 x11 x12 x13 x14 x15 x16 x17 x18 h K =
    codeWp Try.prog 53 quintetkeep_None_lp quintetkeep_None_cut (bodyOf Try.f18) 1 (endQ Try.prog Try.f18.results.toList K) (argTm [v1, (.agg #[(.int .i64 x2), (.int .u32 x3), (.int .i64 x4), (.int .u32 x5), (.int .i64 x6), (.int .u16 x7), (.int .u16 x8), (.int .u16 x9), (.int .u16 x10), (.int .u8 x11), (.int .u8 x12), (.int .i64 x13)]), (.agg #[(.int .u32 x14), (.int .u32 x15), (.int .u16 x16), (.int .u16 x17), (.int .u8 x18)])]) h := by kernel_rfl
set_option maxRecDepth 100000 in
theorem quintetkeep_None_ok (v1 : Value) (x2 : Int) (x3 : Int) (x4 : Int) (x5 : Int) (x6 : Int) (x7 : Int) (x8 : Int) (x9 : Int) (x10 : Int) (x11 : Int) (x12 : Int) (x13 : Int) (x14 : Int) (x15 : Int) (x16 : Int) (x17 : Int) (x18 : Int) {h : Hp} {K : Value → Hp → Prop} (H : quintetkeep_None v1 x2 x3 x4 x5 x6 x7 x8 x9 x10 x11 x12 x13 x14 x15 x16 x17 x18 h K) : CallsH Try.prog 18 #[v1, (.agg #[(.int .i64 x2), (.int .u32 x3), (.int .i64 x4), (.int .u32 x5), (.int .i64 x6), (.int .u16 x7), (.int .u16 x8), (.int .u16 x9), (.int .u16 x10), (.int .u8 x11), (.int .u8 x12), (.int .i64 x13)]), (.agg #[(.int .u32 x14), (.int .u32 x15), (.int .u16 x16), (.int .u16 x17), (.int .u8 x18)])] h K :=
  calls_of (args := [v1, (.agg #[(.int .i64 x2), (.int .u32 x3), (.int .i64 x4), (.int .u32 x5), (.int .i64 x6), (.int .u16 x7), (.int .u16 x8), (.int .u16 x9), (.int .u16 x10), (.int .u8 x11), (.int .u8 x12), (.int .i64 x13)]), (.agg #[(.int .u32 x14), (.int .u32 x15), (.int .u16 x16), (.int .u16 x17), (.int .u8 x18)])]) (n := 53) (lp := quintetkeep_None_lp) (cut := quintetkeep_None_cut) Try.func18 (c := bodyOf Try.f18) (by kernel_rfl) (by kernel_rfl) (by kernel_rfl) (good_by (c := (bodyOf Try.f18)) (i := 1) (l := []) (by kernel_rfl) (fun _ h => by cases h))
    (Eq.mp (quintetkeep_None_eq v1 x2 x3 x4 x5 x6 x7 x8 x9 x10 x11 x12 x13 x14 x15 x16 x17 x18 h K) H)

end Go.Proofs.Ytomhkbhgpmcbiaa.Fs
