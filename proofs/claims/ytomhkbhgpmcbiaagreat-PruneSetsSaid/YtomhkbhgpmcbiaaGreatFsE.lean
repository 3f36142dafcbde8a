/- Printed by sx.py: words over the heap alone for Go functions, and that each call does what its word says. -/
import Derived.Test.YtomhkbhgpmcbiaaGreatSxSel
import Derived.Test.YtomhkbhgpmcbiaaGreatSxNest
import Derived.Test.YtomhkbhgpmcbiaaGreatProg
namespace Go.Proofs.YtomhkbhgpmcbiaaGreat.Fs
open Go Go.RowKit Go.Proofs.YtomhkbhgpmcbiaaGreat.Sx
set_option linter.unusedVariables false

/-! ### quintet/quintetlaw16.PrunePlays: function 3 -/
def quintetlaw16_PrunePlays_j1 (K0 : Bool → Hp → Prop) (A31 : Option Addr) (l31 : Nat) (c31 : Nat) (A32 : Option Addr) (l32 : Nat) (c32 : Nat) (a33 : Addr) (h : Hp) : Prop :=
  ∃ x66 : Int, ∃ x67 : Int, ∃ x68 : Int, ∃ x69 : Int, ∃ x70 : Int, ∃ x71 : Int, ∃ x72 : Int, HV Tryz.prog (Instr.loadAt 24 (.pointer (some a33))) h (.agg #[(.int .i64 x66), (.int .i64 x67), (.int .i64 x68), (.int .i64 x69), (.int .i64 x70), (.int .i64 x71), (.int .i64 x72)]) ∧ 
  CallsH Tryz.prog 8 #[(.agg #[(.int .i64 x66), (.int .i64 x67), (.int .i64 x68), (.int .i64 x69), (.int .i64 x70), (.int .i64 x71), (.int .i64 x72)])] h fun r74 h73 =>
  ∃ p75 : Option Addr, ∃ x76 : Int, r74 = (.tuple #[(.pointer p75), (.int .i64 x76)]) ∧ 
  ∃ b77 : Bool, PV Tryz.prog (binOp .eql 31 (.pointer p75) (.pointer none)) (.bool b77) ∧
  br b77
  (K0 false h73)
  (br (x76 != 0)
  (K0 false h73)
  (CallsH Tryz.prog 9 #[] h73 fun r79 h78 =>
  ∃ v80 : Value, ∃ v81 : Value, ∃ x82 : Int, ∃ v83 : Value, r79 = (.agg #[v80, v81, (.int .i64 x82), v83]) ∧ 
  ∃ x84 : Int, ∃ x85 : Int, ∃ x86 : Int, ∃ x87 : Int, ∃ x88 : Int, ∃ x89 : Int, ∃ x90 : Int, HV Tryz.prog (Instr.loadAt 24 (.pointer (some a33))) h78 (.agg #[(.int .i64 x84), (.int .i64 x85), (.int .i64 x86), (.int .i64 x87), (.int .i64 x88), (.int .i64 x89), (.int .i64 x90)]) ∧ HV Tryz.prog (Instr.loadAt 24 (.pointer (some a33))) h73 (.agg #[(.int .i64 x84), (.int .i64 x85), (.int .i64 x86), (.int .i64 x87), (.int .i64 x88), (.int .i64 x89), (.int .i64 x90)]) ∧ 
  CallsH Tryz.prog 10 #[(.agg #[v80, v81, (.int .i64 x82), v83]), (.iface 31 (.pointer p75)), (.agg #[(.int .i64 x84), (.int .i64 x85), (.int .i64 x86), (.int .i64 x87), (.int .i64 x88), (.int .i64 x89), (.int .i64 x90)]), (.slice A31 l31 c31), (.slice A32 l32 c32)] h78 fun r92 h91 =>
  ∃ b93 : Bool, r92 = (.bool b93) ∧ 
  br b93
  (CallsH Tryz.prog 7 #[] h91 fun r95 h94 =>
  ∃ b96 : Bool, r95 = (.bool b96) ∧ 
  K0 b96 h94)
  (K0 false h91)))
def quintetlaw16_PrunePlays_j1_L (Q : Qx) (tm : Tm) (h : Hp) : Prop :=
  selS (tm 1) fun A31 l31 c31 =>
  selS (tm 2) fun A32 l32 c32 =>
  selA (tm 3) fun a33 =>
  quintetlaw16_PrunePlays_j1 (fun (b65 : Bool) h => Q (.ret) (mkTm [(6, some (.bool b65))]) h) A31 l31 c31 A32 l32 c32 a33 h
def quintetlaw16_PrunePlays (x1 : Int) (x2 : Int) (x3 : Int) (x4 : Int) (x5 : Int) (x6 : Int) (x7 : Int) (A8 : Option Addr) (l8 : Nat) (c8 : Nat) (A9 : Option Addr) (l9 : Nat) (c9 : Nat) (h : Hp) (K : Value → Hp → Prop) : Prop :=
  newC h (.cells #[(.int .i64 x1), (.int .i64 x2), (.int .i64 x3), (.int .i64 x4), (.int .i64 x5), (.int .i64 x6), (.int .i64 x7)] 24 (0, 0)) fun a11 h10 => 
  CallsH Tryz.prog 5 #[(.slice A8 l8 c8), (.slice A9 l9 c9)] h10 fun r98 h97 =>
  ∃ b99 : Bool, r98 = (.bool b99) ∧ 
  br b99
  (CallsH Tryz.prog 7 #[] h97 fun r101 h100 =>
  ∃ b102 : Bool, r101 = (.bool b102) ∧ 
  K (.bool b102) h100)
  (∃ x103 : Int, ∃ x104 : Int, ∃ x105 : Int, ∃ x106 : Int, ∃ x107 : Int, ∃ x108 : Int, ∃ x109 : Int, HV Tryz.prog (Instr.loadAt 24 (.pointer (some a11))) h97 (.agg #[(.int .i64 x103), (.int .i64 x104), (.int .i64 x105), (.int .i64 x106), (.int .i64 x107), (.int .i64 x108), (.int .i64 x109)]) ∧ 
  CallsH Tryz.prog 6 #[(.agg #[(.int .i64 x103), (.int .i64 x104), (.int .i64 x105), (.int .i64 x106), (.int .i64 x107), (.int .i64 x108), (.int .i64 x109)])] h97 fun r111 h110 =>
  ∃ x112 : Int, r111 = (.int .i64 x112) ∧ 
  br (x112 != 0)
  (CallsH Tryz.prog 7 #[] h110 fun r114 h113 =>
  ∃ b115 : Bool, r114 = (.bool b115) ∧ 
  K (.bool b115) h113)
  (quintetlaw16_PrunePlays_j1
  (fun (b116 : Bool) (h117 : Hp) =>
  K (.bool b116) h117)
  A8 l8 c8 A9 l9 c9 a11 h110))
def quintetlaw16_PrunePlays_lp (i : Nat) (Q : Qx) (tm : Tm) (h : Hp) : Prop := match Nat.beq i 3 with
  | true => quintetlaw16_PrunePlays_j1_L Q tm h
  | false => False
def quintetlaw16_PrunePlays_cut (i : Nat) : Option (List Nat) := match Nat.beq i 3 with
  | true => some [1, 2, 3]
  | false => none
set_option maxRecDepth 100000 in
theorem quintetlaw16_PrunePlays_j1_step (Q : Qx) (A31 : Option Addr) (l31 : Nat) (c31 : Nat) (A32 : Option Addr) (l32 : Nat) (c32 : Nat) (a33 : Addr) (h : Hp) : quintetlaw16_PrunePlays_j1_L Q (mkTm [(1, some (.slice A31 l31 c31)), (2, some (.slice A32 l32 c32)), (3, some (.pointer (some a33)))]) h =
    codeWp Tryz.prog 39 quintetlaw16_PrunePlays_lp quintetlaw16_PrunePlays_cut (sub (bodyOf Tryz.f3) [true, true]) 7 (maskQ (fun e => match e with | .ret => [6] | _ => []) Q) (mkTm [(1, some (.slice A31 l31 c31)), (2, some (.slice A32 l32 c32)), (3, some (.pointer (some a33)))]) h := by kernel_rfl
theorem quintetlaw16_PrunePlays_j1_mask (Q : Qx) (tm : Tm) (h : Hp) : quintetlaw16_PrunePlays_j1_L Q tm h ↔ quintetlaw16_PrunePlays_j1_L Q (mask [1, 2, 3] tm) h := Iff.rfl
set_option maxRecDepth 100000 in
theorem quintetlaw16_PrunePlays_j1_snd : SndAt Tryz.prog 39 none (sub (bodyOf Tryz.f3) [true, true]) (quintetlaw16_PrunePlays_lp 3) := by
  refine join_sound (lp := quintetlaw16_PrunePlays_lp) (cut := quintetlaw16_PrunePlays_cut) (i := 3) (c := (sub (bodyOf Tryz.f3) [true, true])) [1, 2, 3] (fun e => match e with | .ret => [6] | _ => []) quintetlaw16_PrunePlays_j1_L ?_ ?_
  · exact good_by (c := (sub (bodyOf Tryz.f3) [true, true])) (i := 7) (l := []) (by kernel_rfl) (fun _ h => by cases h)
  · intro Q tm h H
    have H0 := H
    obtain ⟨A31, l31, c31, e1, H⟩ := selS_ex H
    obtain ⟨A32, l32, c32, e2, H⟩ := selS_ex H
    obtain ⟨a33, e3, H⟩ := selA_ex H
    have e : mask [1, 2, 3] tm = mkTm [(1, some (.slice A31 l31 c31)), (2, some (.slice A32 l32 c32)), (3, some (.pointer (some a33)))] := by simp only [mask, List.map_cons, List.map_nil, e1, e2, e3] <;> rfl
    rw [e]
    refine Eq.mp (quintetlaw16_PrunePlays_j1_step Q A31 l31 c31 A32 l32 c32 a33 h) ?_
    rw [← e]
    exact (quintetlaw16_PrunePlays_j1_mask Q tm h).mp H0
set_option maxRecDepth 100000 in
theorem quintetlaw16_PrunePlays_eq (x1 : Int) (x2 : Int) (x3 : Int) (x4 : Int) (x5 : Int) (x6 : Int) (x7 : Int) (A8 : Option Addr) (l8 : Nat) (c8 : Nat) (A9 : Option Addr) (l9 : Nat) (c9 : Nat) (h : Hp) (K : Value → Hp → Prop) : quintetlaw16_PrunePlays x1 x2 x3 x4 x5 x6 x7 A8 l8 c8 A9 l9 c9 h K =
    codeWp Tryz.prog 39 quintetlaw16_PrunePlays_lp quintetlaw16_PrunePlays_cut (bodyOf Tryz.f3) 1 (endQ Tryz.prog Tryz.f3.results.toList K) (argTm [(.agg #[(.int .i64 x1), (.int .i64 x2), (.int .i64 x3), (.int .i64 x4), (.int .i64 x5), (.int .i64 x6), (.int .i64 x7)]), (.slice A8 l8 c8), (.slice A9 l9 c9)]) h := by kernel_rfl
set_option maxRecDepth 100000 in
theorem quintetlaw16_PrunePlays_ok (x1 : Int) (x2 : Int) (x3 : Int) (x4 : Int) (x5 : Int) (x6 : Int) (x7 : Int) (A8 : Option Addr) (l8 : Nat) (c8 : Nat) (A9 : Option Addr) (l9 : Nat) (c9 : Nat) {h : Hp} {K : Value → Hp → Prop} (H : quintetlaw16_PrunePlays x1 x2 x3 x4 x5 x6 x7 A8 l8 c8 A9 l9 c9 h K) : CallsH Tryz.prog 3 #[(.agg #[(.int .i64 x1), (.int .i64 x2), (.int .i64 x3), (.int .i64 x4), (.int .i64 x5), (.int .i64 x6), (.int .i64 x7)]), (.slice A8 l8 c8), (.slice A9 l9 c9)] h K :=
  calls_of (args := [(.agg #[(.int .i64 x1), (.int .i64 x2), (.int .i64 x3), (.int .i64 x4), (.int .i64 x5), (.int .i64 x6), (.int .i64 x7)]), (.slice A8 l8 c8), (.slice A9 l9 c9)]) (n := 39) (lp := quintetlaw16_PrunePlays_lp) (cut := quintetlaw16_PrunePlays_cut) Tryz.func3 (c := bodyOf Tryz.f3) (by kernel_rfl) (by kernel_rfl) (by kernel_rfl) (good_by (c := (bodyOf Tryz.f3)) (i := 1) (l := [(3, (sub (bodyOf Tryz.f3) [true, true]))]) (by kernel_rfl) (List.forall_mem_cons.2 ⟨quintetlaw16_PrunePlays_j1_snd, (fun _ h => by cases h)⟩))
    (Eq.mp (quintetlaw16_PrunePlays_eq x1 x2 x3 x4 x5 x6 x7 A8 l8 c8 A9 l9 c9 h K) H)

/-! ### quintet/quintetlaw16.PruneSets: function 4 -/
def quintetlaw16_PruneSets (x1 : Int) (x2 : Int) (x3 : Int) (x4 : Int) (x5 : Int) (x6 : Int) (x7 : Int) (A8 : Option Addr) (l8 : Nat) (c8 : Nat) (A9 : Option Addr) (l9 : Nat) (c9 : Nat) (h : Hp) (K : Value → Hp → Prop) : Prop :=
  newC h (.cells #[(.int .i64 x1), (.int .i64 x2), (.int .i64 x3), (.int .i64 x4), (.int .i64 x5), (.int .i64 x6), (.int .i64 x7)] 24 (0, 0)) fun a11 h10 => 
  ∃ x12 : Int, ∃ x13 : Int, ∃ x14 : Int, ∃ x15 : Int, ∃ x16 : Int, ∃ x17 : Int, ∃ x18 : Int, HV Tryz.prog (Instr.loadAt 24 (.pointer (some a11))) h10 (.agg #[(.int .i64 x12), (.int .i64 x13), (.int .i64 x14), (.int .i64 x15), (.int .i64 x16), (.int .i64 x17), (.int .i64 x18)]) ∧ 
  newC h10 (.cells #[(.int .i64 4), (.int .i64 0), (.int .i64 0), (.int .i64 0), (.int .u32 0), (.int .i64 0), (.int .u32 0), (.int .i64 0), (.int .u16 0), (.int .u16 0), (.int .u16 0), (.int .u16 0), (.int .u8 0), (.int .u8 0), (.int .i64 0), (.int .u32 0), (.int .u32 0), (.int .u16 0), (.int .u16 0), (.int .u8 0), (.slice A8 l8 c8)] 56 (0, 0)) fun a20 h19 => 
  CallsH Tryz.prog 3 #[(.agg #[(.int .i64 x12), (.int .i64 x13), (.int .i64 x14), (.int .i64 x15), (.int .i64 x16), (.int .i64 x17), (.int .i64 x18)]), (.slice (some a20) 1 1), (.slice A9 l9 c9)] h19 fun r22 h21 =>
  ∃ b23 : Bool, r22 = (.bool b23) ∧ 
  K (.bool b23) h21
def quintetlaw16_PruneSets_lp (i : Nat) (Q : Qx) (tm : Tm) (h : Hp) : Prop := False
def quintetlaw16_PruneSets_cut (i : Nat) : Option (List Nat) := none
set_option maxRecDepth 100000 in
theorem quintetlaw16_PruneSets_eq (x1 : Int) (x2 : Int) (x3 : Int) (x4 : Int) (x5 : Int) (x6 : Int) (x7 : Int) (A8 : Option Addr) (l8 : Nat) (c8 : Nat) (A9 : Option Addr) (l9 : Nat) (c9 : Nat) (h : Hp) (K : Value → Hp → Prop) : quintetlaw16_PruneSets x1 x2 x3 x4 x5 x6 x7 A8 l8 c8 A9 l9 c9 h K =
    codeWp Tryz.prog 13 quintetlaw16_PruneSets_lp quintetlaw16_PruneSets_cut (bodyOf Tryz.f4) 1 (endQ Tryz.prog Tryz.f4.results.toList K) (argTm [(.agg #[(.int .i64 x1), (.int .i64 x2), (.int .i64 x3), (.int .i64 x4), (.int .i64 x5), (.int .i64 x6), (.int .i64 x7)]), (.slice A8 l8 c8), (.slice A9 l9 c9)]) h := by kernel_rfl
set_option maxRecDepth 100000 in
theorem quintetlaw16_PruneSets_ok (x1 : Int) (x2 : Int) (x3 : Int) (x4 : Int) (x5 : Int) (x6 : Int) (x7 : Int) (A8 : Option Addr) (l8 : Nat) (c8 : Nat) (A9 : Option Addr) (l9 : Nat) (c9 : Nat) {h : Hp} {K : Value → Hp → Prop} (H : quintetlaw16_PruneSets x1 x2 x3 x4 x5 x6 x7 A8 l8 c8 A9 l9 c9 h K) : CallsH Tryz.prog 4 #[(.agg #[(.int .i64 x1), (.int .i64 x2), (.int .i64 x3), (.int .i64 x4), (.int .i64 x5), (.int .i64 x6), (.int .i64 x7)]), (.slice A8 l8 c8), (.slice A9 l9 c9)] h K :=
  calls_of (args := [(.agg #[(.int .i64 x1), (.int .i64 x2), (.int .i64 x3), (.int .i64 x4), (.int .i64 x5), (.int .i64 x6), (.int .i64 x7)]), (.slice A8 l8 c8), (.slice A9 l9 c9)]) (n := 13) (lp := quintetlaw16_PruneSets_lp) (cut := quintetlaw16_PruneSets_cut) Tryz.func4 (c := bodyOf Tryz.f4) (by kernel_rfl) (by kernel_rfl) (by kernel_rfl) (good_by (c := (bodyOf Tryz.f4)) (i := 1) (l := []) (by kernel_rfl) (fun _ h => by cases h))
    (Eq.mp (quintetlaw16_PruneSets_eq x1 x2 x3 x4 x5 x6 x7 A8 l8 c8 A9 l9 c9 h K) H)

/-! ### quintet/quintetlaw16.awake: function 7 -/
def quintetlaw16_awake_j1 (K0 : Bool → Hp → Prop) (p15 : Option Addr) (h : Hp) : Prop :=
  CallsH Tryz.prog 12 #[(.int .i64 1), (.int .i64 2)] h fun r157 h156 =>
  ∃ x158 : Int, ∃ x159 : Int, ∃ x160 : Int, ∃ x161 : Int, ∃ x162 : Int, ∃ x163 : Int, ∃ x164 : Int, ∃ x165 : Int, ∃ x166 : Int, ∃ x167 : Int, ∃ x168 : Int, ∃ x169 : Int, r157 = (.agg #[(.int .i64 x158), (.int .u32 x159), (.int .i64 x160), (.int .u32 x161), (.int .i64 x162), (.int .u16 x163), (.int .u16 x164), (.int .u16 x165), (.int .u16 x166), (.int .u8 x167), (.int .u8 x168), (.int .i64 x169)]) ∧ 
  newC h156 (.cells #[(.int .i64 0), (.int .u32 0), (.int .i64 0), (.int .u32 0), (.int .i64 0), (.int .u16 0), (.int .u16 0), (.int .u16 0), (.int .u16 0), (.int .u8 0), (.int .u8 0), (.int .i64 0)] 52 (0, 0)) fun a171 h170 => 
  HU Tryz.prog (Instr.storeAt 52 (.pointer (some a171)) (.agg #[(.int .i64 x158), (.int .u32 x159), (.int .i64 x160), (.int .u32 x161), (.int .i64 x162), (.int .u16 x163), (.int .u16 x164), (.int .u16 x165), (.int .u16 x166), (.int .u8 x167), (.int .u8 x168), (.int .i64 x169)])) h170 fun h172 => 
  HU Tryz.prog (Instr.storeAt 45 (.pointer (some (a171.add 1))) (.agg #[(.int .u32 167772160), (.int .i64 8)])) h172 fun h173 => 
  CallsH Tryz.prog 12 #[(.int .i64 2), (.int .i64 3)] h173 fun r175 h174 =>
  ∃ x176 : Int, ∃ x177 : Int, ∃ x178 : Int, ∃ x179 : Int, ∃ x180 : Int, ∃ x181 : Int, ∃ x182 : Int, ∃ x183 : Int, ∃ x184 : Int, ∃ x185 : Int, ∃ x186 : Int, ∃ x187 : Int, r175 = (.agg #[(.int .i64 x176), (.int .u32 x177), (.int .i64 x178), (.int .u32 x179), (.int .i64 x180), (.int .u16 x181), (.int .u16 x182), (.int .u16 x183), (.int .u16 x184), (.int .u8 x185), (.int .u8 x186), (.int .i64 x187)]) ∧ 
  newC h174 (.cells #[(.int .i64 0), (.int .u32 0), (.int .i64 0), (.int .u32 0), (.int .i64 0), (.int .u16 0), (.int .u16 0), (.int .u16 0), (.int .u16 0), (.int .u8 0), (.int .u8 0), (.int .i64 0)] 52 (0, 0)) fun a189 h188 => 
  HU Tryz.prog (Instr.storeAt 52 (.pointer (some a189)) (.agg #[(.int .i64 x176), (.int .u32 x177), (.int .i64 x178), (.int .u32 x179), (.int .i64 x180), (.int .u16 x181), (.int .u16 x182), (.int .u16 x183), (.int .u16 x184), (.int .u8 x185), (.int .u8 x186), (.int .i64 x187)])) h188 fun h190 => 
  HU Tryz.prog (Instr.storeAt 45 (.pointer (some (a189.add 3))) (.agg #[(.int .u32 167772160), (.int .i64 8)])) h190 fun h191 => 
  ∃ x192 : Int, ∃ x193 : Int, ∃ x194 : Int, ∃ x195 : Int, ∃ x196 : Int, ∃ x197 : Int, ∃ x198 : Int, ∃ x199 : Int, ∃ x200 : Int, ∃ x201 : Int, ∃ x202 : Int, ∃ x203 : Int, HV Tryz.prog (Instr.loadAt 52 (.pointer (some a171))) h191 (.agg #[(.int .i64 x192), (.int .u32 x193), (.int .i64 x194), (.int .u32 x195), (.int .i64 x196), (.int .u16 x197), (.int .u16 x198), (.int .u16 x199), (.int .u16 x200), (.int .u8 x201), (.int .u8 x202), (.int .i64 x203)]) ∧ 
  CallsH Tryz.prog 13 #[(.pointer p15), (.int .i64 0), (.agg #[(.int .i64 x192), (.int .u32 x193), (.int .i64 x194), (.int .u32 x195), (.int .i64 x196), (.int .u16 x197), (.int .u16 x198), (.int .u16 x199), (.int .u16 x200), (.int .u8 x201), (.int .u8 x202), (.int .i64 x203)])] h191 fun r205 h204 =>
  ∃ x206 : Int, r205 = (.int .i64 x206) ∧ 
  ∃ x207 : Int, ∃ x208 : Int, ∃ x209 : Int, ∃ x210 : Int, ∃ x211 : Int, ∃ x212 : Int, ∃ x213 : Int, ∃ x214 : Int, ∃ x215 : Int, ∃ x216 : Int, ∃ x217 : Int, ∃ x218 : Int, HV Tryz.prog (Instr.loadAt 52 (.pointer (some a189))) h204 (.agg #[(.int .i64 x207), (.int .u32 x208), (.int .i64 x209), (.int .u32 x210), (.int .i64 x211), (.int .u16 x212), (.int .u16 x213), (.int .u16 x214), (.int .u16 x215), (.int .u8 x216), (.int .u8 x217), (.int .i64 x218)]) ∧ 
  CallsH Tryz.prog 13 #[(.pointer p15), (.int .i64 1), (.agg #[(.int .i64 x207), (.int .u32 x208), (.int .i64 x209), (.int .u32 x210), (.int .i64 x211), (.int .u16 x212), (.int .u16 x213), (.int .u16 x214), (.int .u16 x215), (.int .u8 x216), (.int .u8 x217), (.int .i64 x218)])] h204 fun r220 h219 =>
  ∃ x221 : Int, r220 = (.int .i64 x221) ∧ 
  ∃ x222 : Int, ∃ x223 : Int, ∃ x224 : Int, ∃ x225 : Int, ∃ x226 : Int, ∃ x227 : Int, ∃ x228 : Int, ∃ x229 : Int, ∃ x230 : Int, ∃ x231 : Int, ∃ x232 : Int, ∃ x233 : Int, HV Tryz.prog (Instr.loadAt 52 (.pointer (some a171))) h219 (.agg #[(.int .i64 x222), (.int .u32 x223), (.int .i64 x224), (.int .u32 x225), (.int .i64 x226), (.int .u16 x227), (.int .u16 x228), (.int .u16 x229), (.int .u16 x230), (.int .u8 x231), (.int .u8 x232), (.int .i64 x233)]) ∧ 
  CallsH Tryz.prog 13 #[(.pointer p15), (.int .i64 0), (.agg #[(.int .i64 x222), (.int .u32 x223), (.int .i64 x224), (.int .u32 x225), (.int .i64 x226), (.int .u16 x227), (.int .u16 x228), (.int .u16 x229), (.int .u16 x230), (.int .u8 x231), (.int .u8 x232), (.int .i64 x233)])] h219 fun r235 h234 =>
  ∃ x236 : Int, r235 = (.int .i64 x236) ∧ 
  CallsH Tryz.prog 14 #[(.pointer p15), (.agg #[(.int .u32 167772169), (.int .u32 167772160), (.int .u16 0), (.int .u16 0), (.int .u8 0)])] h234 fun r238 h237 =>
  ∃ b239 : Bool, ∃ x240 : Int, ∃ x241 : Int, ∃ x242 : Int, ∃ x243 : Int, ∃ x244 : Int, ∃ x245 : Int, ∃ x246 : Int, r238 = (.tuple #[(.agg #[(.bool b239), (.int .i64 x240), (.int .i64 x241)]), (.agg #[(.int .i64 x242), (.int .i64 x243), (.int .i64 x244), (.int .i64 x245), (.int .i64 x246)])]) ∧ 
  newC h237 (.cells #[(.bool false), (.int .i64 0), (.int .i64 0)] 62 (0, 0)) fun a248 h247 => 
  newC h247 (.cells #[(.int .i64 0), (.int .i64 0), (.int .i64 0), (.int .i64 0), (.int .i64 0)] 64 (0, 0)) fun a250 h249 => 
  HU Tryz.prog (Instr.storeAt 62 (.pointer (some a248)) (.agg #[(.bool b239), (.int .i64 x240), (.int .i64 x241)])) h249 fun h251 => 
  HU Tryz.prog (Instr.storeAt 64 (.pointer (some a250)) (.agg #[(.int .i64 x242), (.int .i64 x243), (.int .i64 x244), (.int .i64 x245), (.int .i64 x246)])) h251 fun h252 => 
  CallsH Tryz.prog 14 #[(.pointer p15), (.agg #[(.int .u32 150994944), (.int .u32 167772160), (.int .u16 0), (.int .u16 0), (.int .u8 0)])] h252 fun r254 h253 =>
  ∃ b255 : Bool, ∃ x256 : Int, ∃ x257 : Int, ∃ x258 : Int, ∃ x259 : Int, ∃ x260 : Int, ∃ x261 : Int, ∃ x262 : Int, r254 = (.tuple #[(.agg #[(.bool b255), (.int .i64 x256), (.int .i64 x257)]), (.agg #[(.int .i64 x258), (.int .i64 x259), (.int .i64 x260), (.int .i64 x261), (.int .i64 x262)])]) ∧ 
  newC h253 (.cells #[(.bool false), (.int .i64 0), (.int .i64 0)] 62 (0, 0)) fun a264 h263 => 
  newC h263 (.cells #[(.int .i64 0), (.int .i64 0), (.int .i64 0), (.int .i64 0), (.int .i64 0)] 64 (0, 0)) fun a266 h265 => 
  HU Tryz.prog (Instr.storeAt 62 (.pointer (some a264)) (.agg #[(.bool b255), (.int .i64 x256), (.int .i64 x257)])) h265 fun h267 => 
  HU Tryz.prog (Instr.storeAt 64 (.pointer (some a266)) (.agg #[(.int .i64 x258), (.int .i64 x259), (.int .i64 x260), (.int .i64 x261), (.int .i64 x262)])) h267 fun h268 => 
  CallsH Tryz.prog 14 #[(.pointer p15), (.agg #[(.int .u32 150994944), (.int .u32 150994944), (.int .u16 0), (.int .u16 0), (.int .u8 0)])] h268 fun r270 h269 =>
  ∃ b271 : Bool, ∃ x272 : Int, ∃ x273 : Int, ∃ x274 : Int, ∃ x275 : Int, ∃ x276 : Int, ∃ x277 : Int, ∃ x278 : Int, r270 = (.tuple #[(.agg #[(.bool b271), (.int .i64 x272), (.int .i64 x273)]), (.agg #[(.int .i64 x274), (.int .i64 x275), (.int .i64 x276), (.int .i64 x277), (.int .i64 x278)])]) ∧ 
  newC h269 (.cells #[(.bool false), (.int .i64 0), (.int .i64 0)] 62 (0, 0)) fun a280 h279 => 
  newC h279 (.cells #[(.int .i64 0), (.int .i64 0), (.int .i64 0), (.int .i64 0), (.int .i64 0)] 64 (0, 0)) fun a282 h281 => 
  HU Tryz.prog (Instr.storeAt 62 (.pointer (some a280)) (.agg #[(.bool b271), (.int .i64 x272), (.int .i64 x273)])) h281 fun h283 => 
  HU Tryz.prog (Instr.storeAt 64 (.pointer (some a282)) (.agg #[(.int .i64 x274), (.int .i64 x275), (.int .i64 x276), (.int .i64 x277), (.int .i64 x278)])) h283 fun h284 => 
  br (x206 == 0)
  (br (x221 == 0)
  (br (x236 == 111)
  (∃ b285 : Bool, ∃ x286 : Int, ∃ x287 : Int, HV Tryz.prog (Instr.loadAt 62 (.pointer (some a248))) h284 (.agg #[(.bool b285), (.int .i64 x286), (.int .i64 x287)]) ∧ 
  ∃ b288 : Bool, PV Tryz.prog (binOp .eql 62 (.agg #[(.bool b285), (.int .i64 x286), (.int .i64 x287)]) (.agg #[(.bool true), (.int .i64 1), (.int .i64 2)])) (.bool b288) ∧
  br b288
  (∃ x289 : Int, HV Tryz.prog (Instr.loadAt 3 (.pointer (some (a250.add 1)))) h284 (.int .i64 x289) ∧ 
  br (decide (x289 ≥ 1))
  (∃ x290 : Int, HV Tryz.prog (Instr.loadAt 3 (.pointer (some (a264.add 1)))) h284 (.int .i64 x290) ∧ 
  br (x290 == 2)
  (∃ b291 : Bool, ∃ x292 : Int, ∃ x293 : Int, HV Tryz.prog (Instr.loadAt 62 (.pointer (some a280))) h284 (.agg #[(.bool b291), (.int .i64 x292), (.int .i64 x293)]) ∧ 
  ∃ b294 : Bool, PV Tryz.prog (binOp .eql 62 (.agg #[(.bool b291), (.int .i64 x292), (.int .i64 x293)]) (.agg #[(.bool false), (.int .i64 0), (.int .i64 1)])) (.bool b294) ∧
  K0 b294 h284)
  (K0 false h284))
  (K0 false h284))
  (K0 false h284))
  (K0 false h284))
  (K0 false h284))
  (K0 false h284)
def quintetlaw16_awake_j1_L (Q : Qx) (tm : Tm) (h : Hp) : Prop :=
  selP (tm 1) fun p15 =>
  quintetlaw16_awake_j1 (fun (b155 : Bool) h => Q (.ret) (mkTm [(0, some (.bool b155))]) h) p15 h
def quintetlaw16_awake (h : Hp) (K : Value → Hp → Prop) : Prop :=
  CallsH Tryz.prog 11 #[] h fun r2 h1 =>
  ∃ x3 : Int, ∃ x4 : Int, ∃ x5 : Int, ∃ x6 : Int, ∃ x7 : Int, ∃ x8 : Int, ∃ x9 : Int, r2 = (.agg #[(.int .i64 x3), (.int .i64 x4), (.int .i64 x5), (.int .i64 x6), (.int .i64 x7), (.int .i64 x8), (.int .i64 x9)]) ∧ 
  CallsH Tryz.prog 8 #[(.agg #[(.int .i64 x3), (.int .i64 x4), (.int .i64 x5), (.int .i64 x6), (.int .i64 x7), (.int .i64 x8), (.int .i64 x9)])] h1 fun r11 h10 =>
  ∃ p12 : Option Addr, ∃ x13 : Int, r11 = (.tuple #[(.pointer p12), (.int .i64 x13)]) ∧ 
  ∃ b295 : Bool, PV Tryz.prog (binOp .eql 31 (.pointer p12) (.pointer none)) (.bool b295) ∧
  br b295
  (K (.bool false) h10)
  (br (x13 != 0)
  (K (.bool false) h10)
  (quintetlaw16_awake_j1
  (fun (b296 : Bool) (h297 : Hp) =>
  K (.bool b296) h297)
  p12 h10))
def quintetlaw16_awake_lp (i : Nat) (Q : Qx) (tm : Tm) (h : Hp) : Prop := match Nat.beq i 7 with
  | true => quintetlaw16_awake_j1_L Q tm h
  | false => False
def quintetlaw16_awake_cut (i : Nat) : Option (List Nat) := match Nat.beq i 7 with
  | true => some [1]
  | false => none
set_option maxRecDepth 100000 in
theorem quintetlaw16_awake_j1_step (Q : Qx) (p15 : Option Addr) (h : Hp) : quintetlaw16_awake_j1_L Q (mkTm [(1, some (.pointer p15))]) h =
    codeWp Tryz.prog 88 quintetlaw16_awake_lp quintetlaw16_awake_cut (sub (bodyOf Tryz.f7) [true, true, true]) 15 (maskQ (fun e => match e with | .ret => [0] | _ => []) Q) (mkTm [(1, some (.pointer p15))]) h := by kernel_rfl
theorem quintetlaw16_awake_j1_mask (Q : Qx) (tm : Tm) (h : Hp) : quintetlaw16_awake_j1_L Q tm h ↔ quintetlaw16_awake_j1_L Q (mask [1] tm) h := Iff.rfl
set_option maxRecDepth 100000 in
theorem quintetlaw16_awake_j1_snd : SndAt Tryz.prog 88 none (sub (bodyOf Tryz.f7) [true, true, true]) (quintetlaw16_awake_lp 7) := by
  refine join_sound (lp := quintetlaw16_awake_lp) (cut := quintetlaw16_awake_cut) (i := 7) (c := (sub (bodyOf Tryz.f7) [true, true, true])) [1] (fun e => match e with | .ret => [0] | _ => []) quintetlaw16_awake_j1_L ?_ ?_
  · exact good_by (c := (sub (bodyOf Tryz.f7) [true, true, true])) (i := 15) (l := []) (by kernel_rfl) (fun _ h => by cases h)
  · intro Q tm h H
    have H0 := H
    obtain ⟨p15, e1, H⟩ := selP_ex H
    have e : mask [1] tm = mkTm [(1, some (.pointer p15))] := by simp only [mask, List.map_cons, List.map_nil, e1] <;> rfl
    rw [e]
    refine Eq.mp (quintetlaw16_awake_j1_step Q p15 h) ?_
    rw [← e]
    exact (quintetlaw16_awake_j1_mask Q tm h).mp H0
set_option maxRecDepth 100000 in
theorem quintetlaw16_awake_eq (h : Hp) (K : Value → Hp → Prop) : quintetlaw16_awake  h K =
    codeWp Tryz.prog 88 quintetlaw16_awake_lp quintetlaw16_awake_cut (bodyOf Tryz.f7) 1 (endQ Tryz.prog Tryz.f7.results.toList K) (argTm []) h := by kernel_rfl
set_option maxRecDepth 100000 in
theorem quintetlaw16_awake_ok {h : Hp} {K : Value → Hp → Prop} (H : quintetlaw16_awake  h K) : CallsH Tryz.prog 7 #[] h K :=
  calls_of (args := []) (n := 88) (lp := quintetlaw16_awake_lp) (cut := quintetlaw16_awake_cut) Tryz.func7 (c := bodyOf Tryz.f7) (by kernel_rfl) (by kernel_rfl) (by kernel_rfl) (good_by (c := (bodyOf Tryz.f7)) (i := 1) (l := [(7, (sub (bodyOf Tryz.f7) [true, true, true]))]) (by kernel_rfl) (List.forall_mem_cons.2 ⟨quintetlaw16_awake_j1_snd, (fun _ h => by cases h)⟩))
    (Eq.mp (quintetlaw16_awake_eq  h K) H)

/-! ### quintet/quintetlaw16.kind: function 9 -/
def quintetlaw16_kind (h : Hp) (K : Value → Hp → Prop) : Prop :=
  newC h (.cells #[.nilFunc, .nilFunc, (.int .i64 0), .nilFunc] 38 (0, 0)) fun a2 h1 => 
  HU Tryz.prog (Instr.storeAt 38 (.pointer (some a2)) (.agg #[(.func (.func 17) #[] #[]), (.func (.func 18) #[] #[]), (.int .i64 160), (.func (.func 19) #[] #[])])) h1 fun h3 => 
  ∃ v4 : Value, ∃ v5 : Value, ∃ x6 : Int, ∃ v7 : Value, HV Tryz.prog (Instr.loadAt 38 (.pointer (some a2))) h3 (.agg #[v4, v5, (.int .i64 x6), v7]) ∧ K (.agg #[v4, v5, (.int .i64 x6), v7]) h3
def quintetlaw16_kind_lp (i : Nat) (Q : Qx) (tm : Tm) (h : Hp) : Prop := False
def quintetlaw16_kind_cut (i : Nat) : Option (List Nat) := none
set_option maxRecDepth 100000 in
theorem quintetlaw16_kind_eq (h : Hp) (K : Value → Hp → Prop) : quintetlaw16_kind  h K =
    codeWp Tryz.prog 2 quintetlaw16_kind_lp quintetlaw16_kind_cut (bodyOf Tryz.f9) 1 (endQ Tryz.prog Tryz.f9.results.toList K) (argTm []) h := by kernel_rfl
set_option maxRecDepth 100000 in
theorem quintetlaw16_kind_ok {h : Hp} {K : Value → Hp → Prop} (H : quintetlaw16_kind  h K) : CallsH Tryz.prog 9 #[] h K :=
  calls_of (args := []) (n := 2) (lp := quintetlaw16_kind_lp) (cut := quintetlaw16_kind_cut) Tryz.func9 (c := bodyOf Tryz.f9) (by kernel_rfl) (by kernel_rfl) (by kernel_rfl) (good_by (c := (bodyOf Tryz.f9)) (i := 1) (l := []) (by kernel_rfl) (fun _ h => by cases h))
    (Eq.mp (quintetlaw16_kind_eq  h K) H)

/-! ### quintet/quintetlaw16.example: function 11 -/
def quintetlaw16_example (h : Hp) (K : Value → Hp → Prop) : Prop :=
  newC h (.cells #[(.int .i64 0), (.int .i64 0), (.int .i64 0), (.int .i64 0), (.int .i64 0), (.int .i64 0), (.int .i64 0)] 24 (0, 0)) fun a2 h1 => 
  HU Tryz.prog (Instr.storeAt 24 (.pointer (some a2)) (.agg #[(.int .i64 10), (.int .i64 1), (.int .i64 100), (.int .i64 100), (.int .i64 100), (.int .i64 4), (.int .i64 8)])) h1 fun h3 => 
  ∃ x4 : Int, ∃ x5 : Int, ∃ x6 : Int, ∃ x7 : Int, ∃ x8 : Int, ∃ x9 : Int, ∃ x10 : Int, HV Tryz.prog (Instr.loadAt 24 (.pointer (some a2))) h3 (.agg #[(.int .i64 x4), (.int .i64 x5), (.int .i64 x6), (.int .i64 x7), (.int .i64 x8), (.int .i64 x9), (.int .i64 x10)]) ∧ K (.agg #[(.int .i64 x4), (.int .i64 x5), (.int .i64 x6), (.int .i64 x7), (.int .i64 x8), (.int .i64 x9), (.int .i64 x10)]) h3
def quintetlaw16_example_lp (i : Nat) (Q : Qx) (tm : Tm) (h : Hp) : Prop := False
def quintetlaw16_example_cut (i : Nat) : Option (List Nat) := none
set_option maxRecDepth 100000 in
theorem quintetlaw16_example_eq (h : Hp) (K : Value → Hp → Prop) : quintetlaw16_example  h K =
    codeWp Tryz.prog 2 quintetlaw16_example_lp quintetlaw16_example_cut (bodyOf Tryz.f11) 1 (endQ Tryz.prog Tryz.f11.results.toList K) (argTm []) h := by kernel_rfl
set_option maxRecDepth 100000 in
theorem quintetlaw16_example_ok {h : Hp} {K : Value → Hp → Prop} (H : quintetlaw16_example  h K) : CallsH Tryz.prog 11 #[] h K :=
  calls_of (args := []) (n := 2) (lp := quintetlaw16_example_lp) (cut := quintetlaw16_example_cut) Tryz.func11 (c := bodyOf Tryz.f11) (by kernel_rfl) (by kernel_rfl) (by kernel_rfl) (good_by (c := (bodyOf Tryz.f11)) (i := 1) (l := []) (by kernel_rfl) (fun _ h => by cases h))
    (Eq.mp (quintetlaw16_example_eq  h K) H)

/-! ### quintet/quintetlaw16.every: function 12 -/
def quintetlaw16_every (x1 : Int) (x2 : Int) (h : Hp) (K : Value → Hp → Prop) : Prop :=
  newC h (.cells #[(.int .i64 0), (.int .u32 0), (.int .i64 0), (.int .u32 0), (.int .i64 0), (.int .u16 0), (.int .u16 0), (.int .u16 0), (.int .u16 0), (.int .u8 0), (.int .u8 0), (.int .i64 0)] 52 (0, 0)) fun a4 h3 => 
  HU Tryz.prog (Instr.storeAt 52 (.pointer (some a4)) (.agg #[(.int .i64 x1), (.int .u32 0), (.int .i64 0), (.int .u32 0), (.int .i64 0), (.int .u16 0), (.int .u16 65535), (.int .u16 0), (.int .u16 65535), (.int .u8 0), (.int .u8 0), (.int .i64 x2)])) h3 fun h5 => 
  ∃ x6 : Int, ∃ x7 : Int, ∃ x8 : Int, ∃ x9 : Int, ∃ x10 : Int, ∃ x11 : Int, ∃ x12 : Int, ∃ x13 : Int, ∃ x14 : Int, ∃ x15 : Int, ∃ x16 : Int, ∃ x17 : Int, HV Tryz.prog (Instr.loadAt 52 (.pointer (some a4))) h5 (.agg #[(.int .i64 x6), (.int .u32 x7), (.int .i64 x8), (.int .u32 x9), (.int .i64 x10), (.int .u16 x11), (.int .u16 x12), (.int .u16 x13), (.int .u16 x14), (.int .u8 x15), (.int .u8 x16), (.int .i64 x17)]) ∧ K (.agg #[(.int .i64 x6), (.int .u32 x7), (.int .i64 x8), (.int .u32 x9), (.int .i64 x10), (.int .u16 x11), (.int .u16 x12), (.int .u16 x13), (.int .u16 x14), (.int .u8 x15), (.int .u8 x16), (.int .i64 x17)]) h5
def quintetlaw16_every_lp (i : Nat) (Q : Qx) (tm : Tm) (h : Hp) : Prop := False
def quintetlaw16_every_cut (i : Nat) : Option (List Nat) := none
set_option maxRecDepth 100000 in
theorem quintetlaw16_every_eq (x1 : Int) (x2 : Int) (h : Hp) (K : Value → Hp → Prop) : quintetlaw16_every x1 x2 h K =
    codeWp Tryz.prog 10 quintetlaw16_every_lp quintetlaw16_every_cut (bodyOf Tryz.f12) 1 (endQ Tryz.prog Tryz.f12.results.toList K) (argTm [(.int .i64 x1), (.int .i64 x2)]) h := by kernel_rfl
set_option maxRecDepth 100000 in
theorem quintetlaw16_every_ok (x1 : Int) (x2 : Int) {h : Hp} {K : Value → Hp → Prop} (H : quintetlaw16_every x1 x2 h K) : CallsH Tryz.prog 12 #[(.int .i64 x1), (.int .i64 x2)] h K :=
  calls_of (args := [(.int .i64 x1), (.int .i64 x2)]) (n := 10) (lp := quintetlaw16_every_lp) (cut := quintetlaw16_every_cut) Tryz.func12 (c := bodyOf Tryz.f12) (by kernel_rfl) (by kernel_rfl) (by kernel_rfl) (good_by (c := (bodyOf Tryz.f12)) (i := 1) (l := []) (by kernel_rfl) (fun _ h => by cases h))
    (Eq.mp (quintetlaw16_every_eq x1 x2 h K) H)

/-! ### quintet/quintetkeep.Large: function 5 -/
def quintetkeep_Large_l3 (A16 : Option Addr) (l16 : Nat) (c16 : Nat) (K0 : Bool → Hp → Prop) (K1 : Hp → Prop)  : Nat → Int → Hp → Prop
  | 0, _, _ => False
  | k + 1, x17, h =>
    br (decide (x17 < (l16 : Int)))
    (∃ a21 : Addr, PV Tryz.prog (Instr.indexAt 25 (.slice A16 l16 c16) (.int .i64 x17)) (.pointer (some a21)) ∧
    ∃ A22 : Option Addr, ∃ l22 : Nat, ∃ c22 : Nat, HV Tryz.prog (Instr.loadAt 42 (.pointer (some (a21.add 20)))) h (.slice A22 l22 c22) ∧ 
    br (decide ((l22 : Int) > 2000))
    (K0 true h)
    (quintetkeep_Large_l3 A16 l16 c16 K0 K1 k (IntKind.i64.wrap (x17 + 1)) h))
    (K1 h)
def quintetkeep_Large_l3_L (Q : Qx) (k : Nat) (tm : Tm) (h : Hp) : Prop :=
  selS (tm 0) fun A16 l16 c16 =>
  selI .i64 (tm 5) fun x17 =>
  quintetkeep_Large_l3 A16 l16 c16 (fun (b20 : Bool) h => Q (.ret) (mkTm [(4, some (.bool b20))]) h) (fun  h => Q (.exit 0) (mkTm []) h) k x17 h
def quintetkeep_Large_j2 (K0 : Bool → Hp → Prop) (A3 : Option Addr) (l3 : Nat) (c3 : Nat) (h : Hp) : Prop :=
  ∃ k26, quintetkeep_Large_l3 A3 l3 c3
  (fun (b23 : Bool) (h24 : Hp) =>
  K0 b23 h24)
  (fun  (h25 : Hp) =>
  K0 false h25)
  k26 0 h
def quintetkeep_Large_j2_L (Q : Qx) (tm : Tm) (h : Hp) : Prop :=
  selS (tm 0) fun A3 l3 c3 =>
  quintetkeep_Large_j2 (fun (b15 : Bool) h => Q (.ret) (mkTm [(4, some (.bool b15))]) h) A3 l3 c3 h
def quintetkeep_Large (A1 : Option Addr) (l1 : Nat) (c1 : Nat) (A2 : Option Addr) (l2 : Nat) (c2 : Nat) (h : Hp) (K : Value → Hp → Prop) : Prop :=
  br (decide ((l1 : Int) > 2000))
  (K (.bool true) h)
  (br (decide ((l2 : Int) > 2000))
  (K (.bool true) h)
  (quintetkeep_Large_j2
  (fun (b27 : Bool) (h28 : Hp) =>
  K (.bool b27) h28)
  A1 l1 c1 h))
def quintetkeep_Large_lp (i : Nat) (Q : Qx) (tm : Tm) (h : Hp) : Prop := match Nat.beq i 58 with
  | true => ∃ k, quintetkeep_Large_l3_L Q k tm h
  | false => match Nat.beq i 3 with
  | true => quintetkeep_Large_j2_L Q tm h
  | false => False
def quintetkeep_Large_cut (i : Nat) : Option (List Nat) := match Nat.beq i 3 with
  | true => some [0]
  | false => none
set_option maxRecDepth 100000 in
theorem quintetkeep_Large_l3_step (Q : Qx) (k : Nat) (A16 : Option Addr) (l16 : Nat) (c16 : Nat) (x17 : Int) (h : Hp) : quintetkeep_Large_l3_L Q (k + 1) (mkTm [(0, some (.slice A16 l16 c16)), (5, some (.int .i64 x17))]) h =
    codeWp Tryz.prog 27 quintetkeep_Large_lp quintetkeep_Large_cut (sub (bodyOf Tryz.f5) [true, true, false, true, false, false]) 116 (thenQ (fun tm h => quintetkeep_Large_l3_L Q k (mask [0, 5] tm) h) (maskQ (fun e => match e with | .ret => [4] | .exit 0 => [] | _ => []) Q)) (mkTm [(0, some (.slice A16 l16 c16)), (5, some (.int .i64 x17))]) h := by kernel_rfl
theorem quintetkeep_Large_l3_mask (Q : Qx) (k : Nat) (tm : Tm) (h : Hp) : quintetkeep_Large_l3_L Q k tm h ↔ quintetkeep_Large_l3_L Q k (mask [0, 5] tm) h := Iff.rfl
set_option maxRecDepth 100000 in
theorem quintetkeep_Large_l3_snd : SndAt Tryz.prog 27 none (sub (bodyOf Tryz.f5) [true, true, false, true, false]) (quintetkeep_Large_lp 58) := by
  refine loop_sound (lp := quintetkeep_Large_lp) (cut := quintetkeep_Large_cut) (i := 58) (c := (sub (bodyOf Tryz.f5) [true, true, false, true, false, false])) [0, 5] (fun e => match e with | .ret => [4] | .exit 0 => [] | _ => []) quintetkeep_Large_l3_L ?_ ?_ ?_
  · exact good_by (c := (sub (bodyOf Tryz.f5) [true, true, false, true, false, false])) (i := 116) (l := []) (by kernel_rfl) (fun _ h => by cases h)
  · intro Q tm h H
    obtain ⟨A16, l16, c16, e0, H⟩ := selS_ex H
    obtain ⟨x17, e5, H⟩ := selI_ex H
    exact H
  · intro Q k tm h H
    have H0 := H
    obtain ⟨A16, l16, c16, e0, H⟩ := selS_ex H
    obtain ⟨x17, e5, H⟩ := selI_ex H
    have e : mask [0, 5] tm = mkTm [(0, some (.slice A16 l16 c16)), (5, some (.int .i64 x17))] := by simp only [mask, List.map_cons, List.map_nil, e0, e5] <;> rfl
    rw [e]
    refine Eq.mp (quintetkeep_Large_l3_step Q k A16 l16 c16 x17 h) ?_
    rw [← e]
    exact (quintetkeep_Large_l3_mask Q (k + 1) tm h).mp H0
set_option maxRecDepth 100000 in
theorem quintetkeep_Large_j2_step (Q : Qx) (A3 : Option Addr) (l3 : Nat) (c3 : Nat) (h : Hp) : quintetkeep_Large_j2_L Q (mkTm [(0, some (.slice A3 l3 c3))]) h =
    codeWp Tryz.prog 27 quintetkeep_Large_lp quintetkeep_Large_cut (sub (bodyOf Tryz.f5) [true, true]) 7 (maskQ (fun e => match e with | .ret => [4] | _ => []) Q) (mkTm [(0, some (.slice A3 l3 c3))]) h := by kernel_rfl
theorem quintetkeep_Large_j2_mask (Q : Qx) (tm : Tm) (h : Hp) : quintetkeep_Large_j2_L Q tm h ↔ quintetkeep_Large_j2_L Q (mask [0] tm) h := Iff.rfl
set_option maxRecDepth 100000 in
theorem quintetkeep_Large_j2_snd : SndAt Tryz.prog 27 none (sub (bodyOf Tryz.f5) [true, true]) (quintetkeep_Large_lp 3) := by
  refine join_sound (lp := quintetkeep_Large_lp) (cut := quintetkeep_Large_cut) (i := 3) (c := (sub (bodyOf Tryz.f5) [true, true])) [0] (fun e => match e with | .ret => [4] | _ => []) quintetkeep_Large_j2_L ?_ ?_
  · exact good_by (c := (sub (bodyOf Tryz.f5) [true, true])) (i := 7) (l := [(58, (sub (bodyOf Tryz.f5) [true, true, false, true, false]))]) (by kernel_rfl) (List.forall_mem_cons.2 ⟨quintetkeep_Large_l3_snd, (fun _ h => by cases h)⟩)
  · intro Q tm h H
    have H0 := H
    obtain ⟨A3, l3, c3, e0, H⟩ := selS_ex H
    have e : mask [0] tm = mkTm [(0, some (.slice A3 l3 c3))] := by simp only [mask, List.map_cons, List.map_nil, e0] <;> rfl
    rw [e]
    refine Eq.mp (quintetkeep_Large_j2_step Q A3 l3 c3 h) ?_
    rw [← e]
    exact (quintetkeep_Large_j2_mask Q tm h).mp H0
set_option maxRecDepth 100000 in
theorem quintetkeep_Large_eq (A1 : Option Addr) (l1 : Nat) (c1 : Nat) (A2 : Option Addr) (l2 : Nat) (c2 : Nat) (h : Hp) (K : Value → Hp → Prop) : quintetkeep_Large A1 l1 c1 A2 l2 c2 h K =
    codeWp Tryz.prog 27 quintetkeep_Large_lp quintetkeep_Large_cut (bodyOf Tryz.f5) 1 (endQ Tryz.prog Tryz.f5.results.toList K) (argTm [(.slice A1 l1 c1), (.slice A2 l2 c2)]) h := by kernel_rfl
set_option maxRecDepth 100000 in
theorem quintetkeep_Large_ok (A1 : Option Addr) (l1 : Nat) (c1 : Nat) (A2 : Option Addr) (l2 : Nat) (c2 : Nat) {h : Hp} {K : Value → Hp → Prop} (H : quintetkeep_Large A1 l1 c1 A2 l2 c2 h K) : CallsH Tryz.prog 5 #[(.slice A1 l1 c1), (.slice A2 l2 c2)] h K :=
  calls_of (args := [(.slice A1 l1 c1), (.slice A2 l2 c2)]) (n := 27) (lp := quintetkeep_Large_lp) (cut := quintetkeep_Large_cut) Tryz.func5 (c := bodyOf Tryz.f5) (by kernel_rfl) (by kernel_rfl) (by kernel_rfl) (good_by (c := (bodyOf Tryz.f5)) (i := 1) (l := [(3, (sub (bodyOf Tryz.f5) [true, true]))]) (by kernel_rfl) (List.forall_mem_cons.2 ⟨quintetkeep_Large_j2_snd, (fun _ h => by cases h)⟩))
    (Eq.mp (quintetkeep_Large_eq A1 l1 c1 A2 l2 c2 h K) H)

/-! ### quintet/quintetkeep.Lend: function 23 -/
def quintetkeep_Lend (A1 : Option Addr) (l1 : Nat) (c1 : Nat) (h : Hp) (K : Value → Hp → Prop) : Prop :=
  HW Tryz.prog (Instr.makeSlice 42 (.int .i64 (IntKind.i64.wrap ((l1 : Int) + 2))) (.int .i64 (IntKind.i64.wrap ((l1 : Int) + 2)))) h fun r3 h2 =>
  ∃ A4 : Option Addr, ∃ l4 : Nat, ∃ c4 : Nat, r3 = (.slice A4 l4 c4) ∧ 
  HW Tryz.prog (Builtin.copy_ #[42, 42] 3 #[(.slice A4 l4 c4), (.slice A1 l1 c1)]) h2 fun r6 h5 =>
  ∃ x7 : Int, r6 = (.int .i64 x7) ∧ 
  CallsH Tryz.prog 47 #[(.int .i64 0)] h5 fun r9 h8 =>
  ∃ x10 : Int, ∃ x11 : Int, ∃ x12 : Int, ∃ x13 : Int, ∃ x14 : Int, ∃ x15 : Int, ∃ x16 : Int, ∃ x17 : Int, ∃ x18 : Int, ∃ x19 : Int, ∃ x20 : Int, ∃ x21 : Int, r9 = (.agg #[(.int .i64 x10), (.int .u32 x11), (.int .i64 x12), (.int .u32 x13), (.int .i64 x14), (.int .u16 x15), (.int .u16 x16), (.int .u16 x17), (.int .u16 x18), (.int .u8 x19), (.int .u8 x20), (.int .i64 x21)]) ∧ 
  ∃ a22 : Addr, PV Tryz.prog (Instr.indexAt 42 (.slice A4 l4 c4) (.int .i64 (l1 : Int))) (.pointer (some a22)) ∧
  HU Tryz.prog (Instr.storeAt 52 (.pointer (some a22)) (.agg #[(.int .i64 x10), (.int .u32 x11), (.int .i64 x12), (.int .u32 x13), (.int .i64 x14), (.int .u16 x15), (.int .u16 x16), (.int .u16 x17), (.int .u16 x18), (.int .u8 x19), (.int .u8 x20), (.int .i64 x21)])) h8 fun h23 => 
  CallsH Tryz.prog 47 #[(.int .i64 1)] h23 fun r25 h24 =>
  ∃ x26 : Int, ∃ x27 : Int, ∃ x28 : Int, ∃ x29 : Int, ∃ x30 : Int, ∃ x31 : Int, ∃ x32 : Int, ∃ x33 : Int, ∃ x34 : Int, ∃ x35 : Int, ∃ x36 : Int, ∃ x37 : Int, r25 = (.agg #[(.int .i64 x26), (.int .u32 x27), (.int .i64 x28), (.int .u32 x29), (.int .i64 x30), (.int .u16 x31), (.int .u16 x32), (.int .u16 x33), (.int .u16 x34), (.int .u8 x35), (.int .u8 x36), (.int .i64 x37)]) ∧ 
  ∃ a38 : Addr, PV Tryz.prog (Instr.indexAt 42 (.slice A4 l4 c4) (.int .i64 (IntKind.i64.wrap ((l1 : Int) + 1)))) (.pointer (some a38)) ∧
  HU Tryz.prog (Instr.storeAt 52 (.pointer (some a38)) (.agg #[(.int .i64 x26), (.int .u32 x27), (.int .i64 x28), (.int .u32 x29), (.int .i64 x30), (.int .u16 x31), (.int .u16 x32), (.int .u16 x33), (.int .u16 x34), (.int .u8 x35), (.int .u8 x36), (.int .i64 x37)])) h24 fun h39 => 
  ∃ A40 : Option Addr, ∃ l40 : Nat, ∃ c40 : Nat, PV Tryz.prog (Instr.sliceAt 42 (.slice A4 l4 c4) none (some (.int .i64 (l1 : Int))) none) (.slice A40 l40 c40) ∧
  K (.slice A40 l40 c40) h39
def quintetkeep_Lend_lp (i : Nat) (Q : Qx) (tm : Tm) (h : Hp) : Prop := False
def quintetkeep_Lend_cut (i : Nat) : Option (List Nat) := none
set_option maxRecDepth 100000 in
theorem quintetkeep_Lend_eq (A1 : Option Addr) (l1 : Nat) (c1 : Nat) (h : Hp) (K : Value → Hp → Prop) : quintetkeep_Lend A1 l1 c1 h K =
    codeWp Tryz.prog 26 quintetkeep_Lend_lp quintetkeep_Lend_cut (bodyOf Tryz.f23) 1 (endQ Tryz.prog Tryz.f23.results.toList K) (argTm [(.slice A1 l1 c1)]) h := by kernel_rfl
set_option maxRecDepth 100000 in
theorem quintetkeep_Lend_ok (A1 : Option Addr) (l1 : Nat) (c1 : Nat) {h : Hp} {K : Value → Hp → Prop} (H : quintetkeep_Lend A1 l1 c1 h K) : CallsH Tryz.prog 23 #[(.slice A1 l1 c1)] h K :=
  calls_of (args := [(.slice A1 l1 c1)]) (n := 26) (lp := quintetkeep_Lend_lp) (cut := quintetkeep_Lend_cut) Tryz.func23 (c := bodyOf Tryz.f23) (by kernel_rfl) (by kernel_rfl) (by kernel_rfl) (good_by (c := (bodyOf Tryz.f23)) (i := 1) (l := []) (by kernel_rfl) (fun _ h => by cases h))
    (Eq.mp (quintetkeep_Lend_eq A1 l1 c1 h K) H)

/-! ### quintet/quintetkeep.Back: function 24 -/
def quintetkeep_Back_l3 (A105 : Option Addr) (l105 : Nat) (c105 : Nat) (b106 : Bool) (K0 : Bool → Hp → Prop)  : Nat → Int → Hp → Prop
  | 0, _, _ => False
  | k + 1, x107, h =>
    br (decide (x107 < (l105 : Int)))
    (CallsH Tryz.prog 47 #[(.int .i64 5)] h fun r126 h125 =>
    ∃ x127 : Int, ∃ x128 : Int, ∃ x129 : Int, ∃ x130 : Int, ∃ x131 : Int, ∃ x132 : Int, ∃ x133 : Int, ∃ x134 : Int, ∃ x135 : Int, ∃ x136 : Int, ∃ x137 : Int, ∃ x138 : Int, r126 = (.agg #[(.int .i64 x127), (.int .u32 x128), (.int .i64 x129), (.int .u32 x130), (.int .i64 x131), (.int .u16 x132), (.int .u16 x133), (.int .u16 x134), (.int .u16 x135), (.int .u8 x136), (.int .u8 x137), (.int .i64 x138)]) ∧ 
    ∃ a139 : Addr, PV Tryz.prog (Instr.indexAt 42 (.slice A105 l105 c105) (.int .i64 x107)) (.pointer (some a139)) ∧
    HU Tryz.prog (Instr.storeAt 52 (.pointer (some a139)) (.agg #[(.int .i64 x127), (.int .u32 x128), (.int .i64 x129), (.int .u32 x130), (.int .i64 x131), (.int .u16 x132), (.int .u16 x133), (.int .u16 x134), (.int .u16 x135), (.int .u8 x136), (.int .u8 x137), (.int .i64 x138)])) h125 fun h140 => 
    quintetkeep_Back_l3 A105 l105 c105 b106 K0 k (IntKind.i64.wrap (x107 + 1)) h140)
    (K0 b106 h)
def quintetkeep_Back_l3_L (Q : Qx) (k : Nat) (tm : Tm) (h : Hp) : Prop :=
  selS (tm 5) fun A105 l105 c105 =>
  selB (tm 6) fun b106 =>
  selI .i64 (tm 7) fun x107 =>
  quintetkeep_Back_l3 A105 l105 c105 b106 (fun (b124 : Bool) h => Q (.exit 0) (mkTm [(6, some (.bool b124))]) h) k x107 h
def quintetkeep_Back_j2 (K0 : Bool → Hp → Prop) (A63 : Option Addr) (l63 : Nat) (c63 : Nat) (b64 : Bool) (h : Hp) : Prop :=
  ∃ k143, quintetkeep_Back_l3 A63 l63 c63 b64
  (fun (b141 : Bool) (h142 : Hp) =>
  K0 b141 h142)
  k143 0 h
def quintetkeep_Back_j2_L (Q : Qx) (tm : Tm) (h : Hp) : Prop :=
  selS (tm 5) fun A63 l63 c63 =>
  selB (tm 6) fun b64 =>
  quintetkeep_Back_j2 (fun (b104 : Bool) h => Q (.ret) (mkTm [(4, some (.bool b104))]) h) A63 l63 c63 b64 h
def quintetkeep_Back (A1 : Option Addr) (l1 : Nat) (c1 : Nat) (A2 : Option Addr) (l2 : Nat) (c2 : Nat) (h : Hp) (K : Value → Hp → Prop) : Prop :=
  ∃ A3 : Option Addr, ∃ l3 : Nat, ∃ c3 : Nat, PV Tryz.prog (Instr.sliceAt 42 (.slice A1 l1 c1) none (some (.int .i64 (IntKind.i64.wrap ((l2 : Int) + 2)))) none) (.slice A3 l3 c3) ∧
  ∃ a144 : Addr, PV Tryz.prog (Instr.indexAt 42 (.slice A3 l3 c3) (.int .i64 (l2 : Int))) (.pointer (some a144)) ∧
  ∃ x145 : Int, ∃ x146 : Int, ∃ x147 : Int, ∃ x148 : Int, ∃ x149 : Int, ∃ x150 : Int, ∃ x151 : Int, ∃ x152 : Int, ∃ x153 : Int, ∃ x154 : Int, ∃ x155 : Int, ∃ x156 : Int, HV Tryz.prog (Instr.loadAt 52 (.pointer (some a144))) h (.agg #[(.int .i64 x145), (.int .u32 x146), (.int .i64 x147), (.int .u32 x148), (.int .i64 x149), (.int .u16 x150), (.int .u16 x151), (.int .u16 x152), (.int .u16 x153), (.int .u8 x154), (.int .u8 x155), (.int .i64 x156)]) ∧ 
  CallsH Tryz.prog 47 #[(.int .i64 0)] h fun r158 h157 =>
  ∃ x159 : Int, ∃ x160 : Int, ∃ x161 : Int, ∃ x162 : Int, ∃ x163 : Int, ∃ x164 : Int, ∃ x165 : Int, ∃ x166 : Int, ∃ x167 : Int, ∃ x168 : Int, ∃ x169 : Int, ∃ x170 : Int, r158 = (.agg #[(.int .i64 x159), (.int .u32 x160), (.int .i64 x161), (.int .u32 x162), (.int .i64 x163), (.int .u16 x164), (.int .u16 x165), (.int .u16 x166), (.int .u16 x167), (.int .u8 x168), (.int .u8 x169), (.int .i64 x170)]) ∧ HV Tryz.prog (Instr.loadAt 52 (.pointer (some a144))) h157 (.agg #[(.int .i64 x145), (.int .u32 x146), (.int .i64 x147), (.int .u32 x148), (.int .i64 x149), (.int .u16 x150), (.int .u16 x151), (.int .u16 x152), (.int .u16 x153), (.int .u8 x154), (.int .u8 x155), (.int .i64 x156)]) ∧ 
  ∃ b171 : Bool, PV Tryz.prog (binOp .eql 52 (.agg #[(.int .i64 x145), (.int .u32 x146), (.int .i64 x147), (.int .u32 x148), (.int .i64 x149), (.int .u16 x150), (.int .u16 x151), (.int .u16 x152), (.int .u16 x153), (.int .u8 x154), (.int .u8 x155), (.int .i64 x156)]) (.agg #[(.int .i64 x159), (.int .u32 x160), (.int .i64 x161), (.int .u32 x162), (.int .i64 x163), (.int .u16 x164), (.int .u16 x165), (.int .u16 x166), (.int .u16 x167), (.int .u8 x168), (.int .u8 x169), (.int .i64 x170)])) (.bool b171) ∧
  br b171
  (∃ a172 : Addr, PV Tryz.prog (Instr.indexAt 42 (.slice A3 l3 c3) (.int .i64 (IntKind.i64.wrap ((l2 : Int) + 1)))) (.pointer (some a172)) ∧
  ∃ x173 : Int, ∃ x174 : Int, ∃ x175 : Int, ∃ x176 : Int, ∃ x177 : Int, ∃ x178 : Int, ∃ x179 : Int, ∃ x180 : Int, ∃ x181 : Int, ∃ x182 : Int, ∃ x183 : Int, ∃ x184 : Int, HV Tryz.prog (Instr.loadAt 52 (.pointer (some a172))) h157 (.agg #[(.int .i64 x173), (.int .u32 x174), (.int .i64 x175), (.int .u32 x176), (.int .i64 x177), (.int .u16 x178), (.int .u16 x179), (.int .u16 x180), (.int .u16 x181), (.int .u8 x182), (.int .u8 x183), (.int .i64 x184)]) ∧ 
  CallsH Tryz.prog 47 #[(.int .i64 1)] h157 fun r186 h185 =>
  ∃ x187 : Int, ∃ x188 : Int, ∃ x189 : Int, ∃ x190 : Int, ∃ x191 : Int, ∃ x192 : Int, ∃ x193 : Int, ∃ x194 : Int, ∃ x195 : Int, ∃ x196 : Int, ∃ x197 : Int, ∃ x198 : Int, r186 = (.agg #[(.int .i64 x187), (.int .u32 x188), (.int .i64 x189), (.int .u32 x190), (.int .i64 x191), (.int .u16 x192), (.int .u16 x193), (.int .u16 x194), (.int .u16 x195), (.int .u8 x196), (.int .u8 x197), (.int .i64 x198)]) ∧ HV Tryz.prog (Instr.loadAt 52 (.pointer (some a172))) h185 (.agg #[(.int .i64 x173), (.int .u32 x174), (.int .i64 x175), (.int .u32 x176), (.int .i64 x177), (.int .u16 x178), (.int .u16 x179), (.int .u16 x180), (.int .u16 x181), (.int .u8 x182), (.int .u8 x183), (.int .i64 x184)]) ∧ 
  ∃ b199 : Bool, PV Tryz.prog (binOp .eql 52 (.agg #[(.int .i64 x173), (.int .u32 x174), (.int .i64 x175), (.int .u32 x176), (.int .i64 x177), (.int .u16 x178), (.int .u16 x179), (.int .u16 x180), (.int .u16 x181), (.int .u8 x182), (.int .u8 x183), (.int .i64 x184)]) (.agg #[(.int .i64 x187), (.int .u32 x188), (.int .i64 x189), (.int .u32 x190), (.int .i64 x191), (.int .u16 x192), (.int .u16 x193), (.int .u16 x194), (.int .u16 x195), (.int .u8 x196), (.int .u8 x197), (.int .i64 x198)])) (.bool b199) ∧
  br b199
  (CallsH Tryz.prog 48 #[(.slice A1 l1 c1), (.slice A2 l2 c2)] h185 fun r201 h200 =>
  ∃ b202 : Bool, r201 = (.bool b202) ∧ 
  quintetkeep_Back_j2
  (fun (b203 : Bool) (h204 : Hp) =>
  K (.bool b203) h204)
  A3 l3 c3 b202 h200)
  (quintetkeep_Back_j2
  (fun (b205 : Bool) (h206 : Hp) =>
  K (.bool b205) h206)
  A3 l3 c3 false h185))
  (quintetkeep_Back_j2
  (fun (b207 : Bool) (h208 : Hp) =>
  K (.bool b207) h208)
  A3 l3 c3 false h157)
def quintetkeep_Back_lp (i : Nat) (Q : Qx) (tm : Tm) (h : Hp) : Prop := match Nat.beq i 122 with
  | true => ∃ k, quintetkeep_Back_l3_L Q k tm h
  | false => match Nat.beq i 7 with
  | true => quintetkeep_Back_j2_L Q tm h
  | false => False
def quintetkeep_Back_cut (i : Nat) : Option (List Nat) := match Nat.beq i 7 with
  | true => some [5, 6]
  | false => none
set_option maxRecDepth 100000 in
theorem quintetkeep_Back_l3_step (Q : Qx) (k : Nat) (A105 : Option Addr) (l105 : Nat) (c105 : Nat) (b106 : Bool) (x107 : Int) (h : Hp) : quintetkeep_Back_l3_L Q (k + 1) (mkTm [(5, some (.slice A105 l105 c105)), (6, some (.bool b106)), (7, some (.int .i64 x107))]) h =
    codeWp Tryz.prog 46 quintetkeep_Back_lp quintetkeep_Back_cut (sub (bodyOf Tryz.f24) [true, true, true, false, true, false, false]) 244 (thenQ (fun tm h => quintetkeep_Back_l3_L Q k (mask [5, 6, 7] tm) h) (maskQ (fun e => match e with | .exit 0 => [6] | _ => []) Q)) (mkTm [(5, some (.slice A105 l105 c105)), (6, some (.bool b106)), (7, some (.int .i64 x107))]) h := by kernel_rfl
theorem quintetkeep_Back_l3_mask (Q : Qx) (k : Nat) (tm : Tm) (h : Hp) : quintetkeep_Back_l3_L Q k tm h ↔ quintetkeep_Back_l3_L Q k (mask [5, 6, 7] tm) h := Iff.rfl
set_option maxRecDepth 100000 in
theorem quintetkeep_Back_l3_snd : SndAt Tryz.prog 46 none (sub (bodyOf Tryz.f24) [true, true, true, false, true, false]) (quintetkeep_Back_lp 122) := by
  refine loop_sound (lp := quintetkeep_Back_lp) (cut := quintetkeep_Back_cut) (i := 122) (c := (sub (bodyOf Tryz.f24) [true, true, true, false, true, false, false])) [5, 6, 7] (fun e => match e with | .exit 0 => [6] | _ => []) quintetkeep_Back_l3_L ?_ ?_ ?_
  · exact good_by (c := (sub (bodyOf Tryz.f24) [true, true, true, false, true, false, false])) (i := 244) (l := []) (by kernel_rfl) (fun _ h => by cases h)
  · intro Q tm h H
    obtain ⟨A105, l105, c105, e5, H⟩ := selS_ex H
    obtain ⟨b106, e6, H⟩ := selB_ex H
    obtain ⟨x107, e7, H⟩ := selI_ex H
    exact H
  · intro Q k tm h H
    have H0 := H
    obtain ⟨A105, l105, c105, e5, H⟩ := selS_ex H
    obtain ⟨b106, e6, H⟩ := selB_ex H
    obtain ⟨x107, e7, H⟩ := selI_ex H
    have e : mask [5, 6, 7] tm = mkTm [(5, some (.slice A105 l105 c105)), (6, some (.bool b106)), (7, some (.int .i64 x107))] := by simp only [mask, List.map_cons, List.map_nil, e5, e6, e7] <;> rfl
    rw [e]
    refine Eq.mp (quintetkeep_Back_l3_step Q k A105 l105 c105 b106 x107 h) ?_
    rw [← e]
    exact (quintetkeep_Back_l3_mask Q (k + 1) tm h).mp H0
set_option maxRecDepth 100000 in
theorem quintetkeep_Back_j2_step (Q : Qx) (A63 : Option Addr) (l63 : Nat) (c63 : Nat) (b64 : Bool) (h : Hp) : quintetkeep_Back_j2_L Q (mkTm [(5, some (.slice A63 l63 c63)), (6, some (.bool b64))]) h =
    codeWp Tryz.prog 46 quintetkeep_Back_lp quintetkeep_Back_cut (sub (bodyOf Tryz.f24) [true, true, true]) 15 (maskQ (fun e => match e with | .ret => [4] | _ => []) Q) (mkTm [(5, some (.slice A63 l63 c63)), (6, some (.bool b64))]) h := by kernel_rfl
theorem quintetkeep_Back_j2_mask (Q : Qx) (tm : Tm) (h : Hp) : quintetkeep_Back_j2_L Q tm h ↔ quintetkeep_Back_j2_L Q (mask [5, 6] tm) h := Iff.rfl
set_option maxRecDepth 100000 in
theorem quintetkeep_Back_j2_snd : SndAt Tryz.prog 46 none (sub (bodyOf Tryz.f24) [true, true, true]) (quintetkeep_Back_lp 7) := by
  refine join_sound (lp := quintetkeep_Back_lp) (cut := quintetkeep_Back_cut) (i := 7) (c := (sub (bodyOf Tryz.f24) [true, true, true])) [5, 6] (fun e => match e with | .ret => [4] | _ => []) quintetkeep_Back_j2_L ?_ ?_
  · exact good_by (c := (sub (bodyOf Tryz.f24) [true, true, true])) (i := 15) (l := [(122, (sub (bodyOf Tryz.f24) [true, true, true, false, true, false]))]) (by kernel_rfl) (List.forall_mem_cons.2 ⟨quintetkeep_Back_l3_snd, (fun _ h => by cases h)⟩)
  · intro Q tm h H
    have H0 := H
    obtain ⟨A63, l63, c63, e5, H⟩ := selS_ex H
    obtain ⟨b64, e6, H⟩ := selB_ex H
    have e : mask [5, 6] tm = mkTm [(5, some (.slice A63 l63 c63)), (6, some (.bool b64))] := by simp only [mask, List.map_cons, List.map_nil, e5, e6] <;> rfl
    rw [e]
    refine Eq.mp (quintetkeep_Back_j2_step Q A63 l63 c63 b64 h) ?_
    rw [← e]
    exact (quintetkeep_Back_j2_mask Q tm h).mp H0
set_option maxRecDepth 100000 in
theorem quintetkeep_Back_eq (A1 : Option Addr) (l1 : Nat) (c1 : Nat) (A2 : Option Addr) (l2 : Nat) (c2 : Nat) (h : Hp) (K : Value → Hp → Prop) : quintetkeep_Back A1 l1 c1 A2 l2 c2 h K =
    codeWp Tryz.prog 46 quintetkeep_Back_lp quintetkeep_Back_cut (bodyOf Tryz.f24) 1 (endQ Tryz.prog Tryz.f24.results.toList K) (argTm [(.slice A1 l1 c1), (.slice A2 l2 c2)]) h := by kernel_rfl
set_option maxRecDepth 100000 in
theorem quintetkeep_Back_ok (A1 : Option Addr) (l1 : Nat) (c1 : Nat) (A2 : Option Addr) (l2 : Nat) (c2 : Nat) {h : Hp} {K : Value → Hp → Prop} (H : quintetkeep_Back A1 l1 c1 A2 l2 c2 h K) : CallsH Tryz.prog 24 #[(.slice A1 l1 c1), (.slice A2 l2 c2)] h K :=
  calls_of (args := [(.slice A1 l1 c1), (.slice A2 l2 c2)]) (n := 46) (lp := quintetkeep_Back_lp) (cut := quintetkeep_Back_cut) Tryz.func24 (c := bodyOf Tryz.f24) (by kernel_rfl) (by kernel_rfl) (by kernel_rfl) (good_by (c := (bodyOf Tryz.f24)) (i := 1) (l := [(7, (sub (bodyOf Tryz.f24) [true, true, true]))]) (by kernel_rfl) (List.forall_mem_cons.2 ⟨quintetkeep_Back_j2_snd, (fun _ h => by cases h)⟩))
    (Eq.mp (quintetkeep_Back_eq A1 l1 c1 A2 l2 c2 h K) H)

/-! ### quintet/quintetkeep.mark: function 47 -/
def quintetkeep_mark (x1 : Int) (h : Hp) (K : Value → Hp → Prop) : Prop :=
  newC h (.cells #[(.int .i64 0), (.int .u32 0), (.int .i64 0), (.int .u32 0), (.int .i64 0), (.int .u16 0), (.int .u16 0), (.int .u16 0), (.int .u16 0), (.int .u8 0), (.int .u8 0), (.int .i64 0)] 52 (0, 0)) fun a3 h2 => 
  HU Tryz.prog (Instr.storeAt 52 (.pointer (some a3)) (.agg #[(.int .i64 (IntKind.i64.wrap ((-7) - x1))), (.int .u32 0), (.int .i64 0), (.int .u32 0), (.int .i64 0), (.int .u16 0), (.int .u16 0), (.int .u16 0), (.int .u16 0), (.int .u8 0), (.int .u8 0), (.int .i64 77)])) h2 fun h4 => 
  ∃ x5 : Int, ∃ x6 : Int, ∃ x7 : Int, ∃ x8 : Int, ∃ x9 : Int, ∃ x10 : Int, ∃ x11 : Int, ∃ x12 : Int, ∃ x13 : Int, ∃ x14 : Int, ∃ x15 : Int, ∃ x16 : Int, HV Tryz.prog (Instr.loadAt 52 (.pointer (some a3))) h4 (.agg #[(.int .i64 x5), (.int .u32 x6), (.int .i64 x7), (.int .u32 x8), (.int .i64 x9), (.int .u16 x10), (.int .u16 x11), (.int .u16 x12), (.int .u16 x13), (.int .u8 x14), (.int .u8 x15), (.int .i64 x16)]) ∧ K (.agg #[(.int .i64 x5), (.int .u32 x6), (.int .i64 x7), (.int .u32 x8), (.int .i64 x9), (.int .u16 x10), (.int .u16 x11), (.int .u16 x12), (.int .u16 x13), (.int .u8 x14), (.int .u8 x15), (.int .i64 x16)]) h4
def quintetkeep_mark_lp (i : Nat) (Q : Qx) (tm : Tm) (h : Hp) : Prop := False
def quintetkeep_mark_cut (i : Nat) : Option (List Nat) := none
set_option maxRecDepth 100000 in
theorem quintetkeep_mark_eq (x1 : Int) (h : Hp) (K : Value → Hp → Prop) : quintetkeep_mark x1 h K =
    codeWp Tryz.prog 6 quintetkeep_mark_lp quintetkeep_mark_cut (bodyOf Tryz.f47) 1 (endQ Tryz.prog Tryz.f47.results.toList K) (argTm [(.int .i64 x1)]) h := by kernel_rfl
set_option maxRecDepth 100000 in
theorem quintetkeep_mark_ok (x1 : Int) {h : Hp} {K : Value → Hp → Prop} (H : quintetkeep_mark x1 h K) : CallsH Tryz.prog 47 #[(.int .i64 x1)] h K :=
  calls_of (args := [(.int .i64 x1)]) (n := 6) (lp := quintetkeep_mark_lp) (cut := quintetkeep_mark_cut) Tryz.func47 (c := bodyOf Tryz.f47) (by kernel_rfl) (by kernel_rfl) (by kernel_rfl) (good_by (c := (bodyOf Tryz.f47)) (i := 1) (l := []) (by kernel_rfl) (fun _ h => by cases h))
    (Eq.mp (quintetkeep_mark_eq x1 h K) H)

/-! ### quintet/quintetkeep.Same: function 48 -/
def quintetkeep_Same_l1 (A3 : Option Addr) (l3 : Nat) (c3 : Nat) (A4 : Option Addr) (l4 : Nat) (c4 : Nat) (K0 : Bool → Hp → Prop) (K1 : Hp → Prop)  : Nat → Int → Hp → Prop
  | 0, _, _ => False
  | k + 1, x5, h =>
    br (decide (x5 < (l3 : Int)))
    (∃ a34 : Addr, PV Tryz.prog (Instr.indexAt 42 (.slice A3 l3 c3) (.int .i64 x5)) (.pointer (some a34)) ∧
    ∃ x35 : Int, ∃ x36 : Int, ∃ x37 : Int, ∃ x38 : Int, ∃ x39 : Int, ∃ x40 : Int, ∃ x41 : Int, ∃ x42 : Int, ∃ x43 : Int, ∃ x44 : Int, ∃ x45 : Int, ∃ x46 : Int, HV Tryz.prog (Instr.loadAt 52 (.pointer (some a34))) h (.agg #[(.int .i64 x35), (.int .u32 x36), (.int .i64 x37), (.int .u32 x38), (.int .i64 x39), (.int .u16 x40), (.int .u16 x41), (.int .u16 x42), (.int .u16 x43), (.int .u8 x44), (.int .u8 x45), (.int .i64 x46)]) ∧ 
    ∃ a47 : Addr, PV Tryz.prog (Instr.indexAt 42 (.slice A4 l4 c4) (.int .i64 x5)) (.pointer (some a47)) ∧
    ∃ x48 : Int, ∃ x49 : Int, ∃ x50 : Int, ∃ x51 : Int, ∃ x52 : Int, ∃ x53 : Int, ∃ x54 : Int, ∃ x55 : Int, ∃ x56 : Int, ∃ x57 : Int, ∃ x58 : Int, ∃ x59 : Int, HV Tryz.prog (Instr.loadAt 52 (.pointer (some a47))) h (.agg #[(.int .i64 x48), (.int .u32 x49), (.int .i64 x50), (.int .u32 x51), (.int .i64 x52), (.int .u16 x53), (.int .u16 x54), (.int .u16 x55), (.int .u16 x56), (.int .u8 x57), (.int .u8 x58), (.int .i64 x59)]) ∧ 
    ∃ b60 : Bool, PV Tryz.prog (binOp .neq 52 (.agg #[(.int .i64 x35), (.int .u32 x36), (.int .i64 x37), (.int .u32 x38), (.int .i64 x39), (.int .u16 x40), (.int .u16 x41), (.int .u16 x42), (.int .u16 x43), (.int .u8 x44), (.int .u8 x45), (.int .i64 x46)]) (.agg #[(.int .i64 x48), (.int .u32 x49), (.int .i64 x50), (.int .u32 x51), (.int .i64 x52), (.int .u16 x53), (.int .u16 x54), (.int .u16 x55), (.int .u16 x56), (.int .u8 x57), (.int .u8 x58), (.int .i64 x59)])) (.bool b60) ∧
    br b60
    (K0 false h)
    (quintetkeep_Same_l1 A3 l3 c3 A4 l4 c4 K0 K1 k (IntKind.i64.wrap (x5 + 1)) h))
    (K1 h)
def quintetkeep_Same_l1_L (Q : Qx) (k : Nat) (tm : Tm) (h : Hp) : Prop :=
  selS (tm 0) fun A3 l3 c3 =>
  selS (tm 1) fun A4 l4 c4 =>
  selI .i64 (tm 5) fun x5 =>
  quintetkeep_Same_l1 A3 l3 c3 A4 l4 c4 (fun (b33 : Bool) h => Q (.ret) (mkTm [(4, some (.bool b33))]) h) (fun  h => Q (.exit 0) (mkTm []) h) k x5 h
def quintetkeep_Same (A1 : Option Addr) (l1 : Nat) (c1 : Nat) (A2 : Option Addr) (l2 : Nat) (c2 : Nat) (h : Hp) (K : Value → Hp → Prop) : Prop :=
  br ((l1 : Int) != (l2 : Int))
  (K (.bool false) h)
  (∃ k64, quintetkeep_Same_l1 A1 l1 c1 A2 l2 c2
  (fun (b61 : Bool) (h62 : Hp) =>
  K (.bool b61) h62)
  (fun  (h63 : Hp) =>
  K (.bool true) h63)
  k64 0 h)
def quintetkeep_Same_lp (i : Nat) (Q : Qx) (tm : Tm) (h : Hp) : Prop := match Nat.beq i 58 with
  | true => ∃ k, quintetkeep_Same_l1_L Q k tm h
  | false => False
def quintetkeep_Same_cut (i : Nat) : Option (List Nat) := none
set_option maxRecDepth 100000 in
theorem quintetkeep_Same_l1_step (Q : Qx) (k : Nat) (A3 : Option Addr) (l3 : Nat) (c3 : Nat) (A4 : Option Addr) (l4 : Nat) (c4 : Nat) (x5 : Int) (h : Hp) : quintetkeep_Same_l1_L Q (k + 1) (mkTm [(0, some (.slice A3 l3 c3)), (1, some (.slice A4 l4 c4)), (5, some (.int .i64 x5))]) h =
    codeWp Tryz.prog 26 quintetkeep_Same_lp quintetkeep_Same_cut (sub (bodyOf Tryz.f48) [true, true, false, true, false, false]) 116 (thenQ (fun tm h => quintetkeep_Same_l1_L Q k (mask [0, 1, 5] tm) h) (maskQ (fun e => match e with | .ret => [4] | .exit 0 => [] | _ => []) Q)) (mkTm [(0, some (.slice A3 l3 c3)), (1, some (.slice A4 l4 c4)), (5, some (.int .i64 x5))]) h := by kernel_rfl
theorem quintetkeep_Same_l1_mask (Q : Qx) (k : Nat) (tm : Tm) (h : Hp) : quintetkeep_Same_l1_L Q k tm h ↔ quintetkeep_Same_l1_L Q k (mask [0, 1, 5] tm) h := Iff.rfl
set_option maxRecDepth 100000 in
theorem quintetkeep_Same_l1_snd : SndAt Tryz.prog 26 none (sub (bodyOf Tryz.f48) [true, true, false, true, false]) (quintetkeep_Same_lp 58) := by
  refine loop_sound (lp := quintetkeep_Same_lp) (cut := quintetkeep_Same_cut) (i := 58) (c := (sub (bodyOf Tryz.f48) [true, true, false, true, false, false])) [0, 1, 5] (fun e => match e with | .ret => [4] | .exit 0 => [] | _ => []) quintetkeep_Same_l1_L ?_ ?_ ?_
  · exact good_by (c := (sub (bodyOf Tryz.f48) [true, true, false, true, false, false])) (i := 116) (l := []) (by kernel_rfl) (fun _ h => by cases h)
  · intro Q tm h H
    obtain ⟨A3, l3, c3, e0, H⟩ := selS_ex H
    obtain ⟨A4, l4, c4, e1, H⟩ := selS_ex H
    obtain ⟨x5, e5, H⟩ := selI_ex H
    exact H
  · intro Q k tm h H
    have H0 := H
    obtain ⟨A3, l3, c3, e0, H⟩ := selS_ex H
    obtain ⟨A4, l4, c4, e1, H⟩ := selS_ex H
    obtain ⟨x5, e5, H⟩ := selI_ex H
    have e : mask [0, 1, 5] tm = mkTm [(0, some (.slice A3 l3 c3)), (1, some (.slice A4 l4 c4)), (5, some (.int .i64 x5))] := by simp only [mask, List.map_cons, List.map_nil, e0, e1, e5] <;> rfl
    rw [e]
    refine Eq.mp (quintetkeep_Same_l1_step Q k A3 l3 c3 A4 l4 c4 x5 h) ?_
    rw [← e]
    exact (quintetkeep_Same_l1_mask Q (k + 1) tm h).mp H0
set_option maxRecDepth 100000 in
theorem quintetkeep_Same_eq (A1 : Option Addr) (l1 : Nat) (c1 : Nat) (A2 : Option Addr) (l2 : Nat) (c2 : Nat) (h : Hp) (K : Value → Hp → Prop) : quintetkeep_Same A1 l1 c1 A2 l2 c2 h K =
    codeWp Tryz.prog 26 quintetkeep_Same_lp quintetkeep_Same_cut (bodyOf Tryz.f48) 1 (endQ Tryz.prog Tryz.f48.results.toList K) (argTm [(.slice A1 l1 c1), (.slice A2 l2 c2)]) h := by kernel_rfl
set_option maxRecDepth 100000 in
theorem quintetkeep_Same_ok (A1 : Option Addr) (l1 : Nat) (c1 : Nat) (A2 : Option Addr) (l2 : Nat) (c2 : Nat) {h : Hp} {K : Value → Hp → Prop} (H : quintetkeep_Same A1 l1 c1 A2 l2 c2 h K) : CallsH Tryz.prog 48 #[(.slice A1 l1 c1), (.slice A2 l2 c2)] h K :=
  calls_of (args := [(.slice A1 l1 c1), (.slice A2 l2 c2)]) (n := 26) (lp := quintetkeep_Same_lp) (cut := quintetkeep_Same_cut) Tryz.func48 (c := bodyOf Tryz.f48) (by kernel_rfl) (by kernel_rfl) (by kernel_rfl) (good_by (c := (bodyOf Tryz.f48)) (i := 1) (l := [(58, (sub (bodyOf Tryz.f48) [true, true, false, true, false]))]) (by kernel_rfl) (List.forall_mem_cons.2 ⟨quintetkeep_Same_l1_snd, (fun _ h => by cases h)⟩))
    (Eq.mp (quintetkeep_Same_eq A1 l1 c1 A2 l2 c2 h K) H)

/-! ### (quintet/quintetkeep.Kind).Play: function 10 -/
def quintetkeep_Kind_Play_l15 (v1075 : Value) (A1076 : Option Addr) (l1076 : Nat) (c1076 : Nat) (A1077 : Option Addr) (l1077 : Nat) (c1077 : Nat) (a1078 : Addr) (a1079 : Addr) (A1080 : Option Addr) (l1080 : Nat) (c1080 : Nat) (x1081 : Int) (K0 : Bool → Hp → Prop) (K1 : Value → (Option Addr) → Nat → Nat → (Option Addr) → Nat → Nat → Addr → Addr → (Option Addr) → Nat → Nat → Int → Hp → Prop)  : Nat → Int → Hp → Prop
  | 0, _, _ => False
  | k + 1, x1082, h =>
    br (decide (x1082 < (l1077 : Int)))
    (∃ v1111 : Value, ∃ v1112 : Value, ∃ x1113 : Int, ∃ v1114 : Value, HV Tryz.prog (Instr.loadAt 38 (.pointer (some a1078))) h (.agg #[v1111, v1112, (.int .i64 x1113), v1114]) ∧ 
    ∃ x1115 : Int, ∃ x1116 : Int, ∃ x1117 : Int, ∃ x1118 : Int, ∃ x1119 : Int, ∃ x1120 : Int, ∃ x1121 : Int, HV Tryz.prog (Instr.loadAt 24 (.pointer (some a1079))) h (.agg #[(.int .i64 x1115), (.int .i64 x1116), (.int .i64 x1117), (.int .i64 x1118), (.int .i64 x1119), (.int .i64 x1120), (.int .i64 x1121)]) ∧ 
    ∃ a1122 : Addr, PV Tryz.prog (Instr.indexAt 26 (.slice A1077 l1077 c1077) (.int .i64 x1082)) (.pointer (some a1122)) ∧
    ∃ x1123 : Int, ∃ x1124 : Int, ∃ x1125 : Int, ∃ x1126 : Int, ∃ x1127 : Int, HV Tryz.prog (Instr.loadAt 54 (.pointer (some a1122))) h (.agg #[(.int .u32 x1123), (.int .u32 x1124), (.int .u16 x1125), (.int .u16 x1126), (.int .u8 x1127)]) ∧ 
    CallsH Tryz.prog 27 #[(.agg #[v1111, v1112, (.int .i64 x1113), v1114]), v1075, (.agg #[(.int .i64 x1115), (.int .i64 x1116), (.int .i64 x1117), (.int .i64 x1118), (.int .i64 x1119), (.int .i64 x1120), (.int .i64 x1121)]), (.slice A1080 l1080 c1080), (.agg #[(.int .u32 x1123), (.int .u32 x1124), (.int .u16 x1125), (.int .u16 x1126), (.int .u8 x1127)])] h fun r1129 h1128 =>
    ∃ b1130 : Bool, r1129 = (.bool b1130) ∧ 
    br (!b1130)
    (K0 false h1128)
    (quintetkeep_Kind_Play_l15 v1075 A1076 l1076 c1076 A1077 l1077 c1077 a1078 a1079 A1080 l1080 c1080 x1081 K0 K1 k (IntKind.i64.wrap (x1082 + 1)) h1128))
    (K1 v1075 A1076 l1076 c1076 A1077 l1077 c1077 a1078 a1079 A1080 l1080 c1080 x1081 h)
def quintetkeep_Kind_Play_l15_L (Q : Qx) (k : Nat) (tm : Tm) (h : Hp) : Prop :=
  selV (tm 1) fun v1075 =>
  selS (tm 3) fun A1076 l1076 c1076 =>
  selS (tm 4) fun A1077 l1077 c1077 =>
  selA (tm 5) fun a1078 =>
  selA (tm 7) fun a1079 =>
  selS (tm 11) fun A1080 l1080 c1080 =>
  selI .i64 (tm 12) fun x1081 =>
  selI .i64 (tm 18) fun x1082 =>
  quintetkeep_Kind_Play_l15 v1075 A1076 l1076 c1076 A1077 l1077 c1077 a1078 a1079 A1080 l1080 c1080 x1081 (fun (b1103 : Bool) h => Q (.ret) (mkTm [(10, some (.bool b1103))]) h) (fun (v1104 : Value) (A1105 : Option Addr) (l1105 : Nat) (c1105 : Nat) (A1106 : Option Addr) (l1106 : Nat) (c1106 : Nat) (a1107 : Addr) (a1108 : Addr) (A1109 : Option Addr) (l1109 : Nat) (c1109 : Nat) (x1110 : Int) h => Q (.exit 3) (mkTm [(1, some v1104), (3, some (.slice A1105 l1105 c1105)), (4, some (.slice A1106 l1106 c1106)), (5, some (.pointer (some a1107))), (7, some (.pointer (some a1108))), (11, some (.slice A1109 l1109 c1109)), (12, some (.int .i64 x1110))]) h) k x1082 h
def quintetkeep_Kind_Play_j14 (K0 : Bool → Hp → Prop) (K1 : Value → (Option Addr) → Nat → Nat → (Option Addr) → Nat → Nat → Addr → Addr → (Option Addr) → Nat → Nat → Int → Hp → Prop) (v993 : Value) (A994 : Option Addr) (l994 : Nat) (c994 : Nat) (A995 : Option Addr) (l995 : Nat) (c995 : Nat) (a996 : Addr) (a997 : Addr) (A998 : Option Addr) (l998 : Nat) (c998 : Nat) (x999 : Int) (h : Hp) : Prop :=
  ∃ k1141, quintetkeep_Kind_Play_l15 v993 A994 l994 c994 A995 l995 c995 a996 a997 A998 l998 c998 x999
  (fun (b1131 : Bool) (h1132 : Hp) =>
  K0 b1131 h1132)
  (fun (v1133 : Value) (A1134 : Option Addr) (l1134 : Nat) (c1134 : Nat) (A1135 : Option Addr) (l1135 : Nat) (c1135 : Nat) (a1136 : Addr) (a1137 : Addr) (A1138 : Option Addr) (l1138 : Nat) (c1138 : Nat) (x1139 : Int) (h1140 : Hp) =>
  K1 v1133 A1134 l1134 c1134 A1135 l1135 c1135 a1136 a1137 A1138 l1138 c1138 x1139 h1140)
  k1141 0 h
def quintetkeep_Kind_Play_j14_L (Q : Qx) (tm : Tm) (h : Hp) : Prop :=
  selV (tm 1) fun v993 =>
  selS (tm 3) fun A994 l994 c994 =>
  selS (tm 4) fun A995 l995 c995 =>
  selA (tm 5) fun a996 =>
  selA (tm 7) fun a997 =>
  selS (tm 11) fun A998 l998 c998 =>
  selI .i64 (tm 12) fun x999 =>
  quintetkeep_Kind_Play_j14 (fun (b1067 : Bool) h => Q (.ret) (mkTm [(10, some (.bool b1067))]) h) (fun (v1068 : Value) (A1069 : Option Addr) (l1069 : Nat) (c1069 : Nat) (A1070 : Option Addr) (l1070 : Nat) (c1070 : Nat) (a1071 : Addr) (a1072 : Addr) (A1073 : Option Addr) (l1073 : Nat) (c1073 : Nat) (x1074 : Int) h => Q (.normal) (mkTm [(1, some v1068), (3, some (.slice A1069 l1069 c1069)), (4, some (.slice A1070 l1070 c1070)), (5, some (.pointer (some a1071))), (7, some (.pointer (some a1072))), (11, some (.slice A1073 l1073 c1073)), (12, some (.int .i64 x1074))]) h) v993 A994 l994 c994 A995 l995 c995 a996 a997 A998 l998 c998 x999 h
def quintetkeep_Kind_Play_j12 (K0 : Bool → Hp → Prop) (K1 : Value → (Option Addr) → Nat → Nat → (Option Addr) → Nat → Nat → Addr → Addr → (Option Addr) → Nat → Nat → Int → Hp → Prop) (v806 : Value) (A807 : Option Addr) (l807 : Nat) (c807 : Nat) (A808 : Option Addr) (l808 : Nat) (c808 : Nat) (a809 : Addr) (a810 : Addr) (A811 : Option Addr) (l811 : Nat) (c811 : Nat) (x812 : Int) (A813 : Option Addr) (l813 : Nat) (c813 : Nat) (x814 : Int) (x815 : Int) (h : Hp) : Prop :=
  br (x814 != x815)
  (K0 false h)
  (br (x815 == 0)
  (quintetkeep_Kind_Play_j14
  (fun (b1142 : Bool) (h1143 : Hp) =>
  K0 b1142 h1143)
  (fun (v1144 : Value) (A1145 : Option Addr) (l1145 : Nat) (c1145 : Nat) (A1146 : Option Addr) (l1146 : Nat) (c1146 : Nat) (a1147 : Addr) (a1148 : Addr) (A1149 : Option Addr) (l1149 : Nat) (c1149 : Nat) (x1150 : Int) (h1151 : Hp) =>
  K1 v1144 A1145 l1145 c1145 A1146 l1146 c1146 a1147 a1148 A1149 l1149 c1149 x1150 h1151)
  v806 A807 l807 c807 A808 l808 c808 a809 a810 A813 l813 c813 x812 h)
  (quintetkeep_Kind_Play_j14
  (fun (b1152 : Bool) (h1153 : Hp) =>
  K0 b1152 h1153)
  (fun (v1154 : Value) (A1155 : Option Addr) (l1155 : Nat) (c1155 : Nat) (A1156 : Option Addr) (l1156 : Nat) (c1156 : Nat) (a1157 : Addr) (a1158 : Addr) (A1159 : Option Addr) (l1159 : Nat) (c1159 : Nat) (x1160 : Int) (h1161 : Hp) =>
  K1 v1154 A1155 l1155 c1155 A1156 l1156 c1156 a1157 a1158 A1159 l1159 c1159 x1160 h1161)
  v806 A807 l807 c807 A808 l808 c808 a809 a810 A811 l811 c811 x812 h))
def quintetkeep_Kind_Play_j12_L (Q : Qx) (tm : Tm) (h : Hp) : Prop :=
  selV (tm 1) fun v806 =>
  selS (tm 3) fun A807 l807 c807 =>
  selS (tm 4) fun A808 l808 c808 =>
  selA (tm 5) fun a809 =>
  selA (tm 7) fun a810 =>
  selS (tm 11) fun A811 l811 c811 =>
  selI .i64 (tm 12) fun x812 =>
  selS (tm 14) fun A813 l813 c813 =>
  selI .i64 (tm 15) fun x814 =>
  selI .i64 (tm 16) fun x815 =>
  quintetkeep_Kind_Play_j12 (fun (b985 : Bool) h => Q (.ret) (mkTm [(10, some (.bool b985))]) h) (fun (v986 : Value) (A987 : Option Addr) (l987 : Nat) (c987 : Nat) (A988 : Option Addr) (l988 : Nat) (c988 : Nat) (a989 : Addr) (a990 : Addr) (A991 : Option Addr) (l991 : Nat) (c991 : Nat) (x992 : Int) h => Q (.normal) (mkTm [(1, some v986), (3, some (.slice A987 l987 c987)), (4, some (.slice A988 l988 c988)), (5, some (.pointer (some a989))), (7, some (.pointer (some a990))), (11, some (.slice A991 l991 c991)), (12, some (.int .i64 x992))]) h) v806 A807 l807 c807 A808 l808 c808 a809 a810 A811 l811 c811 x812 A813 l813 c813 x814 x815 h
def quintetkeep_Kind_Play_l8 (v19 : Value) (A20 : Option Addr) (l20 : Nat) (c20 : Nat) (A21 : Option Addr) (l21 : Nat) (c21 : Nat) (a22 : Addr) (a23 : Addr) (K0 : Bool → Hp → Prop) (K1 : Hp → Prop)  : Nat → (Option Addr) → Nat → Nat → Int → Hp → Prop
  | 0, _, _, _, _, _ => False
  | k + 1, A24, l24, c24, x25, h =>
    br (decide (x25 < (l20 : Int)))
    (∃ a670 : Addr, PV Tryz.prog (Instr.indexAt 25 (.slice A20 l20 c20) (.int .i64 x25)) (.pointer (some a670)) ∧
    ∃ x671 : Int, ∃ x672 : Int, ∃ x673 : Int, ∃ x674 : Int, ∃ x675 : Int, ∃ x676 : Int, ∃ x677 : Int, ∃ x678 : Int, ∃ x679 : Int, ∃ x680 : Int, ∃ x681 : Int, ∃ x682 : Int, ∃ x683 : Int, ∃ x684 : Int, ∃ x685 : Int, ∃ x686 : Int, ∃ x687 : Int, ∃ x688 : Int, ∃ x689 : Int, ∃ x690 : Int, ∃ A691 : Option Addr, ∃ l691 : Nat, ∃ c691 : Nat, HV Tryz.prog (Instr.loadAt 56 (.pointer (some a670))) h (.agg #[(.int .i64 x671), (.int .i64 x672), (.int .i64 x673), (.int .i64 x674), (.int .u32 x675), (.int .i64 x676), (.int .u32 x677), (.int .i64 x678), (.int .u16 x679), (.int .u16 x680), (.int .u16 x681), (.int .u16 x682), (.int .u8 x683), (.int .u8 x684), (.int .i64 x685), (.int .u32 x686), (.int .u32 x687), (.int .u16 x688), (.int .u16 x689), (.int .u8 x690), (.slice A691 l691 c691)]) ∧ 
    newC h (.cells #[(.int .i64 0), (.int .i64 0), (.int .i64 0), (.int .i64 0), (.int .u32 0), (.int .i64 0), (.int .u32 0), (.int .i64 0), (.int .u16 0), (.int .u16 0), (.int .u16 0), (.int .u16 0), (.int .u8 0), (.int .u8 0), (.int .i64 0), (.int .u32 0), (.int .u32 0), (.int .u16 0), (.int .u16 0), (.int .u8 0), (.slice none 0 0)] 56 (0, 0)) fun a693 h692 => 
    HU Tryz.prog (Instr.storeAt 56 (.pointer (some a693)) (.agg #[(.int .i64 x671), (.int .i64 x672), (.int .i64 x673), (.int .i64 x674), (.int .u32 x675), (.int .i64 x676), (.int .u32 x677), (.int .i64 x678), (.int .u16 x679), (.int .u16 x680), (.int .u16 x681), (.int .u16 x682), (.int .u8 x683), (.int .u8 x684), (.int .i64 x685), (.int .u32 x686), (.int .u32 x687), (.int .u16 x688), (.int .u16 x689), (.int .u8 x690), (.slice A691 l691 c691)])) h692 fun h694 => 
    ∃ x1162 : Int, HV Tryz.prog (Instr.loadAt 3 (.pointer (some a693))) h694 (.int .i64 x1162) ∧ 
    br (x1162 == 1)
    (∃ x1163 : Int, HV Tryz.prog (Instr.loadAt 3 (.pointer (some (a693.add 1)))) h694 (.int .i64 x1163) ∧ 
    ∃ x1164 : Int, ∃ x1165 : Int, ∃ x1166 : Int, ∃ x1167 : Int, ∃ x1168 : Int, ∃ x1169 : Int, ∃ x1170 : Int, ∃ x1171 : Int, ∃ x1172 : Int, ∃ x1173 : Int, ∃ x1174 : Int, ∃ x1175 : Int, HV Tryz.prog (Instr.loadAt 52 (.pointer (some (a693.add 3)))) h694 (.agg #[(.int .i64 x1164), (.int .u32 x1165), (.int .i64 x1166), (.int .u32 x1167), (.int .i64 x1168), (.int .u16 x1169), (.int .u16 x1170), (.int .u16 x1171), (.int .u16 x1172), (.int .u8 x1173), (.int .u8 x1174), (.int .i64 x1175)]) ∧ 
    HN Tryz.prog (callMethod v19 "Insert" #[(.int .i64 x1163), (.agg #[(.int .i64 x1164), (.int .u32 x1165), (.int .i64 x1166), (.int .u32 x1167), (.int .i64 x1168), (.int .u16 x1169), (.int .u16 x1170), (.int .u16 x1171), (.int .u16 x1172), (.int .u8 x1173), (.int .u8 x1174), (.int .i64 x1175)])]) h694 fun r1177 h1176 =>
    ∃ x1178 : Int, r1177 = (.int .i64 x1178) ∧ 
    ∃ x1179 : Int, HV Tryz.prog (Instr.loadAt 3 (.pointer (some a23))) h1176 (.int .i64 x1179) ∧ 
    ∃ x1180 : Int, HV Tryz.prog (Instr.loadAt 3 (.pointer (some (a693.add 1)))) h1176 (.int .i64 x1180) ∧ 
    ∃ x1181 : Int, ∃ x1182 : Int, ∃ x1183 : Int, ∃ x1184 : Int, ∃ x1185 : Int, ∃ x1186 : Int, ∃ x1187 : Int, ∃ x1188 : Int, ∃ x1189 : Int, ∃ x1190 : Int, ∃ x1191 : Int, ∃ x1192 : Int, HV Tryz.prog (Instr.loadAt 52 (.pointer (some (a693.add 3)))) h1176 (.agg #[(.int .i64 x1181), (.int .u32 x1182), (.int .i64 x1183), (.int .u32 x1184), (.int .i64 x1185), (.int .u16 x1186), (.int .u16 x1187), (.int .u16 x1188), (.int .u16 x1189), (.int .u8 x1190), (.int .u8 x1191), (.int .i64 x1192)]) ∧ 
    CallsH Tryz.prog 20 #[(.slice A24 l24 c24), (.int .i64 x1179), (.int .i64 x1180), (.agg #[(.int .i64 x1181), (.int .u32 x1182), (.int .i64 x1183), (.int .u32 x1184), (.int .i64 x1185), (.int .u16 x1186), (.int .u16 x1187), (.int .u16 x1188), (.int .u16 x1189), (.int .u8 x1190), (.int .u8 x1191), (.int .i64 x1192)])] h1176 fun r1194 h1193 =>
    ∃ A1195 : Option Addr, ∃ l1195 : Nat, ∃ c1195 : Nat, ∃ x1196 : Int, r1194 = (.tuple #[(.slice A1195 l1195 c1195), (.int .i64 x1196)]) ∧ 
    ∃ v1197 : Value, ∃ v1198 : Value, ∃ x1199 : Int, ∃ v1200 : Value, HV Tryz.prog (Instr.loadAt 38 (.pointer (some a22))) h1193 (.agg #[v1197, v1198, (.int .i64 x1199), v1200]) ∧ 
    ∃ x1201 : Int, ∃ x1202 : Int, ∃ x1203 : Int, ∃ x1204 : Int, ∃ x1205 : Int, ∃ x1206 : Int, ∃ x1207 : Int, HV Tryz.prog (Instr.loadAt 24 (.pointer (some a23))) h1193 (.agg #[(.int .i64 x1201), (.int .i64 x1202), (.int .i64 x1203), (.int .i64 x1204), (.int .i64 x1205), (.int .i64 x1206), (.int .i64 x1207)]) ∧ 
    CallsH Tryz.prog 21 #[(.agg #[v1197, v1198, (.int .i64 x1199), v1200]), (.agg #[(.int .i64 x1201), (.int .i64 x1202), (.int .i64 x1203), (.int .i64 x1204), (.int .i64 x1205), (.int .i64 x1206), (.int .i64 x1207)]), (.slice A1195 l1195 c1195), (.int .i64 x1196)] h1193 fun r1209 h1208 =>
    ∃ x1210 : Int, r1209 = (.int .i64 x1210) ∧ 
    quintetkeep_Kind_Play_j12
    (fun (b1211 : Bool) (h1212 : Hp) =>
    K0 b1211 h1212)
    (fun (v1213 : Value) (A1214 : Option Addr) (l1214 : Nat) (c1214 : Nat) (A1215 : Option Addr) (l1215 : Nat) (c1215 : Nat) (a1216 : Addr) (a1217 : Addr) (A1218 : Option Addr) (l1218 : Nat) (c1218 : Nat) (x1219 : Int) (h1220 : Hp) =>
    quintetkeep_Kind_Play_l8 v19 A20 l20 c20 A21 l21 c21 a22 a23 K0 K1 k A1218 l1218 c1218 (IntKind.i64.wrap (x1219 + 1)) h1220)
    v19 A20 l20 c20 A21 l21 c21 a22 a23 A24 l24 c24 x25 A1195 l1195 c1195 x1178 x1210 h1208)
    (br (x1162 == 2)
    (∃ x1221 : Int, HV Tryz.prog (Instr.loadAt 3 (.pointer (some (a693.add 2)))) h694 (.int .i64 x1221) ∧ 
    HN Tryz.prog (callMethod v19 "Delete" #[(.int .i64 x1221)]) h694 fun r1223 h1222 =>
    ∃ x1224 : Int, r1223 = (.int .i64 x1224) ∧ 
    ∃ x1225 : Int, HV Tryz.prog (Instr.loadAt 3 (.pointer (some (a693.add 2)))) h1222 (.int .i64 x1225) ∧ 
    CallsH Tryz.prog 22 #[(.slice A24 l24 c24), (.int .i64 x1225)] h1222 fun r1227 h1226 =>
    ∃ A1228 : Option Addr, ∃ l1228 : Nat, ∃ c1228 : Nat, ∃ x1229 : Int, r1227 = (.tuple #[(.slice A1228 l1228 c1228), (.int .i64 x1229)]) ∧ 
    quintetkeep_Kind_Play_j12
    (fun (b1230 : Bool) (h1231 : Hp) =>
    K0 b1230 h1231)
    (fun (v1232 : Value) (A1233 : Option Addr) (l1233 : Nat) (c1233 : Nat) (A1234 : Option Addr) (l1234 : Nat) (c1234 : Nat) (a1235 : Addr) (a1236 : Addr) (A1237 : Option Addr) (l1237 : Nat) (c1237 : Nat) (x1238 : Int) (h1239 : Hp) =>
    quintetkeep_Kind_Play_l8 v19 A20 l20 c20 A21 l21 c21 a22 a23 K0 K1 k A1237 l1237 c1237 (IntKind.i64.wrap (x1238 + 1)) h1239)
    v19 A20 l20 c20 A21 l21 c21 a22 a23 A24 l24 c24 x25 A1228 l1228 c1228 x1224 x1229 h1226)
    (br (x1162 == 4)
    (∃ A1240 : Option Addr, ∃ l1240 : Nat, ∃ c1240 : Nat, HV Tryz.prog (Instr.loadAt 42 (.pointer (some (a693.add 20)))) h694 (.slice A1240 l1240 c1240) ∧ 
    CallsH Tryz.prog 23 #[(.slice A1240 l1240 c1240)] h694 fun r1242 h1241 =>
    ∃ A1243 : Option Addr, ∃ l1243 : Nat, ∃ c1243 : Nat, r1242 = (.slice A1243 l1243 c1243) ∧ 
    HN Tryz.prog (callMethod v19 "Set" #[(.slice A1243 l1243 c1243)]) h1241 fun r1245 h1244 =>
    ∃ x1246 : Int, r1245 = (.int .i64 x1246) ∧ 
    ∃ A1247 : Option Addr, ∃ l1247 : Nat, ∃ c1247 : Nat, HV Tryz.prog (Instr.loadAt 42 (.pointer (some (a693.add 20)))) h1244 (.slice A1247 l1247 c1247) ∧ 
    CallsH Tryz.prog 24 #[(.slice A1243 l1243 c1243), (.slice A1247 l1247 c1247)] h1244 fun r1249 h1248 =>
    ∃ b1250 : Bool, r1249 = (.bool b1250) ∧ 
    br (!b1250)
    (K0 false h1248)
    (∃ A1251 : Option Addr, ∃ l1251 : Nat, ∃ c1251 : Nat, HV Tryz.prog (Instr.loadAt 42 (.pointer (some (a693.add 20)))) h1248 (.slice A1251 l1251 c1251) ∧ 
    CallsH Tryz.prog 25 #[(.slice A1251 l1251 c1251)] h1248 fun r1253 h1252 =>
    ∃ A1254 : Option Addr, ∃ l1254 : Nat, ∃ c1254 : Nat, r1253 = (.slice A1254 l1254 c1254) ∧ 
    ∃ v1255 : Value, ∃ v1256 : Value, ∃ x1257 : Int, ∃ v1258 : Value, HV Tryz.prog (Instr.loadAt 38 (.pointer (some a22))) h1252 (.agg #[v1255, v1256, (.int .i64 x1257), v1258]) ∧ 
    ∃ x1259 : Int, ∃ x1260 : Int, ∃ x1261 : Int, ∃ x1262 : Int, ∃ x1263 : Int, ∃ x1264 : Int, ∃ x1265 : Int, HV Tryz.prog (Instr.loadAt 24 (.pointer (some a23))) h1252 (.agg #[(.int .i64 x1259), (.int .i64 x1260), (.int .i64 x1261), (.int .i64 x1262), (.int .i64 x1263), (.int .i64 x1264), (.int .i64 x1265)]) ∧ 
    ∃ A1266 : Option Addr, ∃ l1266 : Nat, ∃ c1266 : Nat, HV Tryz.prog (Instr.loadAt 42 (.pointer (some (a693.add 20)))) h1252 (.slice A1266 l1266 c1266) ∧ 
    ∃ x1267 : Int, HV Tryz.prog (Instr.loadAt 3 (.pointer (some a23))) h1252 (.int .i64 x1267) ∧ 
    CallsH Tryz.prog 26 #[(.slice A1266 l1266 c1266), (.int .i64 x1267)] h1252 fun r1269 h1268 =>
    ∃ x1270 : Int, r1269 = (.int .i64 x1270) ∧ HV Tryz.prog (Instr.loadAt 24 (.pointer (some a23))) h1268 (.agg #[(.int .i64 x1259), (.int .i64 x1260), (.int .i64 x1261), (.int .i64 x1262), (.int .i64 x1263), (.int .i64 x1264), (.int .i64 x1265)]) ∧ HV Tryz.prog (Instr.loadAt 38 (.pointer (some a22))) h1268 (.agg #[v1255, v1256, (.int .i64 x1257), v1258]) ∧ 
    CallsH Tryz.prog 21 #[(.agg #[v1255, v1256, (.int .i64 x1257), v1258]), (.agg #[(.int .i64 x1259), (.int .i64 x1260), (.int .i64 x1261), (.int .i64 x1262), (.int .i64 x1263), (.int .i64 x1264), (.int .i64 x1265)]), (.slice A1254 l1254 c1254), (.int .i64 x1270)] h1268 fun r1272 h1271 =>
    ∃ x1273 : Int, r1272 = (.int .i64 x1273) ∧ 
    quintetkeep_Kind_Play_j12
    (fun (b1274 : Bool) (h1275 : Hp) =>
    K0 b1274 h1275)
    (fun (v1276 : Value) (A1277 : Option Addr) (l1277 : Nat) (c1277 : Nat) (A1278 : Option Addr) (l1278 : Nat) (c1278 : Nat) (a1279 : Addr) (a1280 : Addr) (A1281 : Option Addr) (l1281 : Nat) (c1281 : Nat) (x1282 : Int) (h1283 : Hp) =>
    quintetkeep_Kind_Play_l8 v19 A20 l20 c20 A21 l21 c21 a22 a23 K0 K1 k A1281 l1281 c1281 (IntKind.i64.wrap (x1282 + 1)) h1283)
    v19 A20 l20 c20 A21 l21 c21 a22 a23 A24 l24 c24 x25 A1254 l1254 c1254 x1246 x1273 h1271))
    (∃ v1284 : Value, ∃ v1285 : Value, ∃ x1286 : Int, ∃ v1287 : Value, HV Tryz.prog (Instr.loadAt 38 (.pointer (some a22))) h694 (.agg #[v1284, v1285, (.int .i64 x1286), v1287]) ∧ 
    ∃ x1288 : Int, ∃ x1289 : Int, ∃ x1290 : Int, ∃ x1291 : Int, ∃ x1292 : Int, ∃ x1293 : Int, ∃ x1294 : Int, HV Tryz.prog (Instr.loadAt 24 (.pointer (some a23))) h694 (.agg #[(.int .i64 x1288), (.int .i64 x1289), (.int .i64 x1290), (.int .i64 x1291), (.int .i64 x1292), (.int .i64 x1293), (.int .i64 x1294)]) ∧ 
    ∃ x1295 : Int, ∃ x1296 : Int, ∃ x1297 : Int, ∃ x1298 : Int, ∃ x1299 : Int, HV Tryz.prog (Instr.loadAt 54 (.pointer (some (a693.add 15)))) h694 (.agg #[(.int .u32 x1295), (.int .u32 x1296), (.int .u16 x1297), (.int .u16 x1298), (.int .u8 x1299)]) ∧ 
    CallsH Tryz.prog 27 #[(.agg #[v1284, v1285, (.int .i64 x1286), v1287]), v19, (.agg #[(.int .i64 x1288), (.int .i64 x1289), (.int .i64 x1290), (.int .i64 x1291), (.int .i64 x1292), (.int .i64 x1293), (.int .i64 x1294)]), (.slice A24 l24 c24), (.agg #[(.int .u32 x1295), (.int .u32 x1296), (.int .u16 x1297), (.int .u16 x1298), (.int .u8 x1299)])] h694 fun r1301 h1300 =>
    ∃ b1302 : Bool, r1301 = (.bool b1302) ∧ 
    br (!b1302)
    (K0 false h1300)
    (quintetkeep_Kind_Play_j12
    (fun (b1303 : Bool) (h1304 : Hp) =>
    K0 b1303 h1304)
    (fun (v1305 : Value) (A1306 : Option Addr) (l1306 : Nat) (c1306 : Nat) (A1307 : Option Addr) (l1307 : Nat) (c1307 : Nat) (a1308 : Addr) (a1309 : Addr) (A1310 : Option Addr) (l1310 : Nat) (c1310 : Nat) (x1311 : Int) (h1312 : Hp) =>
    quintetkeep_Kind_Play_l8 v19 A20 l20 c20 A21 l21 c21 a22 a23 K0 K1 k A1310 l1310 c1310 (IntKind.i64.wrap (x1311 + 1)) h1312)
    v19 A20 l20 c20 A21 l21 c21 a22 a23 A24 l24 c24 x25 A24 l24 c24 0 0 h1300)))))
    (K1 h)
def quintetkeep_Kind_Play_l8_L (Q : Qx) (k : Nat) (tm : Tm) (h : Hp) : Prop :=
  selV (tm 1) fun v19 =>
  selS (tm 3) fun A20 l20 c20 =>
  selS (tm 4) fun A21 l21 c21 =>
  selA (tm 5) fun a22 =>
  selA (tm 7) fun a23 =>
  selS (tm 11) fun A24 l24 c24 =>
  selI .i64 (tm 12) fun x25 =>
  quintetkeep_Kind_Play_l8 v19 A20 l20 c20 A21 l21 c21 a22 a23 (fun (b669 : Bool) h => Q (.ret) (mkTm [(10, some (.bool b669))]) h) (fun  h => Q (.exit 0) (mkTm []) h) k A24 l24 c24 x25 h
def quintetkeep_Kind_Play (v1 : Value) (v2 : Value) (x3 : Int) (v4 : Value) (v5 : Value) (x6 : Int) (x7 : Int) (x8 : Int) (x9 : Int) (x10 : Int) (x11 : Int) (x12 : Int) (A13 : Option Addr) (l13 : Nat) (c13 : Nat) (A14 : Option Addr) (l14 : Nat) (c14 : Nat) (h : Hp) (K : Value → Hp → Prop) : Prop :=
  newC h (.cells #[v1, v2, (.int .i64 x3), v4] 38 (0, 0)) fun a16 h15 => 
  newC h15 (.cells #[(.int .i64 x6), (.int .i64 x7), (.int .i64 x8), (.int .i64 x9), (.int .i64 x10), (.int .i64 x11), (.int .i64 x12)] 24 (0, 0)) fun a18 h17 => 
  ∃ k1316, quintetkeep_Kind_Play_l8 v5 A13 l13 c13 A14 l14 c14 a16 a18
  (fun (b1313 : Bool) (h1314 : Hp) =>
  K (.bool b1313) h1314)
  (fun  (h1315 : Hp) =>
  K (.bool true) h1315)
  k1316 none 0 0 0 h17
def quintetkeep_Kind_Play_lp (i : Nat) (Q : Qx) (tm : Tm) (h : Hp) : Prop := match Nat.beq i 477694 with
  | true => ∃ k, quintetkeep_Kind_Play_l15_L Q k tm h
  | false => match Nat.beq i 59711 with
  | true => quintetkeep_Kind_Play_j14_L Q tm h
  | false => match Nat.beq i 14927 with
  | true => quintetkeep_Kind_Play_j12_L Q tm h
  | false => match Nat.beq i 58 with
  | true => ∃ k, quintetkeep_Kind_Play_l8_L Q k tm h
  | false => False
def quintetkeep_Kind_Play_cut (i : Nat) : Option (List Nat) := match Nat.beq i 14927 with
  | true => some [1, 3, 4, 5, 7, 11, 12, 14, 15, 16]
  | false => match Nat.beq i 59711 with
  | true => some [1, 3, 4, 5, 7, 11, 12]
  | false => none
set_option maxRecDepth 100000 in
theorem quintetkeep_Kind_Play_l15_step (Q : Qx) (k : Nat) (v1075 : Value) (A1076 : Option Addr) (l1076 : Nat) (c1076 : Nat) (A1077 : Option Addr) (l1077 : Nat) (c1077 : Nat) (a1078 : Addr) (a1079 : Addr) (A1080 : Option Addr) (l1080 : Nat) (c1080 : Nat) (x1081 : Int) (x1082 : Int) (h : Hp) : quintetkeep_Kind_Play_l15_L Q (k + 1) (mkTm [(1, some v1075), (3, some (.slice A1076 l1076 c1076)), (4, some (.slice A1077 l1077 c1077)), (5, some (.pointer (some a1078))), (7, some (.pointer (some a1079))), (11, some (.slice A1080 l1080 c1080)), (12, some (.int .i64 x1081)), (18, some (.int .i64 x1082))]) h =
    codeWp Tryz.prog 124 quintetkeep_Kind_Play_lp quintetkeep_Kind_Play_cut (sub (bodyOf Tryz.f10) [true, true, false, true, false, false, true, false, false, true, true, true, true, true, true, true, true, false, false]) 955388 (thenQ (fun tm h => quintetkeep_Kind_Play_l15_L Q k (mask [1, 3, 4, 5, 7, 11, 12, 18] tm) h) (maskQ (fun e => match e with | .ret => [10] | .exit 3 => [1, 3, 4, 5, 7, 11, 12] | _ => []) Q)) (mkTm [(1, some v1075), (3, some (.slice A1076 l1076 c1076)), (4, some (.slice A1077 l1077 c1077)), (5, some (.pointer (some a1078))), (7, some (.pointer (some a1079))), (11, some (.slice A1080 l1080 c1080)), (12, some (.int .i64 x1081)), (18, some (.int .i64 x1082))]) h := by kernel_rfl
theorem quintetkeep_Kind_Play_l15_mask (Q : Qx) (k : Nat) (tm : Tm) (h : Hp) : quintetkeep_Kind_Play_l15_L Q k tm h ↔ quintetkeep_Kind_Play_l15_L Q k (mask [1, 3, 4, 5, 7, 11, 12, 18] tm) h := Iff.rfl
set_option maxRecDepth 100000 in
theorem quintetkeep_Kind_Play_l15_snd : SndAt Tryz.prog 124 none (sub (bodyOf Tryz.f10) [true, true, false, true, false, false, true, false, false, true, true, true, true, true, true, true, true, false]) (quintetkeep_Kind_Play_lp 477694) := by
  refine loop_sound (lp := quintetkeep_Kind_Play_lp) (cut := quintetkeep_Kind_Play_cut) (i := 477694) (c := (sub (bodyOf Tryz.f10) [true, true, false, true, false, false, true, false, false, true, true, true, true, true, true, true, true, false, false])) [1, 3, 4, 5, 7, 11, 12, 18] (fun e => match e with | .ret => [10] | .exit 3 => [1, 3, 4, 5, 7, 11, 12] | _ => []) quintetkeep_Kind_Play_l15_L ?_ ?_ ?_
  · exact good_by (c := (sub (bodyOf Tryz.f10) [true, true, false, true, false, false, true, false, false, true, true, true, true, true, true, true, true, false, false])) (i := 955388) (l := []) (by kernel_rfl) (fun _ h => by cases h)
  · intro Q tm h H
    obtain ⟨v1075, e1, H⟩ := selV_ex H
    obtain ⟨A1076, l1076, c1076, e3, H⟩ := selS_ex H
    obtain ⟨A1077, l1077, c1077, e4, H⟩ := selS_ex H
    obtain ⟨a1078, e5, H⟩ := selA_ex H
    obtain ⟨a1079, e7, H⟩ := selA_ex H
    obtain ⟨A1080, l1080, c1080, e11, H⟩ := selS_ex H
    obtain ⟨x1081, e12, H⟩ := selI_ex H
    obtain ⟨x1082, e18, H⟩ := selI_ex H
    exact H
  · intro Q k tm h H
    have H0 := H
    obtain ⟨v1075, e1, H⟩ := selV_ex H
    obtain ⟨A1076, l1076, c1076, e3, H⟩ := selS_ex H
    obtain ⟨A1077, l1077, c1077, e4, H⟩ := selS_ex H
    obtain ⟨a1078, e5, H⟩ := selA_ex H
    obtain ⟨a1079, e7, H⟩ := selA_ex H
    obtain ⟨A1080, l1080, c1080, e11, H⟩ := selS_ex H
    obtain ⟨x1081, e12, H⟩ := selI_ex H
    obtain ⟨x1082, e18, H⟩ := selI_ex H
    have e : mask [1, 3, 4, 5, 7, 11, 12, 18] tm = mkTm [(1, some v1075), (3, some (.slice A1076 l1076 c1076)), (4, some (.slice A1077 l1077 c1077)), (5, some (.pointer (some a1078))), (7, some (.pointer (some a1079))), (11, some (.slice A1080 l1080 c1080)), (12, some (.int .i64 x1081)), (18, some (.int .i64 x1082))] := by simp only [mask, List.map_cons, List.map_nil, e1, e3, e4, e5, e7, e11, e12, e18] <;> rfl
    rw [e]
    refine Eq.mp (quintetkeep_Kind_Play_l15_step Q k v1075 A1076 l1076 c1076 A1077 l1077 c1077 a1078 a1079 A1080 l1080 c1080 x1081 x1082 h) ?_
    rw [← e]
    exact (quintetkeep_Kind_Play_l15_mask Q (k + 1) tm h).mp H0
set_option maxRecDepth 100000 in
theorem quintetkeep_Kind_Play_j14_step (Q : Qx) (v993 : Value) (A994 : Option Addr) (l994 : Nat) (c994 : Nat) (A995 : Option Addr) (l995 : Nat) (c995 : Nat) (a996 : Addr) (a997 : Addr) (A998 : Option Addr) (l998 : Nat) (c998 : Nat) (x999 : Int) (h : Hp) : quintetkeep_Kind_Play_j14_L Q (mkTm [(1, some v993), (3, some (.slice A994 l994 c994)), (4, some (.slice A995 l995 c995)), (5, some (.pointer (some a996))), (7, some (.pointer (some a997))), (11, some (.slice A998 l998 c998)), (12, some (.int .i64 x999))]) h =
    codeWp Tryz.prog 124 quintetkeep_Kind_Play_lp quintetkeep_Kind_Play_cut (sub (bodyOf Tryz.f10) [true, true, false, true, false, false, true, false, false, true, true, true, true, true, true, true]) 119423 (maskQ (fun e => match e with | .ret => [10] | .normal => [1, 3, 4, 5, 7, 11, 12] | _ => []) Q) (mkTm [(1, some v993), (3, some (.slice A994 l994 c994)), (4, some (.slice A995 l995 c995)), (5, some (.pointer (some a996))), (7, some (.pointer (some a997))), (11, some (.slice A998 l998 c998)), (12, some (.int .i64 x999))]) h := by kernel_rfl
theorem quintetkeep_Kind_Play_j14_mask (Q : Qx) (tm : Tm) (h : Hp) : quintetkeep_Kind_Play_j14_L Q tm h ↔ quintetkeep_Kind_Play_j14_L Q (mask [1, 3, 4, 5, 7, 11, 12] tm) h := Iff.rfl
set_option maxRecDepth 100000 in
theorem quintetkeep_Kind_Play_j14_snd : SndAt Tryz.prog 124 none (sub (bodyOf Tryz.f10) [true, true, false, true, false, false, true, false, false, true, true, true, true, true, true, true]) (quintetkeep_Kind_Play_lp 59711) := by
  refine join_sound (lp := quintetkeep_Kind_Play_lp) (cut := quintetkeep_Kind_Play_cut) (i := 59711) (c := (sub (bodyOf Tryz.f10) [true, true, false, true, false, false, true, false, false, true, true, true, true, true, true, true])) [1, 3, 4, 5, 7, 11, 12] (fun e => match e with | .ret => [10] | .normal => [1, 3, 4, 5, 7, 11, 12] | _ => []) quintetkeep_Kind_Play_j14_L ?_ ?_
  · exact good_by (c := (sub (bodyOf Tryz.f10) [true, true, false, true, false, false, true, false, false, true, true, true, true, true, true, true])) (i := 119423) (l := [(477694, (sub (bodyOf Tryz.f10) [true, true, false, true, false, false, true, false, false, true, true, true, true, true, true, true, true, false]))]) (by kernel_rfl) (List.forall_mem_cons.2 ⟨quintetkeep_Kind_Play_l15_snd, (fun _ h => by cases h)⟩)
  · intro Q tm h H
    have H0 := H
    obtain ⟨v993, e1, H⟩ := selV_ex H
    obtain ⟨A994, l994, c994, e3, H⟩ := selS_ex H
    obtain ⟨A995, l995, c995, e4, H⟩ := selS_ex H
    obtain ⟨a996, e5, H⟩ := selA_ex H
    obtain ⟨a997, e7, H⟩ := selA_ex H
    obtain ⟨A998, l998, c998, e11, H⟩ := selS_ex H
    obtain ⟨x999, e12, H⟩ := selI_ex H
    have e : mask [1, 3, 4, 5, 7, 11, 12] tm = mkTm [(1, some v993), (3, some (.slice A994 l994 c994)), (4, some (.slice A995 l995 c995)), (5, some (.pointer (some a996))), (7, some (.pointer (some a997))), (11, some (.slice A998 l998 c998)), (12, some (.int .i64 x999))] := by simp only [mask, List.map_cons, List.map_nil, e1, e3, e4, e5, e7, e11, e12] <;> rfl
    rw [e]
    refine Eq.mp (quintetkeep_Kind_Play_j14_step Q v993 A994 l994 c994 A995 l995 c995 a996 a997 A998 l998 c998 x999 h) ?_
    rw [← e]
    exact (quintetkeep_Kind_Play_j14_mask Q tm h).mp H0
set_option maxRecDepth 100000 in
theorem quintetkeep_Kind_Play_j12_step (Q : Qx) (v806 : Value) (A807 : Option Addr) (l807 : Nat) (c807 : Nat) (A808 : Option Addr) (l808 : Nat) (c808 : Nat) (a809 : Addr) (a810 : Addr) (A811 : Option Addr) (l811 : Nat) (c811 : Nat) (x812 : Int) (A813 : Option Addr) (l813 : Nat) (c813 : Nat) (x814 : Int) (x815 : Int) (h : Hp) : quintetkeep_Kind_Play_j12_L Q (mkTm [(1, some v806), (3, some (.slice A807 l807 c807)), (4, some (.slice A808 l808 c808)), (5, some (.pointer (some a809))), (7, some (.pointer (some a810))), (11, some (.slice A811 l811 c811)), (12, some (.int .i64 x812)), (14, some (.slice A813 l813 c813)), (15, some (.int .i64 x814)), (16, some (.int .i64 x815))]) h =
    codeWp Tryz.prog 124 quintetkeep_Kind_Play_lp quintetkeep_Kind_Play_cut (sub (bodyOf Tryz.f10) [true, true, false, true, false, false, true, false, false, true, true, true, true, true]) 29855 (maskQ (fun e => match e with | .ret => [10] | .normal => [1, 3, 4, 5, 7, 11, 12] | _ => []) Q) (mkTm [(1, some v806), (3, some (.slice A807 l807 c807)), (4, some (.slice A808 l808 c808)), (5, some (.pointer (some a809))), (7, some (.pointer (some a810))), (11, some (.slice A811 l811 c811)), (12, some (.int .i64 x812)), (14, some (.slice A813 l813 c813)), (15, some (.int .i64 x814)), (16, some (.int .i64 x815))]) h := by kernel_rfl
theorem quintetkeep_Kind_Play_j12_mask (Q : Qx) (tm : Tm) (h : Hp) : quintetkeep_Kind_Play_j12_L Q tm h ↔ quintetkeep_Kind_Play_j12_L Q (mask [1, 3, 4, 5, 7, 11, 12, 14, 15, 16] tm) h := Iff.rfl
set_option maxRecDepth 100000 in
theorem quintetkeep_Kind_Play_j12_snd : SndAt Tryz.prog 124 none (sub (bodyOf Tryz.f10) [true, true, false, true, false, false, true, false, false, true, true, true, true, true]) (quintetkeep_Kind_Play_lp 14927) := by
  refine join_sound (lp := quintetkeep_Kind_Play_lp) (cut := quintetkeep_Kind_Play_cut) (i := 14927) (c := (sub (bodyOf Tryz.f10) [true, true, false, true, false, false, true, false, false, true, true, true, true, true])) [1, 3, 4, 5, 7, 11, 12, 14, 15, 16] (fun e => match e with | .ret => [10] | .normal => [1, 3, 4, 5, 7, 11, 12] | _ => []) quintetkeep_Kind_Play_j12_L ?_ ?_
  · exact good_by (c := (sub (bodyOf Tryz.f10) [true, true, false, true, false, false, true, false, false, true, true, true, true, true])) (i := 29855) (l := [(59711, (sub (bodyOf Tryz.f10) [true, true, false, true, false, false, true, false, false, true, true, true, true, true, true, true]))]) (by kernel_rfl) (List.forall_mem_cons.2 ⟨quintetkeep_Kind_Play_j14_snd, (fun _ h => by cases h)⟩)
  · intro Q tm h H
    have H0 := H
    obtain ⟨v806, e1, H⟩ := selV_ex H
    obtain ⟨A807, l807, c807, e3, H⟩ := selS_ex H
    obtain ⟨A808, l808, c808, e4, H⟩ := selS_ex H
    obtain ⟨a809, e5, H⟩ := selA_ex H
    obtain ⟨a810, e7, H⟩ := selA_ex H
    obtain ⟨A811, l811, c811, e11, H⟩ := selS_ex H
    obtain ⟨x812, e12, H⟩ := selI_ex H
    obtain ⟨A813, l813, c813, e14, H⟩ := selS_ex H
    obtain ⟨x814, e15, H⟩ := selI_ex H
    obtain ⟨x815, e16, H⟩ := selI_ex H
    have e : mask [1, 3, 4, 5, 7, 11, 12, 14, 15, 16] tm = mkTm [(1, some v806), (3, some (.slice A807 l807 c807)), (4, some (.slice A808 l808 c808)), (5, some (.pointer (some a809))), (7, some (.pointer (some a810))), (11, some (.slice A811 l811 c811)), (12, some (.int .i64 x812)), (14, some (.slice A813 l813 c813)), (15, some (.int .i64 x814)), (16, some (.int .i64 x815))] := by simp only [mask, List.map_cons, List.map_nil, e1, e3, e4, e5, e7, e11, e12, e14, e15, e16] <;> rfl
    rw [e]
    refine Eq.mp (quintetkeep_Kind_Play_j12_step Q v806 A807 l807 c807 A808 l808 c808 a809 a810 A811 l811 c811 x812 A813 l813 c813 x814 x815 h) ?_
    rw [← e]
    exact (quintetkeep_Kind_Play_j12_mask Q tm h).mp H0
set_option maxRecDepth 100000 in
theorem quintetkeep_Kind_Play_l8_step (Q : Qx) (k : Nat) (v19 : Value) (A20 : Option Addr) (l20 : Nat) (c20 : Nat) (A21 : Option Addr) (l21 : Nat) (c21 : Nat) (a22 : Addr) (a23 : Addr) (A24 : Option Addr) (l24 : Nat) (c24 : Nat) (x25 : Int) (h : Hp) : quintetkeep_Kind_Play_l8_L Q (k + 1) (mkTm [(1, some v19), (3, some (.slice A20 l20 c20)), (4, some (.slice A21 l21 c21)), (5, some (.pointer (some a22))), (7, some (.pointer (some a23))), (11, some (.slice A24 l24 c24)), (12, some (.int .i64 x25))]) h =
    codeWp Tryz.prog 124 quintetkeep_Kind_Play_lp quintetkeep_Kind_Play_cut (sub (bodyOf Tryz.f10) [true, true, false, true, false, false]) 116 (thenQ (fun tm h => quintetkeep_Kind_Play_l8_L Q k (mask [1, 3, 4, 5, 7, 11, 12] tm) h) (maskQ (fun e => match e with | .ret => [10] | .exit 0 => [] | _ => []) Q)) (mkTm [(1, some v19), (3, some (.slice A20 l20 c20)), (4, some (.slice A21 l21 c21)), (5, some (.pointer (some a22))), (7, some (.pointer (some a23))), (11, some (.slice A24 l24 c24)), (12, some (.int .i64 x25))]) h := by kernel_rfl
theorem quintetkeep_Kind_Play_l8_mask (Q : Qx) (k : Nat) (tm : Tm) (h : Hp) : quintetkeep_Kind_Play_l8_L Q k tm h ↔ quintetkeep_Kind_Play_l8_L Q k (mask [1, 3, 4, 5, 7, 11, 12] tm) h := Iff.rfl
set_option maxRecDepth 100000 in
theorem quintetkeep_Kind_Play_l8_snd : SndAt Tryz.prog 124 none (sub (bodyOf Tryz.f10) [true, true, false, true, false]) (quintetkeep_Kind_Play_lp 58) := by
  refine loop_sound (lp := quintetkeep_Kind_Play_lp) (cut := quintetkeep_Kind_Play_cut) (i := 58) (c := (sub (bodyOf Tryz.f10) [true, true, false, true, false, false])) [1, 3, 4, 5, 7, 11, 12] (fun e => match e with | .ret => [10] | .exit 0 => [] | _ => []) quintetkeep_Kind_Play_l8_L ?_ ?_ ?_
  · exact good_by (c := (sub (bodyOf Tryz.f10) [true, true, false, true, false, false])) (i := 116) (l := [(14927, (sub (bodyOf Tryz.f10) [true, true, false, true, false, false, true, false, false, true, true, true, true, true]))]) (by kernel_rfl) (List.forall_mem_cons.2 ⟨quintetkeep_Kind_Play_j12_snd, (fun _ h => by cases h)⟩)
  · intro Q tm h H
    obtain ⟨v19, e1, H⟩ := selV_ex H
    obtain ⟨A20, l20, c20, e3, H⟩ := selS_ex H
    obtain ⟨A21, l21, c21, e4, H⟩ := selS_ex H
    obtain ⟨a22, e5, H⟩ := selA_ex H
    obtain ⟨a23, e7, H⟩ := selA_ex H
    obtain ⟨A24, l24, c24, e11, H⟩ := selS_ex H
    obtain ⟨x25, e12, H⟩ := selI_ex H
    exact H
  · intro Q k tm h H
    have H0 := H
    obtain ⟨v19, e1, H⟩ := selV_ex H
    obtain ⟨A20, l20, c20, e3, H⟩ := selS_ex H
    obtain ⟨A21, l21, c21, e4, H⟩ := selS_ex H
    obtain ⟨a22, e5, H⟩ := selA_ex H
    obtain ⟨a23, e7, H⟩ := selA_ex H
    obtain ⟨A24, l24, c24, e11, H⟩ := selS_ex H
    obtain ⟨x25, e12, H⟩ := selI_ex H
    have e : mask [1, 3, 4, 5, 7, 11, 12] tm = mkTm [(1, some v19), (3, some (.slice A20 l20 c20)), (4, some (.slice A21 l21 c21)), (5, some (.pointer (some a22))), (7, some (.pointer (some a23))), (11, some (.slice A24 l24 c24)), (12, some (.int .i64 x25))] := by simp only [mask, List.map_cons, List.map_nil, e1, e3, e4, e5, e7, e11, e12] <;> rfl
    rw [e]
    refine Eq.mp (quintetkeep_Kind_Play_l8_step Q k v19 A20 l20 c20 A21 l21 c21 a22 a23 A24 l24 c24 x25 h) ?_
    rw [← e]
    exact (quintetkeep_Kind_Play_l8_mask Q (k + 1) tm h).mp H0
set_option maxRecDepth 100000 in
theorem quintetkeep_Kind_Play_eq (v1 : Value) (v2 : Value) (x3 : Int) (v4 : Value) (v5 : Value) (x6 : Int) (x7 : Int) (x8 : Int) (x9 : Int) (x10 : Int) (x11 : Int) (x12 : Int) (A13 : Option Addr) (l13 : Nat) (c13 : Nat) (A14 : Option Addr) (l14 : Nat) (c14 : Nat) (h : Hp) (K : Value → Hp → Prop) : quintetkeep_Kind_Play v1 v2 x3 v4 v5 x6 x7 x8 x9 x10 x11 x12 A13 l13 c13 A14 l14 c14 h K =
    codeWp Tryz.prog 124 quintetkeep_Kind_Play_lp quintetkeep_Kind_Play_cut (bodyOf Tryz.f10) 1 (endQ Tryz.prog Tryz.f10.results.toList K) (argTm [(.agg #[v1, v2, (.int .i64 x3), v4]), v5, (.agg #[(.int .i64 x6), (.int .i64 x7), (.int .i64 x8), (.int .i64 x9), (.int .i64 x10), (.int .i64 x11), (.int .i64 x12)]), (.slice A13 l13 c13), (.slice A14 l14 c14)]) h := by kernel_rfl
set_option maxRecDepth 100000 in
theorem quintetkeep_Kind_Play_ok (v1 : Value) (v2 : Value) (x3 : Int) (v4 : Value) (v5 : Value) (x6 : Int) (x7 : Int) (x8 : Int) (x9 : Int) (x10 : Int) (x11 : Int) (x12 : Int) (A13 : Option Addr) (l13 : Nat) (c13 : Nat) (A14 : Option Addr) (l14 : Nat) (c14 : Nat) {h : Hp} {K : Value → Hp → Prop} (H : quintetkeep_Kind_Play v1 v2 x3 v4 v5 x6 x7 x8 x9 x10 x11 x12 A13 l13 c13 A14 l14 c14 h K) : CallsH Tryz.prog 10 #[(.agg #[v1, v2, (.int .i64 x3), v4]), v5, (.agg #[(.int .i64 x6), (.int .i64 x7), (.int .i64 x8), (.int .i64 x9), (.int .i64 x10), (.int .i64 x11), (.int .i64 x12)]), (.slice A13 l13 c13), (.slice A14 l14 c14)] h K :=
  calls_of (args := [(.agg #[v1, v2, (.int .i64 x3), v4]), v5, (.agg #[(.int .i64 x6), (.int .i64 x7), (.int .i64 x8), (.int .i64 x9), (.int .i64 x10), (.int .i64 x11), (.int .i64 x12)]), (.slice A13 l13 c13), (.slice A14 l14 c14)]) (n := 124) (lp := quintetkeep_Kind_Play_lp) (cut := quintetkeep_Kind_Play_cut) Tryz.func10 (c := bodyOf Tryz.f10) (by kernel_rfl) (by kernel_rfl) (by kernel_rfl) (good_by (c := (bodyOf Tryz.f10)) (i := 1) (l := [(58, (sub (bodyOf Tryz.f10) [true, true, false, true, false]))]) (by kernel_rfl) (List.forall_mem_cons.2 ⟨quintetkeep_Kind_Play_l8_snd, (fun _ h => by cases h)⟩))
    (Eq.mp (quintetkeep_Kind_Play_eq v1 v2 x3 v4 v5 x6 x7 x8 x9 x10 x11 x12 A13 l13 c13 A14 l14 c14 h K) H)

/-! ### (quintet/quintetkeep.Kind).room: function 21 -/
def quintetkeep_Kind_room (v1 : Value) (v2 : Value) (x3 : Int) (v4 : Value) (x5 : Int) (x6 : Int) (x7 : Int) (x8 : Int) (x9 : Int) (x10 : Int) (x11 : Int) (A12 : Option Addr) (l12 : Nat) (c12 : Nat) (x13 : Int) (h : Hp) (K : Value → Hp → Prop) : Prop :=
  newC h (.cells #[v1, v2, (.int .i64 x3), v4] 38 (0, 0)) fun a15 h14 => 
  newC h14 (.cells #[(.int .i64 x5), (.int .i64 x6), (.int .i64 x7), (.int .i64 x8), (.int .i64 x9), (.int .i64 x10), (.int .i64 x11)] 24 (0, 0)) fun a17 h16 => 
  br (x13 == 0)
  (∃ v18 : Value, HV Tryz.prog (Instr.loadAt 34 (.pointer (some a15))) h16 v18 ∧ 
  HN Tryz.prog (callS v18 #[(.slice A12 l12 c12)]) h16 fun r20 h19 =>
  ∃ x21 : Int, r20 = (.int .i64 x21) ∧ 
  ∃ v22 : Value, HV Tryz.prog (Instr.loadAt 35 (.pointer (some (a15.add 1)))) h19 v22 ∧ HV Tryz.prog (Instr.loadAt 35 (.pointer (some (a15.add 1)))) h16 v22 ∧ 
  ∃ x23 : Int, ∃ x24 : Int, ∃ x25 : Int, ∃ x26 : Int, ∃ x27 : Int, ∃ x28 : Int, ∃ x29 : Int, HV Tryz.prog (Instr.loadAt 24 (.pointer (some a17))) h19 (.agg #[(.int .i64 x23), (.int .i64 x24), (.int .i64 x25), (.int .i64 x26), (.int .i64 x27), (.int .i64 x28), (.int .i64 x29)]) ∧ HV Tryz.prog (Instr.loadAt 24 (.pointer (some a17))) h16 (.agg #[(.int .i64 x23), (.int .i64 x24), (.int .i64 x25), (.int .i64 x26), (.int .i64 x27), (.int .i64 x28), (.int .i64 x29)]) ∧ 
  HN Tryz.prog (callS v22 #[(.agg #[(.int .i64 x23), (.int .i64 x24), (.int .i64 x25), (.int .i64 x26), (.int .i64 x27), (.int .i64 x28), (.int .i64 x29)])]) h19 fun r31 h30 =>
  ∃ x32 : Int, r31 = (.int .i64 x32) ∧ 
  br (decide (x21 > x32))
  (∃ x33 : Int, HV Tryz.prog (Instr.loadAt 28 (.pointer (some (a15.add 2)))) h30 (.int .i64 x33) ∧ 
  K (.int .i64 x33) h30)
  (K (.int .i64 x13) h30))
  (K (.int .i64 x13) h16)
def quintetkeep_Kind_room_lp (i : Nat) (Q : Qx) (tm : Tm) (h : Hp) : Prop := False
def quintetkeep_Kind_room_cut (i : Nat) : Option (List Nat) := none
set_option maxRecDepth 100000 in
theorem quintetkeep_Kind_room_eq (v1 : Value) (v2 : Value) (x3 : Int) (v4 : Value) (x5 : Int) (x6 : Int) (x7 : Int) (x8 : Int) (x9 : Int) (x10 : Int) (x11 : Int) (A12 : Option Addr) (l12 : Nat) (c12 : Nat) (x13 : Int) (h : Hp) (K : Value → Hp → Prop) : quintetkeep_Kind_room v1 v2 x3 v4 x5 x6 x7 x8 x9 x10 x11 A12 l12 c12 x13 h K =
    codeWp Tryz.prog 25 quintetkeep_Kind_room_lp quintetkeep_Kind_room_cut (bodyOf Tryz.f21) 1 (endQ Tryz.prog Tryz.f21.results.toList K) (argTm [(.agg #[v1, v2, (.int .i64 x3), v4]), (.agg #[(.int .i64 x5), (.int .i64 x6), (.int .i64 x7), (.int .i64 x8), (.int .i64 x9), (.int .i64 x10), (.int .i64 x11)]), (.slice A12 l12 c12), (.int .i64 x13)]) h := by kernel_rfl
set_option maxRecDepth 100000 in
theorem quintetkeep_Kind_room_ok (v1 : Value) (v2 : Value) (x3 : Int) (v4 : Value) (x5 : Int) (x6 : Int) (x7 : Int) (x8 : Int) (x9 : Int) (x10 : Int) (x11 : Int) (A12 : Option Addr) (l12 : Nat) (c12 : Nat) (x13 : Int) {h : Hp} {K : Value → Hp → Prop} (H : quintetkeep_Kind_room v1 v2 x3 v4 x5 x6 x7 x8 x9 x10 x11 A12 l12 c12 x13 h K) : CallsH Tryz.prog 21 #[(.agg #[v1, v2, (.int .i64 x3), v4]), (.agg #[(.int .i64 x5), (.int .i64 x6), (.int .i64 x7), (.int .i64 x8), (.int .i64 x9), (.int .i64 x10), (.int .i64 x11)]), (.slice A12 l12 c12), (.int .i64 x13)] h K :=
  calls_of (args := [(.agg #[v1, v2, (.int .i64 x3), v4]), (.agg #[(.int .i64 x5), (.int .i64 x6), (.int .i64 x7), (.int .i64 x8), (.int .i64 x9), (.int .i64 x10), (.int .i64 x11)]), (.slice A12 l12 c12), (.int .i64 x13)]) (n := 25) (lp := quintetkeep_Kind_room_lp) (cut := quintetkeep_Kind_room_cut) Tryz.func21 (c := bodyOf Tryz.f21) (by kernel_rfl) (by kernel_rfl) (by kernel_rfl) (good_by (c := (bodyOf Tryz.f21)) (i := 1) (l := []) (by kernel_rfl) (fun _ h => by cases h))
    (Eq.mp (quintetkeep_Kind_room_eq v1 v2 x3 v4 x5 x6 x7 x8 x9 x10 x11 A12 l12 c12 x13 h K) H)

/-! ### (quintet/quintetkeep.Kind).asked: function 27 -/
def quintetkeep_Kind_asked (v1 : Value) (v2 : Value) (x3 : Int) (v4 : Value) (v5 : Value) (x6 : Int) (x7 : Int) (x8 : Int) (x9 : Int) (x10 : Int) (x11 : Int) (x12 : Int) (A13 : Option Addr) (l13 : Nat) (c13 : Nat) (x14 : Int) (x15 : Int) (x16 : Int) (x17 : Int) (x18 : Int) (h : Hp) (K : Value → Hp → Prop) : Prop :=
  newC h (.cells #[v1, v2, (.int .i64 x3), v4] 38 (0, 0)) fun a20 h19 => 
  newC h19 (.cells #[(.int .i64 x6), (.int .i64 x7), (.int .i64 x8), (.int .i64 x9), (.int .i64 x10), (.int .i64 x11), (.int .i64 x12)] 24 (0, 0)) fun a22 h21 => 
  newC h21 (.cells #[(.int .u32 x14), (.int .u32 x15), (.int .u16 x16), (.int .u16 x17), (.int .u8 x18)] 54 (0, 0)) fun a24 h23 => 
  ∃ x25 : Int, HV Tryz.prog (Instr.loadAt 22 (.pointer (some (a22.add 1)))) h23 (.int .i64 x25) ∧ 
  ∃ x26 : Int, ∃ x27 : Int, ∃ x28 : Int, ∃ x29 : Int, ∃ x30 : Int, HV Tryz.prog (Instr.loadAt 54 (.pointer (some a24))) h23 (.agg #[(.int .u32 x26), (.int .u32 x27), (.int .u16 x28), (.int .u16 x29), (.int .u8 x30)]) ∧ 
  CallsH Tryz.prog 49 #[(.slice A13 l13 c13), (.int .i64 x25), (.agg #[(.int .u32 x26), (.int .u32 x27), (.int .u16 x28), (.int .u16 x29), (.int .u8 x30)])] h23 fun r32 h31 =>
  ∃ b33 : Bool, ∃ x34 : Int, ∃ x35 : Int, ∃ x36 : Int, r32 = (.tuple #[(.agg #[(.bool b33), (.int .i64 x34), (.int .i64 x35)]), (.int .i64 x36)]) ∧ 
  newC h31 (.cells #[(.bool false), (.int .i64 0), (.int .i64 0)] 62 (0, 0)) fun a38 h37 => 
  HU Tryz.prog (Instr.storeAt 62 (.pointer (some a38)) (.agg #[(.bool b33), (.int .i64 x34), (.int .i64 x35)])) h37 fun h39 => 
  ∃ x40 : Int, ∃ x41 : Int, ∃ x42 : Int, ∃ x43 : Int, ∃ x44 : Int, HV Tryz.prog (Instr.loadAt 54 (.pointer (some a24))) h39 (.agg #[(.int .u32 x40), (.int .u32 x41), (.int .u16 x42), (.int .u16 x43), (.int .u8 x44)]) ∧ 
  HN Tryz.prog (callMethod v5 "Ask" #[(.agg #[(.int .u32 x40), (.int .u32 x41), (.int .u16 x42), (.int .u16 x43), (.int .u8 x44)])]) h39 fun r46 h45 =>
  ∃ b47 : Bool, ∃ x48 : Int, ∃ x49 : Int, ∃ x50 : Int, ∃ x51 : Int, ∃ x52 : Int, ∃ x53 : Int, ∃ x54 : Int, r46 = (.tuple #[(.agg #[(.bool b47), (.int .i64 x48), (.int .i64 x49)]), (.agg #[(.int .i64 x50), (.int .i64 x51), (.int .i64 x52), (.int .i64 x53), (.int .i64 x54)])]) ∧ 
  newC h45 (.cells #[(.bool false), (.int .i64 0), (.int .i64 0)] 62 (0, 0)) fun a56 h55 => 
  newC h55 (.cells #[(.int .i64 0), (.int .i64 0), (.int .i64 0), (.int .i64 0), (.int .i64 0)] 64 (0, 0)) fun a58 h57 => 
  HU Tryz.prog (Instr.storeAt 62 (.pointer (some a56)) (.agg #[(.bool b47), (.int .i64 x48), (.int .i64 x49)])) h57 fun h59 => 
  HU Tryz.prog (Instr.storeAt 64 (.pointer (some a58)) (.agg #[(.int .i64 x50), (.int .i64 x51), (.int .i64 x52), (.int .i64 x53), (.int .i64 x54)])) h59 fun h60 => 
  HN Tryz.prog (callMethod v5 "Stats" #[]) h60 fun r62 h61 =>
  ∃ x63 : Int, ∃ x64 : Int, ∃ x65 : Int, ∃ x66 : Int, r62 = (.agg #[(.int .i64 x63), (.int .i64 x64), (.int .i64 x65), (.int .i64 x66)]) ∧ 
  newC h61 (.cells #[(.int .i64 0), (.int .i64 0), (.int .i64 0), (.int .i64 0)] 108 (0, 0)) fun a68 h67 => 
  HU Tryz.prog (Instr.storeAt 108 (.pointer (some a68)) (.agg #[(.int .i64 x63), (.int .i64 x64), (.int .i64 x65), (.int .i64 x66)])) h67 fun h69 => 
  ∃ x70 : Int, ∃ x71 : Int, ∃ x72 : Int, ∃ x73 : Int, ∃ x74 : Int, HV Tryz.prog (Instr.loadAt 54 (.pointer (some a24))) h69 (.agg #[(.int .u32 x70), (.int .u32 x71), (.int .u16 x72), (.int .u16 x73), (.int .u8 x74)]) ∧ 
  HN Tryz.prog (callMethod v5 "Ask" #[(.agg #[(.int .u32 x70), (.int .u32 x71), (.int .u16 x72), (.int .u16 x73), (.int .u8 x74)])]) h69 fun r76 h75 =>
  ∃ b77 : Bool, ∃ x78 : Int, ∃ x79 : Int, ∃ x80 : Int, ∃ x81 : Int, ∃ x82 : Int, ∃ x83 : Int, ∃ x84 : Int, r76 = (.tuple #[(.agg #[(.bool b77), (.int .i64 x78), (.int .i64 x79)]), (.agg #[(.int .i64 x80), (.int .i64 x81), (.int .i64 x82), (.int .i64 x83), (.int .i64 x84)])]) ∧ 
  newC h75 (.cells #[(.bool false), (.int .i64 0), (.int .i64 0)] 62 (0, 0)) fun a86 h85 => 
  newC h85 (.cells #[(.int .i64 0), (.int .i64 0), (.int .i64 0), (.int .i64 0), (.int .i64 0)] 64 (0, 0)) fun a88 h87 => 
  HU Tryz.prog (Instr.storeAt 62 (.pointer (some a86)) (.agg #[(.bool b77), (.int .i64 x78), (.int .i64 x79)])) h87 fun h89 => 
  HU Tryz.prog (Instr.storeAt 64 (.pointer (some a88)) (.agg #[(.int .i64 x80), (.int .i64 x81), (.int .i64 x82), (.int .i64 x83), (.int .i64 x84)])) h89 fun h90 => 
  ∃ b91 : Bool, ∃ x92 : Int, ∃ x93 : Int, HV Tryz.prog (Instr.loadAt 62 (.pointer (some a56))) h90 (.agg #[(.bool b91), (.int .i64 x92), (.int .i64 x93)]) ∧ 
  ∃ b94 : Bool, ∃ x95 : Int, ∃ x96 : Int, HV Tryz.prog (Instr.loadAt 62 (.pointer (some a38))) h90 (.agg #[(.bool b94), (.int .i64 x95), (.int .i64 x96)]) ∧ 
  ∃ b97 : Bool, PV Tryz.prog (binOp .eql 62 (.agg #[(.bool b91), (.int .i64 x92), (.int .i64 x93)]) (.agg #[(.bool b94), (.int .i64 x95), (.int .i64 x96)])) (.bool b97) ∧
  br b97
  (∃ b98 : Bool, ∃ x99 : Int, ∃ x100 : Int, HV Tryz.prog (Instr.loadAt 62 (.pointer (some a86))) h90 (.agg #[(.bool b98), (.int .i64 x99), (.int .i64 x100)]) ∧ 
  ∃ b101 : Bool, ∃ x102 : Int, ∃ x103 : Int, HV Tryz.prog (Instr.loadAt 62 (.pointer (some a38))) h90 (.agg #[(.bool b101), (.int .i64 x102), (.int .i64 x103)]) ∧ 
  ∃ b104 : Bool, PV Tryz.prog (binOp .eql 62 (.agg #[(.bool b98), (.int .i64 x99), (.int .i64 x100)]) (.agg #[(.bool b101), (.int .i64 x102), (.int .i64 x103)])) (.bool b104) ∧
  br b104
  (∃ x105 : Int, ∃ x106 : Int, ∃ x107 : Int, ∃ x108 : Int, ∃ x109 : Int, HV Tryz.prog (Instr.loadAt 64 (.pointer (some a58))) h90 (.agg #[(.int .i64 x105), (.int .i64 x106), (.int .i64 x107), (.int .i64 x108), (.int .i64 x109)]) ∧ 
  ∃ x110 : Int, ∃ x111 : Int, ∃ x112 : Int, ∃ x113 : Int, ∃ x114 : Int, HV Tryz.prog (Instr.loadAt 64 (.pointer (some a88))) h90 (.agg #[(.int .i64 x110), (.int .i64 x111), (.int .i64 x112), (.int .i64 x113), (.int .i64 x114)]) ∧ 
  ∃ b115 : Bool, PV Tryz.prog (binOp .eql 64 (.agg #[(.int .i64 x105), (.int .i64 x106), (.int .i64 x107), (.int .i64 x108), (.int .i64 x109)]) (.agg #[(.int .i64 x110), (.int .i64 x111), (.int .i64 x112), (.int .i64 x113), (.int .i64 x114)])) (.bool b115) ∧
  br b115
  (∃ v116 : Value, HV Tryz.prog (Instr.loadAt 36 (.pointer (some (a20.add 3)))) h90 v116 ∧ 
  ∃ x117 : Int, ∃ x118 : Int, ∃ x119 : Int, ∃ x120 : Int, ∃ x121 : Int, ∃ x122 : Int, ∃ x123 : Int, HV Tryz.prog (Instr.loadAt 24 (.pointer (some a22))) h90 (.agg #[(.int .i64 x117), (.int .i64 x118), (.int .i64 x119), (.int .i64 x120), (.int .i64 x121), (.int .i64 x122), (.int .i64 x123)]) ∧ 
  ∃ x124 : Int, ∃ x125 : Int, ∃ x126 : Int, ∃ x127 : Int, ∃ x128 : Int, HV Tryz.prog (Instr.loadAt 54 (.pointer (some a24))) h90 (.agg #[(.int .u32 x124), (.int .u32 x125), (.int .u16 x126), (.int .u16 x127), (.int .u8 x128)]) ∧ 
  ∃ b129 : Bool, ∃ x130 : Int, ∃ x131 : Int, HV Tryz.prog (Instr.loadAt 62 (.pointer (some a56))) h90 (.agg #[(.bool b129), (.int .i64 x130), (.int .i64 x131)]) ∧ 
  ∃ x132 : Int, ∃ x133 : Int, ∃ x134 : Int, ∃ x135 : Int, ∃ x136 : Int, HV Tryz.prog (Instr.loadAt 64 (.pointer (some a58))) h90 (.agg #[(.int .i64 x132), (.int .i64 x133), (.int .i64 x134), (.int .i64 x135), (.int .i64 x136)]) ∧ 
  ∃ x137 : Int, ∃ x138 : Int, ∃ x139 : Int, ∃ x140 : Int, HV Tryz.prog (Instr.loadAt 108 (.pointer (some a68))) h90 (.agg #[(.int .i64 x137), (.int .i64 x138), (.int .i64 x139), (.int .i64 x140)]) ∧ 
  HN Tryz.prog (callS v116 #[(.agg #[(.int .i64 x117), (.int .i64 x118), (.int .i64 x119), (.int .i64 x120), (.int .i64 x121), (.int .i64 x122), (.int .i64 x123)]), (.slice A13 l13 c13), (.agg #[(.int .u32 x124), (.int .u32 x125), (.int .u16 x126), (.int .u16 x127), (.int .u8 x128)]), (.agg #[(.bool b129), (.int .i64 x130), (.int .i64 x131)]), (.agg #[(.int .i64 x132), (.int .i64 x133), (.int .i64 x134), (.int .i64 x135), (.int .i64 x136)]), (.agg #[(.int .i64 x137), (.int .i64 x138), (.int .i64 x139), (.int .i64 x140)])]) h90 fun r142 h141 =>
  ∃ b143 : Bool, r142 = (.bool b143) ∧ 
  K (.bool b143) h141)
  (K (.bool false) h90))
  (K (.bool false) h90))
  (K (.bool false) h90)
def quintetkeep_Kind_asked_lp (i : Nat) (Q : Qx) (tm : Tm) (h : Hp) : Prop := False
def quintetkeep_Kind_asked_cut (i : Nat) : Option (List Nat) := none
set_option maxRecDepth 100000 in
theorem quintetkeep_Kind_asked_eq (v1 : Value) (v2 : Value) (x3 : Int) (v4 : Value) (v5 : Value) (x6 : Int) (x7 : Int) (x8 : Int) (x9 : Int) (x10 : Int) (x11 : Int) (x12 : Int) (A13 : Option Addr) (l13 : Nat) (c13 : Nat) (x14 : Int) (x15 : Int) (x16 : Int) (x17 : Int) (x18 : Int) (h : Hp) (K : Value → Hp → Prop) : quintetkeep_Kind_asked v1 v2 x3 v4 v5 x6 x7 x8 x9 x10 x11 x12 A13 l13 c13 x14 x15 x16 x17 x18 h K =
    codeWp Tryz.prog 64 quintetkeep_Kind_asked_lp quintetkeep_Kind_asked_cut (bodyOf Tryz.f27) 1 (endQ Tryz.prog Tryz.f27.results.toList K) (argTm [(.agg #[v1, v2, (.int .i64 x3), v4]), v5, (.agg #[(.int .i64 x6), (.int .i64 x7), (.int .i64 x8), (.int .i64 x9), (.int .i64 x10), (.int .i64 x11), (.int .i64 x12)]), (.slice A13 l13 c13), (.agg #[(.int .u32 x14), (.int .u32 x15), (.int .u16 x16), (.int .u16 x17), (.int .u8 x18)])]) h := by kernel_rfl
set_option maxRecDepth 100000 in
theorem quintetkeep_Kind_asked_ok (v1 : Value) (v2 : Value) (x3 : Int) (v4 : Value) (v5 : Value) (x6 : Int) (x7 : Int) (x8 : Int) (x9 : Int) (x10 : Int) (x11 : Int) (x12 : Int) (A13 : Option Addr) (l13 : Nat) (c13 : Nat) (x14 : Int) (x15 : Int) (x16 : Int) (x17 : Int) (x18 : Int) {h : Hp} {K : Value → Hp → Prop} (H : quintetkeep_Kind_asked v1 v2 x3 v4 v5 x6 x7 x8 x9 x10 x11 x12 A13 l13 c13 x14 x15 x16 x17 x18 h K) : CallsH Tryz.prog 27 #[(.agg #[v1, v2, (.int .i64 x3), v4]), v5, (.agg #[(.int .i64 x6), (.int .i64 x7), (.int .i64 x8), (.int .i64 x9), (.int .i64 x10), (.int .i64 x11), (.int .i64 x12)]), (.slice A13 l13 c13), (.agg #[(.int .u32 x14), (.int .u32 x15), (.int .u16 x16), (.int .u16 x17), (.int .u8 x18)])] h K :=
  calls_of (args := [(.agg #[v1, v2, (.int .i64 x3), v4]), v5, (.agg #[(.int .i64 x6), (.int .i64 x7), (.int .i64 x8), (.int .i64 x9), (.int .i64 x10), (.int .i64 x11), (.int .i64 x12)]), (.slice A13 l13 c13), (.agg #[(.int .u32 x14), (.int .u32 x15), (.int .u16 x16), (.int .u16 x17), (.int .u8 x18)])]) (n := 64) (lp := quintetkeep_Kind_asked_lp) (cut := quintetkeep_Kind_asked_cut) Tryz.func27 (c := bodyOf Tryz.f27) (by kernel_rfl) (by kernel_rfl) (by kernel_rfl) (good_by (c := (bodyOf Tryz.f27)) (i := 1) (l := []) (by kernel_rfl) (fun _ h => by cases h))
    (Eq.mp (quintetkeep_Kind_asked_eq v1 v2 x3 v4 v5 x6 x7 x8 x9 x10 x11 x12 A13 l13 c13 x14 x15 x16 x17 x18 h K) H)

end Go.Proofs.YtomhkbhgpmcbiaaGreat.Fs
