/- Printed by sx.py: words over the heap alone for Go functions, and that each call does what its word says. -/
import Derived.Test.YtgecabgcjfpenaaSxSel
import Derived.Test.YtgecabgcjfpenaaProg
namespace Go.Proofs.Ytgecabgcjfpenaa.Fs
open Go Go.RowKit Go.Proofs.Ytgecabgcjfpenaa.Sx
set_option linter.unusedVariables false

/-! ### quintet/quintetlaw11.example: function 17 -/
def quintetlaw11_example (h : Hp) (K : Value → Hp → Prop) : Prop :=
  newC h (.cells #[(.int .i64 0), (.int .i64 0), (.int .i64 0), (.int .i64 0), (.int .i64 0), (.int .i64 0), (.int .i64 0)] 24 (0, 0)) fun a2 h1 => 
  HU Try.prog (Instr.storeAt 24 (.pointer (some a2)) (.agg #[(.int .i64 2), (.int .i64 1), (.int .i64 1000), (.int .i64 1000), (.int .i64 1000), (.int .i64 4), (.int .i64 8)])) h1 fun h3 => 
  ∃ x4 : Int, ∃ x5 : Int, ∃ x6 : Int, ∃ x7 : Int, ∃ x8 : Int, ∃ x9 : Int, ∃ x10 : Int, HV Try.prog (Instr.loadAt 24 (.pointer (some a2))) h3 (.agg #[(.int .i64 x4), (.int .i64 x5), (.int .i64 x6), (.int .i64 x7), (.int .i64 x8), (.int .i64 x9), (.int .i64 x10)]) ∧ K (.agg #[(.int .i64 x4), (.int .i64 x5), (.int .i64 x6), (.int .i64 x7), (.int .i64 x8), (.int .i64 x9), (.int .i64 x10)]) h3
def quintetlaw11_example_lp (i : Nat) (Q : Qx) (tm : Tm) (h : Hp) : Prop := False
def quintetlaw11_example_cut (i : Nat) : Option (List Nat) := none
set_option maxRecDepth 100000 in
theorem quintetlaw11_example_eq (h : Hp) (K : Value → Hp → Prop) : quintetlaw11_example  h K =
    codeWp Try.prog 2 quintetlaw11_example_lp quintetlaw11_example_cut (bodyOf Try.f17) 1 (endQ Try.prog Try.f17.results.toList K) (argTm []) h := by kernel_rfl
set_option maxRecDepth 100000 in
theorem quintetlaw11_example_ok {h : Hp} {K : Value → Hp → Prop} (H : quintetlaw11_example  h K) : CallsH Try.prog 17 #[] h K :=
  calls_of (args := []) (n := 2) (lp := quintetlaw11_example_lp) (cut := quintetlaw11_example_cut) Try.func17 (c := bodyOf Try.f17) (by kernel_rfl) (by kernel_rfl) (by kernel_rfl) (good_by (c := (bodyOf Try.f17)) (i := 1) (l := []) (by kernel_rfl) (fun _ h => by cases h))
    (Eq.mp (quintetlaw11_example_eq  h K) H)

/-! ### quintet/quintetlaw11.every: function 20 -/
def quintetlaw11_every (x1 : Int) (x2 : Int) (h : Hp) (K : Value → Hp → Prop) : Prop :=
  newC h (.cells #[(.int .i64 0), (.int .u32 0), (.int .i64 0), (.int .u32 0), (.int .i64 0), (.int .u16 0), (.int .u16 0), (.int .u16 0), (.int .u16 0), (.int .u8 0), (.int .u8 0), (.int .i64 0)] 55 (0, 0)) fun a4 h3 => 
  HU Try.prog (Instr.storeAt 55 (.pointer (some a4)) (.agg #[(.int .i64 x1), (.int .u32 0), (.int .i64 0), (.int .u32 0), (.int .i64 0), (.int .u16 0), (.int .u16 65535), (.int .u16 0), (.int .u16 65535), (.int .u8 0), (.int .u8 0), (.int .i64 x2)])) h3 fun h5 => 
  ∃ x6 : Int, ∃ x7 : Int, ∃ x8 : Int, ∃ x9 : Int, ∃ x10 : Int, ∃ x11 : Int, ∃ x12 : Int, ∃ x13 : Int, ∃ x14 : Int, ∃ x15 : Int, ∃ x16 : Int, ∃ x17 : Int, HV Try.prog (Instr.loadAt 55 (.pointer (some a4))) h5 (.agg #[(.int .i64 x6), (.int .u32 x7), (.int .i64 x8), (.int .u32 x9), (.int .i64 x10), (.int .u16 x11), (.int .u16 x12), (.int .u16 x13), (.int .u16 x14), (.int .u8 x15), (.int .u8 x16), (.int .i64 x17)]) ∧ K (.agg #[(.int .i64 x6), (.int .u32 x7), (.int .i64 x8), (.int .u32 x9), (.int .i64 x10), (.int .u16 x11), (.int .u16 x12), (.int .u16 x13), (.int .u16 x14), (.int .u8 x15), (.int .u8 x16), (.int .i64 x17)]) h5
def quintetlaw11_every_lp (i : Nat) (Q : Qx) (tm : Tm) (h : Hp) : Prop := False
def quintetlaw11_every_cut (i : Nat) : Option (List Nat) := none
set_option maxRecDepth 100000 in
theorem quintetlaw11_every_eq (x1 : Int) (x2 : Int) (h : Hp) (K : Value → Hp → Prop) : quintetlaw11_every x1 x2 h K =
    codeWp Try.prog 10 quintetlaw11_every_lp quintetlaw11_every_cut (bodyOf Try.f20) 1 (endQ Try.prog Try.f20.results.toList K) (argTm [(.int .i64 x1), (.int .i64 x2)]) h := by kernel_rfl
set_option maxRecDepth 100000 in
theorem quintetlaw11_every_ok (x1 : Int) (x2 : Int) {h : Hp} {K : Value → Hp → Prop} (H : quintetlaw11_every x1 x2 h K) : CallsH Try.prog 20 #[(.int .i64 x1), (.int .i64 x2)] h K :=
  calls_of (args := [(.int .i64 x1), (.int .i64 x2)]) (n := 10) (lp := quintetlaw11_every_lp) (cut := quintetlaw11_every_cut) Try.func20 (c := bodyOf Try.f20) (by kernel_rfl) (by kernel_rfl) (by kernel_rfl) (good_by (c := (bodyOf Try.f20)) (i := 1) (l := []) (by kernel_rfl) (fun _ h => by cases h))
    (Eq.mp (quintetlaw11_every_eq x1 x2 h K) H)

/-! ### quintet/quintetref11.Check: function 9 -/
def quintetref11_Check_j3 (K0 : Int → Hp → Prop) (a59 : Addr) (b60 : Bool) (b61 : Bool) (h : Hp) : Prop :=
  br (!b60)
  (K0 110 h)
  (br (!b61)
  (K0 110 h)
  (∃ x67 : Int, HV Try.prog (Instr.loadAt 3 (.pointer (some (a59.add 5)))) h (.int .i64 x67) ∧ 
  br (decide (x67 < 1))
  (K0 110 h)
  (∃ x68 : Int, HV Try.prog (Instr.loadAt 3 (.pointer (some (a59.add 5)))) h (.int .i64 x68) ∧ 
  br (decide (x68 > 16))
  (K0 110 h)
  (∃ x69 : Int, HV Try.prog (Instr.loadAt 3 (.pointer (some (a59.add 6)))) h (.int .i64 x69) ∧ 
  br (decide (x69 < 0))
  (K0 110 h)
  (∃ x70 : Int, HV Try.prog (Instr.loadAt 3 (.pointer (some (a59.add 6)))) h (.int .i64 x70) ∧ 
  br (decide (x70 > 10))
  (K0 110 h)
  (K0 0 h))))))
def quintetref11_Check_j3_L (Q : Qx) (tm : Tm) (h : Hp) : Prop :=
  selA (tm 1) fun a59 =>
  selB (tm 3) fun b60 =>
  selB (tm 4) fun b61 =>
  quintetref11_Check_j3 (fun (x66 : Int) h => Q (.ret) (mkTm [(2, some (.int .i64 x66))]) h) a59 b60 b61 h
def quintetref11_Check_j2 (K0 : Int → Hp → Prop) (a14 : Addr) (b15 : Bool) (h : Hp) : Prop :=
  ∃ x71 : Int, HV Try.prog (Instr.loadAt 3 (.pointer (some (a14.add 2)))) h (.int .i64 x71) ∧ 
  br (decide (x71 ≥ 0))
  (∃ x72 : Int, HV Try.prog (Instr.loadAt 3 (.pointer (some (a14.add 2)))) h (.int .i64 x72) ∧ 
  br (decide (x72 ≤ 1048576))
  (∃ x73 : Int, HV Try.prog (Instr.loadAt 3 (.pointer (some (a14.add 3)))) h (.int .i64 x73) ∧ 
  br (decide (x73 ≥ 0))
  (∃ x74 : Int, HV Try.prog (Instr.loadAt 3 (.pointer (some (a14.add 3)))) h (.int .i64 x74) ∧ 
  br (decide (x74 ≤ 1048576))
  (∃ x75 : Int, HV Try.prog (Instr.loadAt 3 (.pointer (some (a14.add 4)))) h (.int .i64 x75) ∧ 
  br (decide (x75 ≥ 0))
  (∃ x76 : Int, HV Try.prog (Instr.loadAt 3 (.pointer (some (a14.add 4)))) h (.int .i64 x76) ∧ 
  quintetref11_Check_j3
  (fun (x77 : Int) (h78 : Hp) =>
  K0 x77 h78)
  a14 b15 (decide (x76 ≤ 1048576)) h)
  (quintetref11_Check_j3
  (fun (x79 : Int) (h80 : Hp) =>
  K0 x79 h80)
  a14 b15 false h))
  (quintetref11_Check_j3
  (fun (x81 : Int) (h82 : Hp) =>
  K0 x81 h82)
  a14 b15 false h))
  (quintetref11_Check_j3
  (fun (x83 : Int) (h84 : Hp) =>
  K0 x83 h84)
  a14 b15 false h))
  (quintetref11_Check_j3
  (fun (x85 : Int) (h86 : Hp) =>
  K0 x85 h86)
  a14 b15 false h))
  (quintetref11_Check_j3
  (fun (x87 : Int) (h88 : Hp) =>
  K0 x87 h88)
  a14 b15 false h)
def quintetref11_Check_j2_L (Q : Qx) (tm : Tm) (h : Hp) : Prop :=
  selA (tm 1) fun a14 =>
  selB (tm 3) fun b15 =>
  quintetref11_Check_j2 (fun (x52 : Int) h => Q (.ret) (mkTm [(2, some (.int .i64 x52))]) h) a14 b15 h
def quintetref11_Check (x1 : Int) (x2 : Int) (x3 : Int) (x4 : Int) (x5 : Int) (x6 : Int) (x7 : Int) (h : Hp) (K : Value → Hp → Prop) : Prop :=
  newC h (.cells #[(.int .i64 x1), (.int .i64 x2), (.int .i64 x3), (.int .i64 x4), (.int .i64 x5), (.int .i64 x6), (.int .i64 x7)] 24 (0, 0)) fun a9 h8 => 
  ∃ x89 : Int, HV Try.prog (Instr.loadAt 3 (.pointer (some a9))) h8 (.int .i64 x89) ∧ 
  br (decide (x89 ≥ 1))
  (∃ x90 : Int, HV Try.prog (Instr.loadAt 3 (.pointer (some a9))) h8 (.int .i64 x90) ∧ 
  br (decide (x90 ≤ 64))
  (∃ x91 : Int, HV Try.prog (Instr.loadAt 22 (.pointer (some (a9.add 1)))) h8 (.int .i64 x91) ∧ 
  br (decide (x91 ≥ 1))
  (∃ x92 : Int, HV Try.prog (Instr.loadAt 22 (.pointer (some (a9.add 1)))) h8 (.int .i64 x92) ∧ 
  quintetref11_Check_j2
  (fun (x93 : Int) (h94 : Hp) =>
  K (.int .i64 x93) h94)
  a9 (decide (x92 ≤ 4)) h8)
  (quintetref11_Check_j2
  (fun (x95 : Int) (h96 : Hp) =>
  K (.int .i64 x95) h96)
  a9 false h8))
  (quintetref11_Check_j2
  (fun (x97 : Int) (h98 : Hp) =>
  K (.int .i64 x97) h98)
  a9 false h8))
  (quintetref11_Check_j2
  (fun (x99 : Int) (h100 : Hp) =>
  K (.int .i64 x99) h100)
  a9 false h8)
def quintetref11_Check_lp (i : Nat) (Q : Qx) (tm : Tm) (h : Hp) : Prop := match Nat.beq i 7 with
  | true => quintetref11_Check_j3_L Q tm h
  | false => match Nat.beq i 3 with
  | true => quintetref11_Check_j2_L Q tm h
  | false => False
def quintetref11_Check_cut (i : Nat) : Option (List Nat) := match Nat.beq i 3 with
  | true => some [1, 3]
  | false => match Nat.beq i 7 with
  | true => some [1, 3, 4]
  | false => none
set_option maxRecDepth 100000 in
theorem quintetref11_Check_j3_step (Q : Qx) (a59 : Addr) (b60 : Bool) (b61 : Bool) (h : Hp) : quintetref11_Check_j3_L Q (mkTm [(1, some (.pointer (some a59))), (3, some (.bool b60)), (4, some (.bool b61))]) h =
    codeWp Try.prog 77 quintetref11_Check_lp quintetref11_Check_cut (sub (bodyOf Try.f9) [true, true, true]) 15 (maskQ (fun e => match e with | .ret => [2] | _ => []) Q) (mkTm [(1, some (.pointer (some a59))), (3, some (.bool b60)), (4, some (.bool b61))]) h := by kernel_rfl
theorem quintetref11_Check_j3_mask (Q : Qx) (tm : Tm) (h : Hp) : quintetref11_Check_j3_L Q tm h ↔ quintetref11_Check_j3_L Q (mask [1, 3, 4] tm) h := Iff.rfl
set_option maxRecDepth 100000 in
theorem quintetref11_Check_j3_snd : SndAt Try.prog 77 none (sub (bodyOf Try.f9) [true, true, true]) (quintetref11_Check_lp 7) := by
  refine join_sound (lp := quintetref11_Check_lp) (cut := quintetref11_Check_cut) (i := 7) (c := (sub (bodyOf Try.f9) [true, true, true])) [1, 3, 4] (fun e => match e with | .ret => [2] | _ => []) quintetref11_Check_j3_L ?_ ?_
  · exact good_by (c := (sub (bodyOf Try.f9) [true, true, true])) (i := 15) (l := []) (by kernel_rfl) (fun _ h => by cases h)
  · intro Q tm h H
    have H0 := H
    obtain ⟨a59, e1, H⟩ := selA_ex H
    obtain ⟨b60, e3, H⟩ := selB_ex H
    obtain ⟨b61, e4, H⟩ := selB_ex H
    have e : mask [1, 3, 4] tm = mkTm [(1, some (.pointer (some a59))), (3, some (.bool b60)), (4, some (.bool b61))] := by simp only [mask, List.map_cons, List.map_nil, e1, e3, e4] <;> rfl
    rw [e]
    refine Eq.mp (quintetref11_Check_j3_step Q a59 b60 b61 h) ?_
    rw [← e]
    exact (quintetref11_Check_j3_mask Q tm h).mp H0
set_option maxRecDepth 100000 in
theorem quintetref11_Check_j2_step (Q : Qx) (a14 : Addr) (b15 : Bool) (h : Hp) : quintetref11_Check_j2_L Q (mkTm [(1, some (.pointer (some a14))), (3, some (.bool b15))]) h =
    codeWp Try.prog 77 quintetref11_Check_lp quintetref11_Check_cut (sub (bodyOf Try.f9) [true, true]) 7 (maskQ (fun e => match e with | .ret => [2] | _ => []) Q) (mkTm [(1, some (.pointer (some a14))), (3, some (.bool b15))]) h := by kernel_rfl
theorem quintetref11_Check_j2_mask (Q : Qx) (tm : Tm) (h : Hp) : quintetref11_Check_j2_L Q tm h ↔ quintetref11_Check_j2_L Q (mask [1, 3] tm) h := Iff.rfl
set_option maxRecDepth 100000 in
theorem quintetref11_Check_j2_snd : SndAt Try.prog 77 none (sub (bodyOf Try.f9) [true, true]) (quintetref11_Check_lp 3) := by
  refine join_sound (lp := quintetref11_Check_lp) (cut := quintetref11_Check_cut) (i := 3) (c := (sub (bodyOf Try.f9) [true, true])) [1, 3] (fun e => match e with | .ret => [2] | _ => []) quintetref11_Check_j2_L ?_ ?_
  · exact good_by (c := (sub (bodyOf Try.f9) [true, true])) (i := 7) (l := [(7, (sub (bodyOf Try.f9) [true, true, true]))]) (by kernel_rfl) (List.forall_mem_cons.2 ⟨quintetref11_Check_j3_snd, (fun _ h => by cases h)⟩)
  · intro Q tm h H
    have H0 := H
    obtain ⟨a14, e1, H⟩ := selA_ex H
    obtain ⟨b15, e3, H⟩ := selB_ex H
    have e : mask [1, 3] tm = mkTm [(1, some (.pointer (some a14))), (3, some (.bool b15))] := by simp only [mask, List.map_cons, List.map_nil, e1, e3] <;> rfl
    rw [e]
    refine Eq.mp (quintetref11_Check_j2_step Q a14 b15 h) ?_
    rw [← e]
    exact (quintetref11_Check_j2_mask Q tm h).mp H0
set_option maxRecDepth 100000 in
theorem quintetref11_Check_eq (x1 : Int) (x2 : Int) (x3 : Int) (x4 : Int) (x5 : Int) (x6 : Int) (x7 : Int) (h : Hp) (K : Value → Hp → Prop) : quintetref11_Check x1 x2 x3 x4 x5 x6 x7 h K =
    codeWp Try.prog 77 quintetref11_Check_lp quintetref11_Check_cut (bodyOf Try.f9) 1 (endQ Try.prog Try.f9.results.toList K) (argTm [(.agg #[(.int .i64 x1), (.int .i64 x2), (.int .i64 x3), (.int .i64 x4), (.int .i64 x5), (.int .i64 x6), (.int .i64 x7)])]) h := by kernel_rfl
set_option maxRecDepth 100000 in
theorem quintetref11_Check_ok (x1 : Int) (x2 : Int) (x3 : Int) (x4 : Int) (x5 : Int) (x6 : Int) (x7 : Int) {h : Hp} {K : Value → Hp → Prop} (H : quintetref11_Check x1 x2 x3 x4 x5 x6 x7 h K) : CallsH Try.prog 9 #[(.agg #[(.int .i64 x1), (.int .i64 x2), (.int .i64 x3), (.int .i64 x4), (.int .i64 x5), (.int .i64 x6), (.int .i64 x7)])] h K :=
  calls_of (args := [(.agg #[(.int .i64 x1), (.int .i64 x2), (.int .i64 x3), (.int .i64 x4), (.int .i64 x5), (.int .i64 x6), (.int .i64 x7)])]) (n := 77) (lp := quintetref11_Check_lp) (cut := quintetref11_Check_cut) Try.func9 (c := bodyOf Try.f9) (by kernel_rfl) (by kernel_rfl) (by kernel_rfl) (good_by (c := (bodyOf Try.f9)) (i := 1) (l := [(3, (sub (bodyOf Try.f9) [true, true]))]) (by kernel_rfl) (List.forall_mem_cons.2 ⟨quintetref11_Check_j2_snd, (fun _ h => by cases h)⟩))
    (Eq.mp (quintetref11_Check_eq x1 x2 x3 x4 x5 x6 x7 h K) H)

/-! ### quintet/quintetlaw11.awake: function 12 -/
def quintetlaw11_awake_j1 (K0 : Bool → Hp → Prop) (p15 : Option Addr) (h : Hp) : Prop :=
  CallsH Try.prog 20 #[(.int .i64 1), (.int .i64 2)] h fun r101 h100 =>
  ∃ x102 : Int, ∃ x103 : Int, ∃ x104 : Int, ∃ x105 : Int, ∃ x106 : Int, ∃ x107 : Int, ∃ x108 : Int, ∃ x109 : Int, ∃ x110 : Int, ∃ x111 : Int, ∃ x112 : Int, ∃ x113 : Int, r101 = (.agg #[(.int .i64 x102), (.int .u32 x103), (.int .i64 x104), (.int .u32 x105), (.int .i64 x106), (.int .u16 x107), (.int .u16 x108), (.int .u16 x109), (.int .u16 x110), (.int .u8 x111), (.int .u8 x112), (.int .i64 x113)]) ∧ 
  CallsH Try.prog 19 #[(.pointer p15), (.int .i64 0), (.agg #[(.int .i64 x102), (.int .u32 x103), (.int .i64 x104), (.int .u32 x105), (.int .i64 x106), (.int .u16 x107), (.int .u16 x108), (.int .u16 x109), (.int .u16 x110), (.int .u8 x111), (.int .u8 x112), (.int .i64 x113)])] h100 fun r115 h114 =>
  ∃ x116 : Int, r115 = (.int .i64 x116) ∧ 
  CallsH Try.prog 20 #[(.int .i64 2), (.int .i64 3)] h114 fun r118 h117 =>
  ∃ x119 : Int, ∃ x120 : Int, ∃ x121 : Int, ∃ x122 : Int, ∃ x123 : Int, ∃ x124 : Int, ∃ x125 : Int, ∃ x126 : Int, ∃ x127 : Int, ∃ x128 : Int, ∃ x129 : Int, ∃ x130 : Int, r118 = (.agg #[(.int .i64 x119), (.int .u32 x120), (.int .i64 x121), (.int .u32 x122), (.int .i64 x123), (.int .u16 x124), (.int .u16 x125), (.int .u16 x126), (.int .u16 x127), (.int .u8 x128), (.int .u8 x129), (.int .i64 x130)]) ∧ 
  CallsH Try.prog 19 #[(.pointer p15), (.int .i64 0), (.agg #[(.int .i64 x119), (.int .u32 x120), (.int .i64 x121), (.int .u32 x122), (.int .i64 x123), (.int .u16 x124), (.int .u16 x125), (.int .u16 x126), (.int .u16 x127), (.int .u8 x128), (.int .u8 x129), (.int .i64 x130)])] h117 fun r132 h131 =>
  ∃ x133 : Int, r132 = (.int .i64 x133) ∧ 
  CallsH Try.prog 20 #[(.int .i64 3), (.int .i64 3)] h131 fun r135 h134 =>
  ∃ x136 : Int, ∃ x137 : Int, ∃ x138 : Int, ∃ x139 : Int, ∃ x140 : Int, ∃ x141 : Int, ∃ x142 : Int, ∃ x143 : Int, ∃ x144 : Int, ∃ x145 : Int, ∃ x146 : Int, ∃ x147 : Int, r135 = (.agg #[(.int .i64 x136), (.int .u32 x137), (.int .i64 x138), (.int .u32 x139), (.int .i64 x140), (.int .u16 x141), (.int .u16 x142), (.int .u16 x143), (.int .u16 x144), (.int .u8 x145), (.int .u8 x146), (.int .i64 x147)]) ∧ 
  CallsH Try.prog 19 #[(.pointer p15), (.int .i64 0), (.agg #[(.int .i64 x136), (.int .u32 x137), (.int .i64 x138), (.int .u32 x139), (.int .i64 x140), (.int .u16 x141), (.int .u16 x142), (.int .u16 x143), (.int .u16 x144), (.int .u8 x145), (.int .u8 x146), (.int .i64 x147)])] h134 fun r149 h148 =>
  ∃ x150 : Int, r149 = (.int .i64 x150) ∧ 
  CallsH Try.prog 16 #[(.pointer p15), (.agg #[(.int .u32 0), (.int .u32 0), (.int .u16 0), (.int .u16 0), (.int .u8 0)])] h148 fun r152 h151 =>
  ∃ b153 : Bool, ∃ x154 : Int, ∃ x155 : Int, ∃ x156 : Int, r152 = (.tuple #[(.agg #[(.bool b153), (.int .i64 x154), (.int .i64 x155)]), (.int .i64 x156)]) ∧ 
  newC h151 (.cells #[(.bool false), (.int .i64 0), (.int .i64 0)] 40 (0, 0)) fun a158 h157 => 
  HU Try.prog (Instr.storeAt 40 (.pointer (some a158)) (.agg #[(.bool b153), (.int .i64 x154), (.int .i64 x155)])) h157 fun h159 => 
  CallsH Try.prog 28 #[(.pointer p15), (.int .i64 2), (.int .i64 1)] h159 fun r161 h160 =>
  ∃ x162 : Int, r161 = (.int .i64 x162) ∧ 
  CallsH Try.prog 16 #[(.pointer p15), (.agg #[(.int .u32 9), (.int .u32 0), (.int .u16 0), (.int .u16 0), (.int .u8 0)])] h160 fun r164 h163 =>
  ∃ b165 : Bool, ∃ x166 : Int, ∃ x167 : Int, ∃ x168 : Int, r164 = (.tuple #[(.agg #[(.bool b165), (.int .i64 x166), (.int .i64 x167)]), (.int .i64 x168)]) ∧ 
  newC h163 (.cells #[(.bool false), (.int .i64 0), (.int .i64 0)] 40 (0, 0)) fun a170 h169 => 
  HU Try.prog (Instr.storeAt 40 (.pointer (some a170)) (.agg #[(.bool b165), (.int .i64 x166), (.int .i64 x167)])) h169 fun h171 => 
  br (x116 == 0)
  (br (x133 == 0)
  (br (x150 == 113)
  (br (x156 == 0)
  (∃ b172 : Bool, ∃ x173 : Int, ∃ x174 : Int, HV Try.prog (Instr.loadAt 40 (.pointer (some a158))) h171 (.agg #[(.bool b172), (.int .i64 x173), (.int .i64 x174)]) ∧ 
  ∃ b175 : Bool, PV Try.prog (binOp .eql 40 (.agg #[(.bool b172), (.int .i64 x173), (.int .i64 x174)]) (.agg #[(.bool true), (.int .i64 2), (.int .i64 3)])) (.bool b175) ∧
  br b175
  (br (x162 == 0)
  (∃ x176 : Int, HV Try.prog (Instr.loadAt 3 (.pointer (some (a170.add 1)))) h171 (.int .i64 x176) ∧ 
  br (x176 == 1)
  (CallsH Try.prog 18 #[(.pointer p15), (.int .i64 1)] h171 fun r178 h177 =>
  ∃ x179 : Int, r178 = (.int .i64 x179) ∧ 
  br (x179 == 0)
  (CallsH Try.prog 18 #[(.pointer p15), (.int .i64 9)] h177 fun r181 h180 =>
  ∃ x182 : Int, r181 = (.int .i64 x182) ∧ 
  K0 (x182 == (-1)) h180)
  (K0 false h177))
  (K0 false h171))
  (K0 false h171))
  (K0 false h171))
  (K0 false h171))
  (K0 false h171))
  (K0 false h171))
  (K0 false h171)
def quintetlaw11_awake_j1_L (Q : Qx) (tm : Tm) (h : Hp) : Prop :=
  selP (tm 1) fun p15 =>
  quintetlaw11_awake_j1 (fun (b99 : Bool) h => Q (.ret) (mkTm [(0, some (.bool b99))]) h) p15 h
def quintetlaw11_awake (h : Hp) (K : Value → Hp → Prop) : Prop :=
  CallsH Try.prog 17 #[] h fun r2 h1 =>
  ∃ x3 : Int, ∃ x4 : Int, ∃ x5 : Int, ∃ x6 : Int, ∃ x7 : Int, ∃ x8 : Int, ∃ x9 : Int, r2 = (.agg #[(.int .i64 x3), (.int .i64 x4), (.int .i64 x5), (.int .i64 x6), (.int .i64 x7), (.int .i64 x8), (.int .i64 x9)]) ∧ 
  CallsH Try.prog 10 #[(.agg #[(.int .i64 x3), (.int .i64 x4), (.int .i64 x5), (.int .i64 x6), (.int .i64 x7), (.int .i64 x8), (.int .i64 x9)])] h1 fun r11 h10 =>
  ∃ p12 : Option Addr, ∃ x13 : Int, r11 = (.tuple #[(.pointer p12), (.int .i64 x13)]) ∧ 
  ∃ b183 : Bool, PV Try.prog (binOp .eql 27 (.pointer p12) (.pointer none)) (.bool b183) ∧
  br b183
  (K (.bool false) h10)
  (br (x13 != 0)
  (K (.bool false) h10)
  (quintetlaw11_awake_j1
  (fun (b184 : Bool) (h185 : Hp) =>
  K (.bool b184) h185)
  p12 h10))
def quintetlaw11_awake_lp (i : Nat) (Q : Qx) (tm : Tm) (h : Hp) : Prop := match Nat.beq i 7 with
  | true => quintetlaw11_awake_j1_L Q tm h
  | false => False
def quintetlaw11_awake_cut (i : Nat) : Option (List Nat) := match Nat.beq i 7 with
  | true => some [1]
  | false => none
set_option maxRecDepth 100000 in
theorem quintetlaw11_awake_j1_step (Q : Qx) (p15 : Option Addr) (h : Hp) : quintetlaw11_awake_j1_L Q (mkTm [(1, some (.pointer p15))]) h =
    codeWp Try.prog 83 quintetlaw11_awake_lp quintetlaw11_awake_cut (sub (bodyOf Try.f12) [true, true, true]) 15 (maskQ (fun e => match e with | .ret => [0] | _ => []) Q) (mkTm [(1, some (.pointer p15))]) h := by kernel_rfl
theorem quintetlaw11_awake_j1_mask (Q : Qx) (tm : Tm) (h : Hp) : quintetlaw11_awake_j1_L Q tm h ↔ quintetlaw11_awake_j1_L Q (mask [1] tm) h := Iff.rfl
set_option maxRecDepth 100000 in
theorem quintetlaw11_awake_j1_snd : SndAt Try.prog 83 none (sub (bodyOf Try.f12) [true, true, true]) (quintetlaw11_awake_lp 7) := by
  refine join_sound (lp := quintetlaw11_awake_lp) (cut := quintetlaw11_awake_cut) (i := 7) (c := (sub (bodyOf Try.f12) [true, true, true])) [1] (fun e => match e with | .ret => [0] | _ => []) quintetlaw11_awake_j1_L ?_ ?_
  · exact good_by (c := (sub (bodyOf Try.f12) [true, true, true])) (i := 15) (l := []) (by kernel_rfl) (fun _ h => by cases h)
  · intro Q tm h H
    have H0 := H
    obtain ⟨p15, e1, H⟩ := selP_ex H
    have e : mask [1] tm = mkTm [(1, some (.pointer p15))] := by simp only [mask, List.map_cons, List.map_nil, e1] <;> rfl
    rw [e]
    refine Eq.mp (quintetlaw11_awake_j1_step Q p15 h) ?_
    rw [← e]
    exact (quintetlaw11_awake_j1_mask Q tm h).mp H0
set_option maxRecDepth 100000 in
theorem quintetlaw11_awake_eq (h : Hp) (K : Value → Hp → Prop) : quintetlaw11_awake  h K =
    codeWp Try.prog 83 quintetlaw11_awake_lp quintetlaw11_awake_cut (bodyOf Try.f12) 1 (endQ Try.prog Try.f12.results.toList K) (argTm []) h := by kernel_rfl
set_option maxRecDepth 100000 in
theorem quintetlaw11_awake_ok {h : Hp} {K : Value → Hp → Prop} (H : quintetlaw11_awake  h K) : CallsH Try.prog 12 #[] h K :=
  calls_of (args := []) (n := 83) (lp := quintetlaw11_awake_lp) (cut := quintetlaw11_awake_cut) Try.func12 (c := bodyOf Try.f12) (by kernel_rfl) (by kernel_rfl) (by kernel_rfl) (good_by (c := (bodyOf Try.f12)) (i := 1) (l := [(7, (sub (bodyOf Try.f12) [true, true, true]))]) (by kernel_rfl) (List.forall_mem_cons.2 ⟨quintetlaw11_awake_j1_snd, (fun _ h => by cases h)⟩))
    (Eq.mp (quintetlaw11_awake_eq  h K) H)

/-! ### quintet/quintetlaw11.TableConfigs: function 3 -/
def quintetlaw11_TableConfigs (x1 : Int) (x2 : Int) (x3 : Int) (x4 : Int) (x5 : Int) (x6 : Int) (x7 : Int) (h : Hp) (K : Value → Hp → Prop) : Prop :=
  newC h (.cells #[(.int .i64 x1), (.int .i64 x2), (.int .i64 x3), (.int .i64 x4), (.int .i64 x5), (.int .i64 x6), (.int .i64 x7)] 24 (0, 0)) fun a9 h8 => 
  ∃ x10 : Int, ∃ x11 : Int, ∃ x12 : Int, ∃ x13 : Int, ∃ x14 : Int, ∃ x15 : Int, ∃ x16 : Int, HV Try.prog (Instr.loadAt 24 (.pointer (some a9))) h8 (.agg #[(.int .i64 x10), (.int .i64 x11), (.int .i64 x12), (.int .i64 x13), (.int .i64 x14), (.int .i64 x15), (.int .i64 x16)]) ∧ 
  CallsH Try.prog 9 #[(.agg #[(.int .i64 x10), (.int .i64 x11), (.int .i64 x12), (.int .i64 x13), (.int .i64 x14), (.int .i64 x15), (.int .i64 x16)])] h8 fun r18 h17 =>
  ∃ x19 : Int, r18 = (.int .i64 x19) ∧ 
  ∃ x20 : Int, ∃ x21 : Int, ∃ x22 : Int, ∃ x23 : Int, ∃ x24 : Int, ∃ x25 : Int, ∃ x26 : Int, HV Try.prog (Instr.loadAt 24 (.pointer (some a9))) h17 (.agg #[(.int .i64 x20), (.int .i64 x21), (.int .i64 x22), (.int .i64 x23), (.int .i64 x24), (.int .i64 x25), (.int .i64 x26)]) ∧ 
  CallsH Try.prog 10 #[(.agg #[(.int .i64 x20), (.int .i64 x21), (.int .i64 x22), (.int .i64 x23), (.int .i64 x24), (.int .i64 x25), (.int .i64 x26)])] h17 fun r28 h27 =>
  ∃ p29 : Option Addr, ∃ x30 : Int, r28 = (.tuple #[(.pointer p29), (.int .i64 x30)]) ∧ 
  ∃ x31 : Int, ∃ x32 : Int, ∃ x33 : Int, ∃ x34 : Int, ∃ x35 : Int, ∃ x36 : Int, ∃ x37 : Int, HV Try.prog (Instr.loadAt 24 (.pointer (some a9))) h27 (.agg #[(.int .i64 x31), (.int .i64 x32), (.int .i64 x33), (.int .i64 x34), (.int .i64 x35), (.int .i64 x36), (.int .i64 x37)]) ∧ 
  CallsH Try.prog 11 #[(.agg #[(.int .i64 x31), (.int .i64 x32), (.int .i64 x33), (.int .i64 x34), (.int .i64 x35), (.int .i64 x36), (.int .i64 x37)])] h27 fun r39 h38 =>
  ∃ x40 : Int, r39 = (.int .i64 x40) ∧ 
  br (x40 != x19)
  (K (.bool false) h38)
  (br (x30 != x19)
  (K (.bool false) h38)
  (∃ b41 : Bool, PV Try.prog (binOp .eql 27 (.pointer p29) (.pointer none)) (.bool b41) ∧
  br (!(b41 == (x19 != 0)))
  (K (.bool false) h38)
  (CallsH Try.prog 12 #[] h38 fun r43 h42 =>
  ∃ b44 : Bool, r43 = (.bool b44) ∧ 
  K (.bool b44) h42)))
def quintetlaw11_TableConfigs_lp (i : Nat) (Q : Qx) (tm : Tm) (h : Hp) : Prop := False
def quintetlaw11_TableConfigs_cut (i : Nat) : Option (List Nat) := none
set_option maxRecDepth 100000 in
theorem quintetlaw11_TableConfigs_eq (x1 : Int) (x2 : Int) (x3 : Int) (x4 : Int) (x5 : Int) (x6 : Int) (x7 : Int) (h : Hp) (K : Value → Hp → Prop) : quintetlaw11_TableConfigs x1 x2 x3 x4 x5 x6 x7 h K =
    codeWp Try.prog 30 quintetlaw11_TableConfigs_lp quintetlaw11_TableConfigs_cut (bodyOf Try.f3) 1 (endQ Try.prog Try.f3.results.toList K) (argTm [(.agg #[(.int .i64 x1), (.int .i64 x2), (.int .i64 x3), (.int .i64 x4), (.int .i64 x5), (.int .i64 x6), (.int .i64 x7)])]) h := by kernel_rfl
set_option maxRecDepth 100000 in
theorem quintetlaw11_TableConfigs_ok (x1 : Int) (x2 : Int) (x3 : Int) (x4 : Int) (x5 : Int) (x6 : Int) (x7 : Int) {h : Hp} {K : Value → Hp → Prop} (H : quintetlaw11_TableConfigs x1 x2 x3 x4 x5 x6 x7 h K) : CallsH Try.prog 3 #[(.agg #[(.int .i64 x1), (.int .i64 x2), (.int .i64 x3), (.int .i64 x4), (.int .i64 x5), (.int .i64 x6), (.int .i64 x7)])] h K :=
  calls_of (args := [(.agg #[(.int .i64 x1), (.int .i64 x2), (.int .i64 x3), (.int .i64 x4), (.int .i64 x5), (.int .i64 x6), (.int .i64 x7)])]) (n := 30) (lp := quintetlaw11_TableConfigs_lp) (cut := quintetlaw11_TableConfigs_cut) Try.func3 (c := bodyOf Try.f3) (by kernel_rfl) (by kernel_rfl) (by kernel_rfl) (good_by (c := (bodyOf Try.f3)) (i := 1) (l := []) (by kernel_rfl) (fun _ h => by cases h))
    (Eq.mp (quintetlaw11_TableConfigs_eq x1 x2 x3 x4 x5 x6 x7 h K) H)

end Go.Proofs.Ytgecabgcjfpenaa.Fs
