/- Printed by sx.py: words over the heap alone for Go functions, and that each call does what its word says. -/
import Derived.Test.YtgecabgcjfpenaaSxSel
import Derived.Test.YtgecabgcjfpenaaProg
namespace Go.Proofs.Ytgecabgcjfpenaa.Fs
open Go Go.RowKit Go.Proofs.Ytgecabgcjfpenaa.Sx
set_option linter.unusedVariables false

/-! ### quintet/quintetlaw11.TableLast: function 5 -/
def quintetlaw11_TableLast_l1 (A54 : Option Addr) (l54 : Nat) (c54 : Nat) (a55 : Addr) (p56 : Option Addr) (a57 : Addr) (x58 : Int) (K0 : (Option Addr) → Nat → Nat → Addr → (Option Addr) → Addr → Int → Int → Hp → Prop)  : Nat → Int → Hp → Prop
  | 0, _, _ => False
  | k + 1, x59, h =>
    CallsH Try.prog 18 #[(.pointer p56), (.int .i64 x59)] h fun r70 h69 =>
    ∃ x71 : Int, r70 = (.int .i64 x71) ∧ 
    br (decide (x71 ≥ 0))
    (quintetlaw11_TableLast_l1 A54 l54 c54 a55 p56 a57 x58 K0 k (IntKind.i64.wrap (x59 + 1)) h69)
    (K0 A54 l54 c54 a55 p56 a57 x58 x59 h69)
def quintetlaw11_TableLast_l1_L (Q : Qx) (k : Nat) (tm : Tm) (h : Hp) : Prop :=
  selS (tm 0) fun A54 l54 c54 =>
  selA (tm 3) fun a55 =>
  selP (tm 6) fun p56 =>
  selA (tm 9) fun a57 =>
  selI .i64 (tm 10) fun x58 =>
  selI .i64 (tm 11) fun x59 =>
  quintetlaw11_TableLast_l1 A54 l54 c54 a55 p56 a57 x58 (fun (A63 : Option Addr) (l63 : Nat) (c63 : Nat) (a64 : Addr) (p65 : Option Addr) (a66 : Addr) (x67 : Int) (x68 : Int) h => Q (.exit 0) (mkTm [(0, some (.slice A63 l63 c63)), (3, some (.pointer (some a64))), (6, some (.pointer p65)), (9, some (.pointer (some a66))), (10, some (.int .i64 x67)), (11, some (.int .i64 x68))]) h) k x59 h
def quintetlaw11_TableLast (A1 : Option Addr) (l1 : Nat) (c1 : Nat) (x2 : Int) (x3 : Int) (x4 : Int) (x5 : Int) (x6 : Int) (h : Hp) (K : Value → Hp → Prop) : Prop :=
  newC h (.cells #[(.int .u32 x2), (.int .u32 x3), (.int .u16 x4), (.int .u16 x5), (.int .u8 x6)] 36 (0, 0)) fun a8 h7 => 
  br (decide ((l1 : Int) ≥ 64))
  (K (.bool true) h7)
  (CallsH Try.prog 17 #[] h7 fun r10 h9 =>
  ∃ x11 : Int, ∃ x12 : Int, ∃ x13 : Int, ∃ x14 : Int, ∃ x15 : Int, ∃ x16 : Int, ∃ x17 : Int, r10 = (.agg #[(.int .i64 x11), (.int .i64 x12), (.int .i64 x13), (.int .i64 x14), (.int .i64 x15), (.int .i64 x16), (.int .i64 x17)]) ∧ 
  newC h9 (.cells #[(.int .i64 0), (.int .i64 0), (.int .i64 0), (.int .i64 0), (.int .i64 0), (.int .i64 0), (.int .i64 0)] 24 (0, 0)) fun a19 h18 => 
  HU Try.prog (Instr.storeAt 24 (.pointer (some a19)) (.agg #[(.int .i64 x11), (.int .i64 x12), (.int .i64 x13), (.int .i64 x14), (.int .i64 x15), (.int .i64 x16), (.int .i64 x17)])) h18 fun h20 => 
  HU Try.prog (Instr.storeAt 3 (.pointer (some a19)) (.int .i64 64)) h20 fun h21 => 
  ∃ x22 : Int, ∃ x23 : Int, ∃ x24 : Int, ∃ x25 : Int, ∃ x26 : Int, ∃ x27 : Int, ∃ x28 : Int, HV Try.prog (Instr.loadAt 24 (.pointer (some a19))) h21 (.agg #[(.int .i64 x22), (.int .i64 x23), (.int .i64 x24), (.int .i64 x25), (.int .i64 x26), (.int .i64 x27), (.int .i64 x28)]) ∧ 
  CallsH Try.prog 10 #[(.agg #[(.int .i64 x22), (.int .i64 x23), (.int .i64 x24), (.int .i64 x25), (.int .i64 x26), (.int .i64 x27), (.int .i64 x28)])] h21 fun r30 h29 =>
  ∃ p31 : Option Addr, ∃ x32 : Int, r30 = (.tuple #[(.pointer p31), (.int .i64 x32)]) ∧ 
  ∃ b33 : Bool, PV Try.prog (binOp .eql 27 (.pointer p31) (.pointer none)) (.bool b33) ∧
  br b33
  (K (.bool false) h29)
  (CallsH Try.prog 14 #[(.pointer p31), (.slice A1 l1 c1)] h29 fun r35 h34 =>
  ∃ x36 : Int, r35 = (.int .i64 x36) ∧ 
  br (x36 != 0)
  (CallsH Try.prog 12 #[] h34 fun r38 h37 =>
  ∃ b39 : Bool, r38 = (.bool b39) ∧ 
  K (.bool b39) h37)
  (∃ x40 : Int, ∃ x41 : Int, ∃ x42 : Int, ∃ x43 : Int, ∃ x44 : Int, HV Try.prog (Instr.loadAt 36 (.pointer (some a8))) h34 (.agg #[(.int .u32 x40), (.int .u32 x41), (.int .u16 x42), (.int .u16 x43), (.int .u8 x44)]) ∧ 
  CallsH Try.prog 16 #[(.pointer p31), (.agg #[(.int .u32 x40), (.int .u32 x41), (.int .u16 x42), (.int .u16 x43), (.int .u8 x44)])] h34 fun r46 h45 =>
  ∃ b47 : Bool, ∃ x48 : Int, ∃ x49 : Int, ∃ x50 : Int, r46 = (.tuple #[(.agg #[(.bool b47), (.int .i64 x48), (.int .i64 x49)]), (.int .i64 x50)]) ∧ 
  newC h45 (.cells #[(.bool false), (.int .i64 0), (.int .i64 0)] 40 (0, 0)) fun a52 h51 => 
  HU Try.prog (Instr.storeAt 40 (.pointer (some a52)) (.agg #[(.bool b47), (.int .i64 x48), (.int .i64 x49)])) h51 fun h53 => 
  ∃ k128, quintetlaw11_TableLast_l1 A1 l1 c1 a8 p31 a52 x50
  (fun (A72 : Option Addr) (l72 : Nat) (c72 : Nat) (a73 : Addr) (p74 : Option Addr) (a75 : Addr) (x76 : Int) (x77 : Int) (h78 : Hp) =>
  CallsH Try.prog 20 #[(.int .i64 x77), (.int .i64 4)] h78 fun r80 h79 =>
  ∃ x81 : Int, ∃ x82 : Int, ∃ x83 : Int, ∃ x84 : Int, ∃ x85 : Int, ∃ x86 : Int, ∃ x87 : Int, ∃ x88 : Int, ∃ x89 : Int, ∃ x90 : Int, ∃ x91 : Int, ∃ x92 : Int, r80 = (.agg #[(.int .i64 x81), (.int .u32 x82), (.int .i64 x83), (.int .u32 x84), (.int .i64 x85), (.int .u16 x86), (.int .u16 x87), (.int .u16 x88), (.int .u16 x89), (.int .u8 x90), (.int .u8 x91), (.int .i64 x92)]) ∧ 
  CallsH Try.prog 19 #[(.pointer p74), (.int .i64 (l72 : Int)), (.agg #[(.int .i64 x81), (.int .u32 x82), (.int .i64 x83), (.int .u32 x84), (.int .i64 x85), (.int .u16 x86), (.int .u16 x87), (.int .u16 x88), (.int .u16 x89), (.int .u8 x90), (.int .u8 x91), (.int .i64 x92)])] h79 fun r94 h93 =>
  ∃ x95 : Int, r94 = (.int .i64 x95) ∧ 
  ∃ x96 : Int, ∃ x97 : Int, ∃ x98 : Int, ∃ x99 : Int, ∃ x100 : Int, HV Try.prog (Instr.loadAt 36 (.pointer (some a73))) h93 (.agg #[(.int .u32 x96), (.int .u32 x97), (.int .u16 x98), (.int .u16 x99), (.int .u8 x100)]) ∧ 
  CallsH Try.prog 16 #[(.pointer p74), (.agg #[(.int .u32 x96), (.int .u32 x97), (.int .u16 x98), (.int .u16 x99), (.int .u8 x100)])] h93 fun r102 h101 =>
  ∃ b103 : Bool, ∃ x104 : Int, ∃ x105 : Int, ∃ x106 : Int, r102 = (.tuple #[(.agg #[(.bool b103), (.int .i64 x104), (.int .i64 x105)]), (.int .i64 x106)]) ∧ 
  newC h101 (.cells #[(.bool false), (.int .i64 0), (.int .i64 0)] 40 (0, 0)) fun a108 h107 => 
  HU Try.prog (Instr.storeAt 40 (.pointer (some a108)) (.agg #[(.bool b103), (.int .i64 x104), (.int .i64 x105)])) h107 fun h109 => 
  ∃ b110 : Bool, HV Try.prog (Instr.loadAt 4 (.pointer (some a75))) h109 (.bool b110) ∧ 
  br b110
  (CallsH Try.prog 12 #[] h109 fun r112 h111 =>
  ∃ b113 : Bool, r112 = (.bool b113) ∧ 
  br b113
  (br (x95 == 0)
  (∃ b114 : Bool, ∃ x115 : Int, ∃ x116 : Int, HV Try.prog (Instr.loadAt 40 (.pointer (some a75))) h111 (.agg #[(.bool b114), (.int .i64 x115), (.int .i64 x116)]) ∧ 
  ∃ b117 : Bool, ∃ x118 : Int, ∃ x119 : Int, HV Try.prog (Instr.loadAt 40 (.pointer (some a108))) h111 (.agg #[(.bool b117), (.int .i64 x118), (.int .i64 x119)]) ∧ 
  ∃ b120 : Bool, PV Try.prog (binOp .eql 40 (.agg #[(.bool b114), (.int .i64 x115), (.int .i64 x116)]) (.agg #[(.bool b117), (.int .i64 x118), (.int .i64 x119)])) (.bool b120) ∧
  br b120
  (K (.bool (x76 == x106)) h111)
  (K (.bool false) h111))
  (K (.bool false) h111))
  (K (.bool false) h111))
  (CallsH Try.prog 12 #[] h109 fun r122 h121 =>
  ∃ b123 : Bool, r122 = (.bool b123) ∧ 
  br b123
  (br (x95 == 0)
  (br (x76 == (-1))
  (br (x106 == (l72 : Int))
  (∃ b124 : Bool, ∃ x125 : Int, ∃ x126 : Int, HV Try.prog (Instr.loadAt 40 (.pointer (some a108))) h121 (.agg #[(.bool b124), (.int .i64 x125), (.int .i64 x126)]) ∧ 
  ∃ b127 : Bool, PV Try.prog (binOp .eql 40 (.agg #[(.bool b124), (.int .i64 x125), (.int .i64 x126)]) (.agg #[(.bool true), (.int .i64 x77), (.int .i64 4)])) (.bool b127) ∧
  K (.bool b127) h121)
  (K (.bool false) h121))
  (K (.bool false) h121))
  (K (.bool false) h121))
  (K (.bool false) h121)))
  k128 1 h53)))
def quintetlaw11_TableLast_lp (i : Nat) (Q : Qx) (tm : Tm) (h : Hp) : Prop := match Nat.beq i 8188 with
  | true => ∃ k, quintetlaw11_TableLast_l1_L Q k tm h
  | false => False
def quintetlaw11_TableLast_cut (i : Nat) : Option (List Nat) := none
set_option maxRecDepth 100000 in
theorem quintetlaw11_TableLast_l1_step (Q : Qx) (k : Nat) (A54 : Option Addr) (l54 : Nat) (c54 : Nat) (a55 : Addr) (p56 : Option Addr) (a57 : Addr) (x58 : Int) (x59 : Int) (h : Hp) : quintetlaw11_TableLast_l1_L Q (k + 1) (mkTm [(0, some (.slice A54 l54 c54)), (3, some (.pointer (some a55))), (6, some (.pointer p56)), (9, some (.pointer (some a57))), (10, some (.int .i64 x58)), (11, some (.int .i64 x59))]) h =
    codeWp Try.prog 95 quintetlaw11_TableLast_lp quintetlaw11_TableLast_cut (sub (bodyOf Try.f5) [true, true, true, true, true, true, true, true, true, true, false, false, false]) 16376 (thenQ (fun tm h => quintetlaw11_TableLast_l1_L Q k (mask [0, 3, 6, 9, 10, 11] tm) h) (maskQ (fun e => match e with | .exit 0 => [0, 3, 6, 9, 10, 11] | _ => []) Q)) (mkTm [(0, some (.slice A54 l54 c54)), (3, some (.pointer (some a55))), (6, some (.pointer p56)), (9, some (.pointer (some a57))), (10, some (.int .i64 x58)), (11, some (.int .i64 x59))]) h := by kernel_rfl
theorem quintetlaw11_TableLast_l1_mask (Q : Qx) (k : Nat) (tm : Tm) (h : Hp) : quintetlaw11_TableLast_l1_L Q k tm h ↔ quintetlaw11_TableLast_l1_L Q k (mask [0, 3, 6, 9, 10, 11] tm) h := Iff.rfl
set_option maxRecDepth 100000 in
theorem quintetlaw11_TableLast_l1_snd : SndAt Try.prog 95 none (sub (bodyOf Try.f5) [true, true, true, true, true, true, true, true, true, true, false, false]) (quintetlaw11_TableLast_lp 8188) := by
  refine loop_sound (lp := quintetlaw11_TableLast_lp) (cut := quintetlaw11_TableLast_cut) (i := 8188) (c := (sub (bodyOf Try.f5) [true, true, true, true, true, true, true, true, true, true, false, false, false])) [0, 3, 6, 9, 10, 11] (fun e => match e with | .exit 0 => [0, 3, 6, 9, 10, 11] | _ => []) quintetlaw11_TableLast_l1_L ?_ ?_ ?_
  · exact good_by (c := (sub (bodyOf Try.f5) [true, true, true, true, true, true, true, true, true, true, false, false, false])) (i := 16376) (l := []) (by kernel_rfl) (fun _ h => by cases h)
  · intro Q tm h H
    obtain ⟨A54, l54, c54, e0, H⟩ := selS_ex H
    obtain ⟨a55, e3, H⟩ := selA_ex H
    obtain ⟨p56, e6, H⟩ := selP_ex H
    obtain ⟨a57, e9, H⟩ := selA_ex H
    obtain ⟨x58, e10, H⟩ := selI_ex H
    obtain ⟨x59, e11, H⟩ := selI_ex H
    exact H
  · intro Q k tm h H
    have H0 := H
    obtain ⟨A54, l54, c54, e0, H⟩ := selS_ex H
    obtain ⟨a55, e3, H⟩ := selA_ex H
    obtain ⟨p56, e6, H⟩ := selP_ex H
    obtain ⟨a57, e9, H⟩ := selA_ex H
    obtain ⟨x58, e10, H⟩ := selI_ex H
    obtain ⟨x59, e11, H⟩ := selI_ex H
    have e : mask [0, 3, 6, 9, 10, 11] tm = mkTm [(0, some (.slice A54 l54 c54)), (3, some (.pointer (some a55))), (6, some (.pointer p56)), (9, some (.pointer (some a57))), (10, some (.int .i64 x58)), (11, some (.int .i64 x59))] := by simp only [mask, List.map_cons, List.map_nil, e0, e3, e6, e9, e10, e11] <;> rfl
    rw [e]
    refine Eq.mp (quintetlaw11_TableLast_l1_step Q k A54 l54 c54 a55 p56 a57 x58 x59 h) ?_
    rw [← e]
    exact (quintetlaw11_TableLast_l1_mask Q (k + 1) tm h).mp H0
set_option maxRecDepth 100000 in
theorem quintetlaw11_TableLast_eq (A1 : Option Addr) (l1 : Nat) (c1 : Nat) (x2 : Int) (x3 : Int) (x4 : Int) (x5 : Int) (x6 : Int) (h : Hp) (K : Value → Hp → Prop) : quintetlaw11_TableLast A1 l1 c1 x2 x3 x4 x5 x6 h K =
    codeWp Try.prog 95 quintetlaw11_TableLast_lp quintetlaw11_TableLast_cut (bodyOf Try.f5) 1 (endQ Try.prog Try.f5.results.toList K) (argTm [(.slice A1 l1 c1), (.agg #[(.int .u32 x2), (.int .u32 x3), (.int .u16 x4), (.int .u16 x5), (.int .u8 x6)])]) h := by kernel_rfl
set_option maxRecDepth 100000 in
theorem quintetlaw11_TableLast_ok (A1 : Option Addr) (l1 : Nat) (c1 : Nat) (x2 : Int) (x3 : Int) (x4 : Int) (x5 : Int) (x6 : Int) {h : Hp} {K : Value → Hp → Prop} (H : quintetlaw11_TableLast A1 l1 c1 x2 x3 x4 x5 x6 h K) : CallsH Try.prog 5 #[(.slice A1 l1 c1), (.agg #[(.int .u32 x2), (.int .u32 x3), (.int .u16 x4), (.int .u16 x5), (.int .u8 x6)])] h K :=
  calls_of (args := [(.slice A1 l1 c1), (.agg #[(.int .u32 x2), (.int .u32 x3), (.int .u16 x4), (.int .u16 x5), (.int .u8 x6)])]) (n := 95) (lp := quintetlaw11_TableLast_lp) (cut := quintetlaw11_TableLast_cut) Try.func5 (c := bodyOf Try.f5) (by kernel_rfl) (by kernel_rfl) (by kernel_rfl) (good_by (c := (bodyOf Try.f5)) (i := 1) (l := [(8188, (sub (bodyOf Try.f5) [true, true, true, true, true, true, true, true, true, true, false, false]))]) (by kernel_rfl) (List.forall_mem_cons.2 ⟨quintetlaw11_TableLast_l1_snd, (fun _ h => by cases h)⟩))
    (Eq.mp (quintetlaw11_TableLast_eq A1 l1 c1 x2 x3 x4 x5 x6 h K) H)

/-! ### quintet/quintetlaw11.TableBack: function 6 -/
def quintetlaw11_TableBack_j2 (K0 : Bool → Hp → Prop) (A97 : Option Addr) (l97 : Nat) (c97 : Nat) (x98 : Int) (a99 : Addr) (p100 : Option Addr) (a101 : Addr) (h : Hp) : Prop :=
  ∃ x170 : Int, ∃ x171 : Int, ∃ x172 : Int, ∃ x173 : Int, ∃ x174 : Int, HV Try.prog (Instr.loadAt 36 (.pointer (some a99))) h (.agg #[(.int .u32 x170), (.int .u32 x171), (.int .u16 x172), (.int .u16 x173), (.int .u8 x174)]) ∧ 
  CallsH Try.prog 16 #[(.pointer p100), (.agg #[(.int .u32 x170), (.int .u32 x171), (.int .u16 x172), (.int .u16 x173), (.int .u8 x174)])] h fun r176 h175 =>
  ∃ b177 : Bool, ∃ x178 : Int, ∃ x179 : Int, ∃ x180 : Int, r176 = (.tuple #[(.agg #[(.bool b177), (.int .i64 x178), (.int .i64 x179)]), (.int .i64 x180)]) ∧ 
  newC h175 (.cells #[(.bool false), (.int .i64 0), (.int .i64 0)] 40 (0, 0)) fun a182 h181 => 
  HU Try.prog (Instr.storeAt 40 (.pointer (some a182)) (.agg #[(.bool b177), (.int .i64 x178), (.int .i64 x179)])) h181 fun h183 => 
  ∃ x184 : Int, HV Try.prog (Instr.loadAt 3 (.pointer (some a101))) h183 (.int .i64 x184) ∧ 
  CallsH Try.prog 23 #[(.pointer p100), (.int .i64 x184)] h183 fun r186 h185 =>
  ∃ x187 : Int, r186 = (.int .i64 x187) ∧ 
  ∃ x188 : Int, HV Try.prog (Instr.loadAt 3 (.pointer (some a101))) h185 (.int .i64 x188) ∧ 
  CallsH Try.prog 18 #[(.pointer p100), (.int .i64 x188)] h185 fun r190 h189 =>
  ∃ x191 : Int, r190 = (.int .i64 x191) ∧ 
  ∃ x192 : Int, ∃ x193 : Int, ∃ x194 : Int, ∃ x195 : Int, ∃ x196 : Int, ∃ x197 : Int, ∃ x198 : Int, ∃ x199 : Int, ∃ x200 : Int, ∃ x201 : Int, ∃ x202 : Int, ∃ x203 : Int, HV Try.prog (Instr.loadAt 55 (.pointer (some a101))) h189 (.agg #[(.int .i64 x192), (.int .u32 x193), (.int .i64 x194), (.int .u32 x195), (.int .i64 x196), (.int .u16 x197), (.int .u16 x198), (.int .u16 x199), (.int .u16 x200), (.int .u8 x201), (.int .u8 x202), (.int .i64 x203)]) ∧ 
  CallsH Try.prog 19 #[(.pointer p100), (.int .i64 x98), (.agg #[(.int .i64 x192), (.int .u32 x193), (.int .i64 x194), (.int .u32 x195), (.int .i64 x196), (.int .u16 x197), (.int .u16 x198), (.int .u16 x199), (.int .u16 x200), (.int .u8 x201), (.int .u8 x202), (.int .i64 x203)])] h189 fun r205 h204 =>
  ∃ x206 : Int, r205 = (.int .i64 x206) ∧ 
  ∃ x207 : Int, ∃ x208 : Int, ∃ x209 : Int, ∃ x210 : Int, ∃ x211 : Int, HV Try.prog (Instr.loadAt 36 (.pointer (some a99))) h204 (.agg #[(.int .u32 x207), (.int .u32 x208), (.int .u16 x209), (.int .u16 x210), (.int .u8 x211)]) ∧ 
  CallsH Try.prog 16 #[(.pointer p100), (.agg #[(.int .u32 x207), (.int .u32 x208), (.int .u16 x209), (.int .u16 x210), (.int .u8 x211)])] h204 fun r213 h212 =>
  ∃ b214 : Bool, ∃ x215 : Int, ∃ x216 : Int, ∃ x217 : Int, r213 = (.tuple #[(.agg #[(.bool b214), (.int .i64 x215), (.int .i64 x216)]), (.int .i64 x217)]) ∧ 
  newC h212 (.cells #[(.bool false), (.int .i64 0), (.int .i64 0)] 40 (0, 0)) fun a219 h218 => 
  HU Try.prog (Instr.storeAt 40 (.pointer (some a219)) (.agg #[(.bool b214), (.int .i64 x215), (.int .i64 x216)])) h218 fun h220 => 
  CallsH Try.prog 12 #[] h220 fun r222 h221 =>
  ∃ b223 : Bool, r222 = (.bool b223) ∧ 
  br b223
  (br (x187 == 0)
  (br (x206 == 0)
  (br (x191 == (-1))
  (∃ b224 : Bool, ∃ x225 : Int, ∃ x226 : Int, HV Try.prog (Instr.loadAt 40 (.pointer (some a182))) h221 (.agg #[(.bool b224), (.int .i64 x225), (.int .i64 x226)]) ∧ 
  ∃ b227 : Bool, ∃ x228 : Int, ∃ x229 : Int, HV Try.prog (Instr.loadAt 40 (.pointer (some a219))) h221 (.agg #[(.bool b227), (.int .i64 x228), (.int .i64 x229)]) ∧ 
  ∃ b230 : Bool, PV Try.prog (binOp .eql 40 (.agg #[(.bool b224), (.int .i64 x225), (.int .i64 x226)]) (.agg #[(.bool b227), (.int .i64 x228), (.int .i64 x229)])) (.bool b230) ∧
  br b230
  (br (x180 == x217)
  (CallsH Try.prog 22 #[(.pointer p100)] h221 fun r232 h231 =>
  ∃ A233 : Option Addr, ∃ l233 : Nat, ∃ c233 : Nat, r232 = (.slice A233 l233 c233) ∧ 
  CallsH Try.prog 24 #[(.slice A233 l233 c233), (.slice A97 l97 c97)] h231 fun r235 h234 =>
  ∃ b236 : Bool, r235 = (.bool b236) ∧ 
  K0 b236 h234)
  (K0 false h221))
  (K0 false h221))
  (K0 false h221))
  (K0 false h221))
  (K0 false h221))
  (K0 false h221)
def quintetlaw11_TableBack_j2_L (Q : Qx) (tm : Tm) (h : Hp) : Prop :=
  selS (tm 0) fun A97 l97 c97 =>
  selI .i64 (tm 1) fun x98 =>
  selA (tm 5) fun a99 =>
  selP (tm 8) fun p100 =>
  selA (tm 11) fun a101 =>
  quintetlaw11_TableBack_j2 (fun (b169 : Bool) h => Q (.ret) (mkTm [(6, some (.bool b169))]) h) A97 l97 c97 x98 a99 p100 a101 h
def quintetlaw11_TableBack_j3 (K0 : Bool → Hp → Prop) (K1 : (Option Addr) → Nat → Nat → Int → Addr → (Option Addr) → Addr → Hp → Prop) (A237 : Option Addr) (l237 : Nat) (c237 : Nat) (x238 : Int) (a239 : Addr) (p240 : Option Addr) (x241 : Int) (a242 : Addr) (b243 : Bool) (h : Hp) : Prop :=
  br b243
  (CallsH Try.prog 12 #[] h fun r257 h256 =>
  ∃ b258 : Bool, r257 = (.bool b258) ∧ 
  br b258
  (CallsH Try.prog 22 #[(.pointer p240)] h256 fun r260 h259 =>
  ∃ A261 : Option Addr, ∃ l261 : Nat, ∃ c261 : Nat, r260 = (.slice A261 l261 c261) ∧ 
  br ((l261 : Int) != (l237 : Int))
  (K0 ((x241 != 0) == true) h259)
  (br ((l237 : Int) == 0)
  (K0 ((x241 != 0) == (x241 != 0)) h259)
  (K0 ((x241 != 0) == false) h259)))
  (K0 false h256))
  (K1 A237 l237 c237 x238 a239 p240 a242 h)
def quintetlaw11_TableBack_j3_L (Q : Qx) (tm : Tm) (h : Hp) : Prop :=
  selS (tm 0) fun A237 l237 c237 =>
  selI .i64 (tm 1) fun x238 =>
  selA (tm 5) fun a239 =>
  selP (tm 8) fun p240 =>
  selI .i64 (tm 10) fun x241 =>
  selA (tm 11) fun a242 =>
  selB (tm 46) fun b243 =>
  quintetlaw11_TableBack_j3 (fun (b250 : Bool) h => Q (.ret) (mkTm [(6, some (.bool b250))]) h) (fun (A251 : Option Addr) (l251 : Nat) (c251 : Nat) (x252 : Int) (a253 : Addr) (p254 : Option Addr) (a255 : Addr) h => Q (.normal) (mkTm [(0, some (.slice A251 l251 c251)), (1, some (.int .i64 x252)), (5, some (.pointer (some a253))), (8, some (.pointer p254)), (11, some (.pointer (some a255)))]) h) A237 l237 c237 x238 a239 p240 x241 a242 b243 h
def quintetlaw11_TableBack (A1 : Option Addr) (l1 : Nat) (c1 : Nat) (x2 : Int) (x3 : Int) (x4 : Int) (x5 : Int) (x6 : Int) (x7 : Int) (h : Hp) (K : Value → Hp → Prop) : Prop :=
  newC h (.cells #[(.int .u32 x3), (.int .u32 x4), (.int .u16 x5), (.int .u16 x6), (.int .u8 x7)] 36 (0, 0)) fun a9 h8 => 
  br (decide ((l1 : Int) > 64))
  (K (.bool true) h8)
  (CallsH Try.prog 17 #[] h8 fun r11 h10 =>
  ∃ x12 : Int, ∃ x13 : Int, ∃ x14 : Int, ∃ x15 : Int, ∃ x16 : Int, ∃ x17 : Int, ∃ x18 : Int, r11 = (.agg #[(.int .i64 x12), (.int .i64 x13), (.int .i64 x14), (.int .i64 x15), (.int .i64 x16), (.int .i64 x17), (.int .i64 x18)]) ∧ 
  newC h10 (.cells #[(.int .i64 0), (.int .i64 0), (.int .i64 0), (.int .i64 0), (.int .i64 0), (.int .i64 0), (.int .i64 0)] 24 (0, 0)) fun a20 h19 => 
  HU Try.prog (Instr.storeAt 24 (.pointer (some a20)) (.agg #[(.int .i64 x12), (.int .i64 x13), (.int .i64 x14), (.int .i64 x15), (.int .i64 x16), (.int .i64 x17), (.int .i64 x18)])) h19 fun h21 => 
  HU Try.prog (Instr.storeAt 3 (.pointer (some a20)) (.int .i64 64)) h21 fun h22 => 
  ∃ x23 : Int, ∃ x24 : Int, ∃ x25 : Int, ∃ x26 : Int, ∃ x27 : Int, ∃ x28 : Int, ∃ x29 : Int, HV Try.prog (Instr.loadAt 24 (.pointer (some a20))) h22 (.agg #[(.int .i64 x23), (.int .i64 x24), (.int .i64 x25), (.int .i64 x26), (.int .i64 x27), (.int .i64 x28), (.int .i64 x29)]) ∧ 
  CallsH Try.prog 10 #[(.agg #[(.int .i64 x23), (.int .i64 x24), (.int .i64 x25), (.int .i64 x26), (.int .i64 x27), (.int .i64 x28), (.int .i64 x29)])] h22 fun r31 h30 =>
  ∃ p32 : Option Addr, ∃ x33 : Int, r31 = (.tuple #[(.pointer p32), (.int .i64 x33)]) ∧ 
  ∃ b34 : Bool, PV Try.prog (binOp .eql 27 (.pointer p32) (.pointer none)) (.bool b34) ∧
  br b34
  (K (.bool false) h30)
  (CallsH Try.prog 14 #[(.pointer p32), (.slice A1 l1 c1)] h30 fun r36 h35 =>
  ∃ x37 : Int, r36 = (.int .i64 x37) ∧ 
  CallsH Try.prog 21 #[(.pointer p32), (.int .i64 x2)] h35 fun r39 h38 =>
  ∃ x40 : Int, ∃ x41 : Int, ∃ x42 : Int, ∃ x43 : Int, ∃ x44 : Int, ∃ x45 : Int, ∃ x46 : Int, ∃ x47 : Int, ∃ x48 : Int, ∃ x49 : Int, ∃ x50 : Int, ∃ x51 : Int, ∃ x52 : Int, r39 = (.tuple #[(.agg #[(.int .i64 x40), (.int .u32 x41), (.int .i64 x42), (.int .u32 x43), (.int .i64 x44), (.int .u16 x45), (.int .u16 x46), (.int .u16 x47), (.int .u16 x48), (.int .u8 x49), (.int .u8 x50), (.int .i64 x51)]), (.int .i64 x52)]) ∧ 
  newC h38 (.cells #[(.int .i64 0), (.int .u32 0), (.int .i64 0), (.int .u32 0), (.int .i64 0), (.int .u16 0), (.int .u16 0), (.int .u16 0), (.int .u16 0), (.int .u8 0), (.int .u8 0), (.int .i64 0)] 55 (0, 0)) fun a54 h53 => 
  HU Try.prog (Instr.storeAt 55 (.pointer (some a54)) (.agg #[(.int .i64 x40), (.int .u32 x41), (.int .i64 x42), (.int .u32 x43), (.int .i64 x44), (.int .u16 x45), (.int .u16 x46), (.int .u16 x47), (.int .u16 x48), (.int .u8 x49), (.int .u8 x50), (.int .i64 x51)])) h53 fun h55 => 
  br (x37 != 0)
  (quintetlaw11_TableBack_j3
  (fun (b262 : Bool) (h263 : Hp) =>
  K (.bool b262) h263)
  (fun (A264 : Option Addr) (l264 : Nat) (c264 : Nat) (x265 : Int) (a266 : Addr) (p267 : Option Addr) (a268 : Addr) (h269 : Hp) =>
  quintetlaw11_TableBack_j2
  (fun (b270 : Bool) (h271 : Hp) =>
  K (.bool b270) h271)
  A264 l264 c264 x265 a266 p267 a268 h269)
  A1 l1 c1 x2 a9 p32 x37 a54 true h55)
  (quintetlaw11_TableBack_j3
  (fun (b272 : Bool) (h273 : Hp) =>
  K (.bool b272) h273)
  (fun (A274 : Option Addr) (l274 : Nat) (c274 : Nat) (x275 : Int) (a276 : Addr) (p277 : Option Addr) (a278 : Addr) (h279 : Hp) =>
  quintetlaw11_TableBack_j2
  (fun (b280 : Bool) (h281 : Hp) =>
  K (.bool b280) h281)
  A274 l274 c274 x275 a276 p277 a278 h279)
  A1 l1 c1 x2 a9 p32 x37 a54 (x52 != 0) h55)))
def quintetlaw11_TableBack_lp (i : Nat) (Q : Qx) (tm : Tm) (h : Hp) : Prop := match Nat.beq i 511 with
  | true => quintetlaw11_TableBack_j2_L Q tm h
  | false => match Nat.beq i 1022 with
  | true => quintetlaw11_TableBack_j3_L Q tm h
  | false => False
def quintetlaw11_TableBack_cut (i : Nat) : Option (List Nat) := match Nat.beq i 1022 with
  | true => some [0, 1, 5, 8, 10, 11, 46]
  | false => match Nat.beq i 511 with
  | true => some [0, 1, 5, 8, 11]
  | false => none
set_option maxRecDepth 100000 in
theorem quintetlaw11_TableBack_j2_step (Q : Qx) (A97 : Option Addr) (l97 : Nat) (c97 : Nat) (x98 : Int) (a99 : Addr) (p100 : Option Addr) (a101 : Addr) (h : Hp) : quintetlaw11_TableBack_j2_L Q (mkTm [(0, some (.slice A97 l97 c97)), (1, some (.int .i64 x98)), (5, some (.pointer (some a99))), (8, some (.pointer p100)), (11, some (.pointer (some a101)))]) h =
    codeWp Try.prog 121 quintetlaw11_TableBack_lp quintetlaw11_TableBack_cut (sub (bodyOf Try.f6) [true, true, true, true, true, true, true, true, true]) 1023 (maskQ (fun e => match e with | .ret => [6] | _ => []) Q) (mkTm [(0, some (.slice A97 l97 c97)), (1, some (.int .i64 x98)), (5, some (.pointer (some a99))), (8, some (.pointer p100)), (11, some (.pointer (some a101)))]) h := by kernel_rfl
theorem quintetlaw11_TableBack_j2_mask (Q : Qx) (tm : Tm) (h : Hp) : quintetlaw11_TableBack_j2_L Q tm h ↔ quintetlaw11_TableBack_j2_L Q (mask [0, 1, 5, 8, 11] tm) h := Iff.rfl
set_option maxRecDepth 100000 in
theorem quintetlaw11_TableBack_j2_snd : SndAt Try.prog 121 none (sub (bodyOf Try.f6) [true, true, true, true, true, true, true, true, true]) (quintetlaw11_TableBack_lp 511) := by
  refine join_sound (lp := quintetlaw11_TableBack_lp) (cut := quintetlaw11_TableBack_cut) (i := 511) (c := (sub (bodyOf Try.f6) [true, true, true, true, true, true, true, true, true])) [0, 1, 5, 8, 11] (fun e => match e with | .ret => [6] | _ => []) quintetlaw11_TableBack_j2_L ?_ ?_
  · exact good_by (c := (sub (bodyOf Try.f6) [true, true, true, true, true, true, true, true, true])) (i := 1023) (l := []) (by kernel_rfl) (fun _ h => by cases h)
  · intro Q tm h H
    have H0 := H
    obtain ⟨A97, l97, c97, e0, H⟩ := selS_ex H
    obtain ⟨x98, e1, H⟩ := selI_ex H
    obtain ⟨a99, e5, H⟩ := selA_ex H
    obtain ⟨p100, e8, H⟩ := selP_ex H
    obtain ⟨a101, e11, H⟩ := selA_ex H
    have e : mask [0, 1, 5, 8, 11] tm = mkTm [(0, some (.slice A97 l97 c97)), (1, some (.int .i64 x98)), (5, some (.pointer (some a99))), (8, some (.pointer p100)), (11, some (.pointer (some a101)))] := by simp only [mask, List.map_cons, List.map_nil, e0, e1, e5, e8, e11] <;> rfl
    rw [e]
    refine Eq.mp (quintetlaw11_TableBack_j2_step Q A97 l97 c97 x98 a99 p100 a101 h) ?_
    rw [← e]
    exact (quintetlaw11_TableBack_j2_mask Q tm h).mp H0
set_option maxRecDepth 100000 in
theorem quintetlaw11_TableBack_j3_step (Q : Qx) (A237 : Option Addr) (l237 : Nat) (c237 : Nat) (x238 : Int) (a239 : Addr) (p240 : Option Addr) (x241 : Int) (a242 : Addr) (b243 : Bool) (h : Hp) : quintetlaw11_TableBack_j3_L Q (mkTm [(0, some (.slice A237 l237 c237)), (1, some (.int .i64 x238)), (5, some (.pointer (some a239))), (8, some (.pointer p240)), (10, some (.int .i64 x241)), (11, some (.pointer (some a242))), (46, some (.bool b243))]) h =
    codeWp Try.prog 121 quintetlaw11_TableBack_lp quintetlaw11_TableBack_cut (sub (bodyOf Try.f6) [true, true, true, true, true, true, true, true, false, true]) 2045 (maskQ (fun e => match e with | .ret => [6] | .normal => [0, 1, 5, 8, 11] | _ => []) Q) (mkTm [(0, some (.slice A237 l237 c237)), (1, some (.int .i64 x238)), (5, some (.pointer (some a239))), (8, some (.pointer p240)), (10, some (.int .i64 x241)), (11, some (.pointer (some a242))), (46, some (.bool b243))]) h := by kernel_rfl
theorem quintetlaw11_TableBack_j3_mask (Q : Qx) (tm : Tm) (h : Hp) : quintetlaw11_TableBack_j3_L Q tm h ↔ quintetlaw11_TableBack_j3_L Q (mask [0, 1, 5, 8, 10, 11, 46] tm) h := Iff.rfl
set_option maxRecDepth 100000 in
theorem quintetlaw11_TableBack_j3_snd : SndAt Try.prog 121 none (sub (bodyOf Try.f6) [true, true, true, true, true, true, true, true, false, true]) (quintetlaw11_TableBack_lp 1022) := by
  refine join_sound (lp := quintetlaw11_TableBack_lp) (cut := quintetlaw11_TableBack_cut) (i := 1022) (c := (sub (bodyOf Try.f6) [true, true, true, true, true, true, true, true, false, true])) [0, 1, 5, 8, 10, 11, 46] (fun e => match e with | .ret => [6] | .normal => [0, 1, 5, 8, 11] | _ => []) quintetlaw11_TableBack_j3_L ?_ ?_
  · exact good_by (c := (sub (bodyOf Try.f6) [true, true, true, true, true, true, true, true, false, true])) (i := 2045) (l := []) (by kernel_rfl) (fun _ h => by cases h)
  · intro Q tm h H
    have H0 := H
    obtain ⟨A237, l237, c237, e0, H⟩ := selS_ex H
    obtain ⟨x238, e1, H⟩ := selI_ex H
    obtain ⟨a239, e5, H⟩ := selA_ex H
    obtain ⟨p240, e8, H⟩ := selP_ex H
    obtain ⟨x241, e10, H⟩ := selI_ex H
    obtain ⟨a242, e11, H⟩ := selA_ex H
    obtain ⟨b243, e46, H⟩ := selB_ex H
    have e : mask [0, 1, 5, 8, 10, 11, 46] tm = mkTm [(0, some (.slice A237 l237 c237)), (1, some (.int .i64 x238)), (5, some (.pointer (some a239))), (8, some (.pointer p240)), (10, some (.int .i64 x241)), (11, some (.pointer (some a242))), (46, some (.bool b243))] := by simp only [mask, List.map_cons, List.map_nil, e0, e1, e5, e8, e10, e11, e46] <;> rfl
    rw [e]
    refine Eq.mp (quintetlaw11_TableBack_j3_step Q A237 l237 c237 x238 a239 p240 x241 a242 b243 h) ?_
    rw [← e]
    exact (quintetlaw11_TableBack_j3_mask Q tm h).mp H0
set_option maxRecDepth 100000 in
theorem quintetlaw11_TableBack_eq (A1 : Option Addr) (l1 : Nat) (c1 : Nat) (x2 : Int) (x3 : Int) (x4 : Int) (x5 : Int) (x6 : Int) (x7 : Int) (h : Hp) (K : Value → Hp → Prop) : quintetlaw11_TableBack A1 l1 c1 x2 x3 x4 x5 x6 x7 h K =
    codeWp Try.prog 121 quintetlaw11_TableBack_lp quintetlaw11_TableBack_cut (bodyOf Try.f6) 1 (endQ Try.prog Try.f6.results.toList K) (argTm [(.slice A1 l1 c1), (.int .i64 x2), (.agg #[(.int .u32 x3), (.int .u32 x4), (.int .u16 x5), (.int .u16 x6), (.int .u8 x7)])]) h := by kernel_rfl
set_option maxRecDepth 100000 in
theorem quintetlaw11_TableBack_ok (A1 : Option Addr) (l1 : Nat) (c1 : Nat) (x2 : Int) (x3 : Int) (x4 : Int) (x5 : Int) (x6 : Int) (x7 : Int) {h : Hp} {K : Value → Hp → Prop} (H : quintetlaw11_TableBack A1 l1 c1 x2 x3 x4 x5 x6 x7 h K) : CallsH Try.prog 6 #[(.slice A1 l1 c1), (.int .i64 x2), (.agg #[(.int .u32 x3), (.int .u32 x4), (.int .u16 x5), (.int .u16 x6), (.int .u8 x7)])] h K :=
  calls_of (args := [(.slice A1 l1 c1), (.int .i64 x2), (.agg #[(.int .u32 x3), (.int .u32 x4), (.int .u16 x5), (.int .u16 x6), (.int .u8 x7)])]) (n := 121) (lp := quintetlaw11_TableBack_lp) (cut := quintetlaw11_TableBack_cut) Try.func6 (c := bodyOf Try.f6) (by kernel_rfl) (by kernel_rfl) (by kernel_rfl) (good_by (c := (bodyOf Try.f6)) (i := 1) (l := [(1022, (sub (bodyOf Try.f6) [true, true, true, true, true, true, true, true, false, true])), (511, (sub (bodyOf Try.f6) [true, true, true, true, true, true, true, true, true]))]) (by kernel_rfl) (List.forall_mem_cons.2 ⟨quintetlaw11_TableBack_j3_snd, (List.forall_mem_cons.2 ⟨quintetlaw11_TableBack_j2_snd, (fun _ h => by cases h)⟩)⟩))
    (Eq.mp (quintetlaw11_TableBack_eq A1 l1 c1 x2 x3 x4 x5 x6 x7 h K) H)

/-! ### quintet/quintetkeep.Same: function 24 -/
def quintetkeep_Same_l1 (A3 : Option Addr) (l3 : Nat) (c3 : Nat) (A4 : Option Addr) (l4 : Nat) (c4 : Nat) (K0 : Bool → Hp → Prop) (K1 : Hp → Prop)  : Nat → Int → Hp → Prop
  | 0, _, _ => False
  | k + 1, x5, h =>
    br (decide (x5 < (l3 : Int)))
    (∃ a34 : Addr, PV Try.prog (Instr.indexAt 32 (.slice A3 l3 c3) (.int .i64 x5)) (.pointer (some a34)) ∧
    ∃ x35 : Int, ∃ x36 : Int, ∃ x37 : Int, ∃ x38 : Int, ∃ x39 : Int, ∃ x40 : Int, ∃ x41 : Int, ∃ x42 : Int, ∃ x43 : Int, ∃ x44 : Int, ∃ x45 : Int, ∃ x46 : Int, HV Try.prog (Instr.loadAt 55 (.pointer (some a34))) h (.agg #[(.int .i64 x35), (.int .u32 x36), (.int .i64 x37), (.int .u32 x38), (.int .i64 x39), (.int .u16 x40), (.int .u16 x41), (.int .u16 x42), (.int .u16 x43), (.int .u8 x44), (.int .u8 x45), (.int .i64 x46)]) ∧ 
    ∃ a47 : Addr, PV Try.prog (Instr.indexAt 32 (.slice A4 l4 c4) (.int .i64 x5)) (.pointer (some a47)) ∧
    ∃ x48 : Int, ∃ x49 : Int, ∃ x50 : Int, ∃ x51 : Int, ∃ x52 : Int, ∃ x53 : Int, ∃ x54 : Int, ∃ x55 : Int, ∃ x56 : Int, ∃ x57 : Int, ∃ x58 : Int, ∃ x59 : Int, HV Try.prog (Instr.loadAt 55 (.pointer (some a47))) h (.agg #[(.int .i64 x48), (.int .u32 x49), (.int .i64 x50), (.int .u32 x51), (.int .i64 x52), (.int .u16 x53), (.int .u16 x54), (.int .u16 x55), (.int .u16 x56), (.int .u8 x57), (.int .u8 x58), (.int .i64 x59)]) ∧ 
    ∃ b60 : Bool, PV Try.prog (binOp .neq 55 (.agg #[(.int .i64 x35), (.int .u32 x36), (.int .i64 x37), (.int .u32 x38), (.int .i64 x39), (.int .u16 x40), (.int .u16 x41), (.int .u16 x42), (.int .u16 x43), (.int .u8 x44), (.int .u8 x45), (.int .i64 x46)]) (.agg #[(.int .i64 x48), (.int .u32 x49), (.int .i64 x50), (.int .u32 x51), (.int .i64 x52), (.int .u16 x53), (.int .u16 x54), (.int .u16 x55), (.int .u16 x56), (.int .u8 x57), (.int .u8 x58), (.int .i64 x59)])) (.bool b60) ∧
    br b60
    (K0 false h)
    (quintetkeep_Same_l1 A3 l3 c3 A4 l4 c4 K0 K1 k (IntKind.i64.wrap (x5 + 1)) h))
    (K1 h)
def quintetkeep_Same_l1_L (Q : Qx) (k : Nat) (tm : Tm) (h : Hp) : Prop :=
  selS (tm 0) fun A3 l3 c3 =>
  selS (tm 1) fun A4 l4 c4 =>
  selI .i64 (tm 5) fun x5 =>
  quintetkeep_Same_l1 A3 l3 c3 A4 l4 c4 (fun (b33 : Bool) h => Q (.ret) (mkTm [(4, some (.bool b33))]) h) (fun  h => Q (.exit 0) (mkTm []) h) k x5 h
def quintetkeep_Same (A1 : Option Addr) (l1 : Nat) (c1 : Nat) (A2 : Option Addr) (l2 : Nat) (c2 : Nat) (h : Hp) (K : Value → Hp → Prop) : Prop :=
  br ((l1 : Int) != (l2 : Int))
  (K (.bool false) h)
  (∃ k64, quintetkeep_Same_l1 A1 l1 c1 A2 l2 c2
  (fun (b61 : Bool) (h62 : Hp) =>
  K (.bool b61) h62)
  (fun  (h63 : Hp) =>
  K (.bool true) h63)
  k64 0 h)
def quintetkeep_Same_lp (i : Nat) (Q : Qx) (tm : Tm) (h : Hp) : Prop := match Nat.beq i 58 with
  | true => ∃ k, quintetkeep_Same_l1_L Q k tm h
  | false => False
def quintetkeep_Same_cut (i : Nat) : Option (List Nat) := none
set_option maxRecDepth 100000 in
theorem quintetkeep_Same_l1_step (Q : Qx) (k : Nat) (A3 : Option Addr) (l3 : Nat) (c3 : Nat) (A4 : Option Addr) (l4 : Nat) (c4 : Nat) (x5 : Int) (h : Hp) : quintetkeep_Same_l1_L Q (k + 1) (mkTm [(0, some (.slice A3 l3 c3)), (1, some (.slice A4 l4 c4)), (5, some (.int .i64 x5))]) h =
    codeWp Try.prog 26 quintetkeep_Same_lp quintetkeep_Same_cut (sub (bodyOf Try.f24) [true, true, false, true, false, false]) 116 (thenQ (fun tm h => quintetkeep_Same_l1_L Q k (mask [0, 1, 5] tm) h) (maskQ (fun e => match e with | .ret => [4] | .exit 0 => [] | _ => []) Q)) (mkTm [(0, some (.slice A3 l3 c3)), (1, some (.slice A4 l4 c4)), (5, some (.int .i64 x5))]) h := by kernel_rfl
theorem quintetkeep_Same_l1_mask (Q : Qx) (k : Nat) (tm : Tm) (h : Hp) : quintetkeep_Same_l1_L Q k tm h ↔ quintetkeep_Same_l1_L Q k (mask [0, 1, 5] tm) h := Iff.rfl
set_option maxRecDepth 100000 in
theorem quintetkeep_Same_l1_snd : SndAt Try.prog 26 none (sub (bodyOf Try.f24) [true, true, false, true, false]) (quintetkeep_Same_lp 58) := by
  refine loop_sound (lp := quintetkeep_Same_lp) (cut := quintetkeep_Same_cut) (i := 58) (c := (sub (bodyOf Try.f24) [true, true, false, true, false, false])) [0, 1, 5] (fun e => match e with | .ret => [4] | .exit 0 => [] | _ => []) quintetkeep_Same_l1_L ?_ ?_ ?_
  · exact good_by (c := (sub (bodyOf Try.f24) [true, true, false, true, false, false])) (i := 116) (l := []) (by kernel_rfl) (fun _ h => by cases h)
  · intro Q tm h H
    obtain ⟨A3, l3, c3, e0, H⟩ := selS_ex H
    obtain ⟨A4, l4, c4, e1, H⟩ := selS_ex H
    obtain ⟨x5, e5, H⟩ := selI_ex H
    exact H
  · intro Q k tm h H
    have H0 := H
    obtain ⟨A3, l3, c3, e0, H⟩ := selS_ex H
    obtain ⟨A4, l4, c4, e1, H⟩ := selS_ex H
    obtain ⟨x5, e5, H⟩ := selI_ex H
    have e : mask [0, 1, 5] tm = mkTm [(0, some (.slice A3 l3 c3)), (1, some (.slice A4 l4 c4)), (5, some (.int .i64 x5))] := by simp only [mask, List.map_cons, List.map_nil, e0, e1, e5] <;> rfl
    rw [e]
    refine Eq.mp (quintetkeep_Same_l1_step Q k A3 l3 c3 A4 l4 c4 x5 h) ?_
    rw [← e]
    exact (quintetkeep_Same_l1_mask Q (k + 1) tm h).mp H0
set_option maxRecDepth 100000 in
theorem quintetkeep_Same_eq (A1 : Option Addr) (l1 : Nat) (c1 : Nat) (A2 : Option Addr) (l2 : Nat) (c2 : Nat) (h : Hp) (K : Value → Hp → Prop) : quintetkeep_Same A1 l1 c1 A2 l2 c2 h K =
    codeWp Try.prog 26 quintetkeep_Same_lp quintetkeep_Same_cut (bodyOf Try.f24) 1 (endQ Try.prog Try.f24.results.toList K) (argTm [(.slice A1 l1 c1), (.slice A2 l2 c2)]) h := by kernel_rfl
set_option maxRecDepth 100000 in
theorem quintetkeep_Same_ok (A1 : Option Addr) (l1 : Nat) (c1 : Nat) (A2 : Option Addr) (l2 : Nat) (c2 : Nat) {h : Hp} {K : Value → Hp → Prop} (H : quintetkeep_Same A1 l1 c1 A2 l2 c2 h K) : CallsH Try.prog 24 #[(.slice A1 l1 c1), (.slice A2 l2 c2)] h K :=
  calls_of (args := [(.slice A1 l1 c1), (.slice A2 l2 c2)]) (n := 26) (lp := quintetkeep_Same_lp) (cut := quintetkeep_Same_cut) Try.func24 (c := bodyOf Try.f24) (by kernel_rfl) (by kernel_rfl) (by kernel_rfl) (good_by (c := (bodyOf Try.f24)) (i := 1) (l := [(58, (sub (bodyOf Try.f24) [true, true, false, true, false]))]) (by kernel_rfl) (List.forall_mem_cons.2 ⟨quintetkeep_Same_l1_snd, (fun _ h => by cases h)⟩))
    (Eq.mp (quintetkeep_Same_eq A1 l1 c1 A2 l2 c2 h K) H)

end Go.Proofs.Ytgecabgcjfpenaa.Fs
