/- Printed by sx.py: words over the heap alone for Go functions, and that each call does what its word says. -/
import Derived.Test.YtgecabgcjfpenaaSxSel
import Derived.Test.YtgecabgcjfpenaaProg
namespace Go.Proofs.Ytgecabgcjfpenaa.Fs
open Go Go.RowKit Go.Proofs.Ytgecabgcjfpenaa.Sx
set_option linter.unusedVariables false

/-! ### quintet/quintetref11.Set: function 13 -/
def quintetref11_Set_l1 (A3 : Option Addr) (l3 : Nat) (c3 : Nat) (x4 : Int) (K0 : Int → Hp → Prop) (K1 : Hp → Prop)  : Nat → Int → Hp → Prop
  | 0, _, _ => False
  | k + 1, x5, h =>
    br (decide (x5 < (l3 : Int)))
    (∃ a30 : Addr, PV Try.prog (Instr.indexAt 32 (.slice A3 l3 c3) (.int .i64 x5)) (.pointer (some a30)) ∧
    ∃ x31 : Int, ∃ x32 : Int, ∃ x33 : Int, ∃ x34 : Int, ∃ x35 : Int, ∃ x36 : Int, ∃ x37 : Int, ∃ x38 : Int, ∃ x39 : Int, ∃ x40 : Int, ∃ x41 : Int, ∃ x42 : Int, HV Try.prog (Instr.loadAt 55 (.pointer (some a30))) h (.agg #[(.int .i64 x31), (.int .u32 x32), (.int .i64 x33), (.int .u32 x34), (.int .i64 x35), (.int .u16 x36), (.int .u16 x37), (.int .u16 x38), (.int .u16 x39), (.int .u8 x40), (.int .u8 x41), (.int .i64 x42)]) ∧ 
    CallsH Try.prog 31 #[(.agg #[(.int .i64 x31), (.int .u32 x32), (.int .i64 x33), (.int .u32 x34), (.int .i64 x35), (.int .u16 x36), (.int .u16 x37), (.int .u16 x38), (.int .u16 x39), (.int .u8 x40), (.int .u8 x41), (.int .i64 x42)])] h fun r44 h43 =>
    ∃ x45 : Int, ∃ x46 : Int, r44 = (.tuple #[(.int .i64 x45), (.int .i64 x46)]) ∧ 
    br (x45 != 0)
    (K0 x45 h43)
    (∃ A47 : Option Addr, ∃ l47 : Nat, ∃ c47 : Nat, PV Try.prog (Instr.sliceAt 32 (.slice A3 l3 c3) none (some (.int .i64 x5)) none) (.slice A47 l47 c47) ∧
    ∃ a48 : Addr, PV Try.prog (Instr.indexAt 32 (.slice A3 l3 c3) (.int .i64 x5)) (.pointer (some a48)) ∧
    ∃ x49 : Int, HV Try.prog (Instr.loadAt 3 (.pointer (some a48))) h43 (.int .i64 x49) ∧ 
    CallsH Try.prog 32 #[(.slice A47 l47 c47), (.int .i64 x49)] h43 fun r51 h50 =>
    ∃ x52 : Int, r51 = (.int .i64 x52) ∧ 
    br (decide (x52 ≥ 0))
    (K0 111 h50)
    (br (decide (x5 ≥ x4))
    (K0 113 h50)
    (quintetref11_Set_l1 A3 l3 c3 x4 K0 K1 k (IntKind.i64.wrap (x5 + 1)) h50))))
    (K1 h)
def quintetref11_Set_l1_L (Q : Qx) (k : Nat) (tm : Tm) (h : Hp) : Prop :=
  selS (tm 0) fun A3 l3 c3 =>
  selI .i64 (tm 1) fun x4 =>
  selI .i64 (tm 5) fun x5 =>
  quintetref11_Set_l1 A3 l3 c3 x4 (fun (x29 : Int) h => Q (.ret) (mkTm [(4, some (.int .i64 x29))]) h) (fun  h => Q (.exit 0) (mkTm []) h) k x5 h
def quintetref11_Set (A1 : Option Addr) (l1 : Nat) (c1 : Nat) (x2 : Int) (h : Hp) (K : Value → Hp → Prop) : Prop :=
  ∃ k56, quintetref11_Set_l1 A1 l1 c1 x2
  (fun (x53 : Int) (h54 : Hp) =>
  K (.int .i64 x53) h54)
  (fun  (h55 : Hp) =>
  K (.int .i64 0) h55)
  k56 0 h
def quintetref11_Set_lp (i : Nat) (Q : Qx) (tm : Tm) (h : Hp) : Prop := match Nat.beq i 26 with
  | true => ∃ k, quintetref11_Set_l1_L Q k tm h
  | false => False
def quintetref11_Set_cut (i : Nat) : Option (List Nat) := none
set_option maxRecDepth 100000 in
theorem quintetref11_Set_l1_step (Q : Qx) (k : Nat) (A3 : Option Addr) (l3 : Nat) (c3 : Nat) (x4 : Int) (x5 : Int) (h : Hp) : quintetref11_Set_l1_L Q (k + 1) (mkTm [(0, some (.slice A3 l3 c3)), (1, some (.int .i64 x4)), (5, some (.int .i64 x5))]) h =
    codeWp Try.prog 41 quintetref11_Set_lp quintetref11_Set_cut (sub (bodyOf Try.f13) [true, false, true, false, false]) 52 (thenQ (fun tm h => quintetref11_Set_l1_L Q k (mask [0, 1, 5] tm) h) (maskQ (fun e => match e with | .ret => [4] | .exit 0 => [] | _ => []) Q)) (mkTm [(0, some (.slice A3 l3 c3)), (1, some (.int .i64 x4)), (5, some (.int .i64 x5))]) h := by kernel_rfl
theorem quintetref11_Set_l1_mask (Q : Qx) (k : Nat) (tm : Tm) (h : Hp) : quintetref11_Set_l1_L Q k tm h ↔ quintetref11_Set_l1_L Q k (mask [0, 1, 5] tm) h := Iff.rfl
set_option maxRecDepth 100000 in
theorem quintetref11_Set_l1_snd : SndAt Try.prog 41 none (sub (bodyOf Try.f13) [true, false, true, false]) (quintetref11_Set_lp 26) := by
  refine loop_sound (lp := quintetref11_Set_lp) (cut := quintetref11_Set_cut) (i := 26) (c := (sub (bodyOf Try.f13) [true, false, true, false, false])) [0, 1, 5] (fun e => match e with | .ret => [4] | .exit 0 => [] | _ => []) quintetref11_Set_l1_L ?_ ?_ ?_
  · exact good_by (c := (sub (bodyOf Try.f13) [true, false, true, false, false])) (i := 52) (l := []) (by kernel_rfl) (fun _ h => by cases h)
  · intro Q tm h H
    obtain ⟨A3, l3, c3, e0, H⟩ := selS_ex H
    obtain ⟨x4, e1, H⟩ := selI_ex H
    obtain ⟨x5, e5, H⟩ := selI_ex H
    exact H
  · intro Q k tm h H
    have H0 := H
    obtain ⟨A3, l3, c3, e0, H⟩ := selS_ex H
    obtain ⟨x4, e1, H⟩ := selI_ex H
    obtain ⟨x5, e5, H⟩ := selI_ex H
    have e : mask [0, 1, 5] tm = mkTm [(0, some (.slice A3 l3 c3)), (1, some (.int .i64 x4)), (5, some (.int .i64 x5))] := by simp only [mask, List.map_cons, List.map_nil, e0, e1, e5] <;> rfl
    rw [e]
    refine Eq.mp (quintetref11_Set_l1_step Q k A3 l3 c3 x4 x5 h) ?_
    rw [← e]
    exact (quintetref11_Set_l1_mask Q (k + 1) tm h).mp H0
set_option maxRecDepth 100000 in
theorem quintetref11_Set_eq (A1 : Option Addr) (l1 : Nat) (c1 : Nat) (x2 : Int) (h : Hp) (K : Value → Hp → Prop) : quintetref11_Set A1 l1 c1 x2 h K =
    codeWp Try.prog 41 quintetref11_Set_lp quintetref11_Set_cut (bodyOf Try.f13) 1 (endQ Try.prog Try.f13.results.toList K) (argTm [(.slice A1 l1 c1), (.int .i64 x2)]) h := by kernel_rfl
set_option maxRecDepth 100000 in
theorem quintetref11_Set_ok (A1 : Option Addr) (l1 : Nat) (c1 : Nat) (x2 : Int) {h : Hp} {K : Value → Hp → Prop} (H : quintetref11_Set A1 l1 c1 x2 h K) : CallsH Try.prog 13 #[(.slice A1 l1 c1), (.int .i64 x2)] h K :=
  calls_of (args := [(.slice A1 l1 c1), (.int .i64 x2)]) (n := 41) (lp := quintetref11_Set_lp) (cut := quintetref11_Set_cut) Try.func13 (c := bodyOf Try.f13) (by kernel_rfl) (by kernel_rfl) (by kernel_rfl) (good_by (c := (bodyOf Try.f13)) (i := 1) (l := [(26, (sub (bodyOf Try.f13) [true, false, true, false]))]) (by kernel_rfl) (List.forall_mem_cons.2 ⟨quintetref11_Set_l1_snd, (fun _ h => by cases h)⟩))
    (Eq.mp (quintetref11_Set_eq A1 l1 c1 x2 h K) H)

/-! ### quintet/quintetref11.Match: function 15 -/
def quintetref11_Match_l1 (A12 : Option Addr) (l12 : Nat) (c12 : Nat) (x13 : Int) (a14 : Addr) (a15 : Addr) (K0 : Addr → Int → Hp → Prop) (K1 : Int → Addr → Hp → Prop)  : Nat → Int → Hp → Prop
  | 0, _, _ => False
  | k + 1, x16, h =>
    br (decide (x16 < (l12 : Int)))
    (∃ a47 : Addr, PV Try.prog (Instr.indexAt 32 (.slice A12 l12 c12) (.int .i64 x16)) (.pointer (some a47)) ∧
    ∃ x48 : Int, ∃ x49 : Int, ∃ x50 : Int, ∃ x51 : Int, ∃ x52 : Int, ∃ x53 : Int, ∃ x54 : Int, ∃ x55 : Int, ∃ x56 : Int, ∃ x57 : Int, ∃ x58 : Int, ∃ x59 : Int, HV Try.prog (Instr.loadAt 55 (.pointer (some a47))) h (.agg #[(.int .i64 x48), (.int .u32 x49), (.int .i64 x50), (.int .u32 x51), (.int .i64 x52), (.int .u16 x53), (.int .u16 x54), (.int .u16 x55), (.int .u16 x56), (.int .u8 x57), (.int .u8 x58), (.int .i64 x59)]) ∧ 
    ∃ x60 : Int, ∃ x61 : Int, ∃ x62 : Int, ∃ x63 : Int, ∃ x64 : Int, HV Try.prog (Instr.loadAt 36 (.pointer (some a14))) h (.agg #[(.int .u32 x60), (.int .u32 x61), (.int .u16 x62), (.int .u16 x63), (.int .u8 x64)]) ∧ 
    CallsH Try.prog 34 #[(.agg #[(.int .i64 x48), (.int .u32 x49), (.int .i64 x50), (.int .u32 x51), (.int .i64 x52), (.int .u16 x53), (.int .u16 x54), (.int .u16 x55), (.int .u16 x56), (.int .u8 x57), (.int .u8 x58), (.int .i64 x59)]), (.agg #[(.int .u32 x60), (.int .u32 x61), (.int .u16 x62), (.int .u16 x63), (.int .u8 x64)])] h fun r66 h65 =>
    ∃ b67 : Bool, r66 = (.bool b67) ∧ 
    br b67
    (∃ a68 : Addr, PV Try.prog (Instr.indexAt 32 (.slice A12 l12 c12) (.int .i64 x16)) (.pointer (some a68)) ∧
    ∃ x69 : Int, HV Try.prog (Instr.loadAt 3 (.pointer (some a68))) h65 (.int .i64 x69) ∧ 
    ∃ a70 : Addr, PV Try.prog (Instr.indexAt 32 (.slice A12 l12 c12) (.int .i64 x16)) (.pointer (some a70)) ∧
    ∃ x71 : Int, HV Try.prog (Instr.loadAt 22 (.pointer (some (a70.add 11)))) h65 (.int .i64 x71) ∧ 
    HU Try.prog (Instr.storeAt 40 (.pointer (some a15)) (.agg #[(.bool true), (.int .i64 x69), (.int .i64 x71)])) h65 fun h72 => 
    K0 a15 x16 h72)
    (quintetref11_Match_l1 A12 l12 c12 x13 a14 a15 K0 K1 k (IntKind.i64.wrap (x16 + 1)) h65))
    (K1 x13 a15 h)
def quintetref11_Match_l1_L (Q : Qx) (k : Nat) (tm : Tm) (h : Hp) : Prop :=
  selS (tm 0) fun A12 l12 c12 =>
  selI .i64 (tm 1) fun x13 =>
  selA (tm 5) fun a14 =>
  selA (tm 6) fun a15 =>
  selI .i64 (tm 8) fun x16 =>
  quintetref11_Match_l1 A12 l12 c12 x13 a14 a15 (fun (a43 : Addr) (x44 : Int) h => Q (.ret) (mkTm [(6, some (.pointer (some a43))), (7, some (.int .i64 x44))]) h) (fun (x45 : Int) (a46 : Addr) h => Q (.exit 0) (mkTm [(1, some (.int .i64 x45)), (6, some (.pointer (some a46)))]) h) k x16 h
def quintetref11_Match (A1 : Option Addr) (l1 : Nat) (c1 : Nat) (x2 : Int) (x3 : Int) (x4 : Int) (x5 : Int) (x6 : Int) (x7 : Int) (h : Hp) (K : Value → Hp → Prop) : Prop :=
  newC h (.cells #[(.int .u32 x3), (.int .u32 x4), (.int .u16 x5), (.int .u16 x6), (.int .u8 x7)] 36 (0, 0)) fun a9 h8 => 
  newC h8 (.cells #[(.bool false), (.int .i64 0), (.int .i64 0)] 40 (0, 0)) fun a11 h10 => 
  ∃ k86, quintetref11_Match_l1 A1 l1 c1 x2 a9 a11
  (fun (a73 : Addr) (x74 : Int) (h75 : Hp) =>
  ∃ b76 : Bool, ∃ x77 : Int, ∃ x78 : Int, HV Try.prog (Instr.loadAt 40 (.pointer (some a73))) h75 (.agg #[(.bool b76), (.int .i64 x77), (.int .i64 x78)]) ∧ K (.tuple #[(.agg #[(.bool b76), (.int .i64 x77), (.int .i64 x78)]), (.int .i64 x74)]) h75)
  (fun (x79 : Int) (a80 : Addr) (h81 : Hp) =>
  HU Try.prog (Instr.storeAt 40 (.pointer (some a80)) (.agg #[(.bool false), (.int .i64 0), (.int .i64 x79)])) h81 fun h82 => 
  ∃ b83 : Bool, ∃ x84 : Int, ∃ x85 : Int, HV Try.prog (Instr.loadAt 40 (.pointer (some a80))) h82 (.agg #[(.bool b83), (.int .i64 x84), (.int .i64 x85)]) ∧ K (.tuple #[(.agg #[(.bool b83), (.int .i64 x84), (.int .i64 x85)]), (.int .i64 (-1))]) h82)
  k86 0 h10
def quintetref11_Match_lp (i : Nat) (Q : Qx) (tm : Tm) (h : Hp) : Prop := match Nat.beq i 26 with
  | true => ∃ k, quintetref11_Match_l1_L Q k tm h
  | false => False
def quintetref11_Match_cut (i : Nat) : Option (List Nat) := none
set_option maxRecDepth 100000 in
theorem quintetref11_Match_l1_step (Q : Qx) (k : Nat) (A12 : Option Addr) (l12 : Nat) (c12 : Nat) (x13 : Int) (a14 : Addr) (a15 : Addr) (x16 : Int) (h : Hp) : quintetref11_Match_l1_L Q (k + 1) (mkTm [(0, some (.slice A12 l12 c12)), (1, some (.int .i64 x13)), (5, some (.pointer (some a14))), (6, some (.pointer (some a15))), (8, some (.int .i64 x16))]) h =
    codeWp Try.prog 35 quintetref11_Match_lp quintetref11_Match_cut (sub (bodyOf Try.f15) [true, false, true, false, false]) 52 (thenQ (fun tm h => quintetref11_Match_l1_L Q k (mask [0, 1, 5, 6, 8] tm) h) (maskQ (fun e => match e with | .ret => [6, 7] | .exit 0 => [1, 6] | _ => []) Q)) (mkTm [(0, some (.slice A12 l12 c12)), (1, some (.int .i64 x13)), (5, some (.pointer (some a14))), (6, some (.pointer (some a15))), (8, some (.int .i64 x16))]) h := by kernel_rfl
theorem quintetref11_Match_l1_mask (Q : Qx) (k : Nat) (tm : Tm) (h : Hp) : quintetref11_Match_l1_L Q k tm h ↔ quintetref11_Match_l1_L Q k (mask [0, 1, 5, 6, 8] tm) h := Iff.rfl
set_option maxRecDepth 100000 in
theorem quintetref11_Match_l1_snd : SndAt Try.prog 35 none (sub (bodyOf Try.f15) [true, false, true, false]) (quintetref11_Match_lp 26) := by
  refine loop_sound (lp := quintetref11_Match_lp) (cut := quintetref11_Match_cut) (i := 26) (c := (sub (bodyOf Try.f15) [true, false, true, false, false])) [0, 1, 5, 6, 8] (fun e => match e with | .ret => [6, 7] | .exit 0 => [1, 6] | _ => []) quintetref11_Match_l1_L ?_ ?_ ?_
  · exact good_by (c := (sub (bodyOf Try.f15) [true, false, true, false, false])) (i := 52) (l := []) (by kernel_rfl) (fun _ h => by cases h)
  · intro Q tm h H
    obtain ⟨A12, l12, c12, e0, H⟩ := selS_ex H
    obtain ⟨x13, e1, H⟩ := selI_ex H
    obtain ⟨a14, e5, H⟩ := selA_ex H
    obtain ⟨a15, e6, H⟩ := selA_ex H
    obtain ⟨x16, e8, H⟩ := selI_ex H
    exact H
  · intro Q k tm h H
    have H0 := H
    obtain ⟨A12, l12, c12, e0, H⟩ := selS_ex H
    obtain ⟨x13, e1, H⟩ := selI_ex H
    obtain ⟨a14, e5, H⟩ := selA_ex H
    obtain ⟨a15, e6, H⟩ := selA_ex H
    obtain ⟨x16, e8, H⟩ := selI_ex H
    have e : mask [0, 1, 5, 6, 8] tm = mkTm [(0, some (.slice A12 l12 c12)), (1, some (.int .i64 x13)), (5, some (.pointer (some a14))), (6, some (.pointer (some a15))), (8, some (.int .i64 x16))] := by simp only [mask, List.map_cons, List.map_nil, e0, e1, e5, e6, e8] <;> rfl
    rw [e]
    refine Eq.mp (quintetref11_Match_l1_step Q k A12 l12 c12 x13 a14 a15 x16 h) ?_
    rw [← e]
    exact (quintetref11_Match_l1_mask Q (k + 1) tm h).mp H0
set_option maxRecDepth 100000 in
theorem quintetref11_Match_eq (A1 : Option Addr) (l1 : Nat) (c1 : Nat) (x2 : Int) (x3 : Int) (x4 : Int) (x5 : Int) (x6 : Int) (x7 : Int) (h : Hp) (K : Value → Hp → Prop) : quintetref11_Match A1 l1 c1 x2 x3 x4 x5 x6 x7 h K =
    codeWp Try.prog 35 quintetref11_Match_lp quintetref11_Match_cut (bodyOf Try.f15) 1 (endQ Try.prog Try.f15.results.toList K) (argTm [(.slice A1 l1 c1), (.int .i64 x2), (.agg #[(.int .u32 x3), (.int .u32 x4), (.int .u16 x5), (.int .u16 x6), (.int .u8 x7)])]) h := by kernel_rfl
set_option maxRecDepth 100000 in
theorem quintetref11_Match_ok (A1 : Option Addr) (l1 : Nat) (c1 : Nat) (x2 : Int) (x3 : Int) (x4 : Int) (x5 : Int) (x6 : Int) (x7 : Int) {h : Hp} {K : Value → Hp → Prop} (H : quintetref11_Match A1 l1 c1 x2 x3 x4 x5 x6 x7 h K) : CallsH Try.prog 15 #[(.slice A1 l1 c1), (.int .i64 x2), (.agg #[(.int .u32 x3), (.int .u32 x4), (.int .u16 x5), (.int .u16 x6), (.int .u8 x7)])] h K :=
  calls_of (args := [(.slice A1 l1 c1), (.int .i64 x2), (.agg #[(.int .u32 x3), (.int .u32 x4), (.int .u16 x5), (.int .u16 x6), (.int .u8 x7)])]) (n := 35) (lp := quintetref11_Match_lp) (cut := quintetref11_Match_cut) Try.func15 (c := bodyOf Try.f15) (by kernel_rfl) (by kernel_rfl) (by kernel_rfl) (good_by (c := (bodyOf Try.f15)) (i := 1) (l := [(26, (sub (bodyOf Try.f15) [true, false, true, false]))]) (by kernel_rfl) (List.forall_mem_cons.2 ⟨quintetref11_Match_l1_snd, (fun _ h => by cases h)⟩))
    (Eq.mp (quintetref11_Match_eq A1 l1 c1 x2 x3 x4 x5 x6 x7 h K) H)

/-! ### quintet/quintetref08.Check: function 31 -/
def quintetref08_Check_l3 (a96 : Addr) (A97 : Option Addr) (l97 : Nat) (c97 : Nat) (K0 : Int → Int → Hp → Prop) (K1 : Addr → Hp → Prop)  : Nat → Int → Hp → Prop
  | 0, _, _ => False
  | k + 1, x98, h =>
    br (decide (x98 < (l97 : Int)))
    (∃ a106 : Addr, PV Try.prog (Instr.indexAt 98 (.slice A97 l97 c97) (.int .i64 x98)) (.pointer (some a106)) ∧
    ∃ x107 : Int, HV Try.prog (Instr.loadAt 25 (.pointer (some a106))) h (.int .i64 x107) ∧ 
    br (x107 != 0)
    (∃ a108 : Addr, PV Try.prog (Instr.indexAt 98 (.slice A97 l97 c97) (.int .i64 x98)) (.pointer (some a108)) ∧
    ∃ x109 : Int, HV Try.prog (Instr.loadAt 25 (.pointer (some a108))) h (.int .i64 x109) ∧ 
    K0 x109 (IntKind.i64.wrap (2 + x98)) h)
    (quintetref08_Check_l3 a96 A97 l97 c97 K0 K1 k (IntKind.i64.wrap (x98 + 1)) h))
    (K1 a96 h)
def quintetref08_Check_l3_L (Q : Qx) (k : Nat) (tm : Tm) (h : Hp) : Prop :=
  selA (tm 1) fun a96 =>
  selS (tm 4) fun A97 l97 c97 =>
  selI .i64 (tm 5) fun x98 =>
  quintetref08_Check_l3 a96 A97 l97 c97 (fun (x103 : Int) (x104 : Int) h => Q (.ret) (mkTm [(2, some (.int .i64 x103)), (3, some (.int .i64 x104))]) h) (fun (a105 : Addr) h => Q (.exit 0) (mkTm [(1, some (.pointer (some a105)))]) h) k x98 h
def quintetref08_Check_j2 (K0 : Int → Int → Hp → Prop) (a17 : Addr) (h : Hp) : Prop :=
  ∃ x69 : Int, ∃ x70 : Int, HV Try.prog (Instr.loadAt 49 (.pointer (some (a17.add 1)))) h (.agg #[(.int .u32 x69), (.int .i64 x70)]) ∧ 
  CallsH Try.prog 47 #[(.agg #[(.int .u32 x69), (.int .i64 x70)])] h fun r72 h71 =>
  ∃ x73 : Int, r72 = (.int .i64 x73) ∧ 
  ∃ x74 : Int, ∃ x75 : Int, HV Try.prog (Instr.loadAt 49 (.pointer (some (a17.add 3)))) h71 (.agg #[(.int .u32 x74), (.int .i64 x75)]) ∧ HV Try.prog (Instr.loadAt 49 (.pointer (some (a17.add 3)))) h (.agg #[(.int .u32 x74), (.int .i64 x75)]) ∧ 
  CallsH Try.prog 47 #[(.agg #[(.int .u32 x74), (.int .i64 x75)])] h71 fun r77 h76 =>
  ∃ x78 : Int, r77 = (.int .i64 x78) ∧ 
  ∃ x79 : Int, ∃ x80 : Int, HV Try.prog (Instr.loadAt 51 (.pointer (some (a17.add 5)))) h76 (.agg #[(.int .u16 x79), (.int .u16 x80)]) ∧ HV Try.prog (Instr.loadAt 51 (.pointer (some (a17.add 5)))) h71 (.agg #[(.int .u16 x79), (.int .u16 x80)]) ∧ HV Try.prog (Instr.loadAt 51 (.pointer (some (a17.add 5)))) h (.agg #[(.int .u16 x79), (.int .u16 x80)]) ∧ 
  CallsH Try.prog 48 #[(.agg #[(.int .u16 x79), (.int .u16 x80)])] h76 fun r82 h81 =>
  ∃ x83 : Int, r82 = (.int .i64 x83) ∧ 
  ∃ x84 : Int, ∃ x85 : Int, HV Try.prog (Instr.loadAt 51 (.pointer (some (a17.add 7)))) h81 (.agg #[(.int .u16 x84), (.int .u16 x85)]) ∧ HV Try.prog (Instr.loadAt 51 (.pointer (some (a17.add 7)))) h76 (.agg #[(.int .u16 x84), (.int .u16 x85)]) ∧ HV Try.prog (Instr.loadAt 51 (.pointer (some (a17.add 7)))) h71 (.agg #[(.int .u16 x84), (.int .u16 x85)]) ∧ HV Try.prog (Instr.loadAt 51 (.pointer (some (a17.add 7)))) h (.agg #[(.int .u16 x84), (.int .u16 x85)]) ∧ 
  CallsH Try.prog 48 #[(.agg #[(.int .u16 x84), (.int .u16 x85)])] h81 fun r87 h86 =>
  ∃ x88 : Int, r87 = (.int .i64 x88) ∧ 
  ∃ x89 : Int, ∃ x90 : Int, HV Try.prog (Instr.loadAt 53 (.pointer (some (a17.add 9)))) h86 (.agg #[(.int .u8 x89), (.int .u8 x90)]) ∧ HV Try.prog (Instr.loadAt 53 (.pointer (some (a17.add 9)))) h81 (.agg #[(.int .u8 x89), (.int .u8 x90)]) ∧ HV Try.prog (Instr.loadAt 53 (.pointer (some (a17.add 9)))) h76 (.agg #[(.int .u8 x89), (.int .u8 x90)]) ∧ HV Try.prog (Instr.loadAt 53 (.pointer (some (a17.add 9)))) h71 (.agg #[(.int .u8 x89), (.int .u8 x90)]) ∧ HV Try.prog (Instr.loadAt 53 (.pointer (some (a17.add 9)))) h (.agg #[(.int .u8 x89), (.int .u8 x90)]) ∧ 
  CallsH Try.prog 49 #[(.agg #[(.int .u8 x89), (.int .u8 x90)])] h86 fun r92 h91 =>
  ∃ x93 : Int, r92 = (.int .i64 x93) ∧ 
  newC h91 (.cells #[(.int .i64 x73), (.int .i64 x78), (.int .i64 x83), (.int .i64 x88), (.int .i64 x93)] 25 (0, 0)) fun a95 h94 => 
  ∃ k117, quintetref08_Check_l3 a17 (some a95) 5 5
  (fun (x110 : Int) (x111 : Int) (h112 : Hp) =>
  K0 x110 x111 h112)
  (fun (a113 : Addr) (h114 : Hp) =>
  ∃ x115 : Int, HV Try.prog (Instr.loadAt 22 (.pointer (some (a113.add 11)))) h114 (.int .i64 x115) ∧ 
  br (decide (x115 < 1))
  (K0 81 7 h114)
  (∃ x116 : Int, HV Try.prog (Instr.loadAt 22 (.pointer (some (a113.add 11)))) h114 (.int .i64 x116) ∧ 
  br (decide (x116 > 4))
  (K0 81 7 h114)
  (K0 0 0 h114)))
  k117 0 h94
def quintetref08_Check_j2_L (Q : Qx) (tm : Tm) (h : Hp) : Prop :=
  selA (tm 1) fun a17 =>
  quintetref08_Check_j2 (fun (x67 : Int) (x68 : Int) h => Q (.ret) (mkTm [(2, some (.int .i64 x67)), (3, some (.int .i64 x68))]) h) a17 h
def quintetref08_Check (x1 : Int) (x2 : Int) (x3 : Int) (x4 : Int) (x5 : Int) (x6 : Int) (x7 : Int) (x8 : Int) (x9 : Int) (x10 : Int) (x11 : Int) (x12 : Int) (h : Hp) (K : Value → Hp → Prop) : Prop :=
  newC h (.cells #[(.int .i64 x1), (.int .u32 x2), (.int .i64 x3), (.int .u32 x4), (.int .i64 x5), (.int .u16 x6), (.int .u16 x7), (.int .u16 x8), (.int .u16 x9), (.int .u8 x10), (.int .u8 x11), (.int .i64 x12)] 55 (0, 0)) fun a14 h13 => 
  ∃ x118 : Int, HV Try.prog (Instr.loadAt 3 (.pointer (some a14))) h13 (.int .i64 x118) ∧ 
  br (decide (x118 < 1))
  (K (.tuple #[(.int .i64 80), (.int .i64 1)]) h13)
  (∃ x119 : Int, HV Try.prog (Instr.loadAt 3 (.pointer (some a14))) h13 (.int .i64 x119) ∧ 
  br (decide (x119 > 999999))
  (K (.tuple #[(.int .i64 80), (.int .i64 1)]) h13)
  (quintetref08_Check_j2
  (fun (x120 : Int) (x121 : Int) (h122 : Hp) =>
  K (.tuple #[(.int .i64 x120), (.int .i64 x121)]) h122)
  a14 h13))
def quintetref08_Check_lp (i : Nat) (Q : Qx) (tm : Tm) (h : Hp) : Prop := match Nat.beq i 122 with
  | true => ∃ k, quintetref08_Check_l3_L Q k tm h
  | false => match Nat.beq i 3 with
  | true => quintetref08_Check_j2_L Q tm h
  | false => False
def quintetref08_Check_cut (i : Nat) : Option (List Nat) := match Nat.beq i 3 with
  | true => some [1]
  | false => none
set_option maxRecDepth 100000 in
theorem quintetref08_Check_l3_step (Q : Qx) (k : Nat) (a96 : Addr) (A97 : Option Addr) (l97 : Nat) (c97 : Nat) (x98 : Int) (h : Hp) : quintetref08_Check_l3_L Q (k + 1) (mkTm [(1, some (.pointer (some a96))), (4, some (.slice A97 l97 c97)), (5, some (.int .i64 x98))]) h =
    codeWp Try.prog 55 quintetref08_Check_lp quintetref08_Check_cut (sub (bodyOf Try.f31) [true, true, true, false, true, false, false]) 244 (thenQ (fun tm h => quintetref08_Check_l3_L Q k (mask [1, 4, 5] tm) h) (maskQ (fun e => match e with | .ret => [2, 3] | .exit 0 => [1] | _ => []) Q)) (mkTm [(1, some (.pointer (some a96))), (4, some (.slice A97 l97 c97)), (5, some (.int .i64 x98))]) h := by kernel_rfl
theorem quintetref08_Check_l3_mask (Q : Qx) (k : Nat) (tm : Tm) (h : Hp) : quintetref08_Check_l3_L Q k tm h ↔ quintetref08_Check_l3_L Q k (mask [1, 4, 5] tm) h := Iff.rfl
set_option maxRecDepth 100000 in
theorem quintetref08_Check_l3_snd : SndAt Try.prog 55 none (sub (bodyOf Try.f31) [true, true, true, false, true, false]) (quintetref08_Check_lp 122) := by
  refine loop_sound (lp := quintetref08_Check_lp) (cut := quintetref08_Check_cut) (i := 122) (c := (sub (bodyOf Try.f31) [true, true, true, false, true, false, false])) [1, 4, 5] (fun e => match e with | .ret => [2, 3] | .exit 0 => [1] | _ => []) quintetref08_Check_l3_L ?_ ?_ ?_
  · exact good_by (c := (sub (bodyOf Try.f31) [true, true, true, false, true, false, false])) (i := 244) (l := []) (by kernel_rfl) (fun _ h => by cases h)
  · intro Q tm h H
    obtain ⟨a96, e1, H⟩ := selA_ex H
    obtain ⟨A97, l97, c97, e4, H⟩ := selS_ex H
    obtain ⟨x98, e5, H⟩ := selI_ex H
    exact H
  · intro Q k tm h H
    have H0 := H
    obtain ⟨a96, e1, H⟩ := selA_ex H
    obtain ⟨A97, l97, c97, e4, H⟩ := selS_ex H
    obtain ⟨x98, e5, H⟩ := selI_ex H
    have e : mask [1, 4, 5] tm = mkTm [(1, some (.pointer (some a96))), (4, some (.slice A97 l97 c97)), (5, some (.int .i64 x98))] := by simp only [mask, List.map_cons, List.map_nil, e1, e4, e5] <;> rfl
    rw [e]
    refine Eq.mp (quintetref08_Check_l3_step Q k a96 A97 l97 c97 x98 h) ?_
    rw [← e]
    exact (quintetref08_Check_l3_mask Q (k + 1) tm h).mp H0
set_option maxRecDepth 100000 in
theorem quintetref08_Check_j2_step (Q : Qx) (a17 : Addr) (h : Hp) : quintetref08_Check_j2_L Q (mkTm [(1, some (.pointer (some a17)))]) h =
    codeWp Try.prog 55 quintetref08_Check_lp quintetref08_Check_cut (sub (bodyOf Try.f31) [true, true]) 7 (maskQ (fun e => match e with | .ret => [2, 3] | _ => []) Q) (mkTm [(1, some (.pointer (some a17)))]) h := by kernel_rfl
theorem quintetref08_Check_j2_mask (Q : Qx) (tm : Tm) (h : Hp) : quintetref08_Check_j2_L Q tm h ↔ quintetref08_Check_j2_L Q (mask [1] tm) h := Iff.rfl
set_option maxRecDepth 100000 in
theorem quintetref08_Check_j2_snd : SndAt Try.prog 55 none (sub (bodyOf Try.f31) [true, true]) (quintetref08_Check_lp 3) := by
  refine join_sound (lp := quintetref08_Check_lp) (cut := quintetref08_Check_cut) (i := 3) (c := (sub (bodyOf Try.f31) [true, true])) [1] (fun e => match e with | .ret => [2, 3] | _ => []) quintetref08_Check_j2_L ?_ ?_
  · exact good_by (c := (sub (bodyOf Try.f31) [true, true])) (i := 7) (l := [(122, (sub (bodyOf Try.f31) [true, true, true, false, true, false]))]) (by kernel_rfl) (List.forall_mem_cons.2 ⟨quintetref08_Check_l3_snd, (fun _ h => by cases h)⟩)
  · intro Q tm h H
    have H0 := H
    obtain ⟨a17, e1, H⟩ := selA_ex H
    have e : mask [1] tm = mkTm [(1, some (.pointer (some a17)))] := by simp only [mask, List.map_cons, List.map_nil, e1] <;> rfl
    rw [e]
    refine Eq.mp (quintetref08_Check_j2_step Q a17 h) ?_
    rw [← e]
    exact (quintetref08_Check_j2_mask Q tm h).mp H0
set_option maxRecDepth 100000 in
theorem quintetref08_Check_eq (x1 : Int) (x2 : Int) (x3 : Int) (x4 : Int) (x5 : Int) (x6 : Int) (x7 : Int) (x8 : Int) (x9 : Int) (x10 : Int) (x11 : Int) (x12 : Int) (h : Hp) (K : Value → Hp → Prop) : quintetref08_Check x1 x2 x3 x4 x5 x6 x7 x8 x9 x10 x11 x12 h K =
    codeWp Try.prog 55 quintetref08_Check_lp quintetref08_Check_cut (bodyOf Try.f31) 1 (endQ Try.prog Try.f31.results.toList K) (argTm [(.agg #[(.int .i64 x1), (.int .u32 x2), (.int .i64 x3), (.int .u32 x4), (.int .i64 x5), (.int .u16 x6), (.int .u16 x7), (.int .u16 x8), (.int .u16 x9), (.int .u8 x10), (.int .u8 x11), (.int .i64 x12)])]) h := by kernel_rfl
set_option maxRecDepth 100000 in
theorem quintetref08_Check_ok (x1 : Int) (x2 : Int) (x3 : Int) (x4 : Int) (x5 : Int) (x6 : Int) (x7 : Int) (x8 : Int) (x9 : Int) (x10 : Int) (x11 : Int) (x12 : Int) {h : Hp} {K : Value → Hp → Prop} (H : quintetref08_Check x1 x2 x3 x4 x5 x6 x7 x8 x9 x10 x11 x12 h K) : CallsH Try.prog 31 #[(.agg #[(.int .i64 x1), (.int .u32 x2), (.int .i64 x3), (.int .u32 x4), (.int .i64 x5), (.int .u16 x6), (.int .u16 x7), (.int .u16 x8), (.int .u16 x9), (.int .u8 x10), (.int .u8 x11), (.int .i64 x12)])] h K :=
  calls_of (args := [(.agg #[(.int .i64 x1), (.int .u32 x2), (.int .i64 x3), (.int .u32 x4), (.int .i64 x5), (.int .u16 x6), (.int .u16 x7), (.int .u16 x8), (.int .u16 x9), (.int .u8 x10), (.int .u8 x11), (.int .i64 x12)])]) (n := 55) (lp := quintetref08_Check_lp) (cut := quintetref08_Check_cut) Try.func31 (c := bodyOf Try.f31) (by kernel_rfl) (by kernel_rfl) (by kernel_rfl) (good_by (c := (bodyOf Try.f31)) (i := 1) (l := [(3, (sub (bodyOf Try.f31) [true, true]))]) (by kernel_rfl) (List.forall_mem_cons.2 ⟨quintetref08_Check_j2_snd, (fun _ h => by cases h)⟩))
    (Eq.mp (quintetref08_Check_eq x1 x2 x3 x4 x5 x6 x7 x8 x9 x10 x11 x12 h K) H)

/-! ### quintet/quintetref11.Find: function 32 -/
def quintetref11_Find_l1 (A3 : Option Addr) (l3 : Nat) (c3 : Nat) (x4 : Int) (K0 : Int → Hp → Prop) (K1 : Hp → Prop)  : Nat → Int → Hp → Prop
  | 0, _, _ => False
  | k + 1, x5, h =>
    br (decide (x5 < (l3 : Int)))
    (∃ a9 : Addr, PV Try.prog (Instr.indexAt 32 (.slice A3 l3 c3) (.int .i64 x5)) (.pointer (some a9)) ∧
    ∃ x10 : Int, HV Try.prog (Instr.loadAt 3 (.pointer (some a9))) h (.int .i64 x10) ∧ 
    br (x10 == x4)
    (K0 x5 h)
    (quintetref11_Find_l1 A3 l3 c3 x4 K0 K1 k (IntKind.i64.wrap (x5 + 1)) h))
    (K1 h)
def quintetref11_Find_l1_L (Q : Qx) (k : Nat) (tm : Tm) (h : Hp) : Prop :=
  selS (tm 0) fun A3 l3 c3 =>
  selI .i64 (tm 1) fun x4 =>
  selI .i64 (tm 5) fun x5 =>
  quintetref11_Find_l1 A3 l3 c3 x4 (fun (x8 : Int) h => Q (.ret) (mkTm [(4, some (.int .i64 x8))]) h) (fun  h => Q (.exit 0) (mkTm []) h) k x5 h
def quintetref11_Find (A1 : Option Addr) (l1 : Nat) (c1 : Nat) (x2 : Int) (h : Hp) (K : Value → Hp → Prop) : Prop :=
  ∃ k14, quintetref11_Find_l1 A1 l1 c1 x2
  (fun (x11 : Int) (h12 : Hp) =>
  K (.int .i64 x11) h12)
  (fun  (h13 : Hp) =>
  K (.int .i64 (-1)) h13)
  k14 0 h
def quintetref11_Find_lp (i : Nat) (Q : Qx) (tm : Tm) (h : Hp) : Prop := match Nat.beq i 26 with
  | true => ∃ k, quintetref11_Find_l1_L Q k tm h
  | false => False
def quintetref11_Find_cut (i : Nat) : Option (List Nat) := none
set_option maxRecDepth 100000 in
theorem quintetref11_Find_l1_step (Q : Qx) (k : Nat) (A3 : Option Addr) (l3 : Nat) (c3 : Nat) (x4 : Int) (x5 : Int) (h : Hp) : quintetref11_Find_l1_L Q (k + 1) (mkTm [(0, some (.slice A3 l3 c3)), (1, some (.int .i64 x4)), (5, some (.int .i64 x5))]) h =
    codeWp Try.prog 20 quintetref11_Find_lp quintetref11_Find_cut (sub (bodyOf Try.f32) [true, false, true, false, false]) 52 (thenQ (fun tm h => quintetref11_Find_l1_L Q k (mask [0, 1, 5] tm) h) (maskQ (fun e => match e with | .ret => [4] | .exit 0 => [] | _ => []) Q)) (mkTm [(0, some (.slice A3 l3 c3)), (1, some (.int .i64 x4)), (5, some (.int .i64 x5))]) h := by kernel_rfl
theorem quintetref11_Find_l1_mask (Q : Qx) (k : Nat) (tm : Tm) (h : Hp) : quintetref11_Find_l1_L Q k tm h ↔ quintetref11_Find_l1_L Q k (mask [0, 1, 5] tm) h := Iff.rfl
set_option maxRecDepth 100000 in
theorem quintetref11_Find_l1_snd : SndAt Try.prog 20 none (sub (bodyOf Try.f32) [true, false, true, false]) (quintetref11_Find_lp 26) := by
  refine loop_sound (lp := quintetref11_Find_lp) (cut := quintetref11_Find_cut) (i := 26) (c := (sub (bodyOf Try.f32) [true, false, true, false, false])) [0, 1, 5] (fun e => match e with | .ret => [4] | .exit 0 => [] | _ => []) quintetref11_Find_l1_L ?_ ?_ ?_
  · exact good_by (c := (sub (bodyOf Try.f32) [true, false, true, false, false])) (i := 52) (l := []) (by kernel_rfl) (fun _ h => by cases h)
  · intro Q tm h H
    obtain ⟨A3, l3, c3, e0, H⟩ := selS_ex H
    obtain ⟨x4, e1, H⟩ := selI_ex H
    obtain ⟨x5, e5, H⟩ := selI_ex H
    exact H
  · intro Q k tm h H
    have H0 := H
    obtain ⟨A3, l3, c3, e0, H⟩ := selS_ex H
    obtain ⟨x4, e1, H⟩ := selI_ex H
    obtain ⟨x5, e5, H⟩ := selI_ex H
    have e : mask [0, 1, 5] tm = mkTm [(0, some (.slice A3 l3 c3)), (1, some (.int .i64 x4)), (5, some (.int .i64 x5))] := by simp only [mask, List.map_cons, List.map_nil, e0, e1, e5] <;> rfl
    rw [e]
    refine Eq.mp (quintetref11_Find_l1_step Q k A3 l3 c3 x4 x5 h) ?_
    rw [← e]
    exact (quintetref11_Find_l1_mask Q (k + 1) tm h).mp H0
set_option maxRecDepth 100000 in
theorem quintetref11_Find_eq (A1 : Option Addr) (l1 : Nat) (c1 : Nat) (x2 : Int) (h : Hp) (K : Value → Hp → Prop) : quintetref11_Find A1 l1 c1 x2 h K =
    codeWp Try.prog 20 quintetref11_Find_lp quintetref11_Find_cut (bodyOf Try.f32) 1 (endQ Try.prog Try.f32.results.toList K) (argTm [(.slice A1 l1 c1), (.int .i64 x2)]) h := by kernel_rfl
set_option maxRecDepth 100000 in
theorem quintetref11_Find_ok (A1 : Option Addr) (l1 : Nat) (c1 : Nat) (x2 : Int) {h : Hp} {K : Value → Hp → Prop} (H : quintetref11_Find A1 l1 c1 x2 h K) : CallsH Try.prog 32 #[(.slice A1 l1 c1), (.int .i64 x2)] h K :=
  calls_of (args := [(.slice A1 l1 c1), (.int .i64 x2)]) (n := 20) (lp := quintetref11_Find_lp) (cut := quintetref11_Find_cut) Try.func32 (c := bodyOf Try.f32) (by kernel_rfl) (by kernel_rfl) (by kernel_rfl) (good_by (c := (bodyOf Try.f32)) (i := 1) (l := [(26, (sub (bodyOf Try.f32) [true, false, true, false]))]) (by kernel_rfl) (List.forall_mem_cons.2 ⟨quintetref11_Find_l1_snd, (fun _ h => by cases h)⟩))
    (Eq.mp (quintetref11_Find_eq A1 l1 c1 x2 h K) H)

/-! ### quintet/quintetref08.Match: function 34 -/
def quintetref08_Match_j1 (K0 : Bool → Hp → Prop) (a45 : Addr) (a46 : Addr) (b47 : Bool) (h : Hp) : Prop :=
  br b47
  (∃ x67 : Int, ∃ x68 : Int, HV Try.prog (Instr.loadAt 49 (.pointer (some (a45.add 1)))) h (.agg #[(.int .u32 x67), (.int .i64 x68)]) ∧ 
  ∃ x69 : Int, HV Try.prog (Instr.loadAt 33 (.pointer (some a46))) h (.int .u32 x69) ∧ 
  CallsH Try.prog 52 #[(.agg #[(.int .u32 x67), (.int .i64 x68)]), (.int .u32 x69)] h fun r71 h70 =>
  ∃ b72 : Bool, r71 = (.bool b72) ∧ 
  br b72
  (∃ x73 : Int, ∃ x74 : Int, HV Try.prog (Instr.loadAt 49 (.pointer (some (a45.add 3)))) h70 (.agg #[(.int .u32 x73), (.int .i64 x74)]) ∧ 
  ∃ x75 : Int, HV Try.prog (Instr.loadAt 33 (.pointer (some (a46.add 1)))) h70 (.int .u32 x75) ∧ 
  CallsH Try.prog 52 #[(.agg #[(.int .u32 x73), (.int .i64 x74)]), (.int .u32 x75)] h70 fun r77 h76 =>
  ∃ b78 : Bool, r77 = (.bool b78) ∧ 
  br b78
  (∃ x79 : Int, ∃ x80 : Int, HV Try.prog (Instr.loadAt 53 (.pointer (some (a45.add 9)))) h76 (.agg #[(.int .u8 x79), (.int .u8 x80)]) ∧ 
  ∃ x81 : Int, HV Try.prog (Instr.loadAt 5 (.pointer (some (a46.add 4)))) h76 (.int .u8 x81) ∧ 
  CallsH Try.prog 53 #[(.agg #[(.int .u8 x79), (.int .u8 x80)]), (.int .u8 x81)] h76 fun r83 h82 =>
  ∃ b84 : Bool, r83 = (.bool b84) ∧ 
  K0 b84 h82)
  (K0 false h76))
  (K0 false h70))
  (K0 false h)
def quintetref08_Match_j1_L (Q : Qx) (tm : Tm) (h : Hp) : Prop :=
  selA (tm 2) fun a45 =>
  selA (tm 3) fun a46 =>
  selB (tm 5) fun b47 =>
  quintetref08_Match_j1 (fun (b66 : Bool) h => Q (.ret) (mkTm [(4, some (.bool b66))]) h) a45 a46 b47 h
def quintetref08_Match (x1 : Int) (x2 : Int) (x3 : Int) (x4 : Int) (x5 : Int) (x6 : Int) (x7 : Int) (x8 : Int) (x9 : Int) (x10 : Int) (x11 : Int) (x12 : Int) (x13 : Int) (x14 : Int) (x15 : Int) (x16 : Int) (x17 : Int) (h : Hp) (K : Value → Hp → Prop) : Prop :=
  newC h (.cells #[(.int .i64 x1), (.int .u32 x2), (.int .i64 x3), (.int .u32 x4), (.int .i64 x5), (.int .u16 x6), (.int .u16 x7), (.int .u16 x8), (.int .u16 x9), (.int .u8 x10), (.int .u8 x11), (.int .i64 x12)] 55 (0, 0)) fun a19 h18 => 
  newC h18 (.cells #[(.int .u32 x13), (.int .u32 x14), (.int .u16 x15), (.int .u16 x16), (.int .u8 x17)] 36 (0, 0)) fun a21 h20 => 
  ∃ x22 : Int, ∃ x23 : Int, ∃ x24 : Int, ∃ x25 : Int, ∃ x26 : Int, ∃ x27 : Int, ∃ x28 : Int, ∃ x29 : Int, ∃ x30 : Int, ∃ x31 : Int, ∃ x32 : Int, ∃ x33 : Int, HV Try.prog (Instr.loadAt 55 (.pointer (some a19))) h20 (.agg #[(.int .i64 x22), (.int .u32 x23), (.int .i64 x24), (.int .u32 x25), (.int .i64 x26), (.int .u16 x27), (.int .u16 x28), (.int .u16 x29), (.int .u16 x30), (.int .u8 x31), (.int .u8 x32), (.int .i64 x33)]) ∧ 
  CallsH Try.prog 51 #[(.agg #[(.int .i64 x22), (.int .u32 x23), (.int .i64 x24), (.int .u32 x25), (.int .i64 x26), (.int .u16 x27), (.int .u16 x28), (.int .u16 x29), (.int .u16 x30), (.int .u8 x31), (.int .u8 x32), (.int .i64 x33)])] h20 fun r35 h34 =>
  ∃ b36 : Bool, r35 = (.bool b36) ∧ 
  br (!b36)
  (K (.bool false) h34)
  (∃ x85 : Int, HV Try.prog (Instr.loadAt 34 (.pointer (some (a19.add 5)))) h34 (.int .u16 x85) ∧ 
  ∃ x86 : Int, HV Try.prog (Instr.loadAt 34 (.pointer (some (a21.add 2)))) h34 (.int .u16 x86) ∧ 
  br (decide (x85 ≤ x86))
  (∃ x87 : Int, HV Try.prog (Instr.loadAt 34 (.pointer (some (a21.add 2)))) h34 (.int .u16 x87) ∧ 
  ∃ x88 : Int, HV Try.prog (Instr.loadAt 34 (.pointer (some (Addr.add (a19.add 5) 1)))) h34 (.int .u16 x88) ∧ 
  br (decide (x87 ≤ x88))
  (∃ x89 : Int, HV Try.prog (Instr.loadAt 34 (.pointer (some (a19.add 7)))) h34 (.int .u16 x89) ∧ 
  ∃ x90 : Int, HV Try.prog (Instr.loadAt 34 (.pointer (some (a21.add 3)))) h34 (.int .u16 x90) ∧ 
  br (decide (x89 ≤ x90))
  (∃ x91 : Int, HV Try.prog (Instr.loadAt 34 (.pointer (some (a21.add 3)))) h34 (.int .u16 x91) ∧ 
  ∃ x92 : Int, HV Try.prog (Instr.loadAt 34 (.pointer (some (Addr.add (a19.add 7) 1)))) h34 (.int .u16 x92) ∧ 
  quintetref08_Match_j1
  (fun (b93 : Bool) (h94 : Hp) =>
  K (.bool b93) h94)
  a19 a21 (decide (x91 ≤ x92)) h34)
  (quintetref08_Match_j1
  (fun (b95 : Bool) (h96 : Hp) =>
  K (.bool b95) h96)
  a19 a21 false h34))
  (quintetref08_Match_j1
  (fun (b97 : Bool) (h98 : Hp) =>
  K (.bool b97) h98)
  a19 a21 false h34))
  (quintetref08_Match_j1
  (fun (b99 : Bool) (h100 : Hp) =>
  K (.bool b99) h100)
  a19 a21 false h34))
def quintetref08_Match_lp (i : Nat) (Q : Qx) (tm : Tm) (h : Hp) : Prop := match Nat.beq i 7 with
  | true => quintetref08_Match_j1_L Q tm h
  | false => False
def quintetref08_Match_cut (i : Nat) : Option (List Nat) := match Nat.beq i 7 with
  | true => some [2, 3, 5]
  | false => none
set_option maxRecDepth 100000 in
theorem quintetref08_Match_j1_step (Q : Qx) (a45 : Addr) (a46 : Addr) (b47 : Bool) (h : Hp) : quintetref08_Match_j1_L Q (mkTm [(2, some (.pointer (some a45))), (3, some (.pointer (some a46))), (5, some (.bool b47))]) h =
    codeWp Try.prog 61 quintetref08_Match_lp quintetref08_Match_cut (sub (bodyOf Try.f34) [true, true, true]) 15 (maskQ (fun e => match e with | .ret => [4] | _ => []) Q) (mkTm [(2, some (.pointer (some a45))), (3, some (.pointer (some a46))), (5, some (.bool b47))]) h := by kernel_rfl
theorem quintetref08_Match_j1_mask (Q : Qx) (tm : Tm) (h : Hp) : quintetref08_Match_j1_L Q tm h ↔ quintetref08_Match_j1_L Q (mask [2, 3, 5] tm) h := Iff.rfl
set_option maxRecDepth 100000 in
theorem quintetref08_Match_j1_snd : SndAt Try.prog 61 none (sub (bodyOf Try.f34) [true, true, true]) (quintetref08_Match_lp 7) := by
  refine join_sound (lp := quintetref08_Match_lp) (cut := quintetref08_Match_cut) (i := 7) (c := (sub (bodyOf Try.f34) [true, true, true])) [2, 3, 5] (fun e => match e with | .ret => [4] | _ => []) quintetref08_Match_j1_L ?_ ?_
  · exact good_by (c := (sub (bodyOf Try.f34) [true, true, true])) (i := 15) (l := []) (by kernel_rfl) (fun _ h => by cases h)
  · intro Q tm h H
    have H0 := H
    obtain ⟨a45, e2, H⟩ := selA_ex H
    obtain ⟨a46, e3, H⟩ := selA_ex H
    obtain ⟨b47, e5, H⟩ := selB_ex H
    have e : mask [2, 3, 5] tm = mkTm [(2, some (.pointer (some a45))), (3, some (.pointer (some a46))), (5, some (.bool b47))] := by simp only [mask, List.map_cons, List.map_nil, e2, e3, e5] <;> rfl
    rw [e]
    refine Eq.mp (quintetref08_Match_j1_step Q a45 a46 b47 h) ?_
    rw [← e]
    exact (quintetref08_Match_j1_mask Q tm h).mp H0
set_option maxRecDepth 100000 in
theorem quintetref08_Match_eq (x1 : Int) (x2 : Int) (x3 : Int) (x4 : Int) (x5 : Int) (x6 : Int) (x7 : Int) (x8 : Int) (x9 : Int) (x10 : Int) (x11 : Int) (x12 : Int) (x13 : Int) (x14 : Int) (x15 : Int) (x16 : Int) (x17 : Int) (h : Hp) (K : Value → Hp → Prop) : quintetref08_Match x1 x2 x3 x4 x5 x6 x7 x8 x9 x10 x11 x12 x13 x14 x15 x16 x17 h K =
    codeWp Try.prog 61 quintetref08_Match_lp quintetref08_Match_cut (bodyOf Try.f34) 1 (endQ Try.prog Try.f34.results.toList K) (argTm [(.agg #[(.int .i64 x1), (.int .u32 x2), (.int .i64 x3), (.int .u32 x4), (.int .i64 x5), (.int .u16 x6), (.int .u16 x7), (.int .u16 x8), (.int .u16 x9), (.int .u8 x10), (.int .u8 x11), (.int .i64 x12)]), (.agg #[(.int .u32 x13), (.int .u32 x14), (.int .u16 x15), (.int .u16 x16), (.int .u8 x17)])]) h := by kernel_rfl
set_option maxRecDepth 100000 in
theorem quintetref08_Match_ok (x1 : Int) (x2 : Int) (x3 : Int) (x4 : Int) (x5 : Int) (x6 : Int) (x7 : Int) (x8 : Int) (x9 : Int) (x10 : Int) (x11 : Int) (x12 : Int) (x13 : Int) (x14 : Int) (x15 : Int) (x16 : Int) (x17 : Int) {h : Hp} {K : Value → Hp → Prop} (H : quintetref08_Match x1 x2 x3 x4 x5 x6 x7 x8 x9 x10 x11 x12 x13 x14 x15 x16 x17 h K) : CallsH Try.prog 34 #[(.agg #[(.int .i64 x1), (.int .u32 x2), (.int .i64 x3), (.int .u32 x4), (.int .i64 x5), (.int .u16 x6), (.int .u16 x7), (.int .u16 x8), (.int .u16 x9), (.int .u8 x10), (.int .u8 x11), (.int .i64 x12)]), (.agg #[(.int .u32 x13), (.int .u32 x14), (.int .u16 x15), (.int .u16 x16), (.int .u8 x17)])] h K :=
  calls_of (args := [(.agg #[(.int .i64 x1), (.int .u32 x2), (.int .i64 x3), (.int .u32 x4), (.int .i64 x5), (.int .u16 x6), (.int .u16 x7), (.int .u16 x8), (.int .u16 x9), (.int .u8 x10), (.int .u8 x11), (.int .i64 x12)]), (.agg #[(.int .u32 x13), (.int .u32 x14), (.int .u16 x15), (.int .u16 x16), (.int .u8 x17)])]) (n := 61) (lp := quintetref08_Match_lp) (cut := quintetref08_Match_cut) Try.func34 (c := bodyOf Try.f34) (by kernel_rfl) (by kernel_rfl) (by kernel_rfl) (good_by (c := (bodyOf Try.f34)) (i := 1) (l := [(7, (sub (bodyOf Try.f34) [true, true, true]))]) (by kernel_rfl) (List.forall_mem_cons.2 ⟨quintetref08_Match_j1_snd, (fun _ h => by cases h)⟩))
    (Eq.mp (quintetref08_Match_eq x1 x2 x3 x4 x5 x6 x7 x8 x9 x10 x11 x12 x13 x14 x15 x16 x17 h K) H)

/-! ### quintet/quintetref02.Check: function 47 -/
def quintetref02_Check_l3 (a26 : Addr) (K0 : Int → Hp → Prop) (K1 : Hp → Prop)  : Nat → Int → Hp → Prop
  | 0, _, _ => False
  | k + 1, x27, h =>
    br (decide (x27 < 32))
    (∃ x33 : Int, HV Try.prog (Instr.loadAt 33 (.pointer (some a26))) h (.int .u32 x33) ∧ 
    CallsH Try.prog 59 #[(.int .u32 x33), (.int .i64 x27)] h fun r35 h34 =>
    ∃ x36 : Int, r35 = (.int .i64 x36) ∧ 
    br (x36 == 1)
    (K0 21 h34)
    (quintetref02_Check_l3 a26 K0 K1 k (IntKind.i64.wrap (x27 + 1)) h34))
    (K1 h)
def quintetref02_Check_l3_L (Q : Qx) (k : Nat) (tm : Tm) (h : Hp) : Prop :=
  selA (tm 1) fun a26 =>
  selI .i64 (tm 3) fun x27 =>
  quintetref02_Check_l3 a26 (fun (x32 : Int) h => Q (.ret) (mkTm [(2, some (.int .i64 x32))]) h) (fun  h => Q (.exit 0) (mkTm []) h) k x27 h
def quintetref02_Check_j2 (K0 : Int → Hp → Prop) (a7 : Addr) (h : Hp) : Prop :=
  ∃ x25 : Int, HV Try.prog (Instr.loadAt 3 (.pointer (some (a7.add 1)))) h (.int .i64 x25) ∧ 
  ∃ k40, quintetref02_Check_l3 a7
  (fun (x37 : Int) (h38 : Hp) =>
  K0 x37 h38)
  (fun  (h39 : Hp) =>
  K0 0 h39)
  k40 x25 h
def quintetref02_Check_j2_L (Q : Qx) (tm : Tm) (h : Hp) : Prop :=
  selA (tm 1) fun a7 =>
  quintetref02_Check_j2 (fun (x24 : Int) h => Q (.ret) (mkTm [(2, some (.int .i64 x24))]) h) a7 h
def quintetref02_Check (x1 : Int) (x2 : Int) (h : Hp) (K : Value → Hp → Prop) : Prop :=
  newC h (.cells #[(.int .u32 x1), (.int .i64 x2)] 49 (0, 0)) fun a4 h3 => 
  ∃ x41 : Int, HV Try.prog (Instr.loadAt 3 (.pointer (some (a4.add 1)))) h3 (.int .i64 x41) ∧ 
  br (decide (x41 < 0))
  (K (.int .i64 20) h3)
  (∃ x42 : Int, HV Try.prog (Instr.loadAt 3 (.pointer (some (a4.add 1)))) h3 (.int .i64 x42) ∧ 
  br (decide (x42 > 32))
  (K (.int .i64 20) h3)
  (quintetref02_Check_j2
  (fun (x43 : Int) (h44 : Hp) =>
  K (.int .i64 x43) h44)
  a4 h3))
def quintetref02_Check_lp (i : Nat) (Q : Qx) (tm : Tm) (h : Hp) : Prop := match Nat.beq i 58 with
  | true => ∃ k, quintetref02_Check_l3_L Q k tm h
  | false => match Nat.beq i 3 with
  | true => quintetref02_Check_j2_L Q tm h
  | false => False
def quintetref02_Check_cut (i : Nat) : Option (List Nat) := match Nat.beq i 3 with
  | true => some [1]
  | false => none
set_option maxRecDepth 100000 in
theorem quintetref02_Check_l3_step (Q : Qx) (k : Nat) (a26 : Addr) (x27 : Int) (h : Hp) : quintetref02_Check_l3_L Q (k + 1) (mkTm [(1, some (.pointer (some a26))), (3, some (.int .i64 x27))]) h =
    codeWp Try.prog 23 quintetref02_Check_lp quintetref02_Check_cut (sub (bodyOf Try.f47) [true, true, false, true, false, false]) 116 (thenQ (fun tm h => quintetref02_Check_l3_L Q k (mask [1, 3] tm) h) (maskQ (fun e => match e with | .ret => [2] | .exit 0 => [] | _ => []) Q)) (mkTm [(1, some (.pointer (some a26))), (3, some (.int .i64 x27))]) h := by kernel_rfl
theorem quintetref02_Check_l3_mask (Q : Qx) (k : Nat) (tm : Tm) (h : Hp) : quintetref02_Check_l3_L Q k tm h ↔ quintetref02_Check_l3_L Q k (mask [1, 3] tm) h := Iff.rfl
set_option maxRecDepth 100000 in
theorem quintetref02_Check_l3_snd : SndAt Try.prog 23 none (sub (bodyOf Try.f47) [true, true, false, true, false]) (quintetref02_Check_lp 58) := by
  refine loop_sound (lp := quintetref02_Check_lp) (cut := quintetref02_Check_cut) (i := 58) (c := (sub (bodyOf Try.f47) [true, true, false, true, false, false])) [1, 3] (fun e => match e with | .ret => [2] | .exit 0 => [] | _ => []) quintetref02_Check_l3_L ?_ ?_ ?_
  · exact good_by (c := (sub (bodyOf Try.f47) [true, true, false, true, false, false])) (i := 116) (l := []) (by kernel_rfl) (fun _ h => by cases h)
  · intro Q tm h H
    obtain ⟨a26, e1, H⟩ := selA_ex H
    obtain ⟨x27, e3, H⟩ := selI_ex H
    exact H
  · intro Q k tm h H
    have H0 := H
    obtain ⟨a26, e1, H⟩ := selA_ex H
    obtain ⟨x27, e3, H⟩ := selI_ex H
    have e : mask [1, 3] tm = mkTm [(1, some (.pointer (some a26))), (3, some (.int .i64 x27))] := by simp only [mask, List.map_cons, List.map_nil, e1, e3] <;> rfl
    rw [e]
    refine Eq.mp (quintetref02_Check_l3_step Q k a26 x27 h) ?_
    rw [← e]
    exact (quintetref02_Check_l3_mask Q (k + 1) tm h).mp H0
set_option maxRecDepth 100000 in
theorem quintetref02_Check_j2_step (Q : Qx) (a7 : Addr) (h : Hp) : quintetref02_Check_j2_L Q (mkTm [(1, some (.pointer (some a7)))]) h =
    codeWp Try.prog 23 quintetref02_Check_lp quintetref02_Check_cut (sub (bodyOf Try.f47) [true, true]) 7 (maskQ (fun e => match e with | .ret => [2] | _ => []) Q) (mkTm [(1, some (.pointer (some a7)))]) h := by kernel_rfl
theorem quintetref02_Check_j2_mask (Q : Qx) (tm : Tm) (h : Hp) : quintetref02_Check_j2_L Q tm h ↔ quintetref02_Check_j2_L Q (mask [1] tm) h := Iff.rfl
set_option maxRecDepth 100000 in
theorem quintetref02_Check_j2_snd : SndAt Try.prog 23 none (sub (bodyOf Try.f47) [true, true]) (quintetref02_Check_lp 3) := by
  refine join_sound (lp := quintetref02_Check_lp) (cut := quintetref02_Check_cut) (i := 3) (c := (sub (bodyOf Try.f47) [true, true])) [1] (fun e => match e with | .ret => [2] | _ => []) quintetref02_Check_j2_L ?_ ?_
  · exact good_by (c := (sub (bodyOf Try.f47) [true, true])) (i := 7) (l := [(58, (sub (bodyOf Try.f47) [true, true, false, true, false]))]) (by kernel_rfl) (List.forall_mem_cons.2 ⟨quintetref02_Check_l3_snd, (fun _ h => by cases h)⟩)
  · intro Q tm h H
    have H0 := H
    obtain ⟨a7, e1, H⟩ := selA_ex H
    have e : mask [1] tm = mkTm [(1, some (.pointer (some a7)))] := by simp only [mask, List.map_cons, List.map_nil, e1] <;> rfl
    rw [e]
    refine Eq.mp (quintetref02_Check_j2_step Q a7 h) ?_
    rw [← e]
    exact (quintetref02_Check_j2_mask Q tm h).mp H0
set_option maxRecDepth 100000 in
theorem quintetref02_Check_eq (x1 : Int) (x2 : Int) (h : Hp) (K : Value → Hp → Prop) : quintetref02_Check x1 x2 h K =
    codeWp Try.prog 23 quintetref02_Check_lp quintetref02_Check_cut (bodyOf Try.f47) 1 (endQ Try.prog Try.f47.results.toList K) (argTm [(.agg #[(.int .u32 x1), (.int .i64 x2)])]) h := by kernel_rfl
set_option maxRecDepth 100000 in
theorem quintetref02_Check_ok (x1 : Int) (x2 : Int) {h : Hp} {K : Value → Hp → Prop} (H : quintetref02_Check x1 x2 h K) : CallsH Try.prog 47 #[(.agg #[(.int .u32 x1), (.int .i64 x2)])] h K :=
  calls_of (args := [(.agg #[(.int .u32 x1), (.int .i64 x2)])]) (n := 23) (lp := quintetref02_Check_lp) (cut := quintetref02_Check_cut) Try.func47 (c := bodyOf Try.f47) (by kernel_rfl) (by kernel_rfl) (by kernel_rfl) (good_by (c := (bodyOf Try.f47)) (i := 1) (l := [(3, (sub (bodyOf Try.f47) [true, true]))]) (by kernel_rfl) (List.forall_mem_cons.2 ⟨quintetref02_Check_j2_snd, (fun _ h => by cases h)⟩))
    (Eq.mp (quintetref02_Check_eq x1 x2 h K) H)

/-! ### quintet/quintetref08.ends: function 48 -/
def quintetref08_ends (x1 : Int) (x2 : Int) (h : Hp) (K : Value → Hp → Prop) : Prop :=
  newC h (.cells #[(.int .u16 x1), (.int .u16 x2)] 51 (0, 0)) fun a4 h3 => 
  ∃ x5 : Int, HV Try.prog (Instr.loadAt 34 (.pointer (some a4))) h3 (.int .u16 x5) ∧ 
  ∃ x6 : Int, HV Try.prog (Instr.loadAt 34 (.pointer (some (a4.add 1)))) h3 (.int .u16 x6) ∧ 
  br (decide (x5 > x6))
  (K (.int .i64 30) h3)
  (K (.int .i64 0) h3)
def quintetref08_ends_lp (i : Nat) (Q : Qx) (tm : Tm) (h : Hp) : Prop := False
def quintetref08_ends_cut (i : Nat) : Option (List Nat) := none
set_option maxRecDepth 100000 in
theorem quintetref08_ends_eq (x1 : Int) (x2 : Int) (h : Hp) (K : Value → Hp → Prop) : quintetref08_ends x1 x2 h K =
    codeWp Try.prog 8 quintetref08_ends_lp quintetref08_ends_cut (bodyOf Try.f48) 1 (endQ Try.prog Try.f48.results.toList K) (argTm [(.agg #[(.int .u16 x1), (.int .u16 x2)])]) h := by kernel_rfl
set_option maxRecDepth 100000 in
theorem quintetref08_ends_ok (x1 : Int) (x2 : Int) {h : Hp} {K : Value → Hp → Prop} (H : quintetref08_ends x1 x2 h K) : CallsH Try.prog 48 #[(.agg #[(.int .u16 x1), (.int .u16 x2)])] h K :=
  calls_of (args := [(.agg #[(.int .u16 x1), (.int .u16 x2)])]) (n := 8) (lp := quintetref08_ends_lp) (cut := quintetref08_ends_cut) Try.func48 (c := bodyOf Try.f48) (by kernel_rfl) (by kernel_rfl) (by kernel_rfl) (good_by (c := (bodyOf Try.f48)) (i := 1) (l := []) (by kernel_rfl) (fun _ h => by cases h))
    (Eq.mp (quintetref08_ends_eq x1 x2 h K) H)

/-! ### quintet/quintetref04.Check: function 49 -/
def quintetref04_Check_l1 (a5 : Addr) (K0 : Int → Hp → Prop) (K1 : Hp → Prop)  : Nat → Int → Hp → Prop
  | 0, _, _ => False
  | k + 1, x6, h =>
    br (decide (x6 < 8))
    (∃ x16 : Int, HV Try.prog (Instr.loadAt 5 (.pointer (some a5))) h (.int .u8 x16) ∧ 
    CallsH Try.prog 60 #[(.int .u8 x16), (.int .i64 x6)] h fun r18 h17 =>
    ∃ x19 : Int, r18 = (.int .i64 x19) ∧ 
    br (x19 == 1)
    (∃ x20 : Int, HV Try.prog (Instr.loadAt 5 (.pointer (some (a5.add 1)))) h17 (.int .u8 x20) ∧ 
    CallsH Try.prog 60 #[(.int .u8 x20), (.int .i64 x6)] h17 fun r22 h21 =>
    ∃ x23 : Int, r22 = (.int .i64 x23) ∧ 
    br (x23 == 0)
    (K0 40 h21)
    (quintetref04_Check_l1 a5 K0 K1 k (IntKind.i64.wrap (x6 + 1)) h21))
    (quintetref04_Check_l1 a5 K0 K1 k (IntKind.i64.wrap (x6 + 1)) h17))
    (K1 h)
def quintetref04_Check_l1_L (Q : Qx) (k : Nat) (tm : Tm) (h : Hp) : Prop :=
  selA (tm 1) fun a5 =>
  selI .i64 (tm 3) fun x6 =>
  quintetref04_Check_l1 a5 (fun (x15 : Int) h => Q (.ret) (mkTm [(2, some (.int .i64 x15))]) h) (fun  h => Q (.exit 0) (mkTm []) h) k x6 h
def quintetref04_Check (x1 : Int) (x2 : Int) (h : Hp) (K : Value → Hp → Prop) : Prop :=
  newC h (.cells #[(.int .u8 x1), (.int .u8 x2)] 53 (0, 0)) fun a4 h3 => 
  ∃ k27, quintetref04_Check_l1 a4
  (fun (x24 : Int) (h25 : Hp) =>
  K (.int .i64 x24) h25)
  (fun  (h26 : Hp) =>
  K (.int .i64 0) h26)
  k27 0 h3
def quintetref04_Check_lp (i : Nat) (Q : Qx) (tm : Tm) (h : Hp) : Prop := match Nat.beq i 26 with
  | true => ∃ k, quintetref04_Check_l1_L Q k tm h
  | false => False
def quintetref04_Check_cut (i : Nat) : Option (List Nat) := none
set_option maxRecDepth 100000 in
theorem quintetref04_Check_l1_step (Q : Qx) (k : Nat) (a5 : Addr) (x6 : Int) (h : Hp) : quintetref04_Check_l1_L Q (k + 1) (mkTm [(1, some (.pointer (some a5))), (3, some (.int .i64 x6))]) h =
    codeWp Try.prog 20 quintetref04_Check_lp quintetref04_Check_cut (sub (bodyOf Try.f49) [true, false, true, false, false]) 52 (thenQ (fun tm h => quintetref04_Check_l1_L Q k (mask [1, 3] tm) h) (maskQ (fun e => match e with | .ret => [2] | .exit 0 => [] | _ => []) Q)) (mkTm [(1, some (.pointer (some a5))), (3, some (.int .i64 x6))]) h := by kernel_rfl
theorem quintetref04_Check_l1_mask (Q : Qx) (k : Nat) (tm : Tm) (h : Hp) : quintetref04_Check_l1_L Q k tm h ↔ quintetref04_Check_l1_L Q k (mask [1, 3] tm) h := Iff.rfl
set_option maxRecDepth 100000 in
theorem quintetref04_Check_l1_snd : SndAt Try.prog 20 none (sub (bodyOf Try.f49) [true, false, true, false]) (quintetref04_Check_lp 26) := by
  refine loop_sound (lp := quintetref04_Check_lp) (cut := quintetref04_Check_cut) (i := 26) (c := (sub (bodyOf Try.f49) [true, false, true, false, false])) [1, 3] (fun e => match e with | .ret => [2] | .exit 0 => [] | _ => []) quintetref04_Check_l1_L ?_ ?_ ?_
  · exact good_by (c := (sub (bodyOf Try.f49) [true, false, true, false, false])) (i := 52) (l := []) (by kernel_rfl) (fun _ h => by cases h)
  · intro Q tm h H
    obtain ⟨a5, e1, H⟩ := selA_ex H
    obtain ⟨x6, e3, H⟩ := selI_ex H
    exact H
  · intro Q k tm h H
    have H0 := H
    obtain ⟨a5, e1, H⟩ := selA_ex H
    obtain ⟨x6, e3, H⟩ := selI_ex H
    have e : mask [1, 3] tm = mkTm [(1, some (.pointer (some a5))), (3, some (.int .i64 x6))] := by simp only [mask, List.map_cons, List.map_nil, e1, e3] <;> rfl
    rw [e]
    refine Eq.mp (quintetref04_Check_l1_step Q k a5 x6 h) ?_
    rw [← e]
    exact (quintetref04_Check_l1_mask Q (k + 1) tm h).mp H0
set_option maxRecDepth 100000 in
theorem quintetref04_Check_eq (x1 : Int) (x2 : Int) (h : Hp) (K : Value → Hp → Prop) : quintetref04_Check x1 x2 h K =
    codeWp Try.prog 20 quintetref04_Check_lp quintetref04_Check_cut (bodyOf Try.f49) 1 (endQ Try.prog Try.f49.results.toList K) (argTm [(.agg #[(.int .u8 x1), (.int .u8 x2)])]) h := by kernel_rfl
set_option maxRecDepth 100000 in
theorem quintetref04_Check_ok (x1 : Int) (x2 : Int) {h : Hp} {K : Value → Hp → Prop} (H : quintetref04_Check x1 x2 h K) : CallsH Try.prog 49 #[(.agg #[(.int .u8 x1), (.int .u8 x2)])] h K :=
  calls_of (args := [(.agg #[(.int .u8 x1), (.int .u8 x2)])]) (n := 20) (lp := quintetref04_Check_lp) (cut := quintetref04_Check_cut) Try.func49 (c := bodyOf Try.f49) (by kernel_rfl) (by kernel_rfl) (by kernel_rfl) (good_by (c := (bodyOf Try.f49)) (i := 1) (l := [(26, (sub (bodyOf Try.f49) [true, false, true, false]))]) (by kernel_rfl) (List.forall_mem_cons.2 ⟨quintetref04_Check_l1_snd, (fun _ h => by cases h)⟩))
    (Eq.mp (quintetref04_Check_eq x1 x2 h K) H)

/-! ### quintet/quintetref08.May: function 51 -/
def quintetref08_May (x1 : Int) (x2 : Int) (x3 : Int) (x4 : Int) (x5 : Int) (x6 : Int) (x7 : Int) (x8 : Int) (x9 : Int) (x10 : Int) (x11 : Int) (x12 : Int) (h : Hp) (K : Value → Hp → Prop) : Prop :=
  newC h (.cells #[(.int .i64 x1), (.int .u32 x2), (.int .i64 x3), (.int .u32 x4), (.int .i64 x5), (.int .u16 x6), (.int .u16 x7), (.int .u16 x8), (.int .u16 x9), (.int .u8 x10), (.int .u8 x11), (.int .i64 x12)] 55 (0, 0)) fun a14 h13 => 
  ∃ x15 : Int, ∃ x16 : Int, ∃ x17 : Int, ∃ x18 : Int, ∃ x19 : Int, ∃ x20 : Int, ∃ x21 : Int, ∃ x22 : Int, ∃ x23 : Int, ∃ x24 : Int, ∃ x25 : Int, ∃ x26 : Int, HV Try.prog (Instr.loadAt 55 (.pointer (some a14))) h13 (.agg #[(.int .i64 x15), (.int .u32 x16), (.int .i64 x17), (.int .u32 x18), (.int .i64 x19), (.int .u16 x20), (.int .u16 x21), (.int .u16 x22), (.int .u16 x23), (.int .u8 x24), (.int .u8 x25), (.int .i64 x26)]) ∧ 
  CallsH Try.prog 31 #[(.agg #[(.int .i64 x15), (.int .u32 x16), (.int .i64 x17), (.int .u32 x18), (.int .i64 x19), (.int .u16 x20), (.int .u16 x21), (.int .u16 x22), (.int .u16 x23), (.int .u8 x24), (.int .u8 x25), (.int .i64 x26)])] h13 fun r28 h27 =>
  ∃ x29 : Int, ∃ x30 : Int, r28 = (.tuple #[(.int .i64 x29), (.int .i64 x30)]) ∧ 
  K (.bool (x29 == 0)) h27
def quintetref08_May_lp (i : Nat) (Q : Qx) (tm : Tm) (h : Hp) : Prop := False
def quintetref08_May_cut (i : Nat) : Option (List Nat) := none
set_option maxRecDepth 100000 in
theorem quintetref08_May_eq (x1 : Int) (x2 : Int) (x3 : Int) (x4 : Int) (x5 : Int) (x6 : Int) (x7 : Int) (x8 : Int) (x9 : Int) (x10 : Int) (x11 : Int) (x12 : Int) (h : Hp) (K : Value → Hp → Prop) : quintetref08_May x1 x2 x3 x4 x5 x6 x7 x8 x9 x10 x11 x12 h K =
    codeWp Try.prog 12 quintetref08_May_lp quintetref08_May_cut (bodyOf Try.f51) 1 (endQ Try.prog Try.f51.results.toList K) (argTm [(.agg #[(.int .i64 x1), (.int .u32 x2), (.int .i64 x3), (.int .u32 x4), (.int .i64 x5), (.int .u16 x6), (.int .u16 x7), (.int .u16 x8), (.int .u16 x9), (.int .u8 x10), (.int .u8 x11), (.int .i64 x12)])]) h := by kernel_rfl
set_option maxRecDepth 100000 in
theorem quintetref08_May_ok (x1 : Int) (x2 : Int) (x3 : Int) (x4 : Int) (x5 : Int) (x6 : Int) (x7 : Int) (x8 : Int) (x9 : Int) (x10 : Int) (x11 : Int) (x12 : Int) {h : Hp} {K : Value → Hp → Prop} (H : quintetref08_May x1 x2 x3 x4 x5 x6 x7 x8 x9 x10 x11 x12 h K) : CallsH Try.prog 51 #[(.agg #[(.int .i64 x1), (.int .u32 x2), (.int .i64 x3), (.int .u32 x4), (.int .i64 x5), (.int .u16 x6), (.int .u16 x7), (.int .u16 x8), (.int .u16 x9), (.int .u8 x10), (.int .u8 x11), (.int .i64 x12)])] h K :=
  calls_of (args := [(.agg #[(.int .i64 x1), (.int .u32 x2), (.int .i64 x3), (.int .u32 x4), (.int .i64 x5), (.int .u16 x6), (.int .u16 x7), (.int .u16 x8), (.int .u16 x9), (.int .u8 x10), (.int .u8 x11), (.int .i64 x12)])]) (n := 12) (lp := quintetref08_May_lp) (cut := quintetref08_May_cut) Try.func51 (c := bodyOf Try.f51) (by kernel_rfl) (by kernel_rfl) (by kernel_rfl) (good_by (c := (bodyOf Try.f51)) (i := 1) (l := []) (by kernel_rfl) (fun _ h => by cases h))
    (Eq.mp (quintetref08_May_eq x1 x2 x3 x4 x5 x6 x7 x8 x9 x10 x11 x12 h K) H)

/-! ### quintet/quintetref02.Has: function 52 -/
def quintetref02_Has_l1 (x11 : Int) (a12 : Addr) (K0 : Bool → Hp → Prop) (K1 : Hp → Prop)  : Nat → Int → Hp → Prop
  | 0, _, _ => False
  | k + 1, x13, h =>
    ∃ x23 : Int, HV Try.prog (Instr.loadAt 3 (.pointer (some (a12.add 1)))) h (.int .i64 x23) ∧ 
    br (decide (x13 < x23))
    (∃ x24 : Int, HV Try.prog (Instr.loadAt 33 (.pointer (some a12))) h (.int .u32 x24) ∧ 
    CallsH Try.prog 59 #[(.int .u32 x24), (.int .i64 x13)] h fun r26 h25 =>
    ∃ x27 : Int, r26 = (.int .i64 x27) ∧ 
    CallsH Try.prog 59 #[(.int .u32 x11), (.int .i64 x13)] h25 fun r29 h28 =>
    ∃ x30 : Int, r29 = (.int .i64 x30) ∧ 
    br (x27 != x30)
    (K0 false h28)
    (quintetref02_Has_l1 x11 a12 K0 K1 k (IntKind.i64.wrap (x13 + 1)) h28))
    (K1 h)
def quintetref02_Has_l1_L (Q : Qx) (k : Nat) (tm : Tm) (h : Hp) : Prop :=
  selI .u32 (tm 1) fun x11 =>
  selA (tm 2) fun a12 =>
  selI .i64 (tm 5) fun x13 =>
  quintetref02_Has_l1 x11 a12 (fun (b22 : Bool) h => Q (.ret) (mkTm [(4, some (.bool b22))]) h) (fun  h => Q (.exit 0) (mkTm []) h) k x13 h
def quintetref02_Has (x1 : Int) (x2 : Int) (x3 : Int) (h : Hp) (K : Value → Hp → Prop) : Prop :=
  newC h (.cells #[(.int .u32 x1), (.int .i64 x2)] 49 (0, 0)) fun a5 h4 => 
  ∃ x6 : Int, ∃ x7 : Int, HV Try.prog (Instr.loadAt 49 (.pointer (some a5))) h4 (.agg #[(.int .u32 x6), (.int .i64 x7)]) ∧ 
  CallsH Try.prog 47 #[(.agg #[(.int .u32 x6), (.int .i64 x7)])] h4 fun r9 h8 =>
  ∃ x10 : Int, r9 = (.int .i64 x10) ∧ 
  br (x10 != 0)
  (K (.bool false) h8)
  (∃ k34, quintetref02_Has_l1 x3 a5
  (fun (b31 : Bool) (h32 : Hp) =>
  K (.bool b31) h32)
  (fun  (h33 : Hp) =>
  K (.bool true) h33)
  k34 0 h8)
def quintetref02_Has_lp (i : Nat) (Q : Qx) (tm : Tm) (h : Hp) : Prop := match Nat.beq i 58 with
  | true => ∃ k, quintetref02_Has_l1_L Q k tm h
  | false => False
def quintetref02_Has_cut (i : Nat) : Option (List Nat) := none
set_option maxRecDepth 100000 in
theorem quintetref02_Has_l1_step (Q : Qx) (k : Nat) (x11 : Int) (a12 : Addr) (x13 : Int) (h : Hp) : quintetref02_Has_l1_L Q (k + 1) (mkTm [(1, some (.int .u32 x11)), (2, some (.pointer (some a12))), (5, some (.int .i64 x13))]) h =
    codeWp Try.prog 23 quintetref02_Has_lp quintetref02_Has_cut (sub (bodyOf Try.f52) [true, true, false, true, false, false]) 116 (thenQ (fun tm h => quintetref02_Has_l1_L Q k (mask [1, 2, 5] tm) h) (maskQ (fun e => match e with | .ret => [4] | .exit 0 => [] | _ => []) Q)) (mkTm [(1, some (.int .u32 x11)), (2, some (.pointer (some a12))), (5, some (.int .i64 x13))]) h := by kernel_rfl
theorem quintetref02_Has_l1_mask (Q : Qx) (k : Nat) (tm : Tm) (h : Hp) : quintetref02_Has_l1_L Q k tm h ↔ quintetref02_Has_l1_L Q k (mask [1, 2, 5] tm) h := Iff.rfl
set_option maxRecDepth 100000 in
theorem quintetref02_Has_l1_snd : SndAt Try.prog 23 none (sub (bodyOf Try.f52) [true, true, false, true, false]) (quintetref02_Has_lp 58) := by
  refine loop_sound (lp := quintetref02_Has_lp) (cut := quintetref02_Has_cut) (i := 58) (c := (sub (bodyOf Try.f52) [true, true, false, true, false, false])) [1, 2, 5] (fun e => match e with | .ret => [4] | .exit 0 => [] | _ => []) quintetref02_Has_l1_L ?_ ?_ ?_
  · exact good_by (c := (sub (bodyOf Try.f52) [true, true, false, true, false, false])) (i := 116) (l := []) (by kernel_rfl) (fun _ h => by cases h)
  · intro Q tm h H
    obtain ⟨x11, e1, H⟩ := selI_ex H
    obtain ⟨a12, e2, H⟩ := selA_ex H
    obtain ⟨x13, e5, H⟩ := selI_ex H
    exact H
  · intro Q k tm h H
    have H0 := H
    obtain ⟨x11, e1, H⟩ := selI_ex H
    obtain ⟨a12, e2, H⟩ := selA_ex H
    obtain ⟨x13, e5, H⟩ := selI_ex H
    have e : mask [1, 2, 5] tm = mkTm [(1, some (.int .u32 x11)), (2, some (.pointer (some a12))), (5, some (.int .i64 x13))] := by simp only [mask, List.map_cons, List.map_nil, e1, e2, e5] <;> rfl
    rw [e]
    refine Eq.mp (quintetref02_Has_l1_step Q k x11 a12 x13 h) ?_
    rw [← e]
    exact (quintetref02_Has_l1_mask Q (k + 1) tm h).mp H0
set_option maxRecDepth 100000 in
theorem quintetref02_Has_eq (x1 : Int) (x2 : Int) (x3 : Int) (h : Hp) (K : Value → Hp → Prop) : quintetref02_Has x1 x2 x3 h K =
    codeWp Try.prog 23 quintetref02_Has_lp quintetref02_Has_cut (bodyOf Try.f52) 1 (endQ Try.prog Try.f52.results.toList K) (argTm [(.agg #[(.int .u32 x1), (.int .i64 x2)]), (.int .u32 x3)]) h := by kernel_rfl
set_option maxRecDepth 100000 in
theorem quintetref02_Has_ok (x1 : Int) (x2 : Int) (x3 : Int) {h : Hp} {K : Value → Hp → Prop} (H : quintetref02_Has x1 x2 x3 h K) : CallsH Try.prog 52 #[(.agg #[(.int .u32 x1), (.int .i64 x2)]), (.int .u32 x3)] h K :=
  calls_of (args := [(.agg #[(.int .u32 x1), (.int .i64 x2)]), (.int .u32 x3)]) (n := 23) (lp := quintetref02_Has_lp) (cut := quintetref02_Has_cut) Try.func52 (c := bodyOf Try.f52) (by kernel_rfl) (by kernel_rfl) (by kernel_rfl) (good_by (c := (bodyOf Try.f52)) (i := 1) (l := [(58, (sub (bodyOf Try.f52) [true, true, false, true, false]))]) (by kernel_rfl) (List.forall_mem_cons.2 ⟨quintetref02_Has_l1_snd, (fun _ h => by cases h)⟩))
    (Eq.mp (quintetref02_Has_eq x1 x2 x3 h K) H)

/-! ### quintet/quintetref04.Has: function 53 -/
def quintetref04_Has_l1 (x11 : Int) (a12 : Addr) (K0 : Bool → Hp → Prop) (K1 : Hp → Prop)  : Nat → Int → Hp → Prop
  | 0, _, _ => False
  | k + 1, x13, h =>
    br (decide (x13 < 8))
    (∃ x26 : Int, HV Try.prog (Instr.loadAt 5 (.pointer (some (a12.add 1)))) h (.int .u8 x26) ∧ 
    CallsH Try.prog 60 #[(.int .u8 x26), (.int .i64 x13)] h fun r28 h27 =>
    ∃ x29 : Int, r28 = (.int .i64 x29) ∧ 
    br (x29 == 1)
    (∃ x30 : Int, HV Try.prog (Instr.loadAt 5 (.pointer (some a12))) h27 (.int .u8 x30) ∧ 
    CallsH Try.prog 60 #[(.int .u8 x30), (.int .i64 x13)] h27 fun r32 h31 =>
    ∃ x33 : Int, r32 = (.int .i64 x33) ∧ 
    CallsH Try.prog 60 #[(.int .u8 x11), (.int .i64 x13)] h31 fun r35 h34 =>
    ∃ x36 : Int, r35 = (.int .i64 x36) ∧ 
    br (x33 != x36)
    (K0 false h34)
    (quintetref04_Has_l1 x11 a12 K0 K1 k (IntKind.i64.wrap (x13 + 1)) h34))
    (quintetref04_Has_l1 x11 a12 K0 K1 k (IntKind.i64.wrap (x13 + 1)) h27))
    (K1 h)
def quintetref04_Has_l1_L (Q : Qx) (k : Nat) (tm : Tm) (h : Hp) : Prop :=
  selI .u8 (tm 1) fun x11 =>
  selA (tm 2) fun a12 =>
  selI .i64 (tm 5) fun x13 =>
  quintetref04_Has_l1 x11 a12 (fun (b25 : Bool) h => Q (.ret) (mkTm [(4, some (.bool b25))]) h) (fun  h => Q (.exit 0) (mkTm []) h) k x13 h
def quintetref04_Has (x1 : Int) (x2 : Int) (x3 : Int) (h : Hp) (K : Value → Hp → Prop) : Prop :=
  newC h (.cells #[(.int .u8 x1), (.int .u8 x2)] 53 (0, 0)) fun a5 h4 => 
  ∃ x6 : Int, ∃ x7 : Int, HV Try.prog (Instr.loadAt 53 (.pointer (some a5))) h4 (.agg #[(.int .u8 x6), (.int .u8 x7)]) ∧ 
  CallsH Try.prog 49 #[(.agg #[(.int .u8 x6), (.int .u8 x7)])] h4 fun r9 h8 =>
  ∃ x10 : Int, r9 = (.int .i64 x10) ∧ 
  br (x10 != 0)
  (K (.bool false) h8)
  (∃ k40, quintetref04_Has_l1 x3 a5
  (fun (b37 : Bool) (h38 : Hp) =>
  K (.bool b37) h38)
  (fun  (h39 : Hp) =>
  K (.bool true) h39)
  k40 0 h8)
def quintetref04_Has_lp (i : Nat) (Q : Qx) (tm : Tm) (h : Hp) : Prop := match Nat.beq i 58 with
  | true => ∃ k, quintetref04_Has_l1_L Q k tm h
  | false => False
def quintetref04_Has_cut (i : Nat) : Option (List Nat) := none
set_option maxRecDepth 100000 in
theorem quintetref04_Has_l1_step (Q : Qx) (k : Nat) (x11 : Int) (a12 : Addr) (x13 : Int) (h : Hp) : quintetref04_Has_l1_L Q (k + 1) (mkTm [(1, some (.int .u8 x11)), (2, some (.pointer (some a12))), (5, some (.int .i64 x13))]) h =
    codeWp Try.prog 28 quintetref04_Has_lp quintetref04_Has_cut (sub (bodyOf Try.f53) [true, true, false, true, false, false]) 116 (thenQ (fun tm h => quintetref04_Has_l1_L Q k (mask [1, 2, 5] tm) h) (maskQ (fun e => match e with | .ret => [4] | .exit 0 => [] | _ => []) Q)) (mkTm [(1, some (.int .u8 x11)), (2, some (.pointer (some a12))), (5, some (.int .i64 x13))]) h := by kernel_rfl
theorem quintetref04_Has_l1_mask (Q : Qx) (k : Nat) (tm : Tm) (h : Hp) : quintetref04_Has_l1_L Q k tm h ↔ quintetref04_Has_l1_L Q k (mask [1, 2, 5] tm) h := Iff.rfl
set_option maxRecDepth 100000 in
theorem quintetref04_Has_l1_snd : SndAt Try.prog 28 none (sub (bodyOf Try.f53) [true, true, false, true, false]) (quintetref04_Has_lp 58) := by
  refine loop_sound (lp := quintetref04_Has_lp) (cut := quintetref04_Has_cut) (i := 58) (c := (sub (bodyOf Try.f53) [true, true, false, true, false, false])) [1, 2, 5] (fun e => match e with | .ret => [4] | .exit 0 => [] | _ => []) quintetref04_Has_l1_L ?_ ?_ ?_
  · exact good_by (c := (sub (bodyOf Try.f53) [true, true, false, true, false, false])) (i := 116) (l := []) (by kernel_rfl) (fun _ h => by cases h)
  · intro Q tm h H
    obtain ⟨x11, e1, H⟩ := selI_ex H
    obtain ⟨a12, e2, H⟩ := selA_ex H
    obtain ⟨x13, e5, H⟩ := selI_ex H
    exact H
  · intro Q k tm h H
    have H0 := H
    obtain ⟨x11, e1, H⟩ := selI_ex H
    obtain ⟨a12, e2, H⟩ := selA_ex H
    obtain ⟨x13, e5, H⟩ := selI_ex H
    have e : mask [1, 2, 5] tm = mkTm [(1, some (.int .u8 x11)), (2, some (.pointer (some a12))), (5, some (.int .i64 x13))] := by simp only [mask, List.map_cons, List.map_nil, e1, e2, e5] <;> rfl
    rw [e]
    refine Eq.mp (quintetref04_Has_l1_step Q k x11 a12 x13 h) ?_
    rw [← e]
    exact (quintetref04_Has_l1_mask Q (k + 1) tm h).mp H0
set_option maxRecDepth 100000 in
theorem quintetref04_Has_eq (x1 : Int) (x2 : Int) (x3 : Int) (h : Hp) (K : Value → Hp → Prop) : quintetref04_Has x1 x2 x3 h K =
    codeWp Try.prog 28 quintetref04_Has_lp quintetref04_Has_cut (bodyOf Try.f53) 1 (endQ Try.prog Try.f53.results.toList K) (argTm [(.agg #[(.int .u8 x1), (.int .u8 x2)]), (.int .u8 x3)]) h := by kernel_rfl
set_option maxRecDepth 100000 in
theorem quintetref04_Has_ok (x1 : Int) (x2 : Int) (x3 : Int) {h : Hp} {K : Value → Hp → Prop} (H : quintetref04_Has x1 x2 x3 h K) : CallsH Try.prog 53 #[(.agg #[(.int .u8 x1), (.int .u8 x2)]), (.int .u8 x3)] h K :=
  calls_of (args := [(.agg #[(.int .u8 x1), (.int .u8 x2)]), (.int .u8 x3)]) (n := 28) (lp := quintetref04_Has_lp) (cut := quintetref04_Has_cut) Try.func53 (c := bodyOf Try.f53) (by kernel_rfl) (by kernel_rfl) (by kernel_rfl) (good_by (c := (bodyOf Try.f53)) (i := 1) (l := [(58, (sub (bodyOf Try.f53) [true, true, false, true, false]))]) (by kernel_rfl) (List.forall_mem_cons.2 ⟨quintetref04_Has_l1_snd, (fun _ h => by cases h)⟩))
    (Eq.mp (quintetref04_Has_eq x1 x2 x3 h K) H)

/-! ### quintet/quintetref02.Bit: function 59 -/
def quintetref02_Bit (x1 : Int) (x2 : Int) (h : Hp) (K : Value → Hp → Prop) : Prop :=
  ∃ x3 : Int, PV Try.prog (binOp .shr 33 (.int .u32 x1) (.int .u64 (IntKind.u64.wrap (IntKind.i64.wrap (31 - x2))))) (.int .u32 x3) ∧
  K (.int .i64 (Int.tmod (IntKind.i64.wrap (x3)) 2)) h
def quintetref02_Bit_lp (i : Nat) (Q : Qx) (tm : Tm) (h : Hp) : Prop := False
def quintetref02_Bit_cut (i : Nat) : Option (List Nat) := none
set_option maxRecDepth 100000 in
theorem quintetref02_Bit_eq (x1 : Int) (x2 : Int) (h : Hp) (K : Value → Hp → Prop) : quintetref02_Bit x1 x2 h K =
    codeWp Try.prog 12 quintetref02_Bit_lp quintetref02_Bit_cut (bodyOf Try.f59) 1 (endQ Try.prog Try.f59.results.toList K) (argTm [(.int .u32 x1), (.int .i64 x2)]) h := by kernel_rfl
set_option maxRecDepth 100000 in
theorem quintetref02_Bit_ok (x1 : Int) (x2 : Int) {h : Hp} {K : Value → Hp → Prop} (H : quintetref02_Bit x1 x2 h K) : CallsH Try.prog 59 #[(.int .u32 x1), (.int .i64 x2)] h K :=
  calls_of (args := [(.int .u32 x1), (.int .i64 x2)]) (n := 12) (lp := quintetref02_Bit_lp) (cut := quintetref02_Bit_cut) Try.func59 (c := bodyOf Try.f59) (by kernel_rfl) (by kernel_rfl) (by kernel_rfl) (good_by (c := (bodyOf Try.f59)) (i := 1) (l := []) (by kernel_rfl) (fun _ h => by cases h))
    (Eq.mp (quintetref02_Bit_eq x1 x2 h K) H)

/-! ### quintet/quintetref04.Bit: function 60 -/
def quintetref04_Bit (x1 : Int) (x2 : Int) (h : Hp) (K : Value → Hp → Prop) : Prop :=
  ∃ x3 : Int, PV Try.prog (binOp .shr 5 (.int .u8 x1) (.int .u64 (IntKind.u64.wrap (IntKind.i64.wrap (7 - x2))))) (.int .u8 x3) ∧
  K (.int .i64 (Int.tmod (IntKind.i64.wrap (x3)) 2)) h
def quintetref04_Bit_lp (i : Nat) (Q : Qx) (tm : Tm) (h : Hp) : Prop := False
def quintetref04_Bit_cut (i : Nat) : Option (List Nat) := none
set_option maxRecDepth 100000 in
theorem quintetref04_Bit_eq (x1 : Int) (x2 : Int) (h : Hp) (K : Value → Hp → Prop) : quintetref04_Bit x1 x2 h K =
    codeWp Try.prog 12 quintetref04_Bit_lp quintetref04_Bit_cut (bodyOf Try.f60) 1 (endQ Try.prog Try.f60.results.toList K) (argTm [(.int .u8 x1), (.int .i64 x2)]) h := by kernel_rfl
set_option maxRecDepth 100000 in
theorem quintetref04_Bit_ok (x1 : Int) (x2 : Int) {h : Hp} {K : Value → Hp → Prop} (H : quintetref04_Bit x1 x2 h K) : CallsH Try.prog 60 #[(.int .u8 x1), (.int .i64 x2)] h K :=
  calls_of (args := [(.int .u8 x1), (.int .i64 x2)]) (n := 12) (lp := quintetref04_Bit_lp) (cut := quintetref04_Bit_cut) Try.func60 (c := bodyOf Try.f60) (by kernel_rfl) (by kernel_rfl) (by kernel_rfl) (good_by (c := (bodyOf Try.f60)) (i := 1) (l := []) (by kernel_rfl) (fun _ h => by cases h))
    (Eq.mp (quintetref04_Bit_eq x1 x2 h K) H)

/-! ### quintet/quintetlaw11.TableMatches: function 4 -/
def quintetlaw11_TableMatches_j3 (K0 : Bool → Hp → Prop) (A237 : Option Addr) (l237 : Nat) (c237 : Nat) (a238 : Addr) (a239 : Addr) (a240 : Addr) (p241 : Option Addr) (h : Hp) : Prop :=
  ∃ x314 : Int, HV Try.prog (Instr.loadAt 22 (.pointer (some (a238.add 1)))) h (.int .i64 x314) ∧ 
  ∃ x315 : Int, ∃ x316 : Int, ∃ x317 : Int, ∃ x318 : Int, ∃ x319 : Int, HV Try.prog (Instr.loadAt 36 (.pointer (some a239))) h (.agg #[(.int .u32 x315), (.int .u32 x316), (.int .u16 x317), (.int .u16 x318), (.int .u8 x319)]) ∧ 
  CallsH Try.prog 15 #[(.slice A237 l237 c237), (.int .i64 x314), (.agg #[(.int .u32 x315), (.int .u32 x316), (.int .u16 x317), (.int .u16 x318), (.int .u8 x319)])] h fun r321 h320 =>
  ∃ b322 : Bool, ∃ x323 : Int, ∃ x324 : Int, ∃ x325 : Int, r321 = (.tuple #[(.agg #[(.bool b322), (.int .i64 x323), (.int .i64 x324)]), (.int .i64 x325)]) ∧ 
  newC h320 (.cells #[(.bool false), (.int .i64 0), (.int .i64 0)] 40 (0, 0)) fun a327 h326 => 
  HU Try.prog (Instr.storeAt 40 (.pointer (some a327)) (.agg #[(.bool b322), (.int .i64 x323), (.int .i64 x324)])) h326 fun h328 => 
  ∃ x329 : Int, ∃ x330 : Int, ∃ x331 : Int, ∃ x332 : Int, ∃ x333 : Int, HV Try.prog (Instr.loadAt 36 (.pointer (some a239))) h328 (.agg #[(.int .u32 x329), (.int .u32 x330), (.int .u16 x331), (.int .u16 x332), (.int .u8 x333)]) ∧ 
  CallsH Try.prog 16 #[(.pointer p241), (.agg #[(.int .u32 x329), (.int .u32 x330), (.int .u16 x331), (.int .u16 x332), (.int .u8 x333)])] h328 fun r335 h334 =>
  ∃ b336 : Bool, ∃ x337 : Int, ∃ x338 : Int, ∃ x339 : Int, r335 = (.tuple #[(.agg #[(.bool b336), (.int .i64 x337), (.int .i64 x338)]), (.int .i64 x339)]) ∧ 
  newC h334 (.cells #[(.bool false), (.int .i64 0), (.int .i64 0)] 40 (0, 0)) fun a341 h340 => 
  HU Try.prog (Instr.storeAt 40 (.pointer (some a341)) (.agg #[(.bool b336), (.int .i64 x337), (.int .i64 x338)])) h340 fun h342 => 
  ∃ x343 : Int, ∃ x344 : Int, ∃ x345 : Int, ∃ x346 : Int, ∃ x347 : Int, HV Try.prog (Instr.loadAt 36 (.pointer (some a240))) h342 (.agg #[(.int .u32 x343), (.int .u32 x344), (.int .u16 x345), (.int .u16 x346), (.int .u8 x347)]) ∧ 
  CallsH Try.prog 16 #[(.pointer p241), (.agg #[(.int .u32 x343), (.int .u32 x344), (.int .u16 x345), (.int .u16 x346), (.int .u8 x347)])] h342 fun r349 h348 =>
  ∃ b350 : Bool, ∃ x351 : Int, ∃ x352 : Int, ∃ x353 : Int, r349 = (.tuple #[(.agg #[(.bool b350), (.int .i64 x351), (.int .i64 x352)]), (.int .i64 x353)]) ∧ 
  ∃ x354 : Int, ∃ x355 : Int, ∃ x356 : Int, ∃ x357 : Int, ∃ x358 : Int, HV Try.prog (Instr.loadAt 36 (.pointer (some a239))) h348 (.agg #[(.int .u32 x354), (.int .u32 x355), (.int .u16 x356), (.int .u16 x357), (.int .u8 x358)]) ∧ 
  CallsH Try.prog 16 #[(.pointer p241), (.agg #[(.int .u32 x354), (.int .u32 x355), (.int .u16 x356), (.int .u16 x357), (.int .u8 x358)])] h348 fun r360 h359 =>
  ∃ b361 : Bool, ∃ x362 : Int, ∃ x363 : Int, ∃ x364 : Int, r360 = (.tuple #[(.agg #[(.bool b361), (.int .i64 x362), (.int .i64 x363)]), (.int .i64 x364)]) ∧ 
  newC h359 (.cells #[(.bool false), (.int .i64 0), (.int .i64 0)] 40 (0, 0)) fun a366 h365 => 
  HU Try.prog (Instr.storeAt 40 (.pointer (some a366)) (.agg #[(.bool b361), (.int .i64 x362), (.int .i64 x363)])) h365 fun h367 => 
  CallsH Try.prog 12 #[] h367 fun r369 h368 =>
  ∃ b370 : Bool, r369 = (.bool b370) ∧ 
  br b370
  (∃ b371 : Bool, ∃ x372 : Int, ∃ x373 : Int, HV Try.prog (Instr.loadAt 40 (.pointer (some a341))) h368 (.agg #[(.bool b371), (.int .i64 x372), (.int .i64 x373)]) ∧ 
  ∃ b374 : Bool, ∃ x375 : Int, ∃ x376 : Int, HV Try.prog (Instr.loadAt 40 (.pointer (some a327))) h368 (.agg #[(.bool b374), (.int .i64 x375), (.int .i64 x376)]) ∧ 
  ∃ b377 : Bool, PV Try.prog (binOp .eql 40 (.agg #[(.bool b371), (.int .i64 x372), (.int .i64 x373)]) (.agg #[(.bool b374), (.int .i64 x375), (.int .i64 x376)])) (.bool b377) ∧
  br b377
  (br (x339 == x325)
  (∃ b378 : Bool, ∃ x379 : Int, ∃ x380 : Int, HV Try.prog (Instr.loadAt 40 (.pointer (some a366))) h368 (.agg #[(.bool b378), (.int .i64 x379), (.int .i64 x380)]) ∧ 
  ∃ b381 : Bool, ∃ x382 : Int, ∃ x383 : Int, HV Try.prog (Instr.loadAt 40 (.pointer (some a327))) h368 (.agg #[(.bool b381), (.int .i64 x382), (.int .i64 x383)]) ∧ 
  ∃ b384 : Bool, PV Try.prog (binOp .eql 40 (.agg #[(.bool b378), (.int .i64 x379), (.int .i64 x380)]) (.agg #[(.bool b381), (.int .i64 x382), (.int .i64 x383)])) (.bool b384) ∧
  br b384
  (K0 (x364 == x325) h368)
  (K0 false h368))
  (K0 false h368))
  (K0 false h368))
  (K0 false h368)
def quintetlaw11_TableMatches_j3_L (Q : Qx) (tm : Tm) (h : Hp) : Prop :=
  selS (tm 1) fun A237 l237 c237 =>
  selA (tm 4) fun a238 =>
  selA (tm 6) fun a239 =>
  selA (tm 7) fun a240 =>
  selP (tm 9) fun p241 =>
  quintetlaw11_TableMatches_j3 (fun (b313 : Bool) h => Q (.ret) (mkTm [(8, some (.bool b313))]) h) A237 l237 c237 a238 a239 a240 p241 h
def quintetlaw11_TableMatches_j2 (K0 : Bool → Hp → Prop) (A48 : Option Addr) (l48 : Nat) (c48 : Nat) (a49 : Addr) (a50 : Addr) (a51 : Addr) (h : Hp) : Prop :=
  ∃ x222 : Int, ∃ x223 : Int, ∃ x224 : Int, ∃ x225 : Int, ∃ x226 : Int, ∃ x227 : Int, ∃ x228 : Int, HV Try.prog (Instr.loadAt 24 (.pointer (some a49))) h (.agg #[(.int .i64 x222), (.int .i64 x223), (.int .i64 x224), (.int .i64 x225), (.int .i64 x226), (.int .i64 x227), (.int .i64 x228)]) ∧ 
  CallsH Try.prog 10 #[(.agg #[(.int .i64 x222), (.int .i64 x223), (.int .i64 x224), (.int .i64 x225), (.int .i64 x226), (.int .i64 x227), (.int .i64 x228)])] h fun r230 h229 =>
  ∃ p231 : Option Addr, ∃ x232 : Int, r230 = (.tuple #[(.pointer p231), (.int .i64 x232)]) ∧ 
  ∃ b385 : Bool, PV Try.prog (binOp .eql 27 (.pointer p231) (.pointer none)) (.bool b385) ∧
  br b385
  (K0 false h229)
  (CallsH Try.prog 14 #[(.pointer p231), (.slice A48 l48 c48)] h229 fun r387 h386 =>
  ∃ x388 : Int, r387 = (.int .i64 x388) ∧ 
  br (x388 != 0)
  (K0 false h386)
  (quintetlaw11_TableMatches_j3
  (fun (b389 : Bool) (h390 : Hp) =>
  K0 b389 h390)
  A48 l48 c48 a49 a50 a51 p231 h386))
def quintetlaw11_TableMatches_j2_L (Q : Qx) (tm : Tm) (h : Hp) : Prop :=
  selS (tm 1) fun A48 l48 c48 =>
  selA (tm 4) fun a49 =>
  selA (tm 6) fun a50 =>
  selA (tm 7) fun a51 =>
  quintetlaw11_TableMatches_j2 (fun (b221 : Bool) h => Q (.ret) (mkTm [(8, some (.bool b221))]) h) A48 l48 c48 a49 a50 a51 h
def quintetlaw11_TableMatches (x1 : Int) (x2 : Int) (x3 : Int) (x4 : Int) (x5 : Int) (x6 : Int) (x7 : Int) (A8 : Option Addr) (l8 : Nat) (c8 : Nat) (x9 : Int) (x10 : Int) (x11 : Int) (x12 : Int) (x13 : Int) (x14 : Int) (x15 : Int) (x16 : Int) (x17 : Int) (x18 : Int) (h : Hp) (K : Value → Hp → Prop) : Prop :=
  newC h (.cells #[(.int .i64 x1), (.int .i64 x2), (.int .i64 x3), (.int .i64 x4), (.int .i64 x5), (.int .i64 x6), (.int .i64 x7)] 24 (0, 0)) fun a20 h19 => 
  newC h19 (.cells #[(.int .u32 x9), (.int .u32 x10), (.int .u16 x11), (.int .u16 x12), (.int .u8 x13)] 36 (0, 0)) fun a22 h21 => 
  newC h21 (.cells #[(.int .u32 x14), (.int .u32 x15), (.int .u16 x16), (.int .u16 x17), (.int .u8 x18)] 36 (0, 0)) fun a24 h23 => 
  br (decide ((l8 : Int) > 2000))
  (CallsH Try.prog 12 #[] h23 fun r392 h391 =>
  ∃ b393 : Bool, r392 = (.bool b393) ∧ 
  K (.bool b393) h391)
  (∃ x394 : Int, ∃ x395 : Int, ∃ x396 : Int, ∃ x397 : Int, ∃ x398 : Int, ∃ x399 : Int, ∃ x400 : Int, HV Try.prog (Instr.loadAt 24 (.pointer (some a20))) h23 (.agg #[(.int .i64 x394), (.int .i64 x395), (.int .i64 x396), (.int .i64 x397), (.int .i64 x398), (.int .i64 x399), (.int .i64 x400)]) ∧ 
  CallsH Try.prog 9 #[(.agg #[(.int .i64 x394), (.int .i64 x395), (.int .i64 x396), (.int .i64 x397), (.int .i64 x398), (.int .i64 x399), (.int .i64 x400)])] h23 fun r402 h401 =>
  ∃ x403 : Int, r402 = (.int .i64 x403) ∧ 
  br (x403 != 0)
  (CallsH Try.prog 12 #[] h401 fun r405 h404 =>
  ∃ b406 : Bool, r405 = (.bool b406) ∧ 
  K (.bool b406) h404)
  (∃ x407 : Int, HV Try.prog (Instr.loadAt 3 (.pointer (some a20))) h401 (.int .i64 x407) ∧ 
  CallsH Try.prog 13 #[(.slice A8 l8 c8), (.int .i64 x407)] h401 fun r409 h408 =>
  ∃ x410 : Int, r409 = (.int .i64 x410) ∧ 
  br (x410 != 0)
  (CallsH Try.prog 12 #[] h408 fun r412 h411 =>
  ∃ b413 : Bool, r412 = (.bool b413) ∧ 
  K (.bool b413) h411)
  (quintetlaw11_TableMatches_j2
  (fun (b414 : Bool) (h415 : Hp) =>
  K (.bool b414) h415)
  A8 l8 c8 a20 a22 a24 h408)))
def quintetlaw11_TableMatches_lp (i : Nat) (Q : Qx) (tm : Tm) (h : Hp) : Prop := match Nat.beq i 15 with
  | true => quintetlaw11_TableMatches_j3_L Q tm h
  | false => match Nat.beq i 3 with
  | true => quintetlaw11_TableMatches_j2_L Q tm h
  | false => False
def quintetlaw11_TableMatches_cut (i : Nat) : Option (List Nat) := match Nat.beq i 3 with
  | true => some [1, 4, 6, 7]
  | false => match Nat.beq i 15 with
  | true => some [1, 4, 6, 7, 9]
  | false => none
set_option maxRecDepth 100000 in
theorem quintetlaw11_TableMatches_j3_step (Q : Qx) (A237 : Option Addr) (l237 : Nat) (c237 : Nat) (a238 : Addr) (a239 : Addr) (a240 : Addr) (p241 : Option Addr) (h : Hp) : quintetlaw11_TableMatches_j3_L Q (mkTm [(1, some (.slice A237 l237 c237)), (4, some (.pointer (some a238))), (6, some (.pointer (some a239))), (7, some (.pointer (some a240))), (9, some (.pointer p241))]) h =
    codeWp Try.prog 90 quintetlaw11_TableMatches_lp quintetlaw11_TableMatches_cut (sub (bodyOf Try.f4) [true, true, true, true]) 31 (maskQ (fun e => match e with | .ret => [8] | _ => []) Q) (mkTm [(1, some (.slice A237 l237 c237)), (4, some (.pointer (some a238))), (6, some (.pointer (some a239))), (7, some (.pointer (some a240))), (9, some (.pointer p241))]) h := by kernel_rfl
theorem quintetlaw11_TableMatches_j3_mask (Q : Qx) (tm : Tm) (h : Hp) : quintetlaw11_TableMatches_j3_L Q tm h ↔ quintetlaw11_TableMatches_j3_L Q (mask [1, 4, 6, 7, 9] tm) h := Iff.rfl
set_option maxRecDepth 100000 in
theorem quintetlaw11_TableMatches_j3_snd : SndAt Try.prog 90 none (sub (bodyOf Try.f4) [true, true, true, true]) (quintetlaw11_TableMatches_lp 15) := by
  refine join_sound (lp := quintetlaw11_TableMatches_lp) (cut := quintetlaw11_TableMatches_cut) (i := 15) (c := (sub (bodyOf Try.f4) [true, true, true, true])) [1, 4, 6, 7, 9] (fun e => match e with | .ret => [8] | _ => []) quintetlaw11_TableMatches_j3_L ?_ ?_
  · exact good_by (c := (sub (bodyOf Try.f4) [true, true, true, true])) (i := 31) (l := []) (by kernel_rfl) (fun _ h => by cases h)
  · intro Q tm h H
    have H0 := H
    obtain ⟨A237, l237, c237, e1, H⟩ := selS_ex H
    obtain ⟨a238, e4, H⟩ := selA_ex H
    obtain ⟨a239, e6, H⟩ := selA_ex H
    obtain ⟨a240, e7, H⟩ := selA_ex H
    obtain ⟨p241, e9, H⟩ := selP_ex H
    have e : mask [1, 4, 6, 7, 9] tm = mkTm [(1, some (.slice A237 l237 c237)), (4, some (.pointer (some a238))), (6, some (.pointer (some a239))), (7, some (.pointer (some a240))), (9, some (.pointer p241))] := by simp only [mask, List.map_cons, List.map_nil, e1, e4, e6, e7, e9] <;> rfl
    rw [e]
    refine Eq.mp (quintetlaw11_TableMatches_j3_step Q A237 l237 c237 a238 a239 a240 p241 h) ?_
    rw [← e]
    exact (quintetlaw11_TableMatches_j3_mask Q tm h).mp H0
set_option maxRecDepth 100000 in
theorem quintetlaw11_TableMatches_j2_step (Q : Qx) (A48 : Option Addr) (l48 : Nat) (c48 : Nat) (a49 : Addr) (a50 : Addr) (a51 : Addr) (h : Hp) : quintetlaw11_TableMatches_j2_L Q (mkTm [(1, some (.slice A48 l48 c48)), (4, some (.pointer (some a49))), (6, some (.pointer (some a50))), (7, some (.pointer (some a51)))]) h =
    codeWp Try.prog 90 quintetlaw11_TableMatches_lp quintetlaw11_TableMatches_cut (sub (bodyOf Try.f4) [true, true]) 7 (maskQ (fun e => match e with | .ret => [8] | _ => []) Q) (mkTm [(1, some (.slice A48 l48 c48)), (4, some (.pointer (some a49))), (6, some (.pointer (some a50))), (7, some (.pointer (some a51)))]) h := by kernel_rfl
theorem quintetlaw11_TableMatches_j2_mask (Q : Qx) (tm : Tm) (h : Hp) : quintetlaw11_TableMatches_j2_L Q tm h ↔ quintetlaw11_TableMatches_j2_L Q (mask [1, 4, 6, 7] tm) h := Iff.rfl
set_option maxRecDepth 100000 in
theorem quintetlaw11_TableMatches_j2_snd : SndAt Try.prog 90 none (sub (bodyOf Try.f4) [true, true]) (quintetlaw11_TableMatches_lp 3) := by
  refine join_sound (lp := quintetlaw11_TableMatches_lp) (cut := quintetlaw11_TableMatches_cut) (i := 3) (c := (sub (bodyOf Try.f4) [true, true])) [1, 4, 6, 7] (fun e => match e with | .ret => [8] | _ => []) quintetlaw11_TableMatches_j2_L ?_ ?_
  · exact good_by (c := (sub (bodyOf Try.f4) [true, true])) (i := 7) (l := [(15, (sub (bodyOf Try.f4) [true, true, true, true]))]) (by kernel_rfl) (List.forall_mem_cons.2 ⟨quintetlaw11_TableMatches_j3_snd, (fun _ h => by cases h)⟩)
  · intro Q tm h H
    have H0 := H
    obtain ⟨A48, l48, c48, e1, H⟩ := selS_ex H
    obtain ⟨a49, e4, H⟩ := selA_ex H
    obtain ⟨a50, e6, H⟩ := selA_ex H
    obtain ⟨a51, e7, H⟩ := selA_ex H
    have e : mask [1, 4, 6, 7] tm = mkTm [(1, some (.slice A48 l48 c48)), (4, some (.pointer (some a49))), (6, some (.pointer (some a50))), (7, some (.pointer (some a51)))] := by simp only [mask, List.map_cons, List.map_nil, e1, e4, e6, e7] <;> rfl
    rw [e]
    refine Eq.mp (quintetlaw11_TableMatches_j2_step Q A48 l48 c48 a49 a50 a51 h) ?_
    rw [← e]
    exact (quintetlaw11_TableMatches_j2_mask Q tm h).mp H0
set_option maxRecDepth 100000 in
theorem quintetlaw11_TableMatches_eq (x1 : Int) (x2 : Int) (x3 : Int) (x4 : Int) (x5 : Int) (x6 : Int) (x7 : Int) (A8 : Option Addr) (l8 : Nat) (c8 : Nat) (x9 : Int) (x10 : Int) (x11 : Int) (x12 : Int) (x13 : Int) (x14 : Int) (x15 : Int) (x16 : Int) (x17 : Int) (x18 : Int) (h : Hp) (K : Value → Hp → Prop) : quintetlaw11_TableMatches x1 x2 x3 x4 x5 x6 x7 A8 l8 c8 x9 x10 x11 x12 x13 x14 x15 x16 x17 x18 h K =
    codeWp Try.prog 90 quintetlaw11_TableMatches_lp quintetlaw11_TableMatches_cut (bodyOf Try.f4) 1 (endQ Try.prog Try.f4.results.toList K) (argTm [(.agg #[(.int .i64 x1), (.int .i64 x2), (.int .i64 x3), (.int .i64 x4), (.int .i64 x5), (.int .i64 x6), (.int .i64 x7)]), (.slice A8 l8 c8), (.agg #[(.int .u32 x9), (.int .u32 x10), (.int .u16 x11), (.int .u16 x12), (.int .u8 x13)]), (.agg #[(.int .u32 x14), (.int .u32 x15), (.int .u16 x16), (.int .u16 x17), (.int .u8 x18)])]) h := by kernel_rfl
set_option maxRecDepth 100000 in
theorem quintetlaw11_TableMatches_ok (x1 : Int) (x2 : Int) (x3 : Int) (x4 : Int) (x5 : Int) (x6 : Int) (x7 : Int) (A8 : Option Addr) (l8 : Nat) (c8 : Nat) (x9 : Int) (x10 : Int) (x11 : Int) (x12 : Int) (x13 : Int) (x14 : Int) (x15 : Int) (x16 : Int) (x17 : Int) (x18 : Int) {h : Hp} {K : Value → Hp → Prop} (H : quintetlaw11_TableMatches x1 x2 x3 x4 x5 x6 x7 A8 l8 c8 x9 x10 x11 x12 x13 x14 x15 x16 x17 x18 h K) : CallsH Try.prog 4 #[(.agg #[(.int .i64 x1), (.int .i64 x2), (.int .i64 x3), (.int .i64 x4), (.int .i64 x5), (.int .i64 x6), (.int .i64 x7)]), (.slice A8 l8 c8), (.agg #[(.int .u32 x9), (.int .u32 x10), (.int .u16 x11), (.int .u16 x12), (.int .u8 x13)]), (.agg #[(.int .u32 x14), (.int .u32 x15), (.int .u16 x16), (.int .u16 x17), (.int .u8 x18)])] h K :=
  calls_of (args := [(.agg #[(.int .i64 x1), (.int .i64 x2), (.int .i64 x3), (.int .i64 x4), (.int .i64 x5), (.int .i64 x6), (.int .i64 x7)]), (.slice A8 l8 c8), (.agg #[(.int .u32 x9), (.int .u32 x10), (.int .u16 x11), (.int .u16 x12), (.int .u8 x13)]), (.agg #[(.int .u32 x14), (.int .u32 x15), (.int .u16 x16), (.int .u16 x17), (.int .u8 x18)])]) (n := 90) (lp := quintetlaw11_TableMatches_lp) (cut := quintetlaw11_TableMatches_cut) Try.func4 (c := bodyOf Try.f4) (by kernel_rfl) (by kernel_rfl) (by kernel_rfl) (good_by (c := (bodyOf Try.f4)) (i := 1) (l := [(3, (sub (bodyOf Try.f4) [true, true]))]) (by kernel_rfl) (List.forall_mem_cons.2 ⟨quintetlaw11_TableMatches_j2_snd, (fun _ h => by cases h)⟩))
    (Eq.mp (quintetlaw11_TableMatches_eq x1 x2 x3 x4 x5 x6 x7 A8 l8 c8 x9 x10 x11 x12 x13 x14 x15 x16 x17 x18 h K) H)

end Go.Proofs.Ytgecabgcjfpenaa.Fs
