/- Printed by sx.py: words over the heap alone for Go functions, and that each call does what its word says. -/
import Derived.Test.YtofjbbfnkefoaaaSxSel
import Derived.Test.YtofjbbfnkefoaaaSxNest
import Derived.Test.YtofjbbfnkefoaaaProg
namespace Go.Proofs.Ytofjbbfnkefoaaa.Fs
open Go Go.RowKit Go.Proofs.Ytofjbbfnkefoaaa.Sx
set_option linter.unusedVariables false

/-! ### (*quintet/hash.Table[int]).seek: function 43 -/
def hash_Table_seek_g1 (p20 : Option Addr) (a21 : Addr) (K0 : Int → Int → Int → Hp → Prop)  : Nat → Int → Int → Int → Hp → Prop
  | 0, _, _, _, _ => False
  | k + 1, x22, x23, x24, h =>
    drf p20 fun a61 =>
    ∃ A62 : Option Addr, ∃ l62 : Nat, ∃ c62 : Nat, HV Try.prog (Instr.loadAt 93 (.pointer (some (a61.add 1)))) h (.slice A62 l62 c62) ∧ 
    ∃ a63 : Addr, PV Try.prog (Instr.indexAt 93 (.slice A62 l62 c62) (.int .i64 x24)) (.pointer (some a63)) ∧
    ∃ x64 : Int, HV Try.prog (Instr.loadAt 102 (.pointer (some a63))) h (.int .u8 x64) ∧ 
    br (x64 == 1)
    (∃ x65 : Int, ∃ x66 : Int, ∃ x67 : Int, ∃ x68 : Int, ∃ x69 : Int, HV Try.prog (Instr.loadAt 36 (.pointer (some (a63.add 1)))) h (.agg #[(.int .u32 x65), (.int .u32 x66), (.int .u16 x67), (.int .u16 x68), (.int .u8 x69)]) ∧ 
    ∃ x70 : Int, ∃ x71 : Int, ∃ x72 : Int, ∃ x73 : Int, ∃ x74 : Int, HV Try.prog (Instr.loadAt 36 (.pointer (some a21))) h (.agg #[(.int .u32 x70), (.int .u32 x71), (.int .u16 x72), (.int .u16 x73), (.int .u8 x74)]) ∧ 
    ∃ b75 : Bool, PV Try.prog (binOp .eql 36 (.agg #[(.int .u32 x65), (.int .u32 x66), (.int .u16 x67), (.int .u16 x68), (.int .u8 x69)]) (.agg #[(.int .u32 x70), (.int .u32 x71), (.int .u16 x72), (.int .u16 x73), (.int .u8 x74)])) (.bool b75) ∧
    br b75
    (K0 x24 x22 (IntKind.i64.wrap (x23 + 1)) h)
    (∃ x76 : Int, HV Try.prog (Instr.loadAt 102 (.pointer (some a63))) h (.int .u8 x76) ∧ 
    br (x76 == 2)
    (br (decide (x22 < 0))
    (drf p20 fun a77 =>
    ∃ A78 : Option Addr, ∃ l78 : Nat, ∃ c78 : Nat, HV Try.prog (Instr.loadAt 93 (.pointer (some (a77.add 1)))) h (.slice A78 l78 c78) ∧ 
    br (decide ((IntKind.i64.wrap (x24 + 1)) < (l78 : Int)))
    (hash_Table_seek_g1 p20 a21 K0 k x24 (IntKind.i64.wrap (x23 + 1)) (IntKind.i64.wrap (x24 + 1)) h)
    (hash_Table_seek_g1 p20 a21 K0 k x24 (IntKind.i64.wrap (x23 + 1)) 0 h))
    (∃ x79 : Int, HV Try.prog (Instr.loadAt 102 (.pointer (some a63))) h (.int .u8 x79) ∧ 
    br (x79 == 0)
    (br (decide (x22 < 0))
    (K0 (-1) x24 (IntKind.i64.wrap (x23 + 1)) h)
    (K0 (-1) x22 (IntKind.i64.wrap (x23 + 1)) h))
    (drf p20 fun a80 =>
    ∃ A81 : Option Addr, ∃ l81 : Nat, ∃ c81 : Nat, HV Try.prog (Instr.loadAt 93 (.pointer (some (a80.add 1)))) h (.slice A81 l81 c81) ∧ 
    br (decide ((IntKind.i64.wrap (x24 + 1)) < (l81 : Int)))
    (hash_Table_seek_g1 p20 a21 K0 k x22 (IntKind.i64.wrap (x23 + 1)) (IntKind.i64.wrap (x24 + 1)) h)
    (hash_Table_seek_g1 p20 a21 K0 k x22 (IntKind.i64.wrap (x23 + 1)) 0 h))))
    (∃ x82 : Int, HV Try.prog (Instr.loadAt 102 (.pointer (some a63))) h (.int .u8 x82) ∧ 
    br (x82 == 0)
    (br (decide (x22 < 0))
    (K0 (-1) x24 (IntKind.i64.wrap (x23 + 1)) h)
    (K0 (-1) x22 (IntKind.i64.wrap (x23 + 1)) h))
    (drf p20 fun a83 =>
    ∃ A84 : Option Addr, ∃ l84 : Nat, ∃ c84 : Nat, HV Try.prog (Instr.loadAt 93 (.pointer (some (a83.add 1)))) h (.slice A84 l84 c84) ∧ 
    br (decide ((IntKind.i64.wrap (x24 + 1)) < (l84 : Int)))
    (hash_Table_seek_g1 p20 a21 K0 k x22 (IntKind.i64.wrap (x23 + 1)) (IntKind.i64.wrap (x24 + 1)) h)
    (hash_Table_seek_g1 p20 a21 K0 k x22 (IntKind.i64.wrap (x23 + 1)) 0 h)))))
    (∃ x85 : Int, HV Try.prog (Instr.loadAt 102 (.pointer (some a63))) h (.int .u8 x85) ∧ 
    br (x85 == 2)
    (br (decide (x22 < 0))
    (drf p20 fun a86 =>
    ∃ A87 : Option Addr, ∃ l87 : Nat, ∃ c87 : Nat, HV Try.prog (Instr.loadAt 93 (.pointer (some (a86.add 1)))) h (.slice A87 l87 c87) ∧ 
    br (decide ((IntKind.i64.wrap (x24 + 1)) < (l87 : Int)))
    (hash_Table_seek_g1 p20 a21 K0 k x24 (IntKind.i64.wrap (x23 + 1)) (IntKind.i64.wrap (x24 + 1)) h)
    (hash_Table_seek_g1 p20 a21 K0 k x24 (IntKind.i64.wrap (x23 + 1)) 0 h))
    (∃ x88 : Int, HV Try.prog (Instr.loadAt 102 (.pointer (some a63))) h (.int .u8 x88) ∧ 
    br (x88 == 0)
    (br (decide (x22 < 0))
    (K0 (-1) x24 (IntKind.i64.wrap (x23 + 1)) h)
    (K0 (-1) x22 (IntKind.i64.wrap (x23 + 1)) h))
    (drf p20 fun a89 =>
    ∃ A90 : Option Addr, ∃ l90 : Nat, ∃ c90 : Nat, HV Try.prog (Instr.loadAt 93 (.pointer (some (a89.add 1)))) h (.slice A90 l90 c90) ∧ 
    br (decide ((IntKind.i64.wrap (x24 + 1)) < (l90 : Int)))
    (hash_Table_seek_g1 p20 a21 K0 k x22 (IntKind.i64.wrap (x23 + 1)) (IntKind.i64.wrap (x24 + 1)) h)
    (hash_Table_seek_g1 p20 a21 K0 k x22 (IntKind.i64.wrap (x23 + 1)) 0 h))))
    (∃ x91 : Int, HV Try.prog (Instr.loadAt 102 (.pointer (some a63))) h (.int .u8 x91) ∧ 
    br (x91 == 0)
    (br (decide (x22 < 0))
    (K0 (-1) x24 (IntKind.i64.wrap (x23 + 1)) h)
    (K0 (-1) x22 (IntKind.i64.wrap (x23 + 1)) h))
    (drf p20 fun a92 =>
    ∃ A93 : Option Addr, ∃ l93 : Nat, ∃ c93 : Nat, HV Try.prog (Instr.loadAt 93 (.pointer (some (a92.add 1)))) h (.slice A93 l93 c93) ∧ 
    br (decide ((IntKind.i64.wrap (x24 + 1)) < (l93 : Int)))
    (hash_Table_seek_g1 p20 a21 K0 k x22 (IntKind.i64.wrap (x23 + 1)) (IntKind.i64.wrap (x24 + 1)) h)
    (hash_Table_seek_g1 p20 a21 K0 k x22 (IntKind.i64.wrap (x23 + 1)) 0 h))))
def hash_Table_seek_g1_L (Q : Qx) (k : Nat) (tm : Tm) (h : Hp) : Prop :=
  selP (tm 0) fun p20 =>
  selA (tm 3) fun a21 =>
  selI .i64 (tm 5) fun x22 =>
  selI .i64 (tm 6) fun x23 =>
  selI .i64 (tm 7) fun x24 =>
  hash_Table_seek_g1 p20 a21 (fun (x58 : Int) (x59 : Int) (x60 : Int) h => Q (.ret) (mkTm [(4, some (.int .i64 x58)), (5, some (.int .i64 x59)), (6, some (.int .i64 x60))]) h) k x22 x23 x24 h
def hash_Table_seek (p1 : Option Addr) (x2 : Int) (x3 : Int) (x4 : Int) (x5 : Int) (x6 : Int) (h : Hp) (K : Value → Hp → Prop) : Prop :=
  newC h (.cells #[(.int .u32 x2), (.int .u32 x3), (.int .u16 x4), (.int .u16 x5), (.int .u8 x6)] 36 (0, 0)) fun a8 h7 => 
  ∃ k94, ∃ x95 : Int, ∃ x96 : Int, ∃ x97 : Int, ∃ x98 : Int, ∃ x99 : Int, HV Try.prog (Instr.loadAt 36 (.pointer (some a8))) h7 (.agg #[(.int .u32 x95), (.int .u32 x96), (.int .u16 x97), (.int .u16 x98), (.int .u8 x99)]) ∧ 
  CallsH Try.prog 64 #[(.agg #[(.int .u32 x95), (.int .u32 x96), (.int .u16 x97), (.int .u16 x98), (.int .u8 x99)])] h7 fun r101 h100 =>
  ∃ x102 : Int, r101 = (.int .u64 x102) ∧ 
  drf p1 fun a103 =>
  ∃ A104 : Option Addr, ∃ l104 : Nat, ∃ c104 : Nat, HV Try.prog (Instr.loadAt 93 (.pointer (some (a103.add 1)))) h100 (.slice A104 l104 c104) ∧ HV Try.prog (Instr.loadAt 93 (.pointer (some (a103.add 1)))) h7 (.slice A104 l104 c104) ∧ 
  ∃ x105 : Int, PV Try.prog (binOp .rem 88 (.int .u64 x102) (.int .u64 (IntKind.u64.wrap ((l104 : Int))))) (.int .u64 x105) ∧
  hash_Table_seek_g1 p1 a8
  (fun (x106 : Int) (x107 : Int) (x108 : Int) (h109 : Hp) =>
  K (.tuple #[(.int .i64 x106), (.int .i64 x107), (.int .i64 x108)]) h109)
  (k94 + 1) (-1) 0 (IntKind.i64.wrap (x105)) h100
def hash_Table_seek_g1_S (Q : Qx) (tm : Tm) (h : Hp) : Prop := ∃ k, codeWp Try.prog 75 lp0 cut0 (sub (bodyOf Try.f43) [true, false]) 6 (gotoQ 0 (fun tm h => hash_Table_seek_g1_L Q k (mask [0, 3, 5, 6, 7] tm) h) Q) tm h
def hash_Table_seek_lp (i : Nat) (Q : Qx) (tm : Tm) (h : Hp) : Prop := match Nat.beq i 3 with
  | true => hash_Table_seek_g1_S Q tm h
  | false => False
def hash_Table_seek_cut (i : Nat) : Option (List Nat) := match Nat.beq i 3 with
  | true => some []
  | false => none
set_option maxRecDepth 100000 in
theorem hash_Table_seek_g1_step (Q : Qx) (k : Nat) (p20 : Option Addr) (a21 : Addr) (x22 : Int) (x23 : Int) (x24 : Int) (h : Hp) : hash_Table_seek_g1_L Q (k + 1) (mkTm [(0, some (.pointer p20)), (3, some (.pointer (some a21))), (5, some (.int .i64 x22)), (6, some (.int .i64 x23)), (7, some (.int .i64 x24))]) h =
    codeWp Try.prog 75 lp0 cut0 (Code.seq .skip (sub (bodyOf Try.f43) [true, false, true, true, true])) 1 (gotoQ 0 (fun tm h => hash_Table_seek_g1_L Q k (mask [0, 3, 5, 6, 7] tm) h) (maskQ (fun e => match e with | .ret => [4, 5, 6] | _ => []) Q)) (mkTm [(0, some (.pointer p20)), (3, some (.pointer (some a21))), (5, some (.int .i64 x22)), (6, some (.int .i64 x23)), (7, some (.int .i64 x24))]) h := by kernel_rfl
theorem hash_Table_seek_g1_mask (Q : Qx) (k : Nat) (tm : Tm) (h : Hp) : hash_Table_seek_g1_L Q k tm h ↔ hash_Table_seek_g1_L Q k (mask [0, 3, 5, 6, 7] tm) h := Iff.rfl
set_option maxRecDepth 100000 in
theorem hash_Table_seek_g1_snd : SndAt Try.prog 75 none (sub (bodyOf Try.f43) [true]) (hash_Table_seek_lp 3) := by
  refine scope_sound (lp := lp0) (cut := cut0) (c := (sub (bodyOf Try.f43) [true, false])) (rest := (Code.seq .skip (sub (bodyOf Try.f43) [true, false, true, true, true]))) (i := 6) (j := 1) (l := 0) [0, 3, 5, 6, 7] (fun e => match e with | .ret => [4, 5, 6] | _ => []) hash_Table_seek_g1_L (by kernel_rfl) ?_ ?_ ?_ ?_
  · exact good_by (c := (sub (bodyOf Try.f43) [true, false])) (i := 6) (l := []) (by kernel_rfl) (fun _ h => by cases h)
  · exact good_by (c := (Code.seq .skip (sub (bodyOf Try.f43) [true, false, true, true, true]))) (i := 1) (l := []) (by kernel_rfl) (fun _ h => by cases h)
  · intro Q tm h H
    obtain ⟨p20, e0, H⟩ := selP_ex H
    obtain ⟨a21, e3, H⟩ := selA_ex H
    obtain ⟨x22, e5, H⟩ := selI_ex H
    obtain ⟨x23, e6, H⟩ := selI_ex H
    obtain ⟨x24, e7, H⟩ := selI_ex H
    exact H
  · intro Q k tm h H
    have H0 := H
    obtain ⟨p20, e0, H⟩ := selP_ex H
    obtain ⟨a21, e3, H⟩ := selA_ex H
    obtain ⟨x22, e5, H⟩ := selI_ex H
    obtain ⟨x23, e6, H⟩ := selI_ex H
    obtain ⟨x24, e7, H⟩ := selI_ex H
    have e : mask [0, 3, 5, 6, 7] tm = mkTm [(0, some (.pointer p20)), (3, some (.pointer (some a21))), (5, some (.int .i64 x22)), (6, some (.int .i64 x23)), (7, some (.int .i64 x24))] := by simp only [mask, List.map_cons, List.map_nil, e0, e3, e5, e6, e7] <;> rfl
    rw [e]
    refine Eq.mp (hash_Table_seek_g1_step Q k p20 a21 x22 x23 x24 h) ?_
    rw [← e]
    exact (hash_Table_seek_g1_mask Q (k + 1) tm h).mp H0
set_option maxRecDepth 100000 in
theorem hash_Table_seek_eq (p1 : Option Addr) (x2 : Int) (x3 : Int) (x4 : Int) (x5 : Int) (x6 : Int) (h : Hp) (K : Value → Hp → Prop) : hash_Table_seek p1 x2 x3 x4 x5 x6 h K =
    codeWp Try.prog 75 hash_Table_seek_lp hash_Table_seek_cut (bodyOf Try.f43) 1 (endQ Try.prog Try.f43.results.toList K) (argTm [(.pointer p1), (.agg #[(.int .u32 x2), (.int .u32 x3), (.int .u16 x4), (.int .u16 x5), (.int .u8 x6)])]) h := by kernel_rfl
set_option maxRecDepth 100000 in
theorem hash_Table_seek_ok (p1 : Option Addr) (x2 : Int) (x3 : Int) (x4 : Int) (x5 : Int) (x6 : Int) {h : Hp} {K : Value → Hp → Prop} (H : hash_Table_seek p1 x2 x3 x4 x5 x6 h K) : CallsH Try.prog 43 #[(.pointer p1), (.agg #[(.int .u32 x2), (.int .u32 x3), (.int .u16 x4), (.int .u16 x5), (.int .u8 x6)])] h K :=
  calls_of (args := [(.pointer p1), (.agg #[(.int .u32 x2), (.int .u32 x3), (.int .u16 x4), (.int .u16 x5), (.int .u8 x6)])]) (n := 75) (lp := hash_Table_seek_lp) (cut := hash_Table_seek_cut) Try.func43 (c := bodyOf Try.f43) (by kernel_rfl) (by kernel_rfl) (by kernel_rfl) (good_by (c := (bodyOf Try.f43)) (i := 1) (l := [(3, (sub (bodyOf Try.f43) [true]))]) (by kernel_rfl) (List.forall_mem_cons.2 ⟨hash_Table_seek_g1_snd, (fun _ h => by cases h)⟩))
    (Eq.mp (hash_Table_seek_eq p1 x2 x3 x4 x5 x6 h K) H)

/-! ### quintet/hash.scatter: function 64 -/
def hash_scatter (x1 : Int) (x2 : Int) (x3 : Int) (x4 : Int) (x5 : Int) (h : Hp) (K : Value → Hp → Prop) : Prop :=
  newC h (.cells #[(.int .u32 x1), (.int .u32 x2), (.int .u16 x3), (.int .u16 x4), (.int .u8 x5)] 36 (0, 0)) fun a7 h6 => 
  ∃ x8 : Int, HV Try.prog (Instr.loadAt 33 (.pointer (some a7))) h6 (.int .u32 x8) ∧ 
  ∃ x9 : Int, HV Try.prog (Instr.loadAt 33 (.pointer (some (a7.add 1)))) h6 (.int .u32 x9) ∧ 
  ∃ x10 : Int, HV Try.prog (Instr.loadAt 34 (.pointer (some (a7.add 2)))) h6 (.int .u16 x10) ∧ 
  ∃ x11 : Int, HV Try.prog (Instr.loadAt 34 (.pointer (some (a7.add 3)))) h6 (.int .u16 x11) ∧ 
  ∃ x12 : Int, HV Try.prog (Instr.loadAt 5 (.pointer (some (a7.add 4)))) h6 (.int .u8 x12) ∧ 
  K (.int .u64 (bXor .u64 (IntKind.u64.wrap ((bXor .u64 (bXor .u64 (IntKind.u64.wrap ((bXor .u64 (bOr .u64 (IntKind.u64.wrap ((IntKind.u64.wrap (x8)) * 4294967296)) (IntKind.u64.wrap (x9))) (Int.fdiv (bOr .u64 (IntKind.u64.wrap ((IntKind.u64.wrap (x8)) * 4294967296)) (IntKind.u64.wrap (x9))) 536870912)) * 11400714819323198485)) (bOr .u64 (bOr .u64 (IntKind.u64.wrap ((IntKind.u64.wrap (x10)) * 16777216)) (IntKind.u64.wrap ((IntKind.u64.wrap (x11)) * 256))) (IntKind.u64.wrap (x12)))) (Int.fdiv (IntKind.u64.wrap ((bXor .u64 (bOr .u64 (IntKind.u64.wrap ((IntKind.u64.wrap (x8)) * 4294967296)) (IntKind.u64.wrap (x9))) (Int.fdiv (bOr .u64 (IntKind.u64.wrap ((IntKind.u64.wrap (x8)) * 4294967296)) (IntKind.u64.wrap (x9))) 536870912)) * 11400714819323198485)) 4294967296)) * 13787848793156543929)) (Int.fdiv (IntKind.u64.wrap ((bXor .u64 (bXor .u64 (IntKind.u64.wrap ((bXor .u64 (bOr .u64 (IntKind.u64.wrap ((IntKind.u64.wrap (x8)) * 4294967296)) (IntKind.u64.wrap (x9))) (Int.fdiv (bOr .u64 (IntKind.u64.wrap ((IntKind.u64.wrap (x8)) * 4294967296)) (IntKind.u64.wrap (x9))) 536870912)) * 11400714819323198485)) (bOr .u64 (bOr .u64 (IntKind.u64.wrap ((IntKind.u64.wrap (x10)) * 16777216)) (IntKind.u64.wrap ((IntKind.u64.wrap (x11)) * 256))) (IntKind.u64.wrap (x12)))) (Int.fdiv (IntKind.u64.wrap ((bXor .u64 (bOr .u64 (IntKind.u64.wrap ((IntKind.u64.wrap (x8)) * 4294967296)) (IntKind.u64.wrap (x9))) (Int.fdiv (bOr .u64 (IntKind.u64.wrap ((IntKind.u64.wrap (x8)) * 4294967296)) (IntKind.u64.wrap (x9))) 536870912)) * 11400714819323198485)) 4294967296)) * 13787848793156543929)) 2147483648))) h6
def hash_scatter_lp (i : Nat) (Q : Qx) (tm : Tm) (h : Hp) : Prop := False
def hash_scatter_cut (i : Nat) : Option (List Nat) := none
set_option maxRecDepth 100000 in
theorem hash_scatter_eq (x1 : Int) (x2 : Int) (x3 : Int) (x4 : Int) (x5 : Int) (h : Hp) (K : Value → Hp → Prop) : hash_scatter x1 x2 x3 x4 x5 h K =
    codeWp Try.prog 42 hash_scatter_lp hash_scatter_cut (bodyOf Try.f64) 1 (endQ Try.prog Try.f64.results.toList K) (argTm [(.agg #[(.int .u32 x1), (.int .u32 x2), (.int .u16 x3), (.int .u16 x4), (.int .u8 x5)])]) h := by kernel_rfl
set_option maxRecDepth 100000 in
theorem hash_scatter_ok (x1 : Int) (x2 : Int) (x3 : Int) (x4 : Int) (x5 : Int) {h : Hp} {K : Value → Hp → Prop} (H : hash_scatter x1 x2 x3 x4 x5 h K) : CallsH Try.prog 64 #[(.agg #[(.int .u32 x1), (.int .u32 x2), (.int .u16 x3), (.int .u16 x4), (.int .u8 x5)])] h K :=
  calls_of (args := [(.agg #[(.int .u32 x1), (.int .u32 x2), (.int .u16 x3), (.int .u16 x4), (.int .u8 x5)])]) (n := 42) (lp := hash_scatter_lp) (cut := hash_scatter_cut) Try.func64 (c := bodyOf Try.f64) (by kernel_rfl) (by kernel_rfl) (by kernel_rfl) (good_by (c := (bodyOf Try.f64)) (i := 1) (l := []) (by kernel_rfl) (fun _ h => by cases h))
    (Eq.mp (hash_scatter_eq x1 x2 x3 x4 x5 h K) H)

/-! ### quintet/hash.New[int]: function 12 -/
def hash_New (x1 : Int) (h : Hp) (K : Value → Hp → Prop) : Prop :=
  br (decide (x1 < 1))
  (K (.tuple #[(.pointer none), (.int .i64 1)]) h)
  (br (decide (x1 > 65536))
  (K (.tuple #[(.pointer none), (.int .i64 1)]) h)
  (HW Try.prog (Instr.makeSlice 93 (.int .i64 8) (.int .i64 8)) h fun r3 h2 =>
  ∃ A4 : Option Addr, ∃ l4 : Nat, ∃ c4 : Nat, r3 = (.slice A4 l4 c4) ∧ 
  newC h2 (.cells #[(.int .i64 x1), (.slice A4 l4 c4), (.int .i64 0), (.int .i64 0)] 95 (0, 0)) fun a6 h5 => 
  K (.tuple #[(.pointer (some a6)), (.int .i64 0)]) h5))
def hash_New_lp (i : Nat) (Q : Qx) (tm : Tm) (h : Hp) : Prop := False
def hash_New_cut (i : Nat) : Option (List Nat) := none
set_option maxRecDepth 100000 in
theorem hash_New_eq (x1 : Int) (h : Hp) (K : Value → Hp → Prop) : hash_New x1 h K =
    codeWp Try.prog 14 hash_New_lp hash_New_cut (bodyOf Try.f12) 1 (endQ Try.prog Try.f12.results.toList K) (argTm [(.int .i64 x1)]) h := by kernel_rfl
set_option maxRecDepth 100000 in
theorem hash_New_ok (x1 : Int) {h : Hp} {K : Value → Hp → Prop} (H : hash_New x1 h K) : CallsH Try.prog 12 #[(.int .i64 x1)] h K :=
  calls_of (args := [(.int .i64 x1)]) (n := 14) (lp := hash_New_lp) (cut := hash_New_cut) Try.func12 (c := bodyOf Try.f12) (by kernel_rfl) (by kernel_rfl) (by kernel_rfl) (good_by (c := (bodyOf Try.f12)) (i := 1) (l := []) (by kernel_rfl) (fun _ h => by cases h))
    (Eq.mp (hash_New_eq x1 h K) H)

/-! ### quintet/hash.New[string]: function 13 -/
def hash_NewS (x1 : Int) (h : Hp) (K : Value → Hp → Prop) : Prop :=
  br (decide (x1 < 1))
  (K (.tuple #[(.pointer none), (.int .i64 1)]) h)
  (br (decide (x1 > 65536))
  (K (.tuple #[(.pointer none), (.int .i64 1)]) h)
  (HW Try.prog (Instr.makeSlice 96 (.int .i64 8) (.int .i64 8)) h fun r3 h2 =>
  ∃ A4 : Option Addr, ∃ l4 : Nat, ∃ c4 : Nat, r3 = (.slice A4 l4 c4) ∧ 
  newC h2 (.cells #[(.int .i64 x1), (.slice A4 l4 c4), (.int .i64 0), (.int .i64 0)] 98 (0, 0)) fun a6 h5 => 
  K (.tuple #[(.pointer (some a6)), (.int .i64 0)]) h5))
def hash_NewS_lp (i : Nat) (Q : Qx) (tm : Tm) (h : Hp) : Prop := False
def hash_NewS_cut (i : Nat) : Option (List Nat) := none
set_option maxRecDepth 100000 in
theorem hash_NewS_eq (x1 : Int) (h : Hp) (K : Value → Hp → Prop) : hash_NewS x1 h K =
    codeWp Try.prog 14 hash_NewS_lp hash_NewS_cut (bodyOf Try.f13) 1 (endQ Try.prog Try.f13.results.toList K) (argTm [(.int .i64 x1)]) h := by kernel_rfl
set_option maxRecDepth 100000 in
theorem hash_NewS_ok (x1 : Int) {h : Hp} {K : Value → Hp → Prop} (H : hash_NewS x1 h K) : CallsH Try.prog 13 #[(.int .i64 x1)] h K :=
  calls_of (args := [(.int .i64 x1)]) (n := 14) (lp := hash_NewS_lp) (cut := hash_NewS_cut) Try.func13 (c := bodyOf Try.f13) (by kernel_rfl) (by kernel_rfl) (by kernel_rfl) (good_by (c := (bodyOf Try.f13)) (i := 1) (l := []) (by kernel_rfl) (fun _ h => by cases h))
    (Eq.mp (hash_NewS_eq x1 h K) H)

/-! ### quintet/quintetlaw15.awake: function 14 -/
def quintetlaw15_awake_j1 (K0 : Bool → Hp → Prop) (p6 : Option Addr) (h : Hp) : Prop :=
  CallsH Try.prog 42 #[(.int .u8 0)] h fun r97 h96 =>
  ∃ x98 : Int, ∃ x99 : Int, ∃ x100 : Int, ∃ x101 : Int, ∃ x102 : Int, r97 = (.agg #[(.int .u32 x98), (.int .u32 x99), (.int .u16 x100), (.int .u16 x101), (.int .u8 x102)]) ∧ 
  CallsH Try.prog 15 #[(.pointer p6), (.agg #[(.int .u32 x98), (.int .u32 x99), (.int .u16 x100), (.int .u16 x101), (.int .u8 x102)]), (.int .i64 5)] h96 fun r104 h103 =>
  ∃ x105 : Int, r104 = (.int .i64 x105) ∧ 
  CallsH Try.prog 42 #[(.int .u8 6)] h103 fun r107 h106 =>
  ∃ x108 : Int, ∃ x109 : Int, ∃ x110 : Int, ∃ x111 : Int, ∃ x112 : Int, r107 = (.agg #[(.int .u32 x108), (.int .u32 x109), (.int .u16 x110), (.int .u16 x111), (.int .u8 x112)]) ∧ 
  CallsH Try.prog 15 #[(.pointer p6), (.agg #[(.int .u32 x108), (.int .u32 x109), (.int .u16 x110), (.int .u16 x111), (.int .u8 x112)]), (.int .i64 7)] h106 fun r114 h113 =>
  ∃ x115 : Int, r114 = (.int .i64 x115) ∧ 
  CallsH Try.prog 42 #[(.int .u8 7)] h113 fun r117 h116 =>
  ∃ x118 : Int, ∃ x119 : Int, ∃ x120 : Int, ∃ x121 : Int, ∃ x122 : Int, r117 = (.agg #[(.int .u32 x118), (.int .u32 x119), (.int .u16 x120), (.int .u16 x121), (.int .u8 x122)]) ∧ 
  CallsH Try.prog 15 #[(.pointer p6), (.agg #[(.int .u32 x118), (.int .u32 x119), (.int .u16 x120), (.int .u16 x121), (.int .u8 x122)]), (.int .i64 8)] h116 fun r124 h123 =>
  ∃ x125 : Int, r124 = (.int .i64 x125) ∧ 
  CallsH Try.prog 42 #[(.int .u8 6)] h123 fun r127 h126 =>
  ∃ x128 : Int, ∃ x129 : Int, ∃ x130 : Int, ∃ x131 : Int, ∃ x132 : Int, r127 = (.agg #[(.int .u32 x128), (.int .u32 x129), (.int .u16 x130), (.int .u16 x131), (.int .u8 x132)]) ∧ 
  CallsH Try.prog 15 #[(.pointer p6), (.agg #[(.int .u32 x128), (.int .u32 x129), (.int .u16 x130), (.int .u16 x131), (.int .u8 x132)]), (.int .i64 9)] h126 fun r134 h133 =>
  ∃ x135 : Int, r134 = (.int .i64 x135) ∧ 
  CallsH Try.prog 42 #[(.int .u8 6)] h133 fun r137 h136 =>
  ∃ x138 : Int, ∃ x139 : Int, ∃ x140 : Int, ∃ x141 : Int, ∃ x142 : Int, r137 = (.agg #[(.int .u32 x138), (.int .u32 x139), (.int .u16 x140), (.int .u16 x141), (.int .u8 x142)]) ∧ 
  CallsH Try.prog 17 #[(.pointer p6), (.agg #[(.int .u32 x138), (.int .u32 x139), (.int .u16 x140), (.int .u16 x141), (.int .u8 x142)])] h136 fun r144 h143 =>
  ∃ x145 : Int, ∃ b146 : Bool, r144 = (.tuple #[(.int .i64 x145), (.bool b146)]) ∧ 
  CallsH Try.prog 42 #[(.int .u8 7)] h143 fun r148 h147 =>
  ∃ x149 : Int, ∃ x150 : Int, ∃ x151 : Int, ∃ x152 : Int, ∃ x153 : Int, r148 = (.agg #[(.int .u32 x149), (.int .u32 x150), (.int .u16 x151), (.int .u16 x152), (.int .u8 x153)]) ∧ 
  CallsH Try.prog 17 #[(.pointer p6), (.agg #[(.int .u32 x149), (.int .u32 x150), (.int .u16 x151), (.int .u16 x152), (.int .u8 x153)])] h147 fun r155 h154 =>
  ∃ x156 : Int, ∃ b157 : Bool, r155 = (.tuple #[(.int .i64 x156), (.bool b157)]) ∧ 
  br (x105 == 0)
  (br (x115 == 0)
  (br (x125 == 150)
  (br (x135 == 0)
  (br (x145 == 9)
  (br b146
  (br (x156 == 0)
  (br (!b157)
  (CallsH Try.prog 24 #[(.pointer p6)] h154 fun r159 h158 =>
  ∃ x160 : Int, r159 = (.int .i64 x160) ∧ 
  br (x160 == 2)
  (CallsH Try.prog 42 #[(.int .u8 6)] h158 fun r162 h161 =>
  ∃ x163 : Int, ∃ x164 : Int, ∃ x165 : Int, ∃ x166 : Int, ∃ x167 : Int, r162 = (.agg #[(.int .u32 x163), (.int .u32 x164), (.int .u16 x165), (.int .u16 x166), (.int .u8 x167)]) ∧ 
  CallsH Try.prog 19 #[(.pointer p6), (.agg #[(.int .u32 x163), (.int .u32 x164), (.int .u16 x165), (.int .u16 x166), (.int .u8 x167)])] h161 fun r169 h168 =>
  ∃ b170 : Bool, r169 = (.bool b170) ∧ 
  br b170
  (CallsH Try.prog 42 #[(.int .u8 6)] h168 fun r172 h171 =>
  ∃ x173 : Int, ∃ x174 : Int, ∃ x175 : Int, ∃ x176 : Int, ∃ x177 : Int, r172 = (.agg #[(.int .u32 x173), (.int .u32 x174), (.int .u16 x175), (.int .u16 x176), (.int .u8 x177)]) ∧ 
  CallsH Try.prog 19 #[(.pointer p6), (.agg #[(.int .u32 x173), (.int .u32 x174), (.int .u16 x175), (.int .u16 x176), (.int .u8 x177)])] h171 fun r179 h178 =>
  ∃ b180 : Bool, r179 = (.bool b180) ∧ 
  br (!b180)
  (CallsH Try.prog 24 #[(.pointer p6)] h178 fun r182 h181 =>
  ∃ x183 : Int, r182 = (.int .i64 x183) ∧ 
  K0 (x183 == 1) h181)
  (K0 false h178))
  (K0 false h168))
  (K0 false h158))
  (K0 false h154))
  (K0 false h154))
  (K0 false h154))
  (K0 false h154))
  (K0 false h154))
  (K0 false h154))
  (K0 false h154))
  (K0 false h154)
def quintetlaw15_awake_j1_L (Q : Qx) (tm : Tm) (h : Hp) : Prop :=
  selP (tm 1) fun p6 =>
  quintetlaw15_awake_j1 (fun (b95 : Bool) h => Q (.ret) (mkTm [(0, some (.bool b95))]) h) p6 h
def quintetlaw15_awake (h : Hp) (K : Value → Hp → Prop) : Prop :=
  CallsH Try.prog 12 #[(.int .i64 2)] h fun r2 h1 =>
  ∃ p3 : Option Addr, ∃ x4 : Int, r2 = (.tuple #[(.pointer p3), (.int .i64 x4)]) ∧ 
  ∃ b184 : Bool, PV Try.prog (binOp .eql 22 (.pointer p3) (.pointer none)) (.bool b184) ∧
  br b184
  (K (.bool false) h1)
  (br (x4 != 0)
  (K (.bool false) h1)
  (quintetlaw15_awake_j1
  (fun (b185 : Bool) (h186 : Hp) =>
  K (.bool b185) h186)
  p3 h1))
def quintetlaw15_awake_lp (i : Nat) (Q : Qx) (tm : Tm) (h : Hp) : Prop := match Nat.beq i 7 with
  | true => quintetlaw15_awake_j1_L Q tm h
  | false => False
def quintetlaw15_awake_cut (i : Nat) : Option (List Nat) := match Nat.beq i 7 with
  | true => some [1]
  | false => none
set_option maxRecDepth 100000 in
theorem quintetlaw15_awake_j1_step (Q : Qx) (p6 : Option Addr) (h : Hp) : quintetlaw15_awake_j1_L Q (mkTm [(1, some (.pointer p6))]) h =
    codeWp Try.prog 95 quintetlaw15_awake_lp quintetlaw15_awake_cut (sub (bodyOf Try.f14) [true, true, true]) 15 (maskQ (fun e => match e with | .ret => [0] | _ => []) Q) (mkTm [(1, some (.pointer p6))]) h := by kernel_rfl
theorem quintetlaw15_awake_j1_mask (Q : Qx) (tm : Tm) (h : Hp) : quintetlaw15_awake_j1_L Q tm h ↔ quintetlaw15_awake_j1_L Q (mask [1] tm) h := Iff.rfl
set_option maxRecDepth 100000 in
theorem quintetlaw15_awake_j1_snd : SndAt Try.prog 95 none (sub (bodyOf Try.f14) [true, true, true]) (quintetlaw15_awake_lp 7) := by
  refine join_sound (lp := quintetlaw15_awake_lp) (cut := quintetlaw15_awake_cut) (i := 7) (c := (sub (bodyOf Try.f14) [true, true, true])) [1] (fun e => match e with | .ret => [0] | _ => []) quintetlaw15_awake_j1_L ?_ ?_
  · exact good_by (c := (sub (bodyOf Try.f14) [true, true, true])) (i := 15) (l := []) (by kernel_rfl) (fun _ h => by cases h)
  · intro Q tm h H
    have H0 := H
    obtain ⟨p6, e1, H⟩ := selP_ex H
    have e : mask [1] tm = mkTm [(1, some (.pointer p6))] := by simp only [mask, List.map_cons, List.map_nil, e1] <;> rfl
    rw [e]
    refine Eq.mp (quintetlaw15_awake_j1_step Q p6 h) ?_
    rw [← e]
    exact (quintetlaw15_awake_j1_mask Q tm h).mp H0
set_option maxRecDepth 100000 in
theorem quintetlaw15_awake_eq (h : Hp) (K : Value → Hp → Prop) : quintetlaw15_awake  h K =
    codeWp Try.prog 95 quintetlaw15_awake_lp quintetlaw15_awake_cut (bodyOf Try.f14) 1 (endQ Try.prog Try.f14.results.toList K) (argTm []) h := by kernel_rfl
set_option maxRecDepth 100000 in
theorem quintetlaw15_awake_ok {h : Hp} {K : Value → Hp → Prop} (H : quintetlaw15_awake  h K) : CallsH Try.prog 14 #[] h K :=
  calls_of (args := []) (n := 95) (lp := quintetlaw15_awake_lp) (cut := quintetlaw15_awake_cut) Try.func14 (c := bodyOf Try.f14) (by kernel_rfl) (by kernel_rfl) (by kernel_rfl) (good_by (c := (bodyOf Try.f14)) (i := 1) (l := [(7, (sub (bodyOf Try.f14) [true, true, true]))]) (by kernel_rfl) (List.forall_mem_cons.2 ⟨quintetlaw15_awake_j1_snd, (fun _ h => by cases h)⟩))
    (Eq.mp (quintetlaw15_awake_eq  h K) H)

/-! ### (*quintet/hash.Table[int]).Put: function 15 -/
def hash_Table_Put_j1 (K0 : Int → Hp → Prop) (p37 : Option Addr) (x38 : Int) (a39 : Addr) (x40 : Int) (h : Hp) : Prop :=
  drf p37 fun a57 =>
  ∃ A58 : Option Addr, ∃ l58 : Nat, ∃ c58 : Nat, HV Try.prog (Instr.loadAt 93 (.pointer (some (a57.add 1)))) h (.slice A58 l58 c58) ∧ 
  ∃ x59 : Int, ∃ x60 : Int, ∃ x61 : Int, ∃ x62 : Int, ∃ x63 : Int, HV Try.prog (Instr.loadAt 36 (.pointer (some a39))) h (.agg #[(.int .u32 x59), (.int .u32 x60), (.int .u16 x61), (.int .u16 x62), (.int .u8 x63)]) ∧ 
  ∃ a64 : Addr, PV Try.prog (Instr.indexAt 93 (.slice A58 l58 c58) (.int .i64 x40)) (.pointer (some a64)) ∧
  HU Try.prog (Instr.storeAt 104 (.pointer (some a64)) (.agg #[(.int .u8 1), (.int .u32 x59), (.int .u32 x60), (.int .u16 x61), (.int .u16 x62), (.int .u8 x63), (.int .i64 x38)])) h fun h65 => 
  drf p37 fun a66 =>
  ∃ x67 : Int, HV Try.prog (Instr.loadAt 3 (.pointer (some (a66.add 2)))) h65 (.int .i64 x67) ∧ 
  drf p37 fun a68 =>
  HU Try.prog (Instr.storeAt 3 (.pointer (some (a68.add 2))) (.int .i64 (IntKind.i64.wrap (x67 + 1)))) h65 fun h69 => 
  CallsH Try.prog 44 #[(.pointer p37)] h69 fun r71 h70 =>
  r71 = (.tuple #[]) ∧ 
  K0 0 h70
def hash_Table_Put_j1_L (Q : Qx) (tm : Tm) (h : Hp) : Prop :=
  selP (tm 0) fun p37 =>
  selI .i64 (tm 2) fun x38 =>
  selA (tm 4) fun a39 =>
  selI .i64 (tm 8) fun x40 =>
  hash_Table_Put_j1 (fun (x56 : Int) h => Q (.ret) (mkTm [(6, some (.int .i64 x56))]) h) p37 x38 a39 x40 h
def hash_Table_Put (p1 : Option Addr) (x2 : Int) (x3 : Int) (x4 : Int) (x5 : Int) (x6 : Int) (x7 : Int) (h : Hp) (K : Value → Hp → Prop) : Prop :=
  newC h (.cells #[(.int .u32 x2), (.int .u32 x3), (.int .u16 x4), (.int .u16 x5), (.int .u8 x6)] 36 (0, 0)) fun a9 h8 => 
  ∃ b10 : Bool, PV Try.prog (binOp .eql 22 (.pointer p1) (.pointer none)) (.bool b10) ∧
  br b10
  (K (.int .i64 3) h8)
  (∃ x11 : Int, ∃ x12 : Int, ∃ x13 : Int, ∃ x14 : Int, ∃ x15 : Int, HV Try.prog (Instr.loadAt 36 (.pointer (some a9))) h8 (.agg #[(.int .u32 x11), (.int .u32 x12), (.int .u16 x13), (.int .u16 x14), (.int .u8 x15)]) ∧ 
  CallsH Try.prog 43 #[(.pointer p1), (.agg #[(.int .u32 x11), (.int .u32 x12), (.int .u16 x13), (.int .u16 x14), (.int .u8 x15)])] h8 fun r17 h16 =>
  ∃ x18 : Int, ∃ x19 : Int, ∃ x20 : Int, r17 = (.tuple #[(.int .i64 x18), (.int .i64 x19), (.int .i64 x20)]) ∧ 
  br (decide (x18 ≥ 0))
  (drf p1 fun a21 =>
  ∃ A22 : Option Addr, ∃ l22 : Nat, ∃ c22 : Nat, HV Try.prog (Instr.loadAt 93 (.pointer (some (a21.add 1)))) h16 (.slice A22 l22 c22) ∧ 
  ∃ a23 : Addr, PV Try.prog (Instr.indexAt 93 (.slice A22 l22 c22) (.int .i64 x18)) (.pointer (some a23)) ∧
  HU Try.prog (Instr.storeAt 3 (.pointer (some (a23.add 6))) (.int .i64 x7)) h16 fun h24 => 
  K (.int .i64 0) h24)
  (drf p1 fun a25 =>
  ∃ x26 : Int, HV Try.prog (Instr.loadAt 3 (.pointer (some (a25.add 2)))) h16 (.int .i64 x26) ∧ 
  drf p1 fun a27 =>
  ∃ x28 : Int, HV Try.prog (Instr.loadAt 3 (.pointer (some a27))) h16 (.int .i64 x28) ∧ 
  br (decide (x26 ≥ x28))
  (K (.int .i64 150) h16)
  (drf p1 fun a72 =>
  ∃ A73 : Option Addr, ∃ l73 : Nat, ∃ c73 : Nat, HV Try.prog (Instr.loadAt 93 (.pointer (some (a72.add 1)))) h16 (.slice A73 l73 c73) ∧ 
  ∃ a74 : Addr, PV Try.prog (Instr.indexAt 93 (.slice A73 l73 c73) (.int .i64 x19)) (.pointer (some a74)) ∧
  ∃ x75 : Int, HV Try.prog (Instr.loadAt 102 (.pointer (some a74))) h16 (.int .u8 x75) ∧ 
  br (x75 == 2)
  (drf p1 fun a76 =>
  ∃ x77 : Int, HV Try.prog (Instr.loadAt 3 (.pointer (some (a76.add 3)))) h16 (.int .i64 x77) ∧ 
  drf p1 fun a78 =>
  HU Try.prog (Instr.storeAt 3 (.pointer (some (a78.add 3))) (.int .i64 (IntKind.i64.wrap (x77 - 1)))) h16 fun h79 => 
  hash_Table_Put_j1
  (fun (x80 : Int) (h81 : Hp) =>
  K (.int .i64 x80) h81)
  p1 x7 a9 x19 h79)
  (hash_Table_Put_j1
  (fun (x82 : Int) (h83 : Hp) =>
  K (.int .i64 x82) h83)
  p1 x7 a9 x19 h16))))
def hash_Table_Put_lp (i : Nat) (Q : Qx) (tm : Tm) (h : Hp) : Prop := match Nat.beq i 63 with
  | true => hash_Table_Put_j1_L Q tm h
  | false => False
def hash_Table_Put_cut (i : Nat) : Option (List Nat) := match Nat.beq i 63 with
  | true => some [0, 2, 4, 8]
  | false => none
set_option maxRecDepth 100000 in
theorem hash_Table_Put_j1_step (Q : Qx) (p37 : Option Addr) (x38 : Int) (a39 : Addr) (x40 : Int) (h : Hp) : hash_Table_Put_j1_L Q (mkTm [(0, some (.pointer p37)), (2, some (.int .i64 x38)), (4, some (.pointer (some a39))), (8, some (.int .i64 x40))]) h =
    codeWp Try.prog 72 hash_Table_Put_lp hash_Table_Put_cut (sub (bodyOf Try.f15) [true, true, true, true, true, true]) 127 (maskQ (fun e => match e with | .ret => [6] | _ => []) Q) (mkTm [(0, some (.pointer p37)), (2, some (.int .i64 x38)), (4, some (.pointer (some a39))), (8, some (.int .i64 x40))]) h := by kernel_rfl
theorem hash_Table_Put_j1_mask (Q : Qx) (tm : Tm) (h : Hp) : hash_Table_Put_j1_L Q tm h ↔ hash_Table_Put_j1_L Q (mask [0, 2, 4, 8] tm) h := Iff.rfl
set_option maxRecDepth 100000 in
theorem hash_Table_Put_j1_snd : SndAt Try.prog 72 none (sub (bodyOf Try.f15) [true, true, true, true, true, true]) (hash_Table_Put_lp 63) := by
  refine join_sound (lp := hash_Table_Put_lp) (cut := hash_Table_Put_cut) (i := 63) (c := (sub (bodyOf Try.f15) [true, true, true, true, true, true])) [0, 2, 4, 8] (fun e => match e with | .ret => [6] | _ => []) hash_Table_Put_j1_L ?_ ?_
  · exact good_by (c := (sub (bodyOf Try.f15) [true, true, true, true, true, true])) (i := 127) (l := []) (by kernel_rfl) (fun _ h => by cases h)
  · intro Q tm h H
    have H0 := H
    obtain ⟨p37, e0, H⟩ := selP_ex H
    obtain ⟨x38, e2, H⟩ := selI_ex H
    obtain ⟨a39, e4, H⟩ := selA_ex H
    obtain ⟨x40, e8, H⟩ := selI_ex H
    have e : mask [0, 2, 4, 8] tm = mkTm [(0, some (.pointer p37)), (2, some (.int .i64 x38)), (4, some (.pointer (some a39))), (8, some (.int .i64 x40))] := by simp only [mask, List.map_cons, List.map_nil, e0, e2, e4, e8] <;> rfl
    rw [e]
    refine Eq.mp (hash_Table_Put_j1_step Q p37 x38 a39 x40 h) ?_
    rw [← e]
    exact (hash_Table_Put_j1_mask Q tm h).mp H0
set_option maxRecDepth 100000 in
theorem hash_Table_Put_eq (p1 : Option Addr) (x2 : Int) (x3 : Int) (x4 : Int) (x5 : Int) (x6 : Int) (x7 : Int) (h : Hp) (K : Value → Hp → Prop) : hash_Table_Put p1 x2 x3 x4 x5 x6 x7 h K =
    codeWp Try.prog 72 hash_Table_Put_lp hash_Table_Put_cut (bodyOf Try.f15) 1 (endQ Try.prog Try.f15.results.toList K) (argTm [(.pointer p1), (.agg #[(.int .u32 x2), (.int .u32 x3), (.int .u16 x4), (.int .u16 x5), (.int .u8 x6)]), (.int .i64 x7)]) h := by kernel_rfl
set_option maxRecDepth 100000 in
theorem hash_Table_Put_ok (p1 : Option Addr) (x2 : Int) (x3 : Int) (x4 : Int) (x5 : Int) (x6 : Int) (x7 : Int) {h : Hp} {K : Value → Hp → Prop} (H : hash_Table_Put p1 x2 x3 x4 x5 x6 x7 h K) : CallsH Try.prog 15 #[(.pointer p1), (.agg #[(.int .u32 x2), (.int .u32 x3), (.int .u16 x4), (.int .u16 x5), (.int .u8 x6)]), (.int .i64 x7)] h K :=
  calls_of (args := [(.pointer p1), (.agg #[(.int .u32 x2), (.int .u32 x3), (.int .u16 x4), (.int .u16 x5), (.int .u8 x6)]), (.int .i64 x7)]) (n := 72) (lp := hash_Table_Put_lp) (cut := hash_Table_Put_cut) Try.func15 (c := bodyOf Try.f15) (by kernel_rfl) (by kernel_rfl) (by kernel_rfl) (good_by (c := (bodyOf Try.f15)) (i := 1) (l := [(63, (sub (bodyOf Try.f15) [true, true, true, true, true, true]))]) (by kernel_rfl) (List.forall_mem_cons.2 ⟨hash_Table_Put_j1_snd, (fun _ h => by cases h)⟩))
    (Eq.mp (hash_Table_Put_eq p1 x2 x3 x4 x5 x6 x7 h K) H)

/-! ### (*quintet/hash.Table[int]).Get: function 17 -/
def hash_Table_Get (p1 : Option Addr) (x2 : Int) (x3 : Int) (x4 : Int) (x5 : Int) (x6 : Int) (h : Hp) (K : Value → Hp → Prop) : Prop :=
  newC h (.cells #[(.int .u32 x2), (.int .u32 x3), (.int .u16 x4), (.int .u16 x5), (.int .u8 x6)] 36 (0, 0)) fun a8 h7 => 
  ∃ b9 : Bool, PV Try.prog (binOp .eql 22 (.pointer p1) (.pointer none)) (.bool b9) ∧
  br b9
  (K (.tuple #[(.int .i64 0), (.bool false)]) h7)
  (∃ x10 : Int, ∃ x11 : Int, ∃ x12 : Int, ∃ x13 : Int, ∃ x14 : Int, HV Try.prog (Instr.loadAt 36 (.pointer (some a8))) h7 (.agg #[(.int .u32 x10), (.int .u32 x11), (.int .u16 x12), (.int .u16 x13), (.int .u8 x14)]) ∧ 
  CallsH Try.prog 43 #[(.pointer p1), (.agg #[(.int .u32 x10), (.int .u32 x11), (.int .u16 x12), (.int .u16 x13), (.int .u8 x14)])] h7 fun r16 h15 =>
  ∃ x17 : Int, ∃ x18 : Int, ∃ x19 : Int, r16 = (.tuple #[(.int .i64 x17), (.int .i64 x18), (.int .i64 x19)]) ∧ 
  br (decide (x17 < 0))
  (K (.tuple #[(.int .i64 0), (.bool false)]) h15)
  (drf p1 fun a20 =>
  ∃ A21 : Option Addr, ∃ l21 : Nat, ∃ c21 : Nat, HV Try.prog (Instr.loadAt 93 (.pointer (some (a20.add 1)))) h15 (.slice A21 l21 c21) ∧ 
  ∃ a22 : Addr, PV Try.prog (Instr.indexAt 93 (.slice A21 l21 c21) (.int .i64 x17)) (.pointer (some a22)) ∧
  ∃ x23 : Int, HV Try.prog (Instr.loadAt 3 (.pointer (some (a22.add 6)))) h15 (.int .i64 x23) ∧ 
  K (.tuple #[(.int .i64 x23), (.bool true)]) h15))
def hash_Table_Get_lp (i : Nat) (Q : Qx) (tm : Tm) (h : Hp) : Prop := False
def hash_Table_Get_cut (i : Nat) : Option (List Nat) := none
set_option maxRecDepth 100000 in
theorem hash_Table_Get_eq (p1 : Option Addr) (x2 : Int) (x3 : Int) (x4 : Int) (x5 : Int) (x6 : Int) (h : Hp) (K : Value → Hp → Prop) : hash_Table_Get p1 x2 x3 x4 x5 x6 h K =
    codeWp Try.prog 31 hash_Table_Get_lp hash_Table_Get_cut (bodyOf Try.f17) 1 (endQ Try.prog Try.f17.results.toList K) (argTm [(.pointer p1), (.agg #[(.int .u32 x2), (.int .u32 x3), (.int .u16 x4), (.int .u16 x5), (.int .u8 x6)])]) h := by kernel_rfl
set_option maxRecDepth 100000 in
theorem hash_Table_Get_ok (p1 : Option Addr) (x2 : Int) (x3 : Int) (x4 : Int) (x5 : Int) (x6 : Int) {h : Hp} {K : Value → Hp → Prop} (H : hash_Table_Get p1 x2 x3 x4 x5 x6 h K) : CallsH Try.prog 17 #[(.pointer p1), (.agg #[(.int .u32 x2), (.int .u32 x3), (.int .u16 x4), (.int .u16 x5), (.int .u8 x6)])] h K :=
  calls_of (args := [(.pointer p1), (.agg #[(.int .u32 x2), (.int .u32 x3), (.int .u16 x4), (.int .u16 x5), (.int .u8 x6)])]) (n := 31) (lp := hash_Table_Get_lp) (cut := hash_Table_Get_cut) Try.func17 (c := bodyOf Try.f17) (by kernel_rfl) (by kernel_rfl) (by kernel_rfl) (good_by (c := (bodyOf Try.f17)) (i := 1) (l := []) (by kernel_rfl) (fun _ h => by cases h))
    (Eq.mp (hash_Table_Get_eq p1 x2 x3 x4 x5 x6 h K) H)

/-! ### (*quintet/hash.Table[int]).Delete: function 19 -/
def hash_Table_Delete (p1 : Option Addr) (x2 : Int) (x3 : Int) (x4 : Int) (x5 : Int) (x6 : Int) (h : Hp) (K : Value → Hp → Prop) : Prop :=
  newC h (.cells #[(.int .u32 x2), (.int .u32 x3), (.int .u16 x4), (.int .u16 x5), (.int .u8 x6)] 36 (0, 0)) fun a8 h7 => 
  ∃ b9 : Bool, PV Try.prog (binOp .eql 22 (.pointer p1) (.pointer none)) (.bool b9) ∧
  br b9
  (K (.bool false) h7)
  (∃ x10 : Int, ∃ x11 : Int, ∃ x12 : Int, ∃ x13 : Int, ∃ x14 : Int, HV Try.prog (Instr.loadAt 36 (.pointer (some a8))) h7 (.agg #[(.int .u32 x10), (.int .u32 x11), (.int .u16 x12), (.int .u16 x13), (.int .u8 x14)]) ∧ 
  CallsH Try.prog 43 #[(.pointer p1), (.agg #[(.int .u32 x10), (.int .u32 x11), (.int .u16 x12), (.int .u16 x13), (.int .u8 x14)])] h7 fun r16 h15 =>
  ∃ x17 : Int, ∃ x18 : Int, ∃ x19 : Int, r16 = (.tuple #[(.int .i64 x17), (.int .i64 x18), (.int .i64 x19)]) ∧ 
  br (decide (x17 < 0))
  (K (.bool false) h15)
  (drf p1 fun a20 =>
  ∃ A21 : Option Addr, ∃ l21 : Nat, ∃ c21 : Nat, HV Try.prog (Instr.loadAt 93 (.pointer (some (a20.add 1)))) h15 (.slice A21 l21 c21) ∧ 
  ∃ a22 : Addr, PV Try.prog (Instr.indexAt 93 (.slice A21 l21 c21) (.int .i64 x17)) (.pointer (some a22)) ∧
  HU Try.prog (Instr.storeAt 104 (.pointer (some a22)) (.agg #[(.int .u8 2), (.int .u32 0), (.int .u32 0), (.int .u16 0), (.int .u16 0), (.int .u8 0), (.int .i64 0)])) h15 fun h23 => 
  drf p1 fun a24 =>
  ∃ x25 : Int, HV Try.prog (Instr.loadAt 3 (.pointer (some (a24.add 2)))) h23 (.int .i64 x25) ∧ 
  drf p1 fun a26 =>
  HU Try.prog (Instr.storeAt 3 (.pointer (some (a26.add 2))) (.int .i64 (IntKind.i64.wrap (x25 - 1)))) h23 fun h27 => 
  drf p1 fun a28 =>
  ∃ x29 : Int, HV Try.prog (Instr.loadAt 3 (.pointer (some (a28.add 3)))) h27 (.int .i64 x29) ∧ 
  drf p1 fun a30 =>
  HU Try.prog (Instr.storeAt 3 (.pointer (some (a30.add 3))) (.int .i64 (IntKind.i64.wrap (x29 + 1)))) h27 fun h31 => 
  CallsH Try.prog 44 #[(.pointer p1)] h31 fun r33 h32 =>
  r33 = (.tuple #[]) ∧ 
  K (.bool true) h32))
def hash_Table_Delete_lp (i : Nat) (Q : Qx) (tm : Tm) (h : Hp) : Prop := False
def hash_Table_Delete_cut (i : Nat) : Option (List Nat) := none
set_option maxRecDepth 100000 in
theorem hash_Table_Delete_eq (p1 : Option Addr) (x2 : Int) (x3 : Int) (x4 : Int) (x5 : Int) (x6 : Int) (h : Hp) (K : Value → Hp → Prop) : hash_Table_Delete p1 x2 x3 x4 x5 x6 h K =
    codeWp Try.prog 42 hash_Table_Delete_lp hash_Table_Delete_cut (bodyOf Try.f19) 1 (endQ Try.prog Try.f19.results.toList K) (argTm [(.pointer p1), (.agg #[(.int .u32 x2), (.int .u32 x3), (.int .u16 x4), (.int .u16 x5), (.int .u8 x6)])]) h := by kernel_rfl
set_option maxRecDepth 100000 in
theorem hash_Table_Delete_ok (p1 : Option Addr) (x2 : Int) (x3 : Int) (x4 : Int) (x5 : Int) (x6 : Int) {h : Hp} {K : Value → Hp → Prop} (H : hash_Table_Delete p1 x2 x3 x4 x5 x6 h K) : CallsH Try.prog 19 #[(.pointer p1), (.agg #[(.int .u32 x2), (.int .u32 x3), (.int .u16 x4), (.int .u16 x5), (.int .u8 x6)])] h K :=
  calls_of (args := [(.pointer p1), (.agg #[(.int .u32 x2), (.int .u32 x3), (.int .u16 x4), (.int .u16 x5), (.int .u8 x6)])]) (n := 42) (lp := hash_Table_Delete_lp) (cut := hash_Table_Delete_cut) Try.func19 (c := bodyOf Try.f19) (by kernel_rfl) (by kernel_rfl) (by kernel_rfl) (good_by (c := (bodyOf Try.f19)) (i := 1) (l := []) (by kernel_rfl) (fun _ h => by cases h))
    (Eq.mp (hash_Table_Delete_eq p1 x2 x3 x4 x5 x6 h K) H)

/-! ### (*quintet/hash.Table[int]).Len: function 24 -/
def hash_Table_Len (p1 : Option Addr) (h : Hp) (K : Value → Hp → Prop) : Prop :=
  ∃ b2 : Bool, PV Try.prog (binOp .eql 22 (.pointer p1) (.pointer none)) (.bool b2) ∧
  br b2
  (K (.int .i64 0) h)
  (drf p1 fun a3 =>
  ∃ x4 : Int, HV Try.prog (Instr.loadAt 3 (.pointer (some (a3.add 2)))) h (.int .i64 x4) ∧ 
  K (.int .i64 x4) h)
def hash_Table_Len_lp (i : Nat) (Q : Qx) (tm : Tm) (h : Hp) : Prop := False
def hash_Table_Len_cut (i : Nat) : Option (List Nat) := none
set_option maxRecDepth 100000 in
theorem hash_Table_Len_eq (p1 : Option Addr) (h : Hp) (K : Value → Hp → Prop) : hash_Table_Len p1 h K =
    codeWp Try.prog 9 hash_Table_Len_lp hash_Table_Len_cut (bodyOf Try.f24) 1 (endQ Try.prog Try.f24.results.toList K) (argTm [(.pointer p1)]) h := by kernel_rfl
set_option maxRecDepth 100000 in
theorem hash_Table_Len_ok (p1 : Option Addr) {h : Hp} {K : Value → Hp → Prop} (H : hash_Table_Len p1 h K) : CallsH Try.prog 24 #[(.pointer p1)] h K :=
  calls_of (args := [(.pointer p1)]) (n := 9) (lp := hash_Table_Len_lp) (cut := hash_Table_Len_cut) Try.func24 (c := bodyOf Try.f24) (by kernel_rfl) (by kernel_rfl) (by kernel_rfl) (good_by (c := (bodyOf Try.f24)) (i := 1) (l := []) (by kernel_rfl) (fun _ h => by cases h))
    (Eq.mp (hash_Table_Len_eq p1 h K) H)

/-! ### quintet/quintetlaw15.proto: function 42 -/
def quintetlaw15_proto (x1 : Int) (h : Hp) (K : Value → Hp → Prop) : Prop :=
  newC h (.cells #[(.int .u32 0), (.int .u32 0), (.int .u16 0), (.int .u16 0), (.int .u8 0)] 36 (0, 0)) fun a3 h2 => 
  HU Try.prog (Instr.storeAt 36 (.pointer (some a3)) (.agg #[(.int .u32 0), (.int .u32 0), (.int .u16 0), (.int .u16 0), (.int .u8 x1)])) h2 fun h4 => 
  ∃ x5 : Int, ∃ x6 : Int, ∃ x7 : Int, ∃ x8 : Int, ∃ x9 : Int, HV Try.prog (Instr.loadAt 36 (.pointer (some a3))) h4 (.agg #[(.int .u32 x5), (.int .u32 x6), (.int .u16 x7), (.int .u16 x8), (.int .u8 x9)]) ∧ K (.agg #[(.int .u32 x5), (.int .u32 x6), (.int .u16 x7), (.int .u16 x8), (.int .u8 x9)]) h4
def quintetlaw15_proto_lp (i : Nat) (Q : Qx) (tm : Tm) (h : Hp) : Prop := False
def quintetlaw15_proto_cut (i : Nat) : Option (List Nat) := none
set_option maxRecDepth 100000 in
theorem quintetlaw15_proto_eq (x1 : Int) (h : Hp) (K : Value → Hp → Prop) : quintetlaw15_proto x1 h K =
    codeWp Try.prog 5 quintetlaw15_proto_lp quintetlaw15_proto_cut (bodyOf Try.f42) 1 (endQ Try.prog Try.f42.results.toList K) (argTm [(.int .u8 x1)]) h := by kernel_rfl
set_option maxRecDepth 100000 in
theorem quintetlaw15_proto_ok (x1 : Int) {h : Hp} {K : Value → Hp → Prop} (H : quintetlaw15_proto x1 h K) : CallsH Try.prog 42 #[(.int .u8 x1)] h K :=
  calls_of (args := [(.int .u8 x1)]) (n := 5) (lp := quintetlaw15_proto_lp) (cut := quintetlaw15_proto_cut) Try.func42 (c := bodyOf Try.f42) (by kernel_rfl) (by kernel_rfl) (by kernel_rfl) (good_by (c := (bodyOf Try.f42)) (i := 1) (l := []) (by kernel_rfl) (fun _ h => by cases h))
    (Eq.mp (quintetlaw15_proto_eq x1 h K) H)

/-! ### (*quintet/hash.Table[int]).mend: function 44 -/
def hash_Table_mend (p1 : Option Addr) (h : Hp) (K : Value → Hp → Prop) : Prop :=
  drf p1 fun a2 =>
  ∃ A3 : Option Addr, ∃ l3 : Nat, ∃ c3 : Nat, HV Try.prog (Instr.loadAt 93 (.pointer (some (a2.add 1)))) h (.slice A3 l3 c3) ∧ 
  drf p1 fun a4 =>
  ∃ x5 : Int, HV Try.prog (Instr.loadAt 3 (.pointer (some (a4.add 2)))) h (.int .i64 x5) ∧ 
  br (decide ((IntKind.i64.wrap (2 * x5)) > (l3 : Int)))
  (CallsH Try.prog 65 #[(.pointer p1), (.int .i64 (IntKind.i64.wrap (2 * (l3 : Int))))] h fun r7 h6 =>
  r7 = (.tuple #[]) ∧ 
  K (.tuple #[]) h6)
  (drf p1 fun a8 =>
  ∃ x9 : Int, HV Try.prog (Instr.loadAt 3 (.pointer (some (a8.add 2)))) h (.int .i64 x9) ∧ 
  drf p1 fun a10 =>
  ∃ x11 : Int, HV Try.prog (Instr.loadAt 3 (.pointer (some (a10.add 3)))) h (.int .i64 x11) ∧ 
  br (decide ((IntKind.i64.wrap (2 * (IntKind.i64.wrap (x9 + x11)))) > (l3 : Int)))
  (CallsH Try.prog 65 #[(.pointer p1), (.int .i64 (l3 : Int))] h fun r13 h12 =>
  r13 = (.tuple #[]) ∧ 
  K (.tuple #[]) h12)
  (K (.tuple #[]) h))
def hash_Table_mend_lp (i : Nat) (Q : Qx) (tm : Tm) (h : Hp) : Prop := False
def hash_Table_mend_cut (i : Nat) : Option (List Nat) := none
set_option maxRecDepth 100000 in
theorem hash_Table_mend_eq (p1 : Option Addr) (h : Hp) (K : Value → Hp → Prop) : hash_Table_mend p1 h K =
    codeWp Try.prog 36 hash_Table_mend_lp hash_Table_mend_cut (bodyOf Try.f44) 1 (endQ Try.prog Try.f44.results.toList K) (argTm [(.pointer p1)]) h := by kernel_rfl
set_option maxRecDepth 100000 in
theorem hash_Table_mend_ok (p1 : Option Addr) {h : Hp} {K : Value → Hp → Prop} (H : hash_Table_mend p1 h K) : CallsH Try.prog 44 #[(.pointer p1)] h K :=
  calls_of (args := [(.pointer p1)]) (n := 36) (lp := hash_Table_mend_lp) (cut := hash_Table_mend_cut) Try.func44 (c := bodyOf Try.f44) (by kernel_rfl) (by kernel_rfl) (by kernel_rfl) (good_by (c := (bodyOf Try.f44)) (i := 1) (l := []) (by kernel_rfl) (fun _ h => by cases h))
    (Eq.mp (hash_Table_mend_eq p1 h K) H)

/-! ### (*quintet/hash.Table[int]).lay: function 65 -/
def hash_Table_lay_l1 (p12 : Option Addr) (A13 : Option Addr) (l13 : Nat) (c13 : Nat) (x14 : Int) (K0 : Hp → Prop)  : Nat → Int → Hp → Prop
  | 0, _, _ => False
  | k + 1, x15, h =>
    br (decide (x15 < x14))
    (∃ a49 : Addr, PV Try.prog (Instr.indexAt 93 (.slice A13 l13 c13) (.int .i64 x15)) (.pointer (some a49)) ∧
    ∃ x50 : Int, ∃ x51 : Int, ∃ x52 : Int, ∃ x53 : Int, ∃ x54 : Int, ∃ x55 : Int, ∃ x56 : Int, HV Try.prog (Instr.loadAt 104 (.pointer (some a49))) h (.agg #[(.int .u8 x50), (.int .u32 x51), (.int .u32 x52), (.int .u16 x53), (.int .u16 x54), (.int .u8 x55), (.int .i64 x56)]) ∧ 
    newC h (.cells #[(.int .u8 0), (.int .u32 0), (.int .u32 0), (.int .u16 0), (.int .u16 0), (.int .u8 0), (.int .i64 0)] 104 (0, 0)) fun a58 h57 => 
    HU Try.prog (Instr.storeAt 104 (.pointer (some a58)) (.agg #[(.int .u8 x50), (.int .u32 x51), (.int .u32 x52), (.int .u16 x53), (.int .u16 x54), (.int .u8 x55), (.int .i64 x56)])) h57 fun h59 => 
    ∃ x60 : Int, HV Try.prog (Instr.loadAt 102 (.pointer (some a58))) h59 (.int .u8 x60) ∧ 
    br (x60 == 1)
    (∃ x61 : Int, ∃ x62 : Int, ∃ x63 : Int, ∃ x64 : Int, ∃ x65 : Int, HV Try.prog (Instr.loadAt 36 (.pointer (some (a58.add 1)))) h59 (.agg #[(.int .u32 x61), (.int .u32 x62), (.int .u16 x63), (.int .u16 x64), (.int .u8 x65)]) ∧ 
    CallsH Try.prog 43 #[(.pointer p12), (.agg #[(.int .u32 x61), (.int .u32 x62), (.int .u16 x63), (.int .u16 x64), (.int .u8 x65)])] h59 fun r67 h66 =>
    ∃ x68 : Int, ∃ x69 : Int, ∃ x70 : Int, r67 = (.tuple #[(.int .i64 x68), (.int .i64 x69), (.int .i64 x70)]) ∧ 
    drf p12 fun a71 =>
    ∃ A72 : Option Addr, ∃ l72 : Nat, ∃ c72 : Nat, HV Try.prog (Instr.loadAt 93 (.pointer (some (a71.add 1)))) h66 (.slice A72 l72 c72) ∧ 
    ∃ x73 : Int, ∃ x74 : Int, ∃ x75 : Int, ∃ x76 : Int, ∃ x77 : Int, ∃ x78 : Int, ∃ x79 : Int, HV Try.prog (Instr.loadAt 104 (.pointer (some a58))) h66 (.agg #[(.int .u8 x73), (.int .u32 x74), (.int .u32 x75), (.int .u16 x76), (.int .u16 x77), (.int .u8 x78), (.int .i64 x79)]) ∧ 
    ∃ a80 : Addr, PV Try.prog (Instr.indexAt 93 (.slice A72 l72 c72) (.int .i64 x69)) (.pointer (some a80)) ∧
    HU Try.prog (Instr.storeAt 104 (.pointer (some a80)) (.agg #[(.int .u8 x73), (.int .u32 x74), (.int .u32 x75), (.int .u16 x76), (.int .u16 x77), (.int .u8 x78), (.int .i64 x79)])) h66 fun h81 => 
    hash_Table_lay_l1 p12 A13 l13 c13 x14 K0 k (IntKind.i64.wrap (x15 + 1)) h81)
    (hash_Table_lay_l1 p12 A13 l13 c13 x14 K0 k (IntKind.i64.wrap (x15 + 1)) h59))
    (K0 h)
def hash_Table_lay_l1_L (Q : Qx) (k : Nat) (tm : Tm) (h : Hp) : Prop :=
  selP (tm 0) fun p12 =>
  selS (tm 22) fun A13 l13 c13 =>
  selI .i64 (tm 23) fun x14 =>
  selI .i64 (tm 24) fun x15 =>
  hash_Table_lay_l1 p12 A13 l13 c13 x14 (fun  h => Q (.exit 0) (mkTm []) h) k x15 h
def hash_Table_lay (p1 : Option Addr) (x2 : Int) (h : Hp) (K : Value → Hp → Prop) : Prop :=
  drf p1 fun a3 =>
  ∃ A4 : Option Addr, ∃ l4 : Nat, ∃ c4 : Nat, HV Try.prog (Instr.loadAt 93 (.pointer (some (a3.add 1)))) h (.slice A4 l4 c4) ∧ 
  HW Try.prog (Instr.makeSlice 93 (.int .i64 x2) (.int .i64 x2)) h fun r6 h5 =>
  ∃ A7 : Option Addr, ∃ l7 : Nat, ∃ c7 : Nat, r6 = (.slice A7 l7 c7) ∧ 
  drf p1 fun a8 =>
  HU Try.prog (Instr.storeAt 93 (.pointer (some (a8.add 1))) (.slice A7 l7 c7)) h5 fun h9 => 
  drf p1 fun a10 =>
  HU Try.prog (Instr.storeAt 3 (.pointer (some (a10.add 3))) (.int .i64 0)) h9 fun h11 => 
  ∃ k83, hash_Table_lay_l1 p1 A4 l4 c4 (l4 : Int)
  (fun  (h82 : Hp) =>
  K (.tuple #[]) h82)
  k83 0 h11
def hash_Table_lay_lp (i : Nat) (Q : Qx) (tm : Tm) (h : Hp) : Prop := match Nat.beq i 62 with
  | true => ∃ k, hash_Table_lay_l1_L Q k tm h
  | false => False
def hash_Table_lay_cut (i : Nat) : Option (List Nat) := none
set_option maxRecDepth 100000 in
theorem hash_Table_lay_l1_step (Q : Qx) (k : Nat) (p12 : Option Addr) (A13 : Option Addr) (l13 : Nat) (c13 : Nat) (x14 : Int) (x15 : Int) (h : Hp) : hash_Table_lay_l1_L Q (k + 1) (mkTm [(0, some (.pointer p12)), (22, some (.slice A13 l13 c13)), (23, some (.int .i64 x14)), (24, some (.int .i64 x15))]) h =
    codeWp Try.prog 47 hash_Table_lay_lp hash_Table_lay_cut (sub (bodyOf Try.f65) [true, true, true, true, false, false]) 124 (thenQ (fun tm h => hash_Table_lay_l1_L Q k (mask [0, 22, 23, 24] tm) h) (maskQ (fun e => match e with | .exit 0 => [] | _ => []) Q)) (mkTm [(0, some (.pointer p12)), (22, some (.slice A13 l13 c13)), (23, some (.int .i64 x14)), (24, some (.int .i64 x15))]) h := by kernel_rfl
theorem hash_Table_lay_l1_mask (Q : Qx) (k : Nat) (tm : Tm) (h : Hp) : hash_Table_lay_l1_L Q k tm h ↔ hash_Table_lay_l1_L Q k (mask [0, 22, 23, 24] tm) h := Iff.rfl
set_option maxRecDepth 100000 in
theorem hash_Table_lay_l1_snd : SndAt Try.prog 47 none (sub (bodyOf Try.f65) [true, true, true, true, false]) (hash_Table_lay_lp 62) := by
  refine loop_sound (lp := hash_Table_lay_lp) (cut := hash_Table_lay_cut) (i := 62) (c := (sub (bodyOf Try.f65) [true, true, true, true, false, false])) [0, 22, 23, 24] (fun e => match e with | .exit 0 => [] | _ => []) hash_Table_lay_l1_L ?_ ?_ ?_
  · exact good_by (c := (sub (bodyOf Try.f65) [true, true, true, true, false, false])) (i := 124) (l := []) (by kernel_rfl) (fun _ h => by cases h)
  · intro Q tm h H
    obtain ⟨p12, e0, H⟩ := selP_ex H
    obtain ⟨A13, l13, c13, e22, H⟩ := selS_ex H
    obtain ⟨x14, e23, H⟩ := selI_ex H
    obtain ⟨x15, e24, H⟩ := selI_ex H
    exact H
  · intro Q k tm h H
    have H0 := H
    obtain ⟨p12, e0, H⟩ := selP_ex H
    obtain ⟨A13, l13, c13, e22, H⟩ := selS_ex H
    obtain ⟨x14, e23, H⟩ := selI_ex H
    obtain ⟨x15, e24, H⟩ := selI_ex H
    have e : mask [0, 22, 23, 24] tm = mkTm [(0, some (.pointer p12)), (22, some (.slice A13 l13 c13)), (23, some (.int .i64 x14)), (24, some (.int .i64 x15))] := by simp only [mask, List.map_cons, List.map_nil, e0, e22, e23, e24] <;> rfl
    rw [e]
    refine Eq.mp (hash_Table_lay_l1_step Q k p12 A13 l13 c13 x14 x15 h) ?_
    rw [← e]
    exact (hash_Table_lay_l1_mask Q (k + 1) tm h).mp H0
set_option maxRecDepth 100000 in
theorem hash_Table_lay_eq (p1 : Option Addr) (x2 : Int) (h : Hp) (K : Value → Hp → Prop) : hash_Table_lay p1 x2 h K =
    codeWp Try.prog 47 hash_Table_lay_lp hash_Table_lay_cut (bodyOf Try.f65) 1 (endQ Try.prog Try.f65.results.toList K) (argTm [(.pointer p1), (.int .i64 x2)]) h := by kernel_rfl
set_option maxRecDepth 100000 in
theorem hash_Table_lay_ok (p1 : Option Addr) (x2 : Int) {h : Hp} {K : Value → Hp → Prop} (H : hash_Table_lay p1 x2 h K) : CallsH Try.prog 65 #[(.pointer p1), (.int .i64 x2)] h K :=
  calls_of (args := [(.pointer p1), (.int .i64 x2)]) (n := 47) (lp := hash_Table_lay_lp) (cut := hash_Table_lay_cut) Try.func65 (c := bodyOf Try.f65) (by kernel_rfl) (by kernel_rfl) (by kernel_rfl) (good_by (c := (bodyOf Try.f65)) (i := 1) (l := [(62, (sub (bodyOf Try.f65) [true, true, true, true, false]))]) (by kernel_rfl) (List.forall_mem_cons.2 ⟨hash_Table_lay_l1_snd, (fun _ h => by cases h)⟩))
    (Eq.mp (hash_Table_lay_eq p1 x2 h K) H)

/-! ### quintet/quintetlaw15.HashNew: function 3 -/
def quintetlaw15_HashNew_j1 (K0 : Bool → Hp → Prop) (p10 : Option Addr) (x11 : Int) (p12 : Option Addr) (x13 : Int) (x14 : Int) (h : Hp) : Prop :=
  CallsH Try.prog 14 #[] h fun r22 h21 =>
  ∃ b23 : Bool, r22 = (.bool b23) ∧ 
  br b23
  (br (x11 == x14)
  (br (x13 == x14)
  (∃ b24 : Bool, PV Try.prog (binOp .eql 22 (.pointer p10) (.pointer none)) (.bool b24) ∧
  br (b24 == (x14 != 0))
  (∃ b25 : Bool, PV Try.prog (binOp .eql 26 (.pointer p12) (.pointer none)) (.bool b25) ∧
  K0 (b25 == (x14 != 0)) h21)
  (K0 false h21))
  (K0 false h21))
  (K0 false h21))
  (K0 false h21)
def quintetlaw15_HashNew_j1_L (Q : Qx) (tm : Tm) (h : Hp) : Prop :=
  selP (tm 3) fun p10 =>
  selI .i64 (tm 4) fun x11 =>
  selP (tm 5) fun p12 =>
  selI .i64 (tm 6) fun x13 =>
  selI .i64 (tm 7) fun x14 =>
  quintetlaw15_HashNew_j1 (fun (b20 : Bool) h => Q (.ret) (mkTm [(2, some (.bool b20))]) h) p10 x11 p12 x13 x14 h
def quintetlaw15_HashNew (x1 : Int) (h : Hp) (K : Value → Hp → Prop) : Prop :=
  CallsH Try.prog 12 #[(.int .i64 x1)] h fun r3 h2 =>
  ∃ p4 : Option Addr, ∃ x5 : Int, r3 = (.tuple #[(.pointer p4), (.int .i64 x5)]) ∧ 
  CallsH Try.prog 13 #[(.int .i64 x1)] h2 fun r7 h6 =>
  ∃ p8 : Option Addr, ∃ x9 : Int, r7 = (.tuple #[(.pointer p8), (.int .i64 x9)]) ∧ 
  br (decide (x1 < 1))
  (quintetlaw15_HashNew_j1
  (fun (b26 : Bool) (h27 : Hp) =>
  K (.bool b26) h27)
  p4 x5 p8 x9 1 h6)
  (br (decide (x1 > 65536))
  (quintetlaw15_HashNew_j1
  (fun (b28 : Bool) (h29 : Hp) =>
  K (.bool b28) h29)
  p4 x5 p8 x9 1 h6)
  (quintetlaw15_HashNew_j1
  (fun (b30 : Bool) (h31 : Hp) =>
  K (.bool b30) h31)
  p4 x5 p8 x9 0 h6))
def quintetlaw15_HashNew_lp (i : Nat) (Q : Qx) (tm : Tm) (h : Hp) : Prop := match Nat.beq i 31 with
  | true => quintetlaw15_HashNew_j1_L Q tm h
  | false => False
def quintetlaw15_HashNew_cut (i : Nat) : Option (List Nat) := match Nat.beq i 31 with
  | true => some [3, 4, 5, 6, 7]
  | false => none
set_option maxRecDepth 100000 in
theorem quintetlaw15_HashNew_j1_step (Q : Qx) (p10 : Option Addr) (x11 : Int) (p12 : Option Addr) (x13 : Int) (x14 : Int) (h : Hp) : quintetlaw15_HashNew_j1_L Q (mkTm [(3, some (.pointer p10)), (4, some (.int .i64 x11)), (5, some (.pointer p12)), (6, some (.int .i64 x13)), (7, some (.int .i64 x14))]) h =
    codeWp Try.prog 49 quintetlaw15_HashNew_lp quintetlaw15_HashNew_cut (sub (bodyOf Try.f3) [true, true, true, true, true]) 63 (maskQ (fun e => match e with | .ret => [2] | _ => []) Q) (mkTm [(3, some (.pointer p10)), (4, some (.int .i64 x11)), (5, some (.pointer p12)), (6, some (.int .i64 x13)), (7, some (.int .i64 x14))]) h := by kernel_rfl
theorem quintetlaw15_HashNew_j1_mask (Q : Qx) (tm : Tm) (h : Hp) : quintetlaw15_HashNew_j1_L Q tm h ↔ quintetlaw15_HashNew_j1_L Q (mask [3, 4, 5, 6, 7] tm) h := Iff.rfl
set_option maxRecDepth 100000 in
theorem quintetlaw15_HashNew_j1_snd : SndAt Try.prog 49 none (sub (bodyOf Try.f3) [true, true, true, true, true]) (quintetlaw15_HashNew_lp 31) := by
  refine join_sound (lp := quintetlaw15_HashNew_lp) (cut := quintetlaw15_HashNew_cut) (i := 31) (c := (sub (bodyOf Try.f3) [true, true, true, true, true])) [3, 4, 5, 6, 7] (fun e => match e with | .ret => [2] | _ => []) quintetlaw15_HashNew_j1_L ?_ ?_
  · exact good_by (c := (sub (bodyOf Try.f3) [true, true, true, true, true])) (i := 63) (l := []) (by kernel_rfl) (fun _ h => by cases h)
  · intro Q tm h H
    have H0 := H
    obtain ⟨p10, e3, H⟩ := selP_ex H
    obtain ⟨x11, e4, H⟩ := selI_ex H
    obtain ⟨p12, e5, H⟩ := selP_ex H
    obtain ⟨x13, e6, H⟩ := selI_ex H
    obtain ⟨x14, e7, H⟩ := selI_ex H
    have e : mask [3, 4, 5, 6, 7] tm = mkTm [(3, some (.pointer p10)), (4, some (.int .i64 x11)), (5, some (.pointer p12)), (6, some (.int .i64 x13)), (7, some (.int .i64 x14))] := by simp only [mask, List.map_cons, List.map_nil, e3, e4, e5, e6, e7] <;> rfl
    rw [e]
    refine Eq.mp (quintetlaw15_HashNew_j1_step Q p10 x11 p12 x13 x14 h) ?_
    rw [← e]
    exact (quintetlaw15_HashNew_j1_mask Q tm h).mp H0
set_option maxRecDepth 100000 in
theorem quintetlaw15_HashNew_eq (x1 : Int) (h : Hp) (K : Value → Hp → Prop) : quintetlaw15_HashNew x1 h K =
    codeWp Try.prog 49 quintetlaw15_HashNew_lp quintetlaw15_HashNew_cut (bodyOf Try.f3) 1 (endQ Try.prog Try.f3.results.toList K) (argTm [(.int .i64 x1)]) h := by kernel_rfl
set_option maxRecDepth 100000 in
theorem quintetlaw15_HashNew_ok (x1 : Int) {h : Hp} {K : Value → Hp → Prop} (H : quintetlaw15_HashNew x1 h K) : CallsH Try.prog 3 #[(.int .i64 x1)] h K :=
  calls_of (args := [(.int .i64 x1)]) (n := 49) (lp := quintetlaw15_HashNew_lp) (cut := quintetlaw15_HashNew_cut) Try.func3 (c := bodyOf Try.f3) (by kernel_rfl) (by kernel_rfl) (by kernel_rfl) (good_by (c := (bodyOf Try.f3)) (i := 1) (l := [(31, (sub (bodyOf Try.f3) [true, true, true, true, true]))]) (by kernel_rfl) (List.forall_mem_cons.2 ⟨quintetlaw15_HashNew_j1_snd, (fun _ h => by cases h)⟩))
    (Eq.mp (quintetlaw15_HashNew_eq x1 h K) H)

end Go.Proofs.Ytofjbbfnkefoaaa.Fs
