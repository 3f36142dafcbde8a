/- Printed by sx.py: words over the heap alone for Go functions, and that each call does what its word says. -/
import Derived.Test.YtgahbkbmolfpnaaGreatSxSel
import Derived.Test.YtgahbkbmolfpnaaGreatSxNest
import Derived.Test.YtgahbkbmolfpnaaGreatProg
namespace Go.Proofs.YtgahbkbmolfpnaaGreat.Fs
open Go Go.RowKit Go.Proofs.YtgahbkbmolfpnaaGreat.Sx
set_option linter.unusedVariables false

/-! ### quintet/quintetlaw14.awake: function 4 -/
def quintetlaw14_awake (h : Hp) (K : Value → Hp → Prop) : Prop :=
  newC h (.cells #[(.int .u16 3), (.int .u16 5), (.int .u16 0), (.int .u16 3), (.int .u16 0), (.int .u16 9), (.int .u16 4), (.int .u16 4)] 36 (0, 0)) fun a2 h1 => 
  CallsH Tryz.prog 15 #[(.slice (some a2) 4 4)] h1 fun r4 h3 =>
  ∃ A5 : Option Addr, ∃ l5 : Nat, ∃ c5 : Nat, ∃ x6 : Int, r4 = (.tuple #[(.slice A5 l5 c5), (.int .i64 x6)]) ∧ 
  CallsH Tryz.prog 16 #[(.slice (some a2) 4 4)] h3 fun r8 h7 =>
  ∃ x9 : Int, ∃ x10 : Int, r8 = (.tuple #[(.int .i64 x9), (.int .i64 x10)]) ∧ 
  CallsH Tryz.prog 17 #[(.slice (some a2) 4 4), (.int .u16 4)] h7 fun r12 h11 =>
  ∃ A13 : Option Addr, ∃ l13 : Nat, ∃ c13 : Nat, ∃ x14 : Int, r12 = (.tuple #[(.slice A13 l13 c13), (.int .i64 x14)]) ∧ 
  newC h11 (.cells #[(.int .i64 0), (.int .u32 0), (.int .i64 0), (.int .u32 0), (.int .i64 0), (.int .u16 0), (.int .u16 0), (.int .u16 0), (.int .u16 0), (.int .u8 0), (.int .u8 0), (.int .i64 0)] 49 (0, 0)) fun a16 h15 => 
  HU Tryz.prog (Instr.storeAt 49 (.pointer (some a16)) (.agg #[(.int .i64 1), (.int .u32 0), (.int .i64 0), (.int .u32 0), (.int .i64 0), (.int .u16 0), (.int .u16 65535), (.int .u16 1), (.int .u16 6), (.int .u8 0), (.int .u8 0), (.int .i64 3)])) h15 fun h17 => 
  ∃ x18 : Int, ∃ x19 : Int, ∃ x20 : Int, ∃ x21 : Int, ∃ x22 : Int, ∃ x23 : Int, ∃ x24 : Int, ∃ x25 : Int, ∃ x26 : Int, ∃ x27 : Int, ∃ x28 : Int, ∃ x29 : Int, HV Tryz.prog (Instr.loadAt 49 (.pointer (some a16))) h17 (.agg #[(.int .i64 x18), (.int .u32 x19), (.int .i64 x20), (.int .u32 x21), (.int .i64 x22), (.int .u16 x23), (.int .u16 x24), (.int .u16 x25), (.int .u16 x26), (.int .u8 x27), (.int .u8 x28), (.int .i64 x29)]) ∧ 
  newC h17 (.cells #[(.int .i64 0), (.int .u32 0), (.int .i64 0), (.int .u32 0), (.int .i64 0), (.int .u16 0), (.int .u16 0), (.int .u16 0), (.int .u16 0), (.int .u8 0), (.int .u8 0), (.int .i64 0)] 49 (0, 0)) fun a31 h30 => 
  HU Tryz.prog (Instr.storeAt 49 (.pointer (some a31)) (.agg #[(.int .i64 x18), (.int .u32 x19), (.int .i64 x20), (.int .u32 x21), (.int .i64 x22), (.int .u16 x23), (.int .u16 x24), (.int .u16 x25), (.int .u16 x26), (.int .u8 x27), (.int .u8 x28), (.int .i64 x29)])) h30 fun h32 => 
  HU Tryz.prog (Instr.storeAt 3 (.pointer (some a31)) (.int .i64 2)) h32 fun h33 => 
  HU Tryz.prog (Instr.storeAt 45 (.pointer (some (a31.add 1))) (.agg #[(.int .u32 167772160), (.int .i64 8)])) h33 fun h34 => 
  ∃ x35 : Int, ∃ x36 : Int, ∃ x37 : Int, ∃ x38 : Int, ∃ x39 : Int, ∃ x40 : Int, ∃ x41 : Int, ∃ x42 : Int, ∃ x43 : Int, ∃ x44 : Int, ∃ x45 : Int, ∃ x46 : Int, HV Tryz.prog (Instr.loadAt 49 (.pointer (some a16))) h34 (.agg #[(.int .i64 x35), (.int .u32 x36), (.int .i64 x37), (.int .u32 x38), (.int .i64 x39), (.int .u16 x40), (.int .u16 x41), (.int .u16 x42), (.int .u16 x43), (.int .u8 x44), (.int .u8 x45), (.int .i64 x46)]) ∧ 
  ∃ x47 : Int, ∃ x48 : Int, ∃ x49 : Int, ∃ x50 : Int, ∃ x51 : Int, ∃ x52 : Int, ∃ x53 : Int, ∃ x54 : Int, ∃ x55 : Int, ∃ x56 : Int, ∃ x57 : Int, ∃ x58 : Int, HV Tryz.prog (Instr.loadAt 49 (.pointer (some a31))) h34 (.agg #[(.int .i64 x47), (.int .u32 x48), (.int .i64 x49), (.int .u32 x50), (.int .i64 x51), (.int .u16 x52), (.int .u16 x53), (.int .u16 x54), (.int .u16 x55), (.int .u8 x56), (.int .u8 x57), (.int .i64 x58)]) ∧ 
  newC h34 (.cells #[(.int .i64 x35), (.int .u32 x36), (.int .i64 x37), (.int .u32 x38), (.int .i64 x39), (.int .u16 x40), (.int .u16 x41), (.int .u16 x42), (.int .u16 x43), (.int .u8 x44), (.int .u8 x45), (.int .i64 x46), (.int .i64 x47), (.int .u32 x48), (.int .i64 x49), (.int .u32 x50), (.int .i64 x51), (.int .u16 x52), (.int .u16 x53), (.int .u16 x54), (.int .u16 x55), (.int .u8 x56), (.int .u8 x57), (.int .i64 x58)] 49 (0, 0)) fun a60 h59 => 
  CallsH Tryz.prog 6 #[(.slice (some a60) 2 2)] h59 fun r62 h61 =>
  ∃ x63 : Int, ∃ x64 : Int, r62 = (.tuple #[(.int .i64 x63), (.int .i64 x64)]) ∧ 
  CallsH Tryz.prog 8 #[(.slice (some a60) 2 2)] h61 fun r66 h65 =>
  ∃ x67 : Int, ∃ x68 : Int, r66 = (.tuple #[(.int .i64 x67), (.int .i64 x68)]) ∧ 
  CallsH Tryz.prog 10 #[(.slice (some a60) 2 2)] h65 fun r70 h69 =>
  ∃ x71 : Int, ∃ x72 : Int, r70 = (.tuple #[(.int .i64 x71), (.int .i64 x72)]) ∧ 
  br (x6 == 0)
  (newC h69 (.cells #[(.int .i64 2), (.int .i64 1), (.int .i64 0), (.int .i64 1)] 3 (0, 0)) fun a74 h73 => 
  CallsH Tryz.prog 18 #[(.slice A5 l5 c5), (.slice (some a74) 4 4)] h73 fun r76 h75 =>
  ∃ b77 : Bool, r76 = (.bool b77) ∧ 
  br b77
  (br (x10 == 0)
  (br (x9 == 3)
  (br (x14 == 0)
  (newC h75 (.cells #[(.int .i64 2), (.int .i64 3), (.int .i64 0)] 3 (0, 0)) fun a79 h78 => 
  CallsH Tryz.prog 18 #[(.slice A13 l13 c13), (.slice (some a79) 3 3)] h78 fun r81 h80 =>
  ∃ b82 : Bool, r81 = (.bool b82) ∧ 
  br b82
  (br (x64 == 0)
  (br (x63 == 3)
  (br (x68 == 0)
  (br (x67 == 3)
  (br (x72 == 0)
  (br (x71 == 8)
  (CallsH Tryz.prog 12 #[(.slice (some a60) 2 2), (.agg #[(.int .u32 167772161), (.int .u32 0), (.int .u16 0), (.int .u16 0), (.int .u8 0)])] h80 fun r84 h83 =>
  ∃ x85 : Int, r84 = (.int .i64 x85) ∧ 
  K (.bool (x85 == 2)) h83)
  (K (.bool false) h80))
  (K (.bool false) h80))
  (K (.bool false) h80))
  (K (.bool false) h80))
  (K (.bool false) h80))
  (K (.bool false) h80))
  (K (.bool false) h80))
  (K (.bool false) h75))
  (K (.bool false) h75))
  (K (.bool false) h75))
  (K (.bool false) h75))
  (K (.bool false) h69)
def quintetlaw14_awake_lp (i : Nat) (Q : Qx) (tm : Tm) (h : Hp) : Prop := False
def quintetlaw14_awake_cut (i : Nat) : Option (List Nat) := none
set_option maxRecDepth 100000 in
theorem quintetlaw14_awake_eq (h : Hp) (K : Value → Hp → Prop) : quintetlaw14_awake  h K =
    codeWp Tryz.prog 116 quintetlaw14_awake_lp quintetlaw14_awake_cut (bodyOf Tryz.f4) 1 (endQ Tryz.prog Tryz.f4.results.toList K) (argTm []) h := by kernel_rfl
set_option maxRecDepth 100000 in
theorem quintetlaw14_awake_ok {h : Hp} {K : Value → Hp → Prop} (H : quintetlaw14_awake  h K) : CallsH Tryz.prog 4 #[] h K :=
  calls_of (args := []) (n := 116) (lp := quintetlaw14_awake_lp) (cut := quintetlaw14_awake_cut) Tryz.func4 (c := bodyOf Tryz.f4) (by kernel_rfl) (by kernel_rfl) (by kernel_rfl) (good_by (c := (bodyOf Tryz.f4)) (i := 1) (l := []) (by kernel_rfl) (fun _ h => by cases h))
    (Eq.mp (quintetlaw14_awake_eq  h K) H)

/-! ### quintet/quintetkeep.Ints: function 18 -/
def quintetkeep_Ints_l1 (A3 : Option Addr) (l3 : Nat) (c3 : Nat) (A4 : Option Addr) (l4 : Nat) (c4 : Nat) (K0 : Bool → Hp → Prop) (K1 : Hp → Prop)  : Nat → Int → Hp → Prop
  | 0, _, _ => False
  | k + 1, x5, h =>
    br (decide (x5 < (l3 : Int)))
    (∃ a11 : Addr, PV Tryz.prog (Instr.indexAt 38 (.slice A3 l3 c3) (.int .i64 x5)) (.pointer (some a11)) ∧
    ∃ x12 : Int, HV Tryz.prog (Instr.loadAt 3 (.pointer (some a11))) h (.int .i64 x12) ∧ 
    ∃ a13 : Addr, PV Tryz.prog (Instr.indexAt 38 (.slice A4 l4 c4) (.int .i64 x5)) (.pointer (some a13)) ∧
    ∃ x14 : Int, HV Tryz.prog (Instr.loadAt 3 (.pointer (some a13))) h (.int .i64 x14) ∧ 
    br (x12 != x14)
    (K0 false h)
    (quintetkeep_Ints_l1 A3 l3 c3 A4 l4 c4 K0 K1 k (IntKind.i64.wrap (x5 + 1)) h))
    (K1 h)
def quintetkeep_Ints_l1_L (Q : Qx) (k : Nat) (tm : Tm) (h : Hp) : Prop :=
  selS (tm 0) fun A3 l3 c3 =>
  selS (tm 1) fun A4 l4 c4 =>
  selI .i64 (tm 5) fun x5 =>
  quintetkeep_Ints_l1 A3 l3 c3 A4 l4 c4 (fun (b10 : Bool) h => Q (.ret) (mkTm [(4, some (.bool b10))]) h) (fun  h => Q (.exit 0) (mkTm []) h) k x5 h
def quintetkeep_Ints (A1 : Option Addr) (l1 : Nat) (c1 : Nat) (A2 : Option Addr) (l2 : Nat) (c2 : Nat) (h : Hp) (K : Value → Hp → Prop) : Prop :=
  br ((l1 : Int) != (l2 : Int))
  (K (.bool false) h)
  (∃ k18, quintetkeep_Ints_l1 A1 l1 c1 A2 l2 c2
  (fun (b15 : Bool) (h16 : Hp) =>
  K (.bool b15) h16)
  (fun  (h17 : Hp) =>
  K (.bool true) h17)
  k18 0 h)
def quintetkeep_Ints_lp (i : Nat) (Q : Qx) (tm : Tm) (h : Hp) : Prop := match Nat.beq i 58 with
  | true => ∃ k, quintetkeep_Ints_l1_L Q k tm h
  | false => False
def quintetkeep_Ints_cut (i : Nat) : Option (List Nat) := none
set_option maxRecDepth 100000 in
theorem quintetkeep_Ints_l1_step (Q : Qx) (k : Nat) (A3 : Option Addr) (l3 : Nat) (c3 : Nat) (A4 : Option Addr) (l4 : Nat) (c4 : Nat) (x5 : Int) (h : Hp) : quintetkeep_Ints_l1_L Q (k + 1) (mkTm [(0, some (.slice A3 l3 c3)), (1, some (.slice A4 l4 c4)), (5, some (.int .i64 x5))]) h =
    codeWp Tryz.prog 26 quintetkeep_Ints_lp quintetkeep_Ints_cut (sub (bodyOf Tryz.f18) [true, true, false, true, false, false]) 116 (thenQ (fun tm h => quintetkeep_Ints_l1_L Q k (mask [0, 1, 5] tm) h) (maskQ (fun e => match e with | .ret => [4] | .exit 0 => [] | _ => []) Q)) (mkTm [(0, some (.slice A3 l3 c3)), (1, some (.slice A4 l4 c4)), (5, some (.int .i64 x5))]) h := by kernel_rfl
theorem quintetkeep_Ints_l1_mask (Q : Qx) (k : Nat) (tm : Tm) (h : Hp) : quintetkeep_Ints_l1_L Q k tm h ↔ quintetkeep_Ints_l1_L Q k (mask [0, 1, 5] tm) h := Iff.rfl
set_option maxRecDepth 100000 in
theorem quintetkeep_Ints_l1_snd : SndAt Tryz.prog 26 none (sub (bodyOf Tryz.f18) [true, true, false, true, false]) (quintetkeep_Ints_lp 58) := by
  refine loop_sound (lp := quintetkeep_Ints_lp) (cut := quintetkeep_Ints_cut) (i := 58) (c := (sub (bodyOf Tryz.f18) [true, true, false, true, false, false])) [0, 1, 5] (fun e => match e with | .ret => [4] | .exit 0 => [] | _ => []) quintetkeep_Ints_l1_L ?_ ?_ ?_
  · exact good_by (c := (sub (bodyOf Tryz.f18) [true, true, false, true, false, false])) (i := 116) (l := []) (by kernel_rfl) (fun _ h => by cases h)
  · intro Q tm h H
    obtain ⟨A3, l3, c3, e0, H⟩ := selS_ex H
    obtain ⟨A4, l4, c4, e1, H⟩ := selS_ex H
    obtain ⟨x5, e5, H⟩ := selI_ex H
    exact H
  · intro Q k tm h H
    have H0 := H
    obtain ⟨A3, l3, c3, e0, H⟩ := selS_ex H
    obtain ⟨A4, l4, c4, e1, H⟩ := selS_ex H
    obtain ⟨x5, e5, H⟩ := selI_ex H
    have e : mask [0, 1, 5] tm = mkTm [(0, some (.slice A3 l3 c3)), (1, some (.slice A4 l4 c4)), (5, some (.int .i64 x5))] := by simp only [mask, List.map_cons, List.map_nil, e0, e1, e5] <;> rfl
    rw [e]
    refine Eq.mp (quintetkeep_Ints_l1_step Q k A3 l3 c3 A4 l4 c4 x5 h) ?_
    rw [← e]
    exact (quintetkeep_Ints_l1_mask Q (k + 1) tm h).mp H0
set_option maxRecDepth 100000 in
theorem quintetkeep_Ints_eq (A1 : Option Addr) (l1 : Nat) (c1 : Nat) (A2 : Option Addr) (l2 : Nat) (c2 : Nat) (h : Hp) (K : Value → Hp → Prop) : quintetkeep_Ints A1 l1 c1 A2 l2 c2 h K =
    codeWp Tryz.prog 26 quintetkeep_Ints_lp quintetkeep_Ints_cut (bodyOf Tryz.f18) 1 (endQ Tryz.prog Tryz.f18.results.toList K) (argTm [(.slice A1 l1 c1), (.slice A2 l2 c2)]) h := by kernel_rfl
set_option maxRecDepth 100000 in
theorem quintetkeep_Ints_ok (A1 : Option Addr) (l1 : Nat) (c1 : Nat) (A2 : Option Addr) (l2 : Nat) (c2 : Nat) {h : Hp} {K : Value → Hp → Prop} (H : quintetkeep_Ints A1 l1 c1 A2 l2 c2 h K) : CallsH Tryz.prog 18 #[(.slice A1 l1 c1), (.slice A2 l2 c2)] h K :=
  calls_of (args := [(.slice A1 l1 c1), (.slice A2 l2 c2)]) (n := 26) (lp := quintetkeep_Ints_lp) (cut := quintetkeep_Ints_cut) Tryz.func18 (c := bodyOf Tryz.f18) (by kernel_rfl) (by kernel_rfl) (by kernel_rfl) (good_by (c := (bodyOf Tryz.f18)) (i := 1) (l := [(58, (sub (bodyOf Tryz.f18) [true, true, false, true, false]))]) (by kernel_rfl) (List.forall_mem_cons.2 ⟨quintetkeep_Ints_l1_snd, (fun _ h => by cases h)⟩))
    (Eq.mp (quintetkeep_Ints_eq A1 l1 c1 A2 l2 c2 h K) H)

end Go.Proofs.YtgahbkbmolfpnaaGreat.Fs
