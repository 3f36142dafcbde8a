/- Printed by sx.py: words over the heap alone for Go functions, and that each call does what its word says. -/
import Derived.Test.YtaacfhekjklipaaSxSel
import Derived.Test.YtaacfhekjklipaaSxRound
import Derived.Test.YtaacfhekjklipaaProg
namespace Go.Proofs.Ytaacfhekjklipaa.Fs
open Go Go.RowKit Go.Proofs.Ytaacfhekjklipaa.Sx
set_option linter.unusedVariables false

/-! ### quintet/quintetref05.Back: function 29 -/
def quintetref05_Back (A1 : Option Addr) (l1 : Nat) (c1 : Nat) (h : Hp) (K : Value → Hp → Prop) : Prop :=
  CallsH Try.prog 56 #[(.slice A1 l1 c1)] h fun r3 h2 =>
  ∃ p4 : Option Addr, ∃ b5 : Bool, r3 = (.tuple #[(.pointer p4), (.bool b5)]) ∧ 
  br (!b5)
  (K (.tuple #[(.slice none 0 0), (.int .i64 50)]) h2)
  (CallsH Try.prog 47 #[(.pointer p4)] h2 fun r7 h6 =>
  ∃ A8 : Option Addr, ∃ l8 : Nat, ∃ c8 : Nat, r7 = (.slice A8 l8 c8) ∧ 
  K (.tuple #[(.slice A8 l8 c8), (.int .i64 0)]) h6)
def quintetref05_Back_lp (i : Nat) (Q : Qx) (tm : Tm) (h : Hp) : Prop := False
def quintetref05_Back_cut (i : Nat) : Option (List Nat) := none
set_option maxRecDepth 100000 in
theorem quintetref05_Back_eq (A1 : Option Addr) (l1 : Nat) (c1 : Nat) (h : Hp) (K : Value → Hp → Prop) : quintetref05_Back A1 l1 c1 h K =
    codeWp Try.prog 15 quintetref05_Back_lp quintetref05_Back_cut (bodyOf Try.f29) 1 (endQ Try.prog Try.f29.results.toList K) (argTm [(.slice A1 l1 c1)]) h := by kernel_rfl
set_option maxRecDepth 100000 in
theorem quintetref05_Back_ok (A1 : Option Addr) (l1 : Nat) (c1 : Nat) {h : Hp} {K : Value → Hp → Prop} (H : quintetref05_Back A1 l1 c1 h K) : CallsH Try.prog 29 #[(.slice A1 l1 c1)] h K :=
  calls_of (args := [(.slice A1 l1 c1)]) (n := 15) (lp := quintetref05_Back_lp) (cut := quintetref05_Back_cut) Try.func29 (c := bodyOf Try.f29) (by kernel_rfl) (by kernel_rfl) (by kernel_rfl) (good_by (c := (bodyOf Try.f29)) (i := 1) (l := []) (by kernel_rfl) (fun _ h => by cases h))
    (Eq.mp (quintetref05_Back_eq A1 l1 c1 h K) H)

/-! ### quintet/quintetref05.Least: function 33 -/
def quintetref05_Least (A1 : Option Addr) (l1 : Nat) (c1 : Nat) (h : Hp) (K : Value → Hp → Prop) : Prop :=
  CallsH Try.prog 56 #[(.slice A1 l1 c1)] h fun r3 h2 =>
  ∃ p4 : Option Addr, ∃ b5 : Bool, r3 = (.tuple #[(.pointer p4), (.bool b5)]) ∧ 
  br (!b5)
  (K (.tuple #[(.slice none 0 0), (.int .i64 50)]) h2)
  (CallsH Try.prog 52 #[(.pointer p4)] h2 fun r7 h6 =>
  ∃ A8 : Option Addr, ∃ l8 : Nat, ∃ c8 : Nat, r7 = (.slice A8 l8 c8) ∧ 
  K (.tuple #[(.slice A8 l8 c8), (.int .i64 0)]) h6)
def quintetref05_Least_lp (i : Nat) (Q : Qx) (tm : Tm) (h : Hp) : Prop := False
def quintetref05_Least_cut (i : Nat) : Option (List Nat) := none
set_option maxRecDepth 100000 in
theorem quintetref05_Least_eq (A1 : Option Addr) (l1 : Nat) (c1 : Nat) (h : Hp) (K : Value → Hp → Prop) : quintetref05_Least A1 l1 c1 h K =
    codeWp Try.prog 15 quintetref05_Least_lp quintetref05_Least_cut (bodyOf Try.f33) 1 (endQ Try.prog Try.f33.results.toList K) (argTm [(.slice A1 l1 c1)]) h := by kernel_rfl
set_option maxRecDepth 100000 in
theorem quintetref05_Least_ok (A1 : Option Addr) (l1 : Nat) (c1 : Nat) {h : Hp} {K : Value → Hp → Prop} (H : quintetref05_Least A1 l1 c1 h K) : CallsH Try.prog 33 #[(.slice A1 l1 c1)] h K :=
  calls_of (args := [(.slice A1 l1 c1)]) (n := 15) (lp := quintetref05_Least_lp) (cut := quintetref05_Least_cut) Try.func33 (c := bodyOf Try.f33) (by kernel_rfl) (by kernel_rfl) (by kernel_rfl) (good_by (c := (bodyOf Try.f33)) (i := 1) (l := []) (by kernel_rfl) (fun _ h => by cases h))
    (Eq.mp (quintetref05_Least_eq A1 l1 c1 h K) H)

/-! ### quintet/quintetref05.Tiled: function 52 -/
def quintetref05_Tiled_l1 (p5 : Option Addr) (A6 : Option Addr) (l6 : Nat) (c6 : Nat) (K0 : (Option Addr) → Nat → Nat → Hp → Prop)  : Nat → Int → Hp → Prop
  | 0, _, _ => False
  | k + 1, x7, h =>
    br (decide (x7 < 65536))
    (∃ a20 : Addr, PV Try.prog (Instr.indexAt 78 (.slice A6 l6 c6) (.int .i64 x7)) (.pointer (some a20)) ∧
    ∃ x21 : Int, HV Try.prog (Instr.loadAt 3 (.pointer (some a20))) h (.int .i64 x21) ∧ 
    ∃ a22 : Addr, PV Try.prog (Instr.indexAt 78 (.slice A6 l6 c6) (.int .i64 (IntKind.i64.wrap (x7 + 1)))) (.pointer (some a22)) ∧
    HU Try.prog (Instr.storeAt 3 (.pointer (some a22)) (.int .i64 x21)) h fun h23 => 
    drf p5 fun a24 =>
    ∃ a25 : Addr, PV Try.prog (Instr.indexAt 61 (.pointer (some a24)) (.int .i64 x7)) (.pointer (some a25)) ∧
    ∃ b26 : Bool, HV Try.prog (Instr.loadAt 4 (.pointer (some a25))) h23 (.bool b26) ∧ 
    br b26
    (∃ a27 : Addr, PV Try.prog (Instr.indexAt 78 (.slice A6 l6 c6) (.int .i64 (IntKind.i64.wrap (x7 + 1)))) (.pointer (some a27)) ∧
    ∃ x28 : Int, HV Try.prog (Instr.loadAt 3 (.pointer (some a27))) h23 (.int .i64 x28) ∧ 
    ∃ a29 : Addr, PV Try.prog (Instr.indexAt 78 (.slice A6 l6 c6) (.int .i64 (IntKind.i64.wrap (x7 + 1)))) (.pointer (some a29)) ∧
    HU Try.prog (Instr.storeAt 3 (.pointer (some a29)) (.int .i64 (IntKind.i64.wrap (x28 + 1)))) h23 fun h30 => 
    quintetref05_Tiled_l1 p5 A6 l6 c6 K0 k (IntKind.i64.wrap (x7 + 1)) h30)
    (quintetref05_Tiled_l1 p5 A6 l6 c6 K0 k (IntKind.i64.wrap (x7 + 1)) h23))
    (K0 A6 l6 c6 h)
def quintetref05_Tiled_l1_L (Q : Qx) (k : Nat) (tm : Tm) (h : Hp) : Prop :=
  selP (tm 0) fun p5 =>
  selS (tm 3) fun A6 l6 c6 =>
  selI .i64 (tm 4) fun x7 =>
  quintetref05_Tiled_l1 p5 A6 l6 c6 (fun (A19 : Option Addr) (l19 : Nat) (c19 : Nat) h => Q (.exit 0) (mkTm [(3, some (.slice A19 l19 c19))]) h) k x7 h
def quintetref05_Tiled (p1 : Option Addr) (h : Hp) (K : Value → Hp → Prop) : Prop :=
  HW Try.prog (Instr.makeSlice 78 (.int .i64 65537) (.int .i64 65537)) h fun r3 h2 =>
  ∃ A4 : Option Addr, ∃ l4 : Nat, ∃ c4 : Nat, r3 = (.slice A4 l4 c4) ∧ 
  ∃ k36, quintetref05_Tiled_l1 p1 A4 l4 c4
  (fun (A31 : Option Addr) (l31 : Nat) (c31 : Nat) (h32 : Hp) =>
  CallsH Try.prog 60 #[(.slice A31 l31 c31), (.int .i64 0), (.int .i64 0)] h32 fun r34 h33 =>
  ∃ A35 : Option Addr, ∃ l35 : Nat, ∃ c35 : Nat, r34 = (.slice A35 l35 c35) ∧ 
  K (.slice A35 l35 c35) h33)
  k36 0 h2
def quintetref05_Tiled_lp (i : Nat) (Q : Qx) (tm : Tm) (h : Hp) : Prop := match Nat.beq i 58 with
  | true => ∃ k, quintetref05_Tiled_l1_L Q k tm h
  | false => False
def quintetref05_Tiled_cut (i : Nat) : Option (List Nat) := none
set_option maxRecDepth 100000 in
theorem quintetref05_Tiled_l1_step (Q : Qx) (k : Nat) (p5 : Option Addr) (A6 : Option Addr) (l6 : Nat) (c6 : Nat) (x7 : Int) (h : Hp) : quintetref05_Tiled_l1_L Q (k + 1) (mkTm [(0, some (.pointer p5)), (3, some (.slice A6 l6 c6)), (4, some (.int .i64 x7))]) h =
    codeWp Try.prog 32 quintetref05_Tiled_lp quintetref05_Tiled_cut (sub (bodyOf Try.f52) [true, true, false, true, false, false]) 116 (thenQ (fun tm h => quintetref05_Tiled_l1_L Q k (mask [0, 3, 4] tm) h) (maskQ (fun e => match e with | .exit 0 => [3] | _ => []) Q)) (mkTm [(0, some (.pointer p5)), (3, some (.slice A6 l6 c6)), (4, some (.int .i64 x7))]) h := by kernel_rfl
theorem quintetref05_Tiled_l1_mask (Q : Qx) (k : Nat) (tm : Tm) (h : Hp) : quintetref05_Tiled_l1_L Q k tm h ↔ quintetref05_Tiled_l1_L Q k (mask [0, 3, 4] tm) h := Iff.rfl
set_option maxRecDepth 100000 in
theorem quintetref05_Tiled_l1_snd : SndAt Try.prog 32 none (sub (bodyOf Try.f52) [true, true, false, true, false]) (quintetref05_Tiled_lp 58) := by
  refine loop_sound (lp := quintetref05_Tiled_lp) (cut := quintetref05_Tiled_cut) (i := 58) (c := (sub (bodyOf Try.f52) [true, true, false, true, false, false])) [0, 3, 4] (fun e => match e with | .exit 0 => [3] | _ => []) quintetref05_Tiled_l1_L ?_ ?_ ?_
  · exact good_by (c := (sub (bodyOf Try.f52) [true, true, false, true, false, false])) (i := 116) (l := []) (by kernel_rfl) (fun _ h => by cases h)
  · intro Q tm h H
    obtain ⟨p5, e0, H⟩ := selP_ex H
    obtain ⟨A6, l6, c6, e3, H⟩ := selS_ex H
    obtain ⟨x7, e4, H⟩ := selI_ex H
    exact H
  · intro Q k tm h H
    have H0 := H
    obtain ⟨p5, e0, H⟩ := selP_ex H
    obtain ⟨A6, l6, c6, e3, H⟩ := selS_ex H
    obtain ⟨x7, e4, H⟩ := selI_ex H
    have e : mask [0, 3, 4] tm = mkTm [(0, some (.pointer p5)), (3, some (.slice A6 l6 c6)), (4, some (.int .i64 x7))] := by simp only [mask, List.map_cons, List.map_nil, e0, e3, e4] <;> rfl
    rw [e]
    refine Eq.mp (quintetref05_Tiled_l1_step Q k p5 A6 l6 c6 x7 h) ?_
    rw [← e]
    exact (quintetref05_Tiled_l1_mask Q (k + 1) tm h).mp H0
set_option maxRecDepth 100000 in
theorem quintetref05_Tiled_eq (p1 : Option Addr) (h : Hp) (K : Value → Hp → Prop) : quintetref05_Tiled p1 h K =
    codeWp Try.prog 32 quintetref05_Tiled_lp quintetref05_Tiled_cut (bodyOf Try.f52) 1 (endQ Try.prog Try.f52.results.toList K) (argTm [(.pointer p1)]) h := by kernel_rfl
set_option maxRecDepth 100000 in
theorem quintetref05_Tiled_ok (p1 : Option Addr) {h : Hp} {K : Value → Hp → Prop} (H : quintetref05_Tiled p1 h K) : CallsH Try.prog 52 #[(.pointer p1)] h K :=
  calls_of (args := [(.pointer p1)]) (n := 32) (lp := quintetref05_Tiled_lp) (cut := quintetref05_Tiled_cut) Try.func52 (c := bodyOf Try.f52) (by kernel_rfl) (by kernel_rfl) (by kernel_rfl) (good_by (c := (bodyOf Try.f52)) (i := 1) (l := [(58, (sub (bodyOf Try.f52) [true, true, false, true, false]))]) (by kernel_rfl) (List.forall_mem_cons.2 ⟨quintetref05_Tiled_l1_snd, (fun _ h => by cases h)⟩))
    (Eq.mp (quintetref05_Tiled_eq p1 h K) H)

/-! ### quintet/quintetref05.tiled: function 60 -/
def quintetref05_tiled (A1 : Option Addr) (l1 : Nat) (c1 : Nat) (x2 : Int) (x3 : Int) (h : Hp) (K : Value → Hp → Prop) : Prop :=
  ∃ x4 : Int, PV Try.prog (binOp .shl 3 (.int .i64 1) (.int .i64 (IntKind.i64.wrap (16 - x3)))) (.int .i64 x4) ∧
  ∃ a5 : Addr, PV Try.prog (Instr.indexAt 78 (.slice A1 l1 c1) (.int .i64 (IntKind.i64.wrap (x2 + x4)))) (.pointer (some a5)) ∧
  ∃ x6 : Int, HV Try.prog (Instr.loadAt 3 (.pointer (some a5))) h (.int .i64 x6) ∧ 
  ∃ a7 : Addr, PV Try.prog (Instr.indexAt 78 (.slice A1 l1 c1) (.int .i64 x2)) (.pointer (some a7)) ∧
  ∃ x8 : Int, HV Try.prog (Instr.loadAt 3 (.pointer (some a7))) h (.int .i64 x8) ∧ 
  br ((IntKind.i64.wrap (x6 - x8)) == x4)
  (newC h (.cells #[(.int .u16 (IntKind.u16.wrap (x2))), (.int .i64 x3)] 49 (0, 0)) fun a10 h9 => 
  K (.slice (some a10) 1 1) h9)
  (br ((IntKind.i64.wrap (x6 - x8)) == 0)
  (K (.slice none 0 0) h)
  (CallsH Try.prog 60 #[(.slice A1 l1 c1), (.int .i64 x2), (.int .i64 (IntKind.i64.wrap (x3 + 1)))] h fun r12 h11 =>
  ∃ A13 : Option Addr, ∃ l13 : Nat, ∃ c13 : Nat, r12 = (.slice A13 l13 c13) ∧ 
  CallsH Try.prog 60 #[(.slice A1 l1 c1), (.int .i64 (IntKind.i64.wrap (x2 + (IntKind.i64.wrap (Int.tdiv x4 2))))), (.int .i64 (IntKind.i64.wrap (x3 + 1)))] h11 fun r15 h14 =>
  ∃ A16 : Option Addr, ∃ l16 : Nat, ∃ c16 : Nat, r15 = (.slice A16 l16 c16) ∧ 
  HW Try.prog (Builtin.append_ #[34, 34] 34 #[(.slice A13 l13 c13), (.slice A16 l16 c16)]) h14 fun r18 h17 =>
  ∃ A19 : Option Addr, ∃ l19 : Nat, ∃ c19 : Nat, r18 = (.slice A19 l19 c19) ∧ 
  K (.slice A19 l19 c19) h17))
def quintetref05_tiled_lp (i : Nat) (Q : Qx) (tm : Tm) (h : Hp) : Prop := False
def quintetref05_tiled_cut (i : Nat) : Option (List Nat) := none
set_option maxRecDepth 100000 in
theorem quintetref05_tiled_eq (A1 : Option Addr) (l1 : Nat) (c1 : Nat) (x2 : Int) (x3 : Int) (h : Hp) (K : Value → Hp → Prop) : quintetref05_tiled A1 l1 c1 x2 x3 h K =
    codeWp Try.prog 51 quintetref05_tiled_lp quintetref05_tiled_cut (bodyOf Try.f60) 1 (endQ Try.prog Try.f60.results.toList K) (argTm [(.slice A1 l1 c1), (.int .i64 x2), (.int .i64 x3)]) h := by kernel_rfl
set_option maxRecDepth 100000 in
theorem quintetref05_tiled_ok (A1 : Option Addr) (l1 : Nat) (c1 : Nat) (x2 : Int) (x3 : Int) {h : Hp} {K : Value → Hp → Prop} (H : quintetref05_tiled A1 l1 c1 x2 x3 h K) : CallsH Try.prog 60 #[(.slice A1 l1 c1), (.int .i64 x2), (.int .i64 x3)] h K :=
  calls_of (args := [(.slice A1 l1 c1), (.int .i64 x2), (.int .i64 x3)]) (n := 51) (lp := quintetref05_tiled_lp) (cut := quintetref05_tiled_cut) Try.func60 (c := bodyOf Try.f60) (by kernel_rfl) (by kernel_rfl) (by kernel_rfl) (good_by (c := (bodyOf Try.f60)) (i := 1) (l := []) (by kernel_rfl) (fun _ h => by cases h))
    (Eq.mp (quintetref05_tiled_eq A1 l1 c1 x2 x3 h K) H)

end Go.Proofs.Ytaacfhekjklipaa.Fs
