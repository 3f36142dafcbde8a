/- Texts laid together: FxY. -/
import Derived.Test.YtfdpccbajaiepaaGreatDoorB01
import Derived.Test.YtfdpccbajaiepaaGreatDoorB02
import Derived.Test.YtfdpccbajaiepaaGreatDoorProg
/- Printed by sx.py: words over the heap alone for Go functions, and that each call does what its word says. -/
namespace Go.Proofs.YtfdpccbajaiepaaGreatDoor.Sxp.Fx
open Go Go.RowKit Go.Proofs.YtfdpccbajaiepaaGreatDoor.Sx
set_option linter.unusedVariables false
set_option maxRecDepth 100000
set_option maxHeartbeats 4000000

/-! ### (*quintet/syntax.reader).sign: function 77 -/
set_option maxRecDepth 100000 in
def syntax_reader_sign (p1 : Option Addr) (s2 : ByteArray) (h : Hp) (K : Value → Hp → Prop) : Prop :=
  drf p1 fun a3 =>
  ∃ A4 : Option Addr, ∃ l4 : Nat, ∃ c4 : Nat, HV Tryz.prog (Instr.loadAt 46 (.pointer (some a3))) h (.slice A4 l4 c4) ∧ 
  drf p1 fun a5 =>
  ∃ x6 : Int, HV Tryz.prog (Instr.loadAt 3 (.pointer (some (a5.add 1)))) h (.int .i64 x6) ∧ 
  ∃ a7 : Addr, PV Tryz.prog (Instr.indexAt 46 (.slice A4 l4 c4) (.int .i64 x6)) (.pointer (some a7)) ∧
  ∃ x8 : Int, ∃ s9 : ByteArray, ∃ x10 : Int, ∃ x11 : Int, ∃ x12 : Int, HV Tryz.prog (Instr.loadAt 52 (.pointer (some a7))) h (.agg #[(.int .i64 x8), (.string s9), (.int .u32 x10), (.int .i64 x11), (.int .i64 x12)]) ∧ 
  newC h (.cells #[(.int .i64 0), (.string ⟨#[]⟩), (.int .u32 0), (.int .i64 0), (.int .i64 0)] 52 (0, 0)) fun a14 h13 => HV Tryz.prog (Instr.loadAt 52 (.pointer (some a7))) h13 (.agg #[(.int .i64 x8), (.string s9), (.int .u32 x10), (.int .i64 x11), (.int .i64 x12)]) ∧ HV Tryz.prog (Instr.loadAt 3 (.pointer (some (a5.add 1)))) h13 (.int .i64 x6) ∧ HV Tryz.prog (Instr.loadAt 46 (.pointer (some a3))) h13 (.slice A4 l4 c4) ∧ 
  HU Tryz.prog (Instr.storeAt 52 (.pointer (some a14)) (.agg #[(.int .i64 x8), (.string s9), (.int .u32 x10), (.int .i64 x11), (.int .i64 x12)])) h13 fun h15 => 
  ∃ x16 : Int, HV Tryz.prog (Instr.loadAt 49 (.pointer (some a14))) h15 (.int .i64 x16) ∧ 
  br (x16 != 3)
  (K (.bool false) h15)
  (∃ s17 : ByteArray, HV Tryz.prog (Instr.loadAt 9 (.pointer (some (a14.add 1)))) h15 (.string s17) ∧ 
  br (!((s17 : ByteArray).toList == (s2 : ByteArray).toList))
  (K (.bool false) h15)
  (drf p1 fun a18 =>
  ∃ x19 : Int, HV Tryz.prog (Instr.loadAt 3 (.pointer (some (a18.add 1)))) h15 (.int .i64 x19) ∧ 
  drf p1 fun a20 =>
  HU Tryz.prog (Instr.storeAt 3 (.pointer (some (a20.add 1))) (.int .i64 (IntKind.i64.wrap (x19 + 1)))) h15 fun h21 => 
  K (.bool true) h21))
def syntax_reader_sign_lp (i : Nat) (Q : Qx) (tm : Tm) (h : Hp) : Prop := False
def syntax_reader_sign_cut (i : Nat) : Option (List Nat) := none
set_option maxRecDepth 100000 in
theorem syntax_reader_sign_eq (p1 : Option Addr) (s2 : ByteArray) (h : Hp) (K : Value → Hp → Prop) : syntax_reader_sign p1 s2 h K =
    codeWp Tryz.prog 32 false syntax_reader_sign_lp syntax_reader_sign_cut (bodyOf Tryz.f77) 1 (endQ Tryz.prog Tryz.f77.results.toList K) (argTm [(.pointer p1), (.string s2)]) h := by kernel_rfl
set_option maxRecDepth 100000 in
theorem syntax_reader_sign_ok (p1 : Option Addr) (s2 : ByteArray) {h : Hp} {K : Value → Hp → Prop} (H : syntax_reader_sign p1 s2 h K) : CallsH Tryz.prog 77 #[(.pointer p1), (.string s2)] h K :=
  calls_of (pn := false) (args := [(.pointer p1), (.string s2)]) (n := 32) (lp := syntax_reader_sign_lp) (cut := syntax_reader_sign_cut) Tryz.func77 (c := bodyOf Tryz.f77) (by kernel_rfl) (by kernel_rfl) (by kernel_rfl) (good_by (pn := false) (c := (bodyOf Tryz.f77)) (i := 1) (l := []) (by kernel_rfl) (fun _ h => by cases h))
    (Eq.mp (syntax_reader_sign_eq p1 s2 h K) H)

/-! ### quintet/syntax.fails: function 25 -/
set_option maxRecDepth 100000 in
def syntax_fails (x1 : Int) (s2 : ByteArray) (x3 : Int) (x4 : Int) (x5 : Int) (x6 : Int) (h : Hp) (K : Value → Hp → Prop) (KP : Kp) : Prop :=
  newC h (.cells #[(.int .i64 x1), (.string s2), (.int .u32 x3), (.int .i64 x4), (.int .i64 x5)] 52 (0, 0)) fun a8 h7 => 
  ∃ x9 : Int, HV Tryz.prog (Instr.loadAt 3 (.pointer (some (a8.add 3)))) h7 (.int .i64 x9) ∧ 
  ∃ x10 : Int, HV Tryz.prog (Instr.loadAt 3 (.pointer (some (a8.add 4)))) h7 (.int .i64 x10) ∧ 
  newC h7 (.cells #[(.int .i64 x6), (.int .i64 x9), (.int .i64 x10)] 34 (0, 0)) fun a12 h11 => 
  KP [{ v := (.iface 27 (.pointer (some a12))), recovered := false }] h11
def syntax_fails_lp (i : Nat) (Q : Qx) (tm : Tm) (h : Hp) : Prop := False
def syntax_fails_cut (i : Nat) : Option (List Nat) := none
set_option maxRecDepth 100000 in
theorem syntax_fails_eq (x1 : Int) (s2 : ByteArray) (x3 : Int) (x4 : Int) (x5 : Int) (x6 : Int) (h : Hp) (K : Value → Hp → Prop) (KP : Kp) : syntax_fails x1 s2 x3 x4 x5 x6 h K KP =
    codeWp Tryz.prog 12 true syntax_fails_lp syntax_fails_cut (bodyOf Tryz.f25) 1 (endP Tryz.prog Tryz.f25.results.toList K KP) (argTm [(.agg #[(.int .i64 x1), (.string s2), (.int .u32 x3), (.int .i64 x4), (.int .i64 x5)]), (.int .i64 x6)]) h := by kernel_rfl
set_option maxRecDepth 100000 in
theorem syntax_fails_ok (x1 : Int) (s2 : ByteArray) (x3 : Int) (x4 : Int) (x5 : Int) (x6 : Int) {h : Hp} {K : Value → Hp → Prop} {KP : Kp} (H : syntax_fails x1 s2 x3 x4 x5 x6 h K KP) : CallsP Tryz.prog 25 #[(.agg #[(.int .i64 x1), (.string s2), (.int .u32 x3), (.int .i64 x4), (.int .i64 x5)]), (.int .i64 x6)] h K KP :=
  callsP_of (args := [(.agg #[(.int .i64 x1), (.string s2), (.int .u32 x3), (.int .i64 x4), (.int .i64 x5)]), (.int .i64 x6)]) (n := 12) (lp := syntax_fails_lp) (cut := syntax_fails_cut) Tryz.func25 (c := bodyOf Tryz.f25) (by kernel_rfl) (by kernel_rfl) (by kernel_rfl) (good_by (pn := true) (c := (bodyOf Tryz.f25)) (i := 1) (l := []) (by kernel_rfl) (fun _ h => by cases h))
    (Eq.mp (syntax_fails_eq x1 s2 x3 x4 x5 x6 h K KP) H)

/-! ### (*quintet/syntax.reader).number: function 75 -/
set_option maxRecDepth 100000 in
def syntax_reader_number (p1 : Option Addr) (x2 : Int) (h : Hp) (K : Value → Hp → Prop) (KP : Kp) : Prop :=
  drf p1 fun a3 =>
  ∃ A4 : Option Addr, ∃ l4 : Nat, ∃ c4 : Nat, HV Tryz.prog (Instr.loadAt 46 (.pointer (some a3))) h (.slice A4 l4 c4) ∧ 
  drf p1 fun a5 =>
  ∃ x6 : Int, HV Tryz.prog (Instr.loadAt 3 (.pointer (some (a5.add 1)))) h (.int .i64 x6) ∧ 
  ∃ a7 : Addr, PV Tryz.prog (Instr.indexAt 46 (.slice A4 l4 c4) (.int .i64 x6)) (.pointer (some a7)) ∧
  ∃ x8 : Int, ∃ s9 : ByteArray, ∃ x10 : Int, ∃ x11 : Int, ∃ x12 : Int, HV Tryz.prog (Instr.loadAt 52 (.pointer (some a7))) h (.agg #[(.int .i64 x8), (.string s9), (.int .u32 x10), (.int .i64 x11), (.int .i64 x12)]) ∧ 
  newC h (.cells #[(.int .i64 0), (.string ⟨#[]⟩), (.int .u32 0), (.int .i64 0), (.int .i64 0)] 52 (0, 0)) fun a14 h13 => HV Tryz.prog (Instr.loadAt 52 (.pointer (some a7))) h13 (.agg #[(.int .i64 x8), (.string s9), (.int .u32 x10), (.int .i64 x11), (.int .i64 x12)]) ∧ HV Tryz.prog (Instr.loadAt 3 (.pointer (some (a5.add 1)))) h13 (.int .i64 x6) ∧ HV Tryz.prog (Instr.loadAt 46 (.pointer (some a3))) h13 (.slice A4 l4 c4) ∧ 
  HU Tryz.prog (Instr.storeAt 52 (.pointer (some a14)) (.agg #[(.int .i64 x8), (.string s9), (.int .u32 x10), (.int .i64 x11), (.int .i64 x12)])) h13 fun h15 => 
  ∃ x16 : Int, HV Tryz.prog (Instr.loadAt 49 (.pointer (some a14))) h15 (.int .i64 x16) ∧ 
  br (x16 != 2)
  (∃ x17 : Int, ∃ s18 : ByteArray, ∃ x19 : Int, ∃ x20 : Int, ∃ x21 : Int, HV Tryz.prog (Instr.loadAt 52 (.pointer (some a14))) h15 (.agg #[(.int .i64 x17), (.string s18), (.int .u32 x19), (.int .i64 x20), (.int .i64 x21)]) ∧ 
  CallsP Tryz.prog 25 #[(.agg #[(.int .i64 x17), (.string s18), (.int .u32 x19), (.int .i64 x20), (.int .i64 x21)]), (.int .i64 100)] h15 (fun r23 h22 =>
  r23 = (.tuple #[]) ∧ 
  drf p1 fun a24 =>
  ∃ x25 : Int, HV Tryz.prog (Instr.loadAt 3 (.pointer (some (a24.add 1)))) h22 (.int .i64 x25) ∧ 
  drf p1 fun a26 =>
  HU Tryz.prog (Instr.storeAt 3 (.pointer (some (a26.add 1))) (.int .i64 (IntKind.i64.wrap (x25 + 1)))) h22 fun h27 => 
  ∃ x28 : Int, HV Tryz.prog (Instr.loadAt 50 (.pointer (some (a14.add 2)))) h27 (.int .u32 x28) ∧ 
  K (.int .u32 x28) h27) KP)
  (∃ x29 : Int, HV Tryz.prog (Instr.loadAt 50 (.pointer (some (a14.add 2)))) h15 (.int .u32 x29) ∧ 
  br (decide (x29 > x2))
  (∃ x30 : Int, ∃ s31 : ByteArray, ∃ x32 : Int, ∃ x33 : Int, ∃ x34 : Int, HV Tryz.prog (Instr.loadAt 52 (.pointer (some a14))) h15 (.agg #[(.int .i64 x30), (.string s31), (.int .u32 x32), (.int .i64 x33), (.int .i64 x34)]) ∧ 
  CallsP Tryz.prog 25 #[(.agg #[(.int .i64 x30), (.string s31), (.int .u32 x32), (.int .i64 x33), (.int .i64 x34)]), (.int .i64 101)] h15 (fun r36 h35 =>
  r36 = (.tuple #[]) ∧ 
  drf p1 fun a37 =>
  ∃ x38 : Int, HV Tryz.prog (Instr.loadAt 3 (.pointer (some (a37.add 1)))) h35 (.int .i64 x38) ∧ 
  drf p1 fun a39 =>
  HU Tryz.prog (Instr.storeAt 3 (.pointer (some (a39.add 1))) (.int .i64 (IntKind.i64.wrap (x38 + 1)))) h35 fun h40 => 
  ∃ x41 : Int, HV Tryz.prog (Instr.loadAt 50 (.pointer (some (a14.add 2)))) h40 (.int .u32 x41) ∧ 
  K (.int .u32 x41) h40) KP)
  (drf p1 fun a42 =>
  ∃ x43 : Int, HV Tryz.prog (Instr.loadAt 3 (.pointer (some (a42.add 1)))) h15 (.int .i64 x43) ∧ 
  drf p1 fun a44 =>
  HU Tryz.prog (Instr.storeAt 3 (.pointer (some (a44.add 1))) (.int .i64 (IntKind.i64.wrap (x43 + 1)))) h15 fun h45 => 
  ∃ x46 : Int, HV Tryz.prog (Instr.loadAt 50 (.pointer (some (a14.add 2)))) h45 (.int .u32 x46) ∧ 
  K (.int .u32 x46) h45))
def syntax_reader_number_lp (i : Nat) (Q : Qx) (tm : Tm) (h : Hp) : Prop := False
def syntax_reader_number_cut (i : Nat) : Option (List Nat) := none
set_option maxRecDepth 100000 in
theorem syntax_reader_number_eq (p1 : Option Addr) (x2 : Int) (h : Hp) (K : Value → Hp → Prop) (KP : Kp) : syntax_reader_number p1 x2 h K KP =
    codeWp Tryz.prog 38 true syntax_reader_number_lp syntax_reader_number_cut (bodyOf Tryz.f75) 1 (endP Tryz.prog Tryz.f75.results.toList K KP) (argTm [(.pointer p1), (.int .u32 x2)]) h := by kernel_rfl
set_option maxRecDepth 100000 in
theorem syntax_reader_number_ok (p1 : Option Addr) (x2 : Int) {h : Hp} {K : Value → Hp → Prop} {KP : Kp} (H : syntax_reader_number p1 x2 h K KP) : CallsP Tryz.prog 75 #[(.pointer p1), (.int .u32 x2)] h K KP :=
  callsP_of (args := [(.pointer p1), (.int .u32 x2)]) (n := 38) (lp := syntax_reader_number_lp) (cut := syntax_reader_number_cut) Tryz.func75 (c := bodyOf Tryz.f75) (by kernel_rfl) (by kernel_rfl) (by kernel_rfl) (good_by (pn := true) (c := (bodyOf Tryz.f75)) (i := 1) (l := []) (by kernel_rfl) (fun _ h => by cases h))
    (Eq.mp (syntax_reader_number_eq p1 x2 h K KP) H)

/-! ### (*quintet/syntax.reader).any: function 54 -/
set_option maxRecDepth 100000 in
def syntax_reader_any (p1 : Option Addr) (h : Hp) (K : Value → Hp → Prop) (KP : Kp) : Prop :=
  CallsP Tryz.prog 75 #[(.pointer p1), (.int .u32 4294967295)] h (fun r3 h2 =>
  ∃ x4 : Int, r3 = (.int .u32 x4) ∧ 
  K (.int .i64 (IntKind.i64.wrap (x4))) h2) KP
def syntax_reader_any_lp (i : Nat) (Q : Qx) (tm : Tm) (h : Hp) : Prop := False
def syntax_reader_any_cut (i : Nat) : Option (List Nat) := none
set_option maxRecDepth 100000 in
theorem syntax_reader_any_eq (p1 : Option Addr) (h : Hp) (K : Value → Hp → Prop) (KP : Kp) : syntax_reader_any p1 h K KP =
    codeWp Tryz.prog 6 true syntax_reader_any_lp syntax_reader_any_cut (bodyOf Tryz.f54) 1 (endP Tryz.prog Tryz.f54.results.toList K KP) (argTm [(.pointer p1)]) h := by kernel_rfl
set_option maxRecDepth 100000 in
theorem syntax_reader_any_ok (p1 : Option Addr) {h : Hp} {K : Value → Hp → Prop} {KP : Kp} (H : syntax_reader_any p1 h K KP) : CallsP Tryz.prog 54 #[(.pointer p1)] h K KP :=
  callsP_of (args := [(.pointer p1)]) (n := 6) (lp := syntax_reader_any_lp) (cut := syntax_reader_any_cut) Tryz.func54 (c := bodyOf Tryz.f54) (by kernel_rfl) (by kernel_rfl) (by kernel_rfl) (good_by (pn := true) (c := (bodyOf Tryz.f54)) (i := 1) (l := []) (by kernel_rfl) (fun _ h => by cases h))
    (Eq.mp (syntax_reader_any_eq p1 h K KP) H)

/-! ### (*quintet/syntax.reader).address: function 74 -/
def syntax_reader_address_l1 (p5 : Option Addr) (K0 : Int → Hp → Prop) (KP : Kp)  : Nat → Int → Int → Hp → Prop
  | 0, _, _, _ => False
  | k + 1, x6, x7, h =>
    br (decide (x7 < 3))
    (CallsP Tryz.prog 77 #[(.pointer p5), (.string ({ data := #[46] }))] h (fun r31 h30 =>
    ∃ b32 : Bool, r31 = (.bool b32) ∧ 
    br (!b32)
    (drf p5 fun a33 =>
    ∃ A34 : Option Addr, ∃ l34 : Nat, ∃ c34 : Nat, HV Tryz.prog (Instr.loadAt 46 (.pointer (some a33))) h30 (.slice A34 l34 c34) ∧ 
    drf p5 fun a35 =>
    ∃ x36 : Int, HV Tryz.prog (Instr.loadAt 3 (.pointer (some (a35.add 1)))) h30 (.int .i64 x36) ∧ 
    ∃ a37 : Addr, PV Tryz.prog (Instr.indexAt 46 (.slice A34 l34 c34) (.int .i64 x36)) (.pointer (some a37)) ∧
    ∃ x38 : Int, ∃ s39 : ByteArray, ∃ x40 : Int, ∃ x41 : Int, ∃ x42 : Int, HV Tryz.prog (Instr.loadAt 52 (.pointer (some a37))) h30 (.agg #[(.int .i64 x38), (.string s39), (.int .u32 x40), (.int .i64 x41), (.int .i64 x42)]) ∧ 
    CallsP Tryz.prog 25 #[(.agg #[(.int .i64 x38), (.string s39), (.int .u32 x40), (.int .i64 x41), (.int .i64 x42)]), (.int .i64 100)] h30 (fun r44 h43 =>
    r44 = (.tuple #[]) ∧ 
    CallsP Tryz.prog 75 #[(.pointer p5), (.int .u32 255)] h43 (fun r46 h45 =>
    ∃ x47 : Int, r46 = (.int .u32 x47) ∧ 
    syntax_reader_address_l1 p5 K0 KP k (bOr .u32 (IntKind.u32.wrap (x6 * 256)) x47) (IntKind.i64.wrap (x7 + 1)) h45) KP) KP)
    (CallsP Tryz.prog 75 #[(.pointer p5), (.int .u32 255)] h30 (fun r49 h48 =>
    ∃ x50 : Int, r49 = (.int .u32 x50) ∧ 
    syntax_reader_address_l1 p5 K0 KP k (bOr .u32 (IntKind.u32.wrap (x6 * 256)) x50) (IntKind.i64.wrap (x7 + 1)) h48) KP)) KP)
    (K0 x6 h)
def syntax_reader_address_l1_L (Q : Qx) (k : Nat) (tm : Tm) (h : Hp) : Prop :=
  selP (tm 0) fun p5 =>
  selI .u32 (tm 3) fun x6 =>
  selI .i64 (tm 6) fun x7 =>
  syntax_reader_address_l1 p5 (fun (x29 : Int) h => Q (.exit 0) (mkTm [(3, some (.int .u32 x29))]) h) (fun ch h => Q (.panic ch) (mkTm []) h) k x6 x7 h
set_option maxRecDepth 100000 in
def syntax_reader_address (p1 : Option Addr) (h : Hp) (K : Value → Hp → Prop) (KP : Kp) : Prop :=
  CallsP Tryz.prog 75 #[(.pointer p1), (.int .u32 255)] h (fun r3 h2 =>
  ∃ x4 : Int, r3 = (.int .u32 x4) ∧ 
  ∃ k53, syntax_reader_address_l1 p1
  (fun (x51 : Int) (h52 : Hp) =>
  K (.int .u32 x51) h52)
  KP k53 x4 0 h2) KP
def syntax_reader_address_lp (i : Nat) (Q : Qx) (tm : Tm) (h : Hp) : Prop := match Nat.beq i 58 with
  | true => ∃ k, syntax_reader_address_l1_L Q k tm h
  | false => False
def syntax_reader_address_cut (i : Nat) : Option (List Nat) := none
set_option maxRecDepth 100000 in
theorem syntax_reader_address_l1_step (Q : Qx) (k : Nat) (p5 : Option Addr) (x6 : Int) (x7 : Int) (h : Hp) : syntax_reader_address_l1_L Q (k + 1) (mkTm [(0, some (.pointer p5)), (3, some (.int .u32 x6)), (6, some (.int .i64 x7))]) h =
    codeWp Tryz.prog 29 true syntax_reader_address_lp syntax_reader_address_cut (sub (bodyOf Tryz.f74) [true, true, false, true, false, false]) 116 (thenQ (fun tm h => syntax_reader_address_l1_L Q k (mask [0, 3, 6] tm) h) (maskQ (fun e => match e with | .exit 0 => [3] | _ => []) Q)) (mkTm [(0, some (.pointer p5)), (3, some (.int .u32 x6)), (6, some (.int .i64 x7))]) h := by kernel_rfl
theorem syntax_reader_address_l1_mask (Q : Qx) (k : Nat) (tm : Tm) (h : Hp) : syntax_reader_address_l1_L Q k tm h ↔ syntax_reader_address_l1_L Q k (mask [0, 3, 6] tm) h := Iff.rfl
set_option maxRecDepth 100000 in
theorem syntax_reader_address_l1_snd : SndAt Tryz.prog 29 none (sub (bodyOf Tryz.f74) [true, true, false, true, false]) (syntax_reader_address_lp 58) := by
  refine loop_sound (pn := true) (lp := syntax_reader_address_lp) (cut := syntax_reader_address_cut) (i := 58) (c := (sub (bodyOf Tryz.f74) [true, true, false, true, false, false])) [0, 3, 6] (fun e => match e with | .exit 0 => [3] | _ => []) syntax_reader_address_l1_L ?_ ?_ ?_
  · exact good_by (pn := true) (c := (sub (bodyOf Tryz.f74) [true, true, false, true, false, false])) (i := 116) (l := []) (by kernel_rfl) (fun _ h => by cases h)
  · intro Q tm h H
    obtain ⟨p5, e0, H⟩ := selP_ex H
    obtain ⟨x6, e3, H⟩ := selI_ex H
    obtain ⟨x7, e6, H⟩ := selI_ex H
    exact H
  · intro Q k tm h H
    have H0 := H
    obtain ⟨p5, e0, H⟩ := selP_ex H
    obtain ⟨x6, e3, H⟩ := selI_ex H
    obtain ⟨x7, e6, H⟩ := selI_ex H
    have e : mask [0, 3, 6] tm = mkTm [(0, some (.pointer p5)), (3, some (.int .u32 x6)), (6, some (.int .i64 x7))] := by simp only [mask, List.map_cons, List.map_nil, e0, e3, e6] <;> rfl
    rw [e]
    refine Eq.mp (syntax_reader_address_l1_step Q k p5 x6 x7 h) ?_
    rw [← e]
    exact (syntax_reader_address_l1_mask Q (k + 1) tm h).mp H0
set_option maxRecDepth 100000 in
theorem syntax_reader_address_eq (p1 : Option Addr) (h : Hp) (K : Value → Hp → Prop) (KP : Kp) : syntax_reader_address p1 h K KP =
    codeWp Tryz.prog 29 true syntax_reader_address_lp syntax_reader_address_cut (bodyOf Tryz.f74) 1 (endP Tryz.prog Tryz.f74.results.toList K KP) (argTm [(.pointer p1)]) h := by kernel_rfl
set_option maxRecDepth 100000 in
theorem syntax_reader_address_ok (p1 : Option Addr) {h : Hp} {K : Value → Hp → Prop} {KP : Kp} (H : syntax_reader_address p1 h K KP) : CallsP Tryz.prog 74 #[(.pointer p1)] h K KP :=
  callsP_of (args := [(.pointer p1)]) (n := 29) (lp := syntax_reader_address_lp) (cut := syntax_reader_address_cut) Tryz.func74 (c := bodyOf Tryz.f74) (by kernel_rfl) (by kernel_rfl) (by kernel_rfl) (good_by (pn := true) (c := (bodyOf Tryz.f74)) (i := 1) (l := [(58, (sub (bodyOf Tryz.f74) [true, true, false, true, false]))]) (by kernel_rfl) (List.forall_mem_cons.2 ⟨syntax_reader_address_l1_snd, (fun _ h => by cases h)⟩))
    (Eq.mp (syntax_reader_address_eq p1 h K KP) H)

/-! ### (*quintet/syntax.reader).prefix: function 56 -/
set_option maxRecDepth 100000 in
def syntax_reader_prefix (p1 : Option Addr) (h : Hp) (K : Value → Hp → Prop) (KP : Kp) : Prop :=
  newC h (.cells #[(.int .u32 0), (.int .i64 0)] 69 (0, 0)) fun a3 h2 => 
  CallsP Tryz.prog 77 #[(.pointer p1), (.string ({ data := #[42] }))] h2 (fun r5 h4 =>
  ∃ b6 : Bool, r5 = (.bool b6) ∧ 
  br b6
  (HU Tryz.prog (Instr.storeAt 69 (.pointer (some a3)) (.agg #[(.int .u32 0), (.int .i64 0)])) h4 fun h7 => 
  ∃ x8 : Int, ∃ x9 : Int, HV Tryz.prog (Instr.loadAt 69 (.pointer (some a3))) h7 (.agg #[(.int .u32 x8), (.int .i64 x9)]) ∧ K (.agg #[(.int .u32 x8), (.int .i64 x9)]) h7)
  (CallsP Tryz.prog 74 #[(.pointer p1)] h4 (fun r11 h10 =>
  ∃ x12 : Int, r11 = (.int .u32 x12) ∧ 
  newC h10 (.cells #[(.int .u32 0), (.int .i64 0)] 69 (0, 0)) fun a14 h13 => 
  HU Tryz.prog (Instr.storeAt 69 (.pointer (some a14)) (.agg #[(.int .u32 x12), (.int .i64 32)])) h13 fun h15 => 
  CallsP Tryz.prog 77 #[(.pointer p1), (.string ({ data := #[47] }))] h15 (fun r17 h16 =>
  ∃ b18 : Bool, r17 = (.bool b18) ∧ 
  br b18
  (CallsP Tryz.prog 75 #[(.pointer p1), (.int .u32 32)] h16 (fun r20 h19 =>
  ∃ x21 : Int, r20 = (.int .u32 x21) ∧ 
  HU Tryz.prog (Instr.storeAt 3 (.pointer (some (a14.add 1))) (.int .i64 (IntKind.i64.wrap (x21)))) h19 fun h22 => 
  ∃ x23 : Int, ∃ x24 : Int, HV Tryz.prog (Instr.loadAt 69 (.pointer (some a14))) h22 (.agg #[(.int .u32 x23), (.int .i64 x24)]) ∧ 
  HU Tryz.prog (Instr.storeAt 69 (.pointer (some a3)) (.agg #[(.int .u32 x23), (.int .i64 x24)])) h22 fun h25 => 
  ∃ x26 : Int, ∃ x27 : Int, HV Tryz.prog (Instr.loadAt 69 (.pointer (some a3))) h25 (.agg #[(.int .u32 x26), (.int .i64 x27)]) ∧ K (.agg #[(.int .u32 x26), (.int .i64 x27)]) h25) KP)
  (∃ x28 : Int, ∃ x29 : Int, HV Tryz.prog (Instr.loadAt 69 (.pointer (some a14))) h16 (.agg #[(.int .u32 x28), (.int .i64 x29)]) ∧ 
  HU Tryz.prog (Instr.storeAt 69 (.pointer (some a3)) (.agg #[(.int .u32 x28), (.int .i64 x29)])) h16 fun h30 => 
  ∃ x31 : Int, ∃ x32 : Int, HV Tryz.prog (Instr.loadAt 69 (.pointer (some a3))) h30 (.agg #[(.int .u32 x31), (.int .i64 x32)]) ∧ K (.agg #[(.int .u32 x31), (.int .i64 x32)]) h30)) KP) KP)) KP
def syntax_reader_prefix_lp (i : Nat) (Q : Qx) (tm : Tm) (h : Hp) : Prop := False
def syntax_reader_prefix_cut (i : Nat) : Option (List Nat) := none
set_option maxRecDepth 100000 in
theorem syntax_reader_prefix_eq (p1 : Option Addr) (h : Hp) (K : Value → Hp → Prop) (KP : Kp) : syntax_reader_prefix p1 h K KP =
    codeWp Tryz.prog 17 true syntax_reader_prefix_lp syntax_reader_prefix_cut (bodyOf Tryz.f56) 1 (endP Tryz.prog Tryz.f56.results.toList K KP) (argTm [(.pointer p1)]) h := by kernel_rfl
set_option maxRecDepth 100000 in
theorem syntax_reader_prefix_ok (p1 : Option Addr) {h : Hp} {K : Value → Hp → Prop} {KP : Kp} (H : syntax_reader_prefix p1 h K KP) : CallsP Tryz.prog 56 #[(.pointer p1)] h K KP :=
  callsP_of (args := [(.pointer p1)]) (n := 17) (lp := syntax_reader_prefix_lp) (cut := syntax_reader_prefix_cut) Tryz.func56 (c := bodyOf Tryz.f56) (by kernel_rfl) (by kernel_rfl) (by kernel_rfl) (good_by (pn := true) (c := (bodyOf Tryz.f56)) (i := 1) (l := []) (by kernel_rfl) (fun _ h => by cases h))
    (Eq.mp (syntax_reader_prefix_eq p1 h K KP) H)

/-! ### (*quintet/syntax.reader).span: function 57 -/
set_option maxRecDepth 100000 in
def syntax_reader_span (p1 : Option Addr) (h : Hp) (K : Value → Hp → Prop) (KP : Kp) : Prop :=
  newC h (.cells #[(.int .u16 0), (.int .u16 0)] 71 (0, 0)) fun a3 h2 => 
  CallsP Tryz.prog 77 #[(.pointer p1), (.string ({ data := #[42] }))] h2 (fun r5 h4 =>
  ∃ b6 : Bool, r5 = (.bool b6) ∧ 
  br b6
  (HU Tryz.prog (Instr.storeAt 71 (.pointer (some a3)) (.agg #[(.int .u16 0), (.int .u16 65535)])) h4 fun h7 => 
  ∃ x8 : Int, ∃ x9 : Int, HV Tryz.prog (Instr.loadAt 71 (.pointer (some a3))) h7 (.agg #[(.int .u16 x8), (.int .u16 x9)]) ∧ K (.agg #[(.int .u16 x8), (.int .u16 x9)]) h7)
  (CallsP Tryz.prog 75 #[(.pointer p1), (.int .u32 65535)] h4 (fun r11 h10 =>
  ∃ x12 : Int, r11 = (.int .u32 x12) ∧ 
  newC h10 (.cells #[(.int .u16 0), (.int .u16 0)] 71 (0, 0)) fun a14 h13 => 
  HU Tryz.prog (Instr.storeAt 71 (.pointer (some a14)) (.agg #[(.int .u16 (IntKind.u16.wrap (x12))), (.int .u16 0)])) h13 fun h15 => 
  ∃ x16 : Int, HV Tryz.prog (Instr.loadAt 55 (.pointer (some a14))) h15 (.int .u16 x16) ∧ 
  HU Tryz.prog (Instr.storeAt 55 (.pointer (some (a14.add 1))) (.int .u16 x16)) h15 fun h17 => 
  CallsP Tryz.prog 77 #[(.pointer p1), (.string ({ data := #[58] }))] h17 (fun r19 h18 =>
  ∃ b20 : Bool, r19 = (.bool b20) ∧ 
  br b20
  (CallsP Tryz.prog 75 #[(.pointer p1), (.int .u32 65535)] h18 (fun r22 h21 =>
  ∃ x23 : Int, r22 = (.int .u32 x23) ∧ 
  HU Tryz.prog (Instr.storeAt 55 (.pointer (some (a14.add 1))) (.int .u16 (IntKind.u16.wrap (x23)))) h21 fun h24 => 
  ∃ x25 : Int, ∃ x26 : Int, HV Tryz.prog (Instr.loadAt 71 (.pointer (some a14))) h24 (.agg #[(.int .u16 x25), (.int .u16 x26)]) ∧ 
  HU Tryz.prog (Instr.storeAt 71 (.pointer (some a3)) (.agg #[(.int .u16 x25), (.int .u16 x26)])) h24 fun h27 => 
  ∃ x28 : Int, ∃ x29 : Int, HV Tryz.prog (Instr.loadAt 71 (.pointer (some a3))) h27 (.agg #[(.int .u16 x28), (.int .u16 x29)]) ∧ K (.agg #[(.int .u16 x28), (.int .u16 x29)]) h27) KP)
  (∃ x30 : Int, ∃ x31 : Int, HV Tryz.prog (Instr.loadAt 71 (.pointer (some a14))) h18 (.agg #[(.int .u16 x30), (.int .u16 x31)]) ∧ 
  HU Tryz.prog (Instr.storeAt 71 (.pointer (some a3)) (.agg #[(.int .u16 x30), (.int .u16 x31)])) h18 fun h32 => 
  ∃ x33 : Int, ∃ x34 : Int, HV Tryz.prog (Instr.loadAt 71 (.pointer (some a3))) h32 (.agg #[(.int .u16 x33), (.int .u16 x34)]) ∧ K (.agg #[(.int .u16 x33), (.int .u16 x34)]) h32)) KP) KP)) KP
def syntax_reader_span_lp (i : Nat) (Q : Qx) (tm : Tm) (h : Hp) : Prop := False
def syntax_reader_span_cut (i : Nat) : Option (List Nat) := none
set_option maxRecDepth 100000 in
theorem syntax_reader_span_eq (p1 : Option Addr) (h : Hp) (K : Value → Hp → Prop) (KP : Kp) : syntax_reader_span p1 h K KP =
    codeWp Tryz.prog 21 true syntax_reader_span_lp syntax_reader_span_cut (bodyOf Tryz.f57) 1 (endP Tryz.prog Tryz.f57.results.toList K KP) (argTm [(.pointer p1)]) h := by kernel_rfl
set_option maxRecDepth 100000 in
theorem syntax_reader_span_ok (p1 : Option Addr) {h : Hp} {K : Value → Hp → Prop} {KP : Kp} (H : syntax_reader_span p1 h K KP) : CallsP Tryz.prog 57 #[(.pointer p1)] h K KP :=
  callsP_of (args := [(.pointer p1)]) (n := 21) (lp := syntax_reader_span_lp) (cut := syntax_reader_span_cut) Tryz.func57 (c := bodyOf Tryz.f57) (by kernel_rfl) (by kernel_rfl) (by kernel_rfl) (good_by (pn := true) (c := (bodyOf Tryz.f57)) (i := 1) (l := []) (by kernel_rfl) (fun _ h => by cases h))
    (Eq.mp (syntax_reader_span_eq p1 h K KP) H)

/-! ### (*quintet/syntax.reader).mask: function 58 -/
set_option maxRecDepth 100000 in
def syntax_reader_mask (p1 : Option Addr) (h : Hp) (K : Value → Hp → Prop) (KP : Kp) : Prop :=
  newC h (.cells #[(.int .u8 0), (.int .u8 0)] 73 (0, 0)) fun a3 h2 => 
  CallsP Tryz.prog 77 #[(.pointer p1), (.string ({ data := #[42] }))] h2 (fun r5 h4 =>
  ∃ b6 : Bool, r5 = (.bool b6) ∧ 
  br b6
  (HU Tryz.prog (Instr.storeAt 73 (.pointer (some a3)) (.agg #[(.int .u8 0), (.int .u8 0)])) h4 fun h7 => 
  ∃ x8 : Int, ∃ x9 : Int, HV Tryz.prog (Instr.loadAt 73 (.pointer (some a3))) h7 (.agg #[(.int .u8 x8), (.int .u8 x9)]) ∧ K (.agg #[(.int .u8 x8), (.int .u8 x9)]) h7)
  (CallsP Tryz.prog 75 #[(.pointer p1), (.int .u32 255)] h4 (fun r11 h10 =>
  ∃ x12 : Int, r11 = (.int .u32 x12) ∧ 
  newC h10 (.cells #[(.int .u8 0), (.int .u8 0)] 73 (0, 0)) fun a14 h13 => 
  HU Tryz.prog (Instr.storeAt 73 (.pointer (some a14)) (.agg #[(.int .u8 (IntKind.u8.wrap (x12))), (.int .u8 255)])) h13 fun h15 => 
  CallsP Tryz.prog 77 #[(.pointer p1), (.string ({ data := #[47] }))] h15 (fun r17 h16 =>
  ∃ b18 : Bool, r17 = (.bool b18) ∧ 
  br b18
  (CallsP Tryz.prog 75 #[(.pointer p1), (.int .u32 255)] h16 (fun r20 h19 =>
  ∃ x21 : Int, r20 = (.int .u32 x21) ∧ 
  HU Tryz.prog (Instr.storeAt 5 (.pointer (some (a14.add 1))) (.int .u8 (IntKind.u8.wrap (x21)))) h19 fun h22 => 
  ∃ x23 : Int, ∃ x24 : Int, HV Tryz.prog (Instr.loadAt 73 (.pointer (some a14))) h22 (.agg #[(.int .u8 x23), (.int .u8 x24)]) ∧ 
  HU Tryz.prog (Instr.storeAt 73 (.pointer (some a3)) (.agg #[(.int .u8 x23), (.int .u8 x24)])) h22 fun h25 => 
  ∃ x26 : Int, ∃ x27 : Int, HV Tryz.prog (Instr.loadAt 73 (.pointer (some a3))) h25 (.agg #[(.int .u8 x26), (.int .u8 x27)]) ∧ K (.agg #[(.int .u8 x26), (.int .u8 x27)]) h25) KP)
  (∃ x28 : Int, ∃ x29 : Int, HV Tryz.prog (Instr.loadAt 73 (.pointer (some a14))) h16 (.agg #[(.int .u8 x28), (.int .u8 x29)]) ∧ 
  HU Tryz.prog (Instr.storeAt 73 (.pointer (some a3)) (.agg #[(.int .u8 x28), (.int .u8 x29)])) h16 fun h30 => 
  ∃ x31 : Int, ∃ x32 : Int, HV Tryz.prog (Instr.loadAt 73 (.pointer (some a3))) h30 (.agg #[(.int .u8 x31), (.int .u8 x32)]) ∧ K (.agg #[(.int .u8 x31), (.int .u8 x32)]) h30)) KP) KP)) KP
def syntax_reader_mask_lp (i : Nat) (Q : Qx) (tm : Tm) (h : Hp) : Prop := False
def syntax_reader_mask_cut (i : Nat) : Option (List Nat) := none
set_option maxRecDepth 100000 in
theorem syntax_reader_mask_eq (p1 : Option Addr) (h : Hp) (K : Value → Hp → Prop) (KP : Kp) : syntax_reader_mask p1 h K KP =
    codeWp Tryz.prog 18 true syntax_reader_mask_lp syntax_reader_mask_cut (bodyOf Tryz.f58) 1 (endP Tryz.prog Tryz.f58.results.toList K KP) (argTm [(.pointer p1)]) h := by kernel_rfl
set_option maxRecDepth 100000 in
theorem syntax_reader_mask_ok (p1 : Option Addr) {h : Hp} {K : Value → Hp → Prop} {KP : Kp} (H : syntax_reader_mask p1 h K KP) : CallsP Tryz.prog 58 #[(.pointer p1)] h K KP :=
  callsP_of (args := [(.pointer p1)]) (n := 18) (lp := syntax_reader_mask_lp) (cut := syntax_reader_mask_cut) Tryz.func58 (c := bodyOf Tryz.f58) (by kernel_rfl) (by kernel_rfl) (by kernel_rfl) (good_by (pn := true) (c := (bodyOf Tryz.f58)) (i := 1) (l := []) (by kernel_rfl) (fun _ h => by cases h))
    (Eq.mp (syntax_reader_mask_eq p1 h K KP) H)

/-! ### (*quintet/syntax.reader).action: function 55 -/
def syntax_reader_action_l1 (p22 : Option Addr) (a23 : Addr) (s24 : ByteArray) (s25 : ByteArray) (s26 : ByteArray) (s27 : ByteArray) (s28 : ByteArray) (K0 : Int → Hp → Prop) (K1 : Addr → Hp → Prop) (KP : Kp)  : Nat → Int → Hp → Prop
  | 0, _, _ => False
  | k + 1, x29, h =>
    br (decide (x29 < 5))
    (∃ s39 : ByteArray, PV Tryz.prog (Instr.index 166 (.agg #[(.string s24), (.string s25), (.string s26), (.string s27), (.string s28)]) (.int .i64 x29)) (.string s39) ∧
    br (decide (x29 > 0))
    (∃ x40 : Int, HV Tryz.prog (Instr.loadAt 49 (.pointer (some a23))) h (.int .i64 x40) ∧ 
    br (x40 == 1)
    (∃ s41 : ByteArray, HV Tryz.prog (Instr.loadAt 9 (.pointer (some (a23.add 1)))) h (.string s41) ∧ 
    br ((s41 : ByteArray).toList == (s39 : ByteArray).toList)
    (drf p22 fun a42 =>
    ∃ x43 : Int, HV Tryz.prog (Instr.loadAt 3 (.pointer (some (a42.add 1)))) h (.int .i64 x43) ∧ 
    drf p22 fun a44 =>
    HU Tryz.prog (Instr.storeAt 3 (.pointer (some (a44.add 1))) (.int .i64 (IntKind.i64.wrap (x43 + 1)))) h fun h45 => 
    K0 x29 h45)
    (syntax_reader_action_l1 p22 a23 s24 s25 s26 s27 s28 K0 K1 KP k (IntKind.i64.wrap (x29 + 1)) h))
    (syntax_reader_action_l1 p22 a23 s24 s25 s26 s27 s28 K0 K1 KP k (IntKind.i64.wrap (x29 + 1)) h))
    (syntax_reader_action_l1 p22 a23 s24 s25 s26 s27 s28 K0 K1 KP k (IntKind.i64.wrap (x29 + 1)) h))
    (K1 a23 h)
def syntax_reader_action_l1_L (Q : Qx) (k : Nat) (tm : Tm) (h : Hp) : Prop :=
  selP (tm 0) fun p22 =>
  selA (tm 3) fun a23 =>
  selAg (tm 16) fun m16_0 =>
  selC m16_0 fun u16_0 m16_1 =>
  selC m16_1 fun u16_1 m16_2 =>
  selC m16_2 fun u16_2 m16_3 =>
  selC m16_3 fun u16_3 m16_4 =>
  selC m16_4 fun u16_4 m16_5 =>
  selN m16_5
  (selT (some u16_0) fun s24 =>
  selT (some u16_1) fun s25 =>
  selT (some u16_2) fun s26 =>
  selT (some u16_3) fun s27 =>
  selT (some u16_4) fun s28 =>
  selI .i64 (tm 17) fun x29 =>
  syntax_reader_action_l1 p22 a23 s24 s25 s26 s27 s28 (fun (x37 : Int) h => Q (.ret) (mkTm [(2, some (.int .i64 x37))]) h) (fun (a38 : Addr) h => Q (.exit 0) (mkTm [(3, some (.pointer (some a38)))]) h) (fun ch h => Q (.panic ch) (mkTm []) h) k x29 h)
set_option maxRecDepth 100000 in
def syntax_reader_action (p1 : Option Addr) (h : Hp) (K : Value → Hp → Prop) (KP : Kp) : Prop :=
  drf p1 fun a2 =>
  ∃ A3 : Option Addr, ∃ l3 : Nat, ∃ c3 : Nat, HV Tryz.prog (Instr.loadAt 46 (.pointer (some a2))) h (.slice A3 l3 c3) ∧ 
  drf p1 fun a4 =>
  ∃ x5 : Int, HV Tryz.prog (Instr.loadAt 3 (.pointer (some (a4.add 1)))) h (.int .i64 x5) ∧ 
  ∃ a6 : Addr, PV Tryz.prog (Instr.indexAt 46 (.slice A3 l3 c3) (.int .i64 x5)) (.pointer (some a6)) ∧
  ∃ x7 : Int, ∃ s8 : ByteArray, ∃ x9 : Int, ∃ x10 : Int, ∃ x11 : Int, HV Tryz.prog (Instr.loadAt 52 (.pointer (some a6))) h (.agg #[(.int .i64 x7), (.string s8), (.int .u32 x9), (.int .i64 x10), (.int .i64 x11)]) ∧ 
  newC h (.cells #[(.int .i64 0), (.string ⟨#[]⟩), (.int .u32 0), (.int .i64 0), (.int .i64 0)] 52 (0, 0)) fun a13 h12 => HV Tryz.prog (Instr.loadAt 52 (.pointer (some a6))) h12 (.agg #[(.int .i64 x7), (.string s8), (.int .u32 x9), (.int .i64 x10), (.int .i64 x11)]) ∧ HV Tryz.prog (Instr.loadAt 3 (.pointer (some (a4.add 1)))) h12 (.int .i64 x5) ∧ HV Tryz.prog (Instr.loadAt 46 (.pointer (some a2))) h12 (.slice A3 l3 c3) ∧ 
  HU Tryz.prog (Instr.storeAt 52 (.pointer (some a13)) (.agg #[(.int .i64 x7), (.string s8), (.int .u32 x9), (.int .i64 x10), (.int .i64 x11)])) h12 fun h14 => 
  CallsP Tryz.prog 65 #[] h14 (fun r16 h15 =>
  ∃ s17 : ByteArray, ∃ s18 : ByteArray, ∃ s19 : ByteArray, ∃ s20 : ByteArray, ∃ s21 : ByteArray, r16 = (.agg #[(.string s17), (.string s18), (.string s19), (.string s20), (.string s21)]) ∧ 
  ∃ k57, syntax_reader_action_l1 p1 a13 s17 s18 s19 s20 s21
  (fun (x46 : Int) (h47 : Hp) =>
  K (.int .i64 x46) h47)
  (fun (a48 : Addr) (h49 : Hp) =>
  ∃ x50 : Int, ∃ s51 : ByteArray, ∃ x52 : Int, ∃ x53 : Int, ∃ x54 : Int, HV Tryz.prog (Instr.loadAt 52 (.pointer (some a48))) h49 (.agg #[(.int .i64 x50), (.string s51), (.int .u32 x52), (.int .i64 x53), (.int .i64 x54)]) ∧ 
  CallsP Tryz.prog 25 #[(.agg #[(.int .i64 x50), (.string s51), (.int .u32 x52), (.int .i64 x53), (.int .i64 x54)]), (.int .i64 100)] h49 (fun r56 h55 =>
  r56 = (.tuple #[]) ∧ 
  K (.int .i64 0) h55) KP)
  KP k57 0 h15) KP
def syntax_reader_action_lp (i : Nat) (Q : Qx) (tm : Tm) (h : Hp) : Prop := match Nat.beq i 58 with
  | true => ∃ k, syntax_reader_action_l1_L Q k tm h
  | false => False
def syntax_reader_action_cut (i : Nat) : Option (List Nat) := none
set_option maxRecDepth 100000 in
theorem syntax_reader_action_l1_step (Q : Qx) (k : Nat) (p22 : Option Addr) (a23 : Addr) (s24 : ByteArray) (s25 : ByteArray) (s26 : ByteArray) (s27 : ByteArray) (s28 : ByteArray) (x29 : Int) (h : Hp) : syntax_reader_action_l1_L Q (k + 1) (mkTm [(0, some (.pointer p22)), (3, some (.pointer (some a23))), (16, some (.agg #[(.string s24), (.string s25), (.string s26), (.string s27), (.string s28)])), (17, some (.int .i64 x29))]) h =
    codeWp Tryz.prog 45 true syntax_reader_action_lp syntax_reader_action_cut (sub (bodyOf Tryz.f55) [true, true, false, true, false, false]) 116 (thenQ (fun tm h => syntax_reader_action_l1_L Q k (mask [0, 3, 16, 17] tm) h) (maskQ (fun e => match e with | .ret => [2] | .exit 0 => [3] | _ => []) Q)) (mkTm [(0, some (.pointer p22)), (3, some (.pointer (some a23))), (16, some (.agg #[(.string s24), (.string s25), (.string s26), (.string s27), (.string s28)])), (17, some (.int .i64 x29))]) h := by kernel_rfl
theorem syntax_reader_action_l1_mask (Q : Qx) (k : Nat) (tm : Tm) (h : Hp) : syntax_reader_action_l1_L Q k tm h ↔ syntax_reader_action_l1_L Q k (mask [0, 3, 16, 17] tm) h := Iff.rfl
set_option maxRecDepth 100000 in
theorem syntax_reader_action_l1_snd : SndAt Tryz.prog 45 none (sub (bodyOf Tryz.f55) [true, true, false, true, false]) (syntax_reader_action_lp 58) := by
  refine loop_sound (pn := true) (lp := syntax_reader_action_lp) (cut := syntax_reader_action_cut) (i := 58) (c := (sub (bodyOf Tryz.f55) [true, true, false, true, false, false])) [0, 3, 16, 17] (fun e => match e with | .ret => [2] | .exit 0 => [3] | _ => []) syntax_reader_action_l1_L ?_ ?_ ?_
  · exact good_by (pn := true) (c := (sub (bodyOf Tryz.f55) [true, true, false, true, false, false])) (i := 116) (l := []) (by kernel_rfl) (fun _ h => by cases h)
  · intro Q tm h H
    obtain ⟨p22, e0, H⟩ := selP_ex H
    obtain ⟨a23, e3, H⟩ := selA_ex H
    obtain ⟨m16_0, e16, H⟩ := selAg_ex H
    obtain ⟨u16_0, m16_1, f, G⟩ := selC_ex H
    clear H
    subst f
    have H := G
    clear G
    obtain ⟨u16_1, m16_2, f, G⟩ := selC_ex H
    clear H
    subst f
    have H := G
    clear G
    obtain ⟨u16_2, m16_3, f, G⟩ := selC_ex H
    clear H
    subst f
    have H := G
    clear G
    obtain ⟨u16_3, m16_4, f, G⟩ := selC_ex H
    clear H
    subst f
    have H := G
    clear G
    obtain ⟨u16_4, m16_5, f, G⟩ := selC_ex H
    clear H
    subst f
    have H := G
    clear G
    obtain ⟨f, G⟩ := selN_ex H
    clear H
    subst f
    have H := G
    clear G
    obtain ⟨s24, f, G⟩ := selT_ex H
    clear H
    have H := G
    clear G
    obtain rfl := Option.some.inj f
    obtain ⟨s25, f, G⟩ := selT_ex H
    clear H
    have H := G
    clear G
    obtain rfl := Option.some.inj f
    obtain ⟨s26, f, G⟩ := selT_ex H
    clear H
    have H := G
    clear G
    obtain rfl := Option.some.inj f
    obtain ⟨s27, f, G⟩ := selT_ex H
    clear H
    have H := G
    clear G
    obtain rfl := Option.some.inj f
    obtain ⟨s28, f, G⟩ := selT_ex H
    clear H
    have H := G
    clear G
    obtain rfl := Option.some.inj f
    obtain ⟨x29, e17, H⟩ := selI_ex H
    exact H
  · intro Q k tm h H
    have H0 := H
    obtain ⟨p22, e0, H⟩ := selP_ex H
    obtain ⟨a23, e3, H⟩ := selA_ex H
    obtain ⟨m16_0, e16, H⟩ := selAg_ex H
    obtain ⟨u16_0, m16_1, f, G⟩ := selC_ex H
    clear H
    subst f
    have H := G
    clear G
    obtain ⟨u16_1, m16_2, f, G⟩ := selC_ex H
    clear H
    subst f
    have H := G
    clear G
    obtain ⟨u16_2, m16_3, f, G⟩ := selC_ex H
    clear H
    subst f
    have H := G
    clear G
    obtain ⟨u16_3, m16_4, f, G⟩ := selC_ex H
    clear H
    subst f
    have H := G
    clear G
    obtain ⟨u16_4, m16_5, f, G⟩ := selC_ex H
    clear H
    subst f
    have H := G
    clear G
    obtain ⟨f, G⟩ := selN_ex H
    clear H
    subst f
    have H := G
    clear G
    obtain ⟨s24, f, G⟩ := selT_ex H
    clear H
    have H := G
    clear G
    obtain rfl := Option.some.inj f
    obtain ⟨s25, f, G⟩ := selT_ex H
    clear H
    have H := G
    clear G
    obtain rfl := Option.some.inj f
    obtain ⟨s26, f, G⟩ := selT_ex H
    clear H
    have H := G
    clear G
    obtain rfl := Option.some.inj f
    obtain ⟨s27, f, G⟩ := selT_ex H
    clear H
    have H := G
    clear G
    obtain rfl := Option.some.inj f
    obtain ⟨s28, f, G⟩ := selT_ex H
    clear H
    have H := G
    clear G
    obtain rfl := Option.some.inj f
    obtain ⟨x29, e17, H⟩ := selI_ex H
    have e : mask [0, 3, 16, 17] tm = mkTm [(0, some (.pointer p22)), (3, some (.pointer (some a23))), (16, some (.agg #[(.string s24), (.string s25), (.string s26), (.string s27), (.string s28)])), (17, some (.int .i64 x29))] := by simp only [mask, List.map_cons, List.map_nil, e0, e3, e16, e17] <;> rfl
    rw [e]
    refine Eq.mp (syntax_reader_action_l1_step Q k p22 a23 s24 s25 s26 s27 s28 x29 h) ?_
    rw [← e]
    exact (syntax_reader_action_l1_mask Q (k + 1) tm h).mp H0
set_option maxRecDepth 100000 in
theorem syntax_reader_action_eq (p1 : Option Addr) (h : Hp) (K : Value → Hp → Prop) (KP : Kp) : syntax_reader_action p1 h K KP =
    codeWp Tryz.prog 45 true syntax_reader_action_lp syntax_reader_action_cut (bodyOf Tryz.f55) 1 (endP Tryz.prog Tryz.f55.results.toList K KP) (argTm [(.pointer p1)]) h := by kernel_rfl
set_option maxRecDepth 100000 in
theorem syntax_reader_action_ok (p1 : Option Addr) {h : Hp} {K : Value → Hp → Prop} {KP : Kp} (H : syntax_reader_action p1 h K KP) : CallsP Tryz.prog 55 #[(.pointer p1)] h K KP :=
  callsP_of (args := [(.pointer p1)]) (n := 45) (lp := syntax_reader_action_lp) (cut := syntax_reader_action_cut) Tryz.func55 (c := bodyOf Tryz.f55) (by kernel_rfl) (by kernel_rfl) (by kernel_rfl) (good_by (pn := true) (c := (bodyOf Tryz.f55)) (i := 1) (l := [(58, (sub (bodyOf Tryz.f55) [true, true, false, true, false]))]) (by kernel_rfl) (List.forall_mem_cons.2 ⟨syntax_reader_action_l1_snd, (fun _ h => by cases h)⟩))
    (Eq.mp (syntax_reader_action_eq p1 h K KP) H)

/-! ### quintet/syntax.words: function 65 -/
set_option maxRecDepth 100000 in
def syntax_words (h : Hp) (K : Value → Hp → Prop) : Prop :=
  newC h (.cells #[(.string ⟨#[]⟩), (.string ⟨#[]⟩), (.string ⟨#[]⟩), (.string ⟨#[]⟩), (.string ⟨#[]⟩)] 166 (0, 0)) fun a2 h1 => 
  HU Tryz.prog (Instr.storeAt 166 (.pointer (some a2)) (.agg #[(.string ⟨#[]⟩), (.string ({ data := #[100, 101, 110, 121] })), (.string ({ data := #[112, 101, 114, 109, 105, 116] })), (.string ({ data := #[108, 111, 103] })), (.string ({ data := #[113, 117, 101, 117, 101] }))])) h1 fun h3 => 
  ∃ s4 : ByteArray, ∃ s5 : ByteArray, ∃ s6 : ByteArray, ∃ s7 : ByteArray, ∃ s8 : ByteArray, HV Tryz.prog (Instr.loadAt 166 (.pointer (some a2))) h3 (.agg #[(.string s4), (.string s5), (.string s6), (.string s7), (.string s8)]) ∧ K (.agg #[(.string s4), (.string s5), (.string s6), (.string s7), (.string s8)]) h3
def syntax_words_lp (i : Nat) (Q : Qx) (tm : Tm) (h : Hp) : Prop := False
def syntax_words_cut (i : Nat) : Option (List Nat) := none
set_option maxRecDepth 100000 in
theorem syntax_words_eq (h : Hp) (K : Value → Hp → Prop) : syntax_words  h K =
    codeWp Tryz.prog 2 false syntax_words_lp syntax_words_cut (bodyOf Tryz.f65) 1 (endQ Tryz.prog Tryz.f65.results.toList K) (argTm []) h := by kernel_rfl
set_option maxRecDepth 100000 in
theorem syntax_words_ok {h : Hp} {K : Value → Hp → Prop} (H : syntax_words  h K) : CallsH Tryz.prog 65 #[] h K :=
  calls_of (pn := false) (args := []) (n := 2) (lp := syntax_words_lp) (cut := syntax_words_cut) Tryz.func65 (c := bodyOf Tryz.f65) (by kernel_rfl) (by kernel_rfl) (by kernel_rfl) (good_by (pn := false) (c := (bodyOf Tryz.f65)) (i := 1) (l := []) (by kernel_rfl) (fun _ h => by cases h))
    (Eq.mp (syntax_words_eq  h K) H)

/-! ### quintet/syntax.kinds: function 49 -/
set_option maxRecDepth 100000 in
def syntax_kinds (h : Hp) (K : Value → Hp → Prop) : Prop :=
  newC h (.cells #[(.string ⟨#[]⟩), (.string ⟨#[]⟩), (.string ⟨#[]⟩), (.string ⟨#[]⟩), (.string ⟨#[]⟩), (.string ⟨#[]⟩), (.string ⟨#[]⟩), (.string ⟨#[]⟩), (.string ⟨#[]⟩), (.string ⟨#[]⟩), (.string ⟨#[]⟩)] 134 (0, 0)) fun a2 h1 => 
  HU Tryz.prog (Instr.storeAt 134 (.pointer (some a2)) (.agg #[(.string ⟨#[]⟩), (.string ({ data := #[105, 110, 115, 101, 114, 116] })), (.string ({ data := #[100, 101, 108, 101, 116, 101] })), (.string ({ data := #[109, 111, 118, 101] })), (.string ({ data := #[97, 115, 107] })), (.string ({ data := #[116, 104, 105, 110] })), (.string ({ data := #[100, 117, 109, 112] })), (.string ({ data := #[115, 116, 97, 116, 115] })), (.string ({ data := #[115, 104, 97, 100, 111, 119, 115] })), (.string ({ data := #[99, 108, 97, 115, 104, 101, 115] })), (.string ({ data := #[109, 97, 112] }))])) h1 fun h3 => 
  ∃ s4 : ByteArray, ∃ s5 : ByteArray, ∃ s6 : ByteArray, ∃ s7 : ByteArray, ∃ s8 : ByteArray, ∃ s9 : ByteArray, ∃ s10 : ByteArray, ∃ s11 : ByteArray, ∃ s12 : ByteArray, ∃ s13 : ByteArray, ∃ s14 : ByteArray, HV Tryz.prog (Instr.loadAt 134 (.pointer (some a2))) h3 (.agg #[(.string s4), (.string s5), (.string s6), (.string s7), (.string s8), (.string s9), (.string s10), (.string s11), (.string s12), (.string s13), (.string s14)]) ∧ K (.agg #[(.string s4), (.string s5), (.string s6), (.string s7), (.string s8), (.string s9), (.string s10), (.string s11), (.string s12), (.string s13), (.string s14)]) h3
def syntax_kinds_lp (i : Nat) (Q : Qx) (tm : Tm) (h : Hp) : Prop := False
def syntax_kinds_cut (i : Nat) : Option (List Nat) := none
set_option maxRecDepth 100000 in
theorem syntax_kinds_eq (h : Hp) (K : Value → Hp → Prop) : syntax_kinds  h K =
    codeWp Tryz.prog 2 false syntax_kinds_lp syntax_kinds_cut (bodyOf Tryz.f49) 1 (endQ Tryz.prog Tryz.f49.results.toList K) (argTm []) h := by kernel_rfl
set_option maxRecDepth 100000 in
theorem syntax_kinds_ok {h : Hp} {K : Value → Hp → Prop} (H : syntax_kinds  h K) : CallsH Tryz.prog 49 #[] h K :=
  calls_of (pn := false) (args := []) (n := 2) (lp := syntax_kinds_lp) (cut := syntax_kinds_cut) Tryz.func49 (c := bodyOf Tryz.f49) (by kernel_rfl) (by kernel_rfl) (by kernel_rfl) (good_by (pn := false) (c := (bodyOf Tryz.f49)) (i := 1) (l := []) (by kernel_rfl) (fun _ h => by cases h))
    (Eq.mp (syntax_kinds_eq  h K) H)

/-! ### (*quintet/syntax.reader).end: function 24 -/
set_option maxRecDepth 100000 in
def syntax_reader_end (p1 : Option Addr) (h : Hp) (K : Value → Hp → Prop) (KP : Kp) : Prop :=
  drf p1 fun a2 =>
  ∃ A3 : Option Addr, ∃ l3 : Nat, ∃ c3 : Nat, HV Tryz.prog (Instr.loadAt 46 (.pointer (some a2))) h (.slice A3 l3 c3) ∧ 
  drf p1 fun a4 =>
  ∃ x5 : Int, HV Tryz.prog (Instr.loadAt 3 (.pointer (some (a4.add 1)))) h (.int .i64 x5) ∧ 
  ∃ a6 : Addr, PV Tryz.prog (Instr.indexAt 46 (.slice A3 l3 c3) (.int .i64 x5)) (.pointer (some a6)) ∧
  ∃ x7 : Int, ∃ s8 : ByteArray, ∃ x9 : Int, ∃ x10 : Int, ∃ x11 : Int, HV Tryz.prog (Instr.loadAt 52 (.pointer (some a6))) h (.agg #[(.int .i64 x7), (.string s8), (.int .u32 x9), (.int .i64 x10), (.int .i64 x11)]) ∧ 
  newC h (.cells #[(.int .i64 0), (.string ⟨#[]⟩), (.int .u32 0), (.int .i64 0), (.int .i64 0)] 52 (0, 0)) fun a13 h12 => HV Tryz.prog (Instr.loadAt 52 (.pointer (some a6))) h12 (.agg #[(.int .i64 x7), (.string s8), (.int .u32 x9), (.int .i64 x10), (.int .i64 x11)]) ∧ HV Tryz.prog (Instr.loadAt 3 (.pointer (some (a4.add 1)))) h12 (.int .i64 x5) ∧ HV Tryz.prog (Instr.loadAt 46 (.pointer (some a2))) h12 (.slice A3 l3 c3) ∧ 
  HU Tryz.prog (Instr.storeAt 52 (.pointer (some a13)) (.agg #[(.int .i64 x7), (.string s8), (.int .u32 x9), (.int .i64 x10), (.int .i64 x11)])) h12 fun h14 => 
  ∃ x15 : Int, HV Tryz.prog (Instr.loadAt 49 (.pointer (some a13))) h14 (.int .i64 x15) ∧ 
  br (x15 != 4)
  (∃ x16 : Int, ∃ s17 : ByteArray, ∃ x18 : Int, ∃ x19 : Int, ∃ x20 : Int, HV Tryz.prog (Instr.loadAt 52 (.pointer (some a13))) h14 (.agg #[(.int .i64 x16), (.string s17), (.int .u32 x18), (.int .i64 x19), (.int .i64 x20)]) ∧ 
  CallsP Tryz.prog 25 #[(.agg #[(.int .i64 x16), (.string s17), (.int .u32 x18), (.int .i64 x19), (.int .i64 x20)]), (.int .i64 100)] h14 (fun r22 h21 =>
  r22 = (.tuple #[]) ∧ 
  drf p1 fun a23 =>
  ∃ x24 : Int, HV Tryz.prog (Instr.loadAt 3 (.pointer (some (a23.add 1)))) h21 (.int .i64 x24) ∧ 
  drf p1 fun a25 =>
  HU Tryz.prog (Instr.storeAt 3 (.pointer (some (a25.add 1))) (.int .i64 (IntKind.i64.wrap (x24 + 1)))) h21 fun h26 => 
  K (.tuple #[]) h26) KP)
  (drf p1 fun a27 =>
  ∃ x28 : Int, HV Tryz.prog (Instr.loadAt 3 (.pointer (some (a27.add 1)))) h14 (.int .i64 x28) ∧ 
  drf p1 fun a29 =>
  HU Tryz.prog (Instr.storeAt 3 (.pointer (some (a29.add 1))) (.int .i64 (IntKind.i64.wrap (x28 + 1)))) h14 fun h30 => 
  K (.tuple #[]) h30)
def syntax_reader_end_lp (i : Nat) (Q : Qx) (tm : Tm) (h : Hp) : Prop := False
def syntax_reader_end_cut (i : Nat) : Option (List Nat) := none
set_option maxRecDepth 100000 in
theorem syntax_reader_end_eq (p1 : Option Addr) (h : Hp) (K : Value → Hp → Prop) (KP : Kp) : syntax_reader_end p1 h K KP =
    codeWp Tryz.prog 25 true syntax_reader_end_lp syntax_reader_end_cut (bodyOf Tryz.f24) 1 (endP Tryz.prog Tryz.f24.results.toList K KP) (argTm [(.pointer p1)]) h := by kernel_rfl
set_option maxRecDepth 100000 in
theorem syntax_reader_end_ok (p1 : Option Addr) {h : Hp} {K : Value → Hp → Prop} {KP : Kp} (H : syntax_reader_end p1 h K KP) : CallsP Tryz.prog 24 #[(.pointer p1)] h K KP :=
  callsP_of (args := [(.pointer p1)]) (n := 25) (lp := syntax_reader_end_lp) (cut := syntax_reader_end_cut) Tryz.func24 (c := bodyOf Tryz.f24) (by kernel_rfl) (by kernel_rfl) (by kernel_rfl) (good_by (pn := true) (c := (bodyOf Tryz.f24)) (i := 1) (l := []) (by kernel_rfl) (fun _ h => by cases h))
    (Eq.mp (syntax_reader_end_eq p1 h K KP) H)

/-! ### (*quintet/syntax.reader).rule: function 23 -/
set_option maxRecDepth 100000 in
def syntax_reader_rule (p1 : Option Addr) (h : Hp) (K : Value → Hp → Prop) (KP : Kp) : Prop :=
  newC h (.cells #[(.int .i64 0), (.int .u32 0), (.int .i64 0), (.int .u32 0), (.int .i64 0), (.int .u16 0), (.int .u16 0), (.int .u16 0), (.int .u16 0), (.int .u8 0), (.int .u8 0), (.int .i64 0)] 75 (0, 0)) fun a3 h2 => 
  newC h2 (.cells #[(.int .i64 0), (.string ⟨#[]⟩), (.int .u32 0), (.int .i64 0), (.int .i64 0), (.int .i64 0), (.string ⟨#[]⟩), (.int .u32 0), (.int .i64 0), (.int .i64 0), (.int .i64 0), (.string ⟨#[]⟩), (.int .u32 0), (.int .i64 0), (.int .i64 0), (.int .i64 0), (.string ⟨#[]⟩), (.int .u32 0), (.int .i64 0), (.int .i64 0), (.int .i64 0), (.string ⟨#[]⟩), (.int .u32 0), (.int .i64 0), (.int .i64 0), (.int .i64 0), (.string ⟨#[]⟩), (.int .u32 0), (.int .i64 0), (.int .i64 0), (.int .i64 0), (.string ⟨#[]⟩), (.int .u32 0), (.int .i64 0), (.int .i64 0), (.int .i64 0), (.string ⟨#[]⟩), (.int .u32 0), (.int .i64 0), (.int .i64 0)] 83 (0, 0)) fun a5 h4 => 
  newC h4 (.cells #[(.int .i64 0), (.int .u32 0), (.int .i64 0), (.int .u32 0), (.int .i64 0), (.int .u16 0), (.int .u16 0), (.int .u16 0), (.int .u16 0), (.int .u8 0), (.int .u8 0), (.int .i64 0)] 75 (0, 0)) fun a7 h6 => 
  newC h6 (.cells #[(.int .i64 0), (.string ⟨#[]⟩), (.int .u32 0), (.int .i64 0), (.int .i64 0), (.int .i64 0), (.string ⟨#[]⟩), (.int .u32 0), (.int .i64 0), (.int .i64 0), (.int .i64 0), (.string ⟨#[]⟩), (.int .u32 0), (.int .i64 0), (.int .i64 0), (.int .i64 0), (.string ⟨#[]⟩), (.int .u32 0), (.int .i64 0), (.int .i64 0), (.int .i64 0), (.string ⟨#[]⟩), (.int .u32 0), (.int .i64 0), (.int .i64 0), (.int .i64 0), (.string ⟨#[]⟩), (.int .u32 0), (.int .i64 0), (.int .i64 0), (.int .i64 0), (.string ⟨#[]⟩), (.int .u32 0), (.int .i64 0), (.int .i64 0), (.int .i64 0), (.string ⟨#[]⟩), (.int .u32 0), (.int .i64 0), (.int .i64 0)] 83 (0, 0)) fun a9 h8 => 
  drf p1 fun a10 =>
  ∃ A11 : Option Addr, ∃ l11 : Nat, ∃ c11 : Nat, HV Tryz.prog (Instr.loadAt 46 (.pointer (some a10))) h8 (.slice A11 l11 c11) ∧ 
  drf p1 fun a12 =>
  ∃ x13 : Int, HV Tryz.prog (Instr.loadAt 3 (.pointer (some (a12.add 1)))) h8 (.int .i64 x13) ∧ 
  ∃ a14 : Addr, PV Tryz.prog (Instr.indexAt 46 (.slice A11 l11 c11) (.int .i64 x13)) (.pointer (some a14)) ∧
  ∃ x15 : Int, ∃ s16 : ByteArray, ∃ x17 : Int, ∃ x18 : Int, ∃ x19 : Int, HV Tryz.prog (Instr.loadAt 52 (.pointer (some a14))) h8 (.agg #[(.int .i64 x15), (.string s16), (.int .u32 x17), (.int .i64 x18), (.int .i64 x19)]) ∧ 
  ∃ a20 : Addr, PV Tryz.prog (Instr.indexAt 83 (.pointer (some a9)) (.int .i64 1)) (.pointer (some a20)) ∧
  HU Tryz.prog (Instr.storeAt 52 (.pointer (some a20)) (.agg #[(.int .i64 x15), (.string s16), (.int .u32 x17), (.int .i64 x18), (.int .i64 x19)])) h8 fun h21 => 
  CallsP Tryz.prog 54 #[(.pointer p1)] h21 (fun r23 h22 =>
  ∃ x24 : Int, r23 = (.int .i64 x24) ∧ 
  HU Tryz.prog (Instr.storeAt 3 (.pointer (some a7)) (.int .i64 x24)) h22 fun h25 => 
  CallsP Tryz.prog 55 #[(.pointer p1)] h25 (fun r27 h26 =>
  ∃ x28 : Int, r27 = (.int .i64 x28) ∧ 
  HU Tryz.prog (Instr.storeAt 38 (.pointer (some (a7.add 11))) (.int .i64 x28)) h26 fun h29 => 
  drf p1 fun a30 =>
  ∃ A31 : Option Addr, ∃ l31 : Nat, ∃ c31 : Nat, HV Tryz.prog (Instr.loadAt 46 (.pointer (some a30))) h29 (.slice A31 l31 c31) ∧ 
  drf p1 fun a32 =>
  ∃ x33 : Int, HV Tryz.prog (Instr.loadAt 3 (.pointer (some (a32.add 1)))) h29 (.int .i64 x33) ∧ 
  ∃ a34 : Addr, PV Tryz.prog (Instr.indexAt 46 (.slice A31 l31 c31) (.int .i64 x33)) (.pointer (some a34)) ∧
  ∃ x35 : Int, ∃ s36 : ByteArray, ∃ x37 : Int, ∃ x38 : Int, ∃ x39 : Int, HV Tryz.prog (Instr.loadAt 52 (.pointer (some a34))) h29 (.agg #[(.int .i64 x35), (.string s36), (.int .u32 x37), (.int .i64 x38), (.int .i64 x39)]) ∧ 
  ∃ a40 : Addr, PV Tryz.prog (Instr.indexAt 83 (.pointer (some a9)) (.int .i64 2)) (.pointer (some a40)) ∧
  HU Tryz.prog (Instr.storeAt 52 (.pointer (some a40)) (.agg #[(.int .i64 x35), (.string s36), (.int .u32 x37), (.int .i64 x38), (.int .i64 x39)])) h29 fun h41 => 
  CallsP Tryz.prog 56 #[(.pointer p1)] h41 (fun r43 h42 =>
  ∃ x44 : Int, ∃ x45 : Int, r43 = (.agg #[(.int .u32 x44), (.int .i64 x45)]) ∧ 
  HU Tryz.prog (Instr.storeAt 69 (.pointer (some (a7.add 1))) (.agg #[(.int .u32 x44), (.int .i64 x45)])) h42 fun h46 => 
  drf p1 fun a47 =>
  ∃ A48 : Option Addr, ∃ l48 : Nat, ∃ c48 : Nat, HV Tryz.prog (Instr.loadAt 46 (.pointer (some a47))) h46 (.slice A48 l48 c48) ∧ 
  drf p1 fun a49 =>
  ∃ x50 : Int, HV Tryz.prog (Instr.loadAt 3 (.pointer (some (a49.add 1)))) h46 (.int .i64 x50) ∧ 
  ∃ a51 : Addr, PV Tryz.prog (Instr.indexAt 46 (.slice A48 l48 c48) (.int .i64 x50)) (.pointer (some a51)) ∧
  ∃ x52 : Int, ∃ s53 : ByteArray, ∃ x54 : Int, ∃ x55 : Int, ∃ x56 : Int, HV Tryz.prog (Instr.loadAt 52 (.pointer (some a51))) h46 (.agg #[(.int .i64 x52), (.string s53), (.int .u32 x54), (.int .i64 x55), (.int .i64 x56)]) ∧ 
  ∃ a57 : Addr, PV Tryz.prog (Instr.indexAt 83 (.pointer (some a9)) (.int .i64 3)) (.pointer (some a57)) ∧
  HU Tryz.prog (Instr.storeAt 52 (.pointer (some a57)) (.agg #[(.int .i64 x52), (.string s53), (.int .u32 x54), (.int .i64 x55), (.int .i64 x56)])) h46 fun h58 => 
  CallsP Tryz.prog 56 #[(.pointer p1)] h58 (fun r60 h59 =>
  ∃ x61 : Int, ∃ x62 : Int, r60 = (.agg #[(.int .u32 x61), (.int .i64 x62)]) ∧ 
  HU Tryz.prog (Instr.storeAt 69 (.pointer (some (a7.add 3))) (.agg #[(.int .u32 x61), (.int .i64 x62)])) h59 fun h63 => 
  drf p1 fun a64 =>
  ∃ A65 : Option Addr, ∃ l65 : Nat, ∃ c65 : Nat, HV Tryz.prog (Instr.loadAt 46 (.pointer (some a64))) h63 (.slice A65 l65 c65) ∧ 
  drf p1 fun a66 =>
  ∃ x67 : Int, HV Tryz.prog (Instr.loadAt 3 (.pointer (some (a66.add 1)))) h63 (.int .i64 x67) ∧ 
  ∃ a68 : Addr, PV Tryz.prog (Instr.indexAt 46 (.slice A65 l65 c65) (.int .i64 x67)) (.pointer (some a68)) ∧
  ∃ x69 : Int, ∃ s70 : ByteArray, ∃ x71 : Int, ∃ x72 : Int, ∃ x73 : Int, HV Tryz.prog (Instr.loadAt 52 (.pointer (some a68))) h63 (.agg #[(.int .i64 x69), (.string s70), (.int .u32 x71), (.int .i64 x72), (.int .i64 x73)]) ∧ 
  ∃ a74 : Addr, PV Tryz.prog (Instr.indexAt 83 (.pointer (some a9)) (.int .i64 4)) (.pointer (some a74)) ∧
  HU Tryz.prog (Instr.storeAt 52 (.pointer (some a74)) (.agg #[(.int .i64 x69), (.string s70), (.int .u32 x71), (.int .i64 x72), (.int .i64 x73)])) h63 fun h75 => 
  CallsP Tryz.prog 57 #[(.pointer p1)] h75 (fun r77 h76 =>
  ∃ x78 : Int, ∃ x79 : Int, r77 = (.agg #[(.int .u16 x78), (.int .u16 x79)]) ∧ 
  HU Tryz.prog (Instr.storeAt 71 (.pointer (some (a7.add 5))) (.agg #[(.int .u16 x78), (.int .u16 x79)])) h76 fun h80 => 
  drf p1 fun a81 =>
  ∃ A82 : Option Addr, ∃ l82 : Nat, ∃ c82 : Nat, HV Tryz.prog (Instr.loadAt 46 (.pointer (some a81))) h80 (.slice A82 l82 c82) ∧ 
  drf p1 fun a83 =>
  ∃ x84 : Int, HV Tryz.prog (Instr.loadAt 3 (.pointer (some (a83.add 1)))) h80 (.int .i64 x84) ∧ 
  ∃ a85 : Addr, PV Tryz.prog (Instr.indexAt 46 (.slice A82 l82 c82) (.int .i64 x84)) (.pointer (some a85)) ∧
  ∃ x86 : Int, ∃ s87 : ByteArray, ∃ x88 : Int, ∃ x89 : Int, ∃ x90 : Int, HV Tryz.prog (Instr.loadAt 52 (.pointer (some a85))) h80 (.agg #[(.int .i64 x86), (.string s87), (.int .u32 x88), (.int .i64 x89), (.int .i64 x90)]) ∧ 
  ∃ a91 : Addr, PV Tryz.prog (Instr.indexAt 83 (.pointer (some a9)) (.int .i64 5)) (.pointer (some a91)) ∧
  HU Tryz.prog (Instr.storeAt 52 (.pointer (some a91)) (.agg #[(.int .i64 x86), (.string s87), (.int .u32 x88), (.int .i64 x89), (.int .i64 x90)])) h80 fun h92 => 
  CallsP Tryz.prog 57 #[(.pointer p1)] h92 (fun r94 h93 =>
  ∃ x95 : Int, ∃ x96 : Int, r94 = (.agg #[(.int .u16 x95), (.int .u16 x96)]) ∧ 
  HU Tryz.prog (Instr.storeAt 71 (.pointer (some (a7.add 7))) (.agg #[(.int .u16 x95), (.int .u16 x96)])) h93 fun h97 => 
  drf p1 fun a98 =>
  ∃ A99 : Option Addr, ∃ l99 : Nat, ∃ c99 : Nat, HV Tryz.prog (Instr.loadAt 46 (.pointer (some a98))) h97 (.slice A99 l99 c99) ∧ 
  drf p1 fun a100 =>
  ∃ x101 : Int, HV Tryz.prog (Instr.loadAt 3 (.pointer (some (a100.add 1)))) h97 (.int .i64 x101) ∧ 
  ∃ a102 : Addr, PV Tryz.prog (Instr.indexAt 46 (.slice A99 l99 c99) (.int .i64 x101)) (.pointer (some a102)) ∧
  ∃ x103 : Int, ∃ s104 : ByteArray, ∃ x105 : Int, ∃ x106 : Int, ∃ x107 : Int, HV Tryz.prog (Instr.loadAt 52 (.pointer (some a102))) h97 (.agg #[(.int .i64 x103), (.string s104), (.int .u32 x105), (.int .i64 x106), (.int .i64 x107)]) ∧ 
  ∃ a108 : Addr, PV Tryz.prog (Instr.indexAt 83 (.pointer (some a9)) (.int .i64 6)) (.pointer (some a108)) ∧
  HU Tryz.prog (Instr.storeAt 52 (.pointer (some a108)) (.agg #[(.int .i64 x103), (.string s104), (.int .u32 x105), (.int .i64 x106), (.int .i64 x107)])) h97 fun h109 => 
  CallsP Tryz.prog 58 #[(.pointer p1)] h109 (fun r111 h110 =>
  ∃ x112 : Int, ∃ x113 : Int, r111 = (.agg #[(.int .u8 x112), (.int .u8 x113)]) ∧ 
  HU Tryz.prog (Instr.storeAt 73 (.pointer (some (a7.add 9))) (.agg #[(.int .u8 x112), (.int .u8 x113)])) h110 fun h114 => 
  ∃ x115 : Int, ∃ x116 : Int, ∃ x117 : Int, ∃ x118 : Int, ∃ x119 : Int, ∃ x120 : Int, ∃ x121 : Int, ∃ x122 : Int, ∃ x123 : Int, ∃ x124 : Int, ∃ x125 : Int, ∃ x126 : Int, HV Tryz.prog (Instr.loadAt 75 (.pointer (some a7))) h114 (.agg #[(.int .i64 x115), (.int .u32 x116), (.int .i64 x117), (.int .u32 x118), (.int .i64 x119), (.int .u16 x120), (.int .u16 x121), (.int .u16 x122), (.int .u16 x123), (.int .u8 x124), (.int .u8 x125), (.int .i64 x126)]) ∧ 
  ∃ x127 : Int, ∃ s128 : ByteArray, ∃ x129 : Int, ∃ x130 : Int, ∃ x131 : Int, ∃ x132 : Int, ∃ s133 : ByteArray, ∃ x134 : Int, ∃ x135 : Int, ∃ x136 : Int, ∃ x137 : Int, ∃ s138 : ByteArray, ∃ x139 : Int, ∃ x140 : Int, ∃ x141 : Int, ∃ x142 : Int, ∃ s143 : ByteArray, ∃ x144 : Int, ∃ x145 : Int, ∃ x146 : Int, ∃ x147 : Int, ∃ s148 : ByteArray, ∃ x149 : Int, ∃ x150 : Int, ∃ x151 : Int, ∃ x152 : Int, ∃ s153 : ByteArray, ∃ x154 : Int, ∃ x155 : Int, ∃ x156 : Int, ∃ x157 : Int, ∃ s158 : ByteArray, ∃ x159 : Int, ∃ x160 : Int, ∃ x161 : Int, ∃ x162 : Int, ∃ s163 : ByteArray, ∃ x164 : Int, ∃ x165 : Int, ∃ x166 : Int, HV Tryz.prog (Instr.loadAt 83 (.pointer (some a9))) h114 (.agg #[(.int .i64 x127), (.string s128), (.int .u32 x129), (.int .i64 x130), (.int .i64 x131), (.int .i64 x132), (.string s133), (.int .u32 x134), (.int .i64 x135), (.int .i64 x136), (.int .i64 x137), (.string s138), (.int .u32 x139), (.int .i64 x140), (.int .i64 x141), (.int .i64 x142), (.string s143), (.int .u32 x144), (.int .i64 x145), (.int .i64 x146), (.int .i64 x147), (.string s148), (.int .u32 x149), (.int .i64 x150), (.int .i64 x151), (.int .i64 x152), (.string s153), (.int .u32 x154), (.int .i64 x155), (.int .i64 x156), (.int .i64 x157), (.string s158), (.int .u32 x159), (.int .i64 x160), (.int .i64 x161), (.int .i64 x162), (.string s163), (.int .u32 x164), (.int .i64 x165), (.int .i64 x166)]) ∧ 
  HU Tryz.prog (Instr.storeAt 75 (.pointer (some a3)) (.agg #[(.int .i64 x115), (.int .u32 x116), (.int .i64 x117), (.int .u32 x118), (.int .i64 x119), (.int .u16 x120), (.int .u16 x121), (.int .u16 x122), (.int .u16 x123), (.int .u8 x124), (.int .u8 x125), (.int .i64 x126)])) h114 fun h167 => HV Tryz.prog (Instr.loadAt 83 (.pointer (some a9))) h167 (.agg #[(.int .i64 x127), (.string s128), (.int .u32 x129), (.int .i64 x130), (.int .i64 x131), (.int .i64 x132), (.string s133), (.int .u32 x134), (.int .i64 x135), (.int .i64 x136), (.int .i64 x137), (.string s138), (.int .u32 x139), (.int .i64 x140), (.int .i64 x141), (.int .i64 x142), (.string s143), (.int .u32 x144), (.int .i64 x145), (.int .i64 x146), (.int .i64 x147), (.string s148), (.int .u32 x149), (.int .i64 x150), (.int .i64 x151), (.int .i64 x152), (.string s153), (.int .u32 x154), (.int .i64 x155), (.int .i64 x156), (.int .i64 x157), (.string s158), (.int .u32 x159), (.int .i64 x160), (.int .i64 x161), (.int .i64 x162), (.string s163), (.int .u32 x164), (.int .i64 x165), (.int .i64 x166)]) ∧ 
  HU Tryz.prog (Instr.storeAt 83 (.pointer (some a5)) (.agg #[(.int .i64 x127), (.string s128), (.int .u32 x129), (.int .i64 x130), (.int .i64 x131), (.int .i64 x132), (.string s133), (.int .u32 x134), (.int .i64 x135), (.int .i64 x136), (.int .i64 x137), (.string s138), (.int .u32 x139), (.int .i64 x140), (.int .i64 x141), (.int .i64 x142), (.string s143), (.int .u32 x144), (.int .i64 x145), (.int .i64 x146), (.int .i64 x147), (.string s148), (.int .u32 x149), (.int .i64 x150), (.int .i64 x151), (.int .i64 x152), (.string s153), (.int .u32 x154), (.int .i64 x155), (.int .i64 x156), (.int .i64 x157), (.string s158), (.int .u32 x159), (.int .i64 x160), (.int .i64 x161), (.int .i64 x162), (.string s163), (.int .u32 x164), (.int .i64 x165), (.int .i64 x166)])) h167 fun h168 => 
  ∃ x169 : Int, ∃ x170 : Int, ∃ x171 : Int, ∃ x172 : Int, ∃ x173 : Int, ∃ x174 : Int, ∃ x175 : Int, ∃ x176 : Int, ∃ x177 : Int, ∃ x178 : Int, ∃ x179 : Int, ∃ x180 : Int, HV Tryz.prog (Instr.loadAt 75 (.pointer (some a3))) h168 (.agg #[(.int .i64 x169), (.int .u32 x170), (.int .i64 x171), (.int .u32 x172), (.int .i64 x173), (.int .u16 x174), (.int .u16 x175), (.int .u16 x176), (.int .u16 x177), (.int .u8 x178), (.int .u8 x179), (.int .i64 x180)]) ∧ ∃ x181 : Int, ∃ s182 : ByteArray, ∃ x183 : Int, ∃ x184 : Int, ∃ x185 : Int, ∃ x186 : Int, ∃ s187 : ByteArray, ∃ x188 : Int, ∃ x189 : Int, ∃ x190 : Int, ∃ x191 : Int, ∃ s192 : ByteArray, ∃ x193 : Int, ∃ x194 : Int, ∃ x195 : Int, ∃ x196 : Int, ∃ s197 : ByteArray, ∃ x198 : Int, ∃ x199 : Int, ∃ x200 : Int, ∃ x201 : Int, ∃ s202 : ByteArray, ∃ x203 : Int, ∃ x204 : Int, ∃ x205 : Int, ∃ x206 : Int, ∃ s207 : ByteArray, ∃ x208 : Int, ∃ x209 : Int, ∃ x210 : Int, ∃ x211 : Int, ∃ s212 : ByteArray, ∃ x213 : Int, ∃ x214 : Int, ∃ x215 : Int, ∃ x216 : Int, ∃ s217 : ByteArray, ∃ x218 : Int, ∃ x219 : Int, ∃ x220 : Int, HV Tryz.prog (Instr.loadAt 83 (.pointer (some a5))) h168 (.agg #[(.int .i64 x181), (.string s182), (.int .u32 x183), (.int .i64 x184), (.int .i64 x185), (.int .i64 x186), (.string s187), (.int .u32 x188), (.int .i64 x189), (.int .i64 x190), (.int .i64 x191), (.string s192), (.int .u32 x193), (.int .i64 x194), (.int .i64 x195), (.int .i64 x196), (.string s197), (.int .u32 x198), (.int .i64 x199), (.int .i64 x200), (.int .i64 x201), (.string s202), (.int .u32 x203), (.int .i64 x204), (.int .i64 x205), (.int .i64 x206), (.string s207), (.int .u32 x208), (.int .i64 x209), (.int .i64 x210), (.int .i64 x211), (.string s212), (.int .u32 x213), (.int .i64 x214), (.int .i64 x215), (.int .i64 x216), (.string s217), (.int .u32 x218), (.int .i64 x219), (.int .i64 x220)]) ∧ K (.tuple #[(.agg #[(.int .i64 x169), (.int .u32 x170), (.int .i64 x171), (.int .u32 x172), (.int .i64 x173), (.int .u16 x174), (.int .u16 x175), (.int .u16 x176), (.int .u16 x177), (.int .u8 x178), (.int .u8 x179), (.int .i64 x180)]), (.agg #[(.int .i64 x181), (.string s182), (.int .u32 x183), (.int .i64 x184), (.int .i64 x185), (.int .i64 x186), (.string s187), (.int .u32 x188), (.int .i64 x189), (.int .i64 x190), (.int .i64 x191), (.string s192), (.int .u32 x193), (.int .i64 x194), (.int .i64 x195), (.int .i64 x196), (.string s197), (.int .u32 x198), (.int .i64 x199), (.int .i64 x200), (.int .i64 x201), (.string s202), (.int .u32 x203), (.int .i64 x204), (.int .i64 x205), (.int .i64 x206), (.string s207), (.int .u32 x208), (.int .i64 x209), (.int .i64 x210), (.int .i64 x211), (.string s212), (.int .u32 x213), (.int .i64 x214), (.int .i64 x215), (.int .i64 x216), (.string s217), (.int .u32 x218), (.int .i64 x219), (.int .i64 x220)])]) h168) KP) KP) KP) KP) KP) KP) KP
def syntax_reader_rule_lp (i : Nat) (Q : Qx) (tm : Tm) (h : Hp) : Prop := False
def syntax_reader_rule_cut (i : Nat) : Option (List Nat) := none
set_option maxRecDepth 100000 in
theorem syntax_reader_rule_eq (p1 : Option Addr) (h : Hp) (K : Value → Hp → Prop) (KP : Kp) : syntax_reader_rule p1 h K KP =
    codeWp Tryz.prog 95 true syntax_reader_rule_lp syntax_reader_rule_cut (bodyOf Tryz.f23) 1 (endP Tryz.prog Tryz.f23.results.toList K KP) (argTm [(.pointer p1)]) h := by kernel_rfl
set_option maxRecDepth 100000 in
theorem syntax_reader_rule_ok (p1 : Option Addr) {h : Hp} {K : Value → Hp → Prop} {KP : Kp} (H : syntax_reader_rule p1 h K KP) : CallsP Tryz.prog 23 #[(.pointer p1)] h K KP :=
  callsP_of (args := [(.pointer p1)]) (n := 95) (lp := syntax_reader_rule_lp) (cut := syntax_reader_rule_cut) Tryz.func23 (c := bodyOf Tryz.f23) (by kernel_rfl) (by kernel_rfl) (by kernel_rfl) (good_by (pn := true) (c := (bodyOf Tryz.f23)) (i := 1) (l := []) (by kernel_rfl) (fun _ h => by cases h))
    (Eq.mp (syntax_reader_rule_eq p1 h K KP) H)

/-! ### quintet/syntax.right: function 26 -/
set_option maxRecDepth 100000 in
def syntax_right (x1 : Int) (x2 : Int) (x3 : Int) (x4 : Int) (x5 : Int) (x6 : Int) (x7 : Int) (x8 : Int) (x9 : Int) (x10 : Int) (x11 : Int) (x12 : Int) (x13 : Int) (s14 : ByteArray) (x15 : Int) (x16 : Int) (x17 : Int) (x18 : Int) (s19 : ByteArray) (x20 : Int) (x21 : Int) (x22 : Int) (x23 : Int) (s24 : ByteArray) (x25 : Int) (x26 : Int) (x27 : Int) (x28 : Int) (s29 : ByteArray) (x30 : Int) (x31 : Int) (x32 : Int) (x33 : Int) (s34 : ByteArray) (x35 : Int) (x36 : Int) (x37 : Int) (x38 : Int) (s39 : ByteArray) (x40 : Int) (x41 : Int) (x42 : Int) (x43 : Int) (s44 : ByteArray) (x45 : Int) (x46 : Int) (x47 : Int) (x48 : Int) (s49 : ByteArray) (x50 : Int) (x51 : Int) (x52 : Int) (h : Hp) (K : Value → Hp → Prop) (KP : Kp) : Prop :=
  newC h (.cells #[(.int .i64 x1), (.int .u32 x2), (.int .i64 x3), (.int .u32 x4), (.int .i64 x5), (.int .u16 x6), (.int .u16 x7), (.int .u16 x8), (.int .u16 x9), (.int .u8 x10), (.int .u8 x11), (.int .i64 x12)] 75 (0, 0)) fun a54 h53 => 
  newC h53 (.cells #[(.int .i64 x13), (.string s14), (.int .u32 x15), (.int .i64 x16), (.int .i64 x17), (.int .i64 x18), (.string s19), (.int .u32 x20), (.int .i64 x21), (.int .i64 x22), (.int .i64 x23), (.string s24), (.int .u32 x25), (.int .i64 x26), (.int .i64 x27), (.int .i64 x28), (.string s29), (.int .u32 x30), (.int .i64 x31), (.int .i64 x32), (.int .i64 x33), (.string s34), (.int .u32 x35), (.int .i64 x36), (.int .i64 x37), (.int .i64 x38), (.string s39), (.int .u32 x40), (.int .i64 x41), (.int .i64 x42), (.int .i64 x43), (.string s44), (.int .u32 x45), (.int .i64 x46), (.int .i64 x47), (.int .i64 x48), (.string s49), (.int .u32 x50), (.int .i64 x51), (.int .i64 x52)] 83 (0, 0)) fun a56 h55 => 
  ∃ x57 : Int, ∃ x58 : Int, ∃ x59 : Int, ∃ x60 : Int, ∃ x61 : Int, ∃ x62 : Int, ∃ x63 : Int, ∃ x64 : Int, ∃ x65 : Int, ∃ x66 : Int, ∃ x67 : Int, ∃ x68 : Int, HV Tryz.prog (Instr.loadAt 75 (.pointer (some a54))) h55 (.agg #[(.int .i64 x57), (.int .u32 x58), (.int .i64 x59), (.int .u32 x60), (.int .i64 x61), (.int .u16 x62), (.int .u16 x63), (.int .u16 x64), (.int .u16 x65), (.int .u8 x66), (.int .u8 x67), (.int .i64 x68)]) ∧ 
  CallsP Tryz.prog 59 #[(.agg #[(.int .i64 x57), (.int .u32 x58), (.int .i64 x59), (.int .u32 x60), (.int .i64 x61), (.int .u16 x62), (.int .u16 x63), (.int .u16 x64), (.int .u16 x65), (.int .u8 x66), (.int .u8 x67), (.int .i64 x68)])] h55 (fun r70 h69 =>
  ∃ x71 : Int, ∃ x72 : Int, r70 = (.tuple #[(.int .i64 x71), (.int .i64 x72)]) ∧ 
  br (x71 != 0)
  (∃ a73 : Addr, PV Tryz.prog (Instr.indexAt 83 (.pointer (some a56)) (.int .i64 x72)) (.pointer (some a73)) ∧
  ∃ x74 : Int, ∃ s75 : ByteArray, ∃ x76 : Int, ∃ x77 : Int, ∃ x78 : Int, HV Tryz.prog (Instr.loadAt 52 (.pointer (some a73))) h69 (.agg #[(.int .i64 x74), (.string s75), (.int .u32 x76), (.int .i64 x77), (.int .i64 x78)]) ∧ 
  CallsP Tryz.prog 25 #[(.agg #[(.int .i64 x74), (.string s75), (.int .u32 x76), (.int .i64 x77), (.int .i64 x78)]), (.int .i64 x71)] h69 (fun r80 h79 =>
  r80 = (.tuple #[]) ∧ 
  K (.tuple #[]) h79) KP)
  (K (.tuple #[]) h69)) KP
def syntax_right_lp (i : Nat) (Q : Qx) (tm : Tm) (h : Hp) : Prop := False
def syntax_right_cut (i : Nat) : Option (List Nat) := none
set_option maxRecDepth 100000 in
theorem syntax_right_eq (x1 : Int) (x2 : Int) (x3 : Int) (x4 : Int) (x5 : Int) (x6 : Int) (x7 : Int) (x8 : Int) (x9 : Int) (x10 : Int) (x11 : Int) (x12 : Int) (x13 : Int) (s14 : ByteArray) (x15 : Int) (x16 : Int) (x17 : Int) (x18 : Int) (s19 : ByteArray) (x20 : Int) (x21 : Int) (x22 : Int) (x23 : Int) (s24 : ByteArray) (x25 : Int) (x26 : Int) (x27 : Int) (x28 : Int) (s29 : ByteArray) (x30 : Int) (x31 : Int) (x32 : Int) (x33 : Int) (s34 : ByteArray) (x35 : Int) (x36 : Int) (x37 : Int) (x38 : Int) (s39 : ByteArray) (x40 : Int) (x41 : Int) (x42 : Int) (x43 : Int) (s44 : ByteArray) (x45 : Int) (x46 : Int) (x47 : Int) (x48 : Int) (s49 : ByteArray) (x50 : Int) (x51 : Int) (x52 : Int) (h : Hp) (K : Value → Hp → Prop) (KP : Kp) : syntax_right x1 x2 x3 x4 x5 x6 x7 x8 x9 x10 x11 x12 x13 s14 x15 x16 x17 x18 s19 x20 x21 x22 x23 s24 x25 x26 x27 x28 s29 x30 x31 x32 x33 s34 x35 x36 x37 x38 s39 x40 x41 x42 x43 s44 x45 x46 x47 x48 s49 x50 x51 x52 h K KP =
    codeWp Tryz.prog 18 true syntax_right_lp syntax_right_cut (bodyOf Tryz.f26) 1 (endP Tryz.prog Tryz.f26.results.toList K KP) (argTm [(.agg #[(.int .i64 x1), (.int .u32 x2), (.int .i64 x3), (.int .u32 x4), (.int .i64 x5), (.int .u16 x6), (.int .u16 x7), (.int .u16 x8), (.int .u16 x9), (.int .u8 x10), (.int .u8 x11), (.int .i64 x12)]), (.agg #[(.int .i64 x13), (.string s14), (.int .u32 x15), (.int .i64 x16), (.int .i64 x17), (.int .i64 x18), (.string s19), (.int .u32 x20), (.int .i64 x21), (.int .i64 x22), (.int .i64 x23), (.string s24), (.int .u32 x25), (.int .i64 x26), (.int .i64 x27), (.int .i64 x28), (.string s29), (.int .u32 x30), (.int .i64 x31), (.int .i64 x32), (.int .i64 x33), (.string s34), (.int .u32 x35), (.int .i64 x36), (.int .i64 x37), (.int .i64 x38), (.string s39), (.int .u32 x40), (.int .i64 x41), (.int .i64 x42), (.int .i64 x43), (.string s44), (.int .u32 x45), (.int .i64 x46), (.int .i64 x47), (.int .i64 x48), (.string s49), (.int .u32 x50), (.int .i64 x51), (.int .i64 x52)])]) h := by kernel_rfl
set_option maxRecDepth 100000 in
theorem syntax_right_ok (x1 : Int) (x2 : Int) (x3 : Int) (x4 : Int) (x5 : Int) (x6 : Int) (x7 : Int) (x8 : Int) (x9 : Int) (x10 : Int) (x11 : Int) (x12 : Int) (x13 : Int) (s14 : ByteArray) (x15 : Int) (x16 : Int) (x17 : Int) (x18 : Int) (s19 : ByteArray) (x20 : Int) (x21 : Int) (x22 : Int) (x23 : Int) (s24 : ByteArray) (x25 : Int) (x26 : Int) (x27 : Int) (x28 : Int) (s29 : ByteArray) (x30 : Int) (x31 : Int) (x32 : Int) (x33 : Int) (s34 : ByteArray) (x35 : Int) (x36 : Int) (x37 : Int) (x38 : Int) (s39 : ByteArray) (x40 : Int) (x41 : Int) (x42 : Int) (x43 : Int) (s44 : ByteArray) (x45 : Int) (x46 : Int) (x47 : Int) (x48 : Int) (s49 : ByteArray) (x50 : Int) (x51 : Int) (x52 : Int) {h : Hp} {K : Value → Hp → Prop} {KP : Kp} (H : syntax_right x1 x2 x3 x4 x5 x6 x7 x8 x9 x10 x11 x12 x13 s14 x15 x16 x17 x18 s19 x20 x21 x22 x23 s24 x25 x26 x27 x28 s29 x30 x31 x32 x33 s34 x35 x36 x37 x38 s39 x40 x41 x42 x43 s44 x45 x46 x47 x48 s49 x50 x51 x52 h K KP) : CallsP Tryz.prog 26 #[(.agg #[(.int .i64 x1), (.int .u32 x2), (.int .i64 x3), (.int .u32 x4), (.int .i64 x5), (.int .u16 x6), (.int .u16 x7), (.int .u16 x8), (.int .u16 x9), (.int .u8 x10), (.int .u8 x11), (.int .i64 x12)]), (.agg #[(.int .i64 x13), (.string s14), (.int .u32 x15), (.int .i64 x16), (.int .i64 x17), (.int .i64 x18), (.string s19), (.int .u32 x20), (.int .i64 x21), (.int .i64 x22), (.int .i64 x23), (.string s24), (.int .u32 x25), (.int .i64 x26), (.int .i64 x27), (.int .i64 x28), (.string s29), (.int .u32 x30), (.int .i64 x31), (.int .i64 x32), (.int .i64 x33), (.string s34), (.int .u32 x35), (.int .i64 x36), (.int .i64 x37), (.int .i64 x38), (.string s39), (.int .u32 x40), (.int .i64 x41), (.int .i64 x42), (.int .i64 x43), (.string s44), (.int .u32 x45), (.int .i64 x46), (.int .i64 x47), (.int .i64 x48), (.string s49), (.int .u32 x50), (.int .i64 x51), (.int .i64 x52)])] h K KP := by
  have e := syntax_right_eq x1 x2 x3 x4 x5 x6 x7 x8 x9 x10 x11 x12 x13 s14 x15 x16 x17 x18 s19 x20 x21 x22 x23 s24 x25 x26 x27 x28 s29 x30 x31 x32 x33 s34 x35 x36 x37 x38 s39 x40 x41 x42 x43 s44 x45 x46 x47 x48 s49 x50 x51 x52 h K KP
  have H2 := Eq.mp e H
  exact callsP_of (n := 18) (lp := syntax_right_lp) (cut := syntax_right_cut) Tryz.func26 (c := bodyOf Tryz.f26) (by kernel_rfl) (by kernel_rfl) (by kernel_rfl) (good_by (pn := true) (c := (bodyOf Tryz.f26)) (i := 1) (l := []) (by kernel_rfl) (fun _ h => by cases h)) H2

/-! ### (*quintet/syntax.reader).command: function 47 -/
def syntax_reader_command_l1 (p36 : Option Addr) (a37 : Addr) (a38 : Addr) (a39 : Addr) (a40 : Addr) (a41 : Addr) (s42 : ByteArray) (s43 : ByteArray) (s44 : ByteArray) (s45 : ByteArray) (s46 : ByteArray) (s47 : ByteArray) (s48 : ByteArray) (s49 : ByteArray) (s50 : ByteArray) (s51 : ByteArray) (s52 : ByteArray) (K0 : (Option Addr) → Addr → Addr → Addr → Addr → Addr → Hp → Prop) (KP : Kp)  : Nat → Int → Hp → Prop
  | 0, _, _ => False
  | k + 1, x53, h =>
    br (decide (x53 < 11))
    (∃ s64 : ByteArray, PV Tryz.prog (Instr.index 134 (.agg #[(.string s42), (.string s43), (.string s44), (.string s45), (.string s46), (.string s47), (.string s48), (.string s49), (.string s50), (.string s51), (.string s52)]) (.int .i64 x53)) (.string s64) ∧
    br (decide (x53 > 0))
    (∃ x65 : Int, HV Tryz.prog (Instr.loadAt 49 (.pointer (some a41))) h (.int .i64 x65) ∧ 
    br (x65 == 1)
    (∃ s66 : ByteArray, HV Tryz.prog (Instr.loadAt 9 (.pointer (some (a41.add 1)))) h (.string s66) ∧ 
    br ((s66 : ByteArray).toList == (s64 : ByteArray).toList)
    (HU Tryz.prog (Instr.storeAt 67 (.pointer (some a39)) (.int .i64 x53)) h fun h67 => 
    syntax_reader_command_l1 p36 a37 a38 a39 a40 a41 s42 s43 s44 s45 s46 s47 s48 s49 s50 s51 s52 K0 KP k (IntKind.i64.wrap (x53 + 1)) h67)
    (syntax_reader_command_l1 p36 a37 a38 a39 a40 a41 s42 s43 s44 s45 s46 s47 s48 s49 s50 s51 s52 K0 KP k (IntKind.i64.wrap (x53 + 1)) h))
    (syntax_reader_command_l1 p36 a37 a38 a39 a40 a41 s42 s43 s44 s45 s46 s47 s48 s49 s50 s51 s52 K0 KP k (IntKind.i64.wrap (x53 + 1)) h))
    (syntax_reader_command_l1 p36 a37 a38 a39 a40 a41 s42 s43 s44 s45 s46 s47 s48 s49 s50 s51 s52 K0 KP k (IntKind.i64.wrap (x53 + 1)) h))
    (K0 p36 a37 a38 a39 a40 a41 h)
def syntax_reader_command_l1_L (Q : Qx) (k : Nat) (tm : Tm) (h : Hp) : Prop :=
  selP (tm 0) fun p36 =>
  selA (tm 2) fun a37 =>
  selA (tm 3) fun a38 =>
  selA (tm 4) fun a39 =>
  selA (tm 5) fun a40 =>
  selA (tm 6) fun a41 =>
  selAg (tm 19) fun m19_0 =>
  selC m19_0 fun u19_0 m19_1 =>
  selC m19_1 fun u19_1 m19_2 =>
  selC m19_2 fun u19_2 m19_3 =>
  selC m19_3 fun u19_3 m19_4 =>
  selC m19_4 fun u19_4 m19_5 =>
  selC m19_5 fun u19_5 m19_6 =>
  selC m19_6 fun u19_6 m19_7 =>
  selC m19_7 fun u19_7 m19_8 =>
  selC m19_8 fun u19_8 m19_9 =>
  selC m19_9 fun u19_9 m19_10 =>
  selC m19_10 fun u19_10 m19_11 =>
  selN m19_11
  (selT (some u19_0) fun s42 =>
  selT (some u19_1) fun s43 =>
  selT (some u19_2) fun s44 =>
  selT (some u19_3) fun s45 =>
  selT (some u19_4) fun s46 =>
  selT (some u19_5) fun s47 =>
  selT (some u19_6) fun s48 =>
  selT (some u19_7) fun s49 =>
  selT (some u19_8) fun s50 =>
  selT (some u19_9) fun s51 =>
  selT (some u19_10) fun s52 =>
  selI .i64 (tm 20) fun x53 =>
  syntax_reader_command_l1 p36 a37 a38 a39 a40 a41 s42 s43 s44 s45 s46 s47 s48 s49 s50 s51 s52 (fun (p58 : Option Addr) (a59 : Addr) (a60 : Addr) (a61 : Addr) (a62 : Addr) (a63 : Addr) h => Q (.exit 0) (mkTm [(0, some (.pointer p58)), (2, some (.pointer (some a59))), (3, some (.pointer (some a60))), (4, some (.pointer (some a61))), (5, some (.pointer (some a62))), (6, some (.pointer (some a63)))]) h) (fun ch h => Q (.panic ch) (mkTm []) h) k x53 h)
set_option maxRecDepth 100000 in
def syntax_reader_command (p1 : Option Addr) (h : Hp) (K : Value → Hp → Prop) (KP : Kp) : Prop :=
  newC h (.cells #[(.int .i64 0), (.int .i64 0), (.int .i64 0), (.int .i64 0), (.int .u32 0), (.int .i64 0), (.int .u32 0), (.int .i64 0), (.int .u16 0), (.int .u16 0), (.int .u16 0), (.int .u16 0), (.int .u8 0), (.int .u8 0), (.int .i64 0), (.int .u32 0), (.int .u32 0), (.int .u16 0), (.int .u16 0), (.int .u8 0)] 77 (0, 0)) fun a3 h2 => 
  newC h2 (.cells #[(.int .i64 0), (.string ⟨#[]⟩), (.int .u32 0), (.int .i64 0), (.int .i64 0), (.int .i64 0), (.string ⟨#[]⟩), (.int .u32 0), (.int .i64 0), (.int .i64 0), (.int .i64 0), (.string ⟨#[]⟩), (.int .u32 0), (.int .i64 0), (.int .i64 0), (.int .i64 0), (.string ⟨#[]⟩), (.int .u32 0), (.int .i64 0), (.int .i64 0), (.int .i64 0), (.string ⟨#[]⟩), (.int .u32 0), (.int .i64 0), (.int .i64 0), (.int .i64 0), (.string ⟨#[]⟩), (.int .u32 0), (.int .i64 0), (.int .i64 0), (.int .i64 0), (.string ⟨#[]⟩), (.int .u32 0), (.int .i64 0), (.int .i64 0), (.int .i64 0), (.string ⟨#[]⟩), (.int .u32 0), (.int .i64 0), (.int .i64 0)] 83 (0, 0)) fun a5 h4 => 
  newC h4 (.cells #[(.int .i64 0), (.int .i64 0), (.int .i64 0), (.int .i64 0), (.int .u32 0), (.int .i64 0), (.int .u32 0), (.int .i64 0), (.int .u16 0), (.int .u16 0), (.int .u16 0), (.int .u16 0), (.int .u8 0), (.int .u8 0), (.int .i64 0), (.int .u32 0), (.int .u32 0), (.int .u16 0), (.int .u16 0), (.int .u8 0)] 77 (0, 0)) fun a7 h6 => 
  newC h6 (.cells #[(.int .i64 0), (.string ⟨#[]⟩), (.int .u32 0), (.int .i64 0), (.int .i64 0), (.int .i64 0), (.string ⟨#[]⟩), (.int .u32 0), (.int .i64 0), (.int .i64 0), (.int .i64 0), (.string ⟨#[]⟩), (.int .u32 0), (.int .i64 0), (.int .i64 0), (.int .i64 0), (.string ⟨#[]⟩), (.int .u32 0), (.int .i64 0), (.int .i64 0), (.int .i64 0), (.string ⟨#[]⟩), (.int .u32 0), (.int .i64 0), (.int .i64 0), (.int .i64 0), (.string ⟨#[]⟩), (.int .u32 0), (.int .i64 0), (.int .i64 0), (.int .i64 0), (.string ⟨#[]⟩), (.int .u32 0), (.int .i64 0), (.int .i64 0), (.int .i64 0), (.string ⟨#[]⟩), (.int .u32 0), (.int .i64 0), (.int .i64 0)] 83 (0, 0)) fun a9 h8 => 
  drf p1 fun a10 =>
  ∃ A11 : Option Addr, ∃ l11 : Nat, ∃ c11 : Nat, HV Tryz.prog (Instr.loadAt 46 (.pointer (some a10))) h8 (.slice A11 l11 c11) ∧ 
  drf p1 fun a12 =>
  ∃ x13 : Int, HV Tryz.prog (Instr.loadAt 3 (.pointer (some (a12.add 1)))) h8 (.int .i64 x13) ∧ 
  ∃ a14 : Addr, PV Tryz.prog (Instr.indexAt 46 (.slice A11 l11 c11) (.int .i64 x13)) (.pointer (some a14)) ∧
  ∃ x15 : Int, ∃ s16 : ByteArray, ∃ x17 : Int, ∃ x18 : Int, ∃ x19 : Int, HV Tryz.prog (Instr.loadAt 52 (.pointer (some a14))) h8 (.agg #[(.int .i64 x15), (.string s16), (.int .u32 x17), (.int .i64 x18), (.int .i64 x19)]) ∧ 
  newC h8 (.cells #[(.int .i64 0), (.string ⟨#[]⟩), (.int .u32 0), (.int .i64 0), (.int .i64 0)] 52 (0, 0)) fun a21 h20 => HV Tryz.prog (Instr.loadAt 52 (.pointer (some a14))) h20 (.agg #[(.int .i64 x15), (.string s16), (.int .u32 x17), (.int .i64 x18), (.int .i64 x19)]) ∧ HV Tryz.prog (Instr.loadAt 3 (.pointer (some (a12.add 1)))) h20 (.int .i64 x13) ∧ HV Tryz.prog (Instr.loadAt 46 (.pointer (some a10))) h20 (.slice A11 l11 c11) ∧ 
  HU Tryz.prog (Instr.storeAt 52 (.pointer (some a21)) (.agg #[(.int .i64 x15), (.string s16), (.int .u32 x17), (.int .i64 x18), (.int .i64 x19)])) h20 fun h22 => 
  CallsP Tryz.prog 49 #[] h22 (fun r24 h23 =>
  ∃ s25 : ByteArray, ∃ s26 : ByteArray, ∃ s27 : ByteArray, ∃ s28 : ByteArray, ∃ s29 : ByteArray, ∃ s30 : ByteArray, ∃ s31 : ByteArray, ∃ s32 : ByteArray, ∃ s33 : ByteArray, ∃ s34 : ByteArray, ∃ s35 : ByteArray, r24 = (.agg #[(.string s25), (.string s26), (.string s27), (.string s28), (.string s29), (.string s30), (.string s31), (.string s32), (.string s33), (.string s34), (.string s35)]) ∧ 
  ∃ k911, syntax_reader_command_l1 p1 a3 a5 a7 a9 a21 s25 s26 s27 s28 s29 s30 s31 s32 s33 s34 s35
  (fun (p68 : Option Addr) (a69 : Addr) (a70 : Addr) (a71 : Addr) (a72 : Addr) (a73 : Addr) (h74 : Hp) =>
  drf p68 fun a75 =>
  ∃ x76 : Int, HV Tryz.prog (Instr.loadAt 3 (.pointer (some (a75.add 1)))) h74 (.int .i64 x76) ∧ 
  drf p68 fun a77 =>
  HU Tryz.prog (Instr.storeAt 3 (.pointer (some (a77.add 1))) (.int .i64 (IntKind.i64.wrap (x76 + 1)))) h74 fun h78 => 
  ∃ x79 : Int, HV Tryz.prog (Instr.loadAt 67 (.pointer (some a71))) h78 (.int .i64 x79) ∧ 
  br (x79 == 0)
  (∃ x80 : Int, ∃ s81 : ByteArray, ∃ x82 : Int, ∃ x83 : Int, ∃ x84 : Int, HV Tryz.prog (Instr.loadAt 52 (.pointer (some a73))) h78 (.agg #[(.int .i64 x80), (.string s81), (.int .u32 x82), (.int .i64 x83), (.int .i64 x84)]) ∧ 
  CallsP Tryz.prog 25 #[(.agg #[(.int .i64 x80), (.string s81), (.int .u32 x82), (.int .i64 x83), (.int .i64 x84)]), (.int .i64 100)] h78 (fun r86 h85 =>
  r86 = (.tuple #[]) ∧ 
  ∃ x87 : Int, ∃ x88 : Int, ∃ x89 : Int, ∃ x90 : Int, ∃ x91 : Int, ∃ x92 : Int, ∃ x93 : Int, ∃ x94 : Int, ∃ x95 : Int, ∃ x96 : Int, ∃ x97 : Int, ∃ x98 : Int, ∃ x99 : Int, ∃ x100 : Int, ∃ x101 : Int, ∃ x102 : Int, ∃ x103 : Int, ∃ x104 : Int, ∃ x105 : Int, ∃ x106 : Int, HV Tryz.prog (Instr.loadAt 77 (.pointer (some a71))) h85 (.agg #[(.int .i64 x87), (.int .i64 x88), (.int .i64 x89), (.int .i64 x90), (.int .u32 x91), (.int .i64 x92), (.int .u32 x93), (.int .i64 x94), (.int .u16 x95), (.int .u16 x96), (.int .u16 x97), (.int .u16 x98), (.int .u8 x99), (.int .u8 x100), (.int .i64 x101), (.int .u32 x102), (.int .u32 x103), (.int .u16 x104), (.int .u16 x105), (.int .u8 x106)]) ∧ 
  ∃ x107 : Int, ∃ s108 : ByteArray, ∃ x109 : Int, ∃ x110 : Int, ∃ x111 : Int, ∃ x112 : Int, ∃ s113 : ByteArray, ∃ x114 : Int, ∃ x115 : Int, ∃ x116 : Int, ∃ x117 : Int, ∃ s118 : ByteArray, ∃ x119 : Int, ∃ x120 : Int, ∃ x121 : Int, ∃ x122 : Int, ∃ s123 : ByteArray, ∃ x124 : Int, ∃ x125 : Int, ∃ x126 : Int, ∃ x127 : Int, ∃ s128 : ByteArray, ∃ x129 : Int, ∃ x130 : Int, ∃ x131 : Int, ∃ x132 : Int, ∃ s133 : ByteArray, ∃ x134 : Int, ∃ x135 : Int, ∃ x136 : Int, ∃ x137 : Int, ∃ s138 : ByteArray, ∃ x139 : Int, ∃ x140 : Int, ∃ x141 : Int, ∃ x142 : Int, ∃ s143 : ByteArray, ∃ x144 : Int, ∃ x145 : Int, ∃ x146 : Int, HV Tryz.prog (Instr.loadAt 83 (.pointer (some a72))) h85 (.agg #[(.int .i64 x107), (.string s108), (.int .u32 x109), (.int .i64 x110), (.int .i64 x111), (.int .i64 x112), (.string s113), (.int .u32 x114), (.int .i64 x115), (.int .i64 x116), (.int .i64 x117), (.string s118), (.int .u32 x119), (.int .i64 x120), (.int .i64 x121), (.int .i64 x122), (.string s123), (.int .u32 x124), (.int .i64 x125), (.int .i64 x126), (.int .i64 x127), (.string s128), (.int .u32 x129), (.int .i64 x130), (.int .i64 x131), (.int .i64 x132), (.string s133), (.int .u32 x134), (.int .i64 x135), (.int .i64 x136), (.int .i64 x137), (.string s138), (.int .u32 x139), (.int .i64 x140), (.int .i64 x141), (.int .i64 x142), (.string s143), (.int .u32 x144), (.int .i64 x145), (.int .i64 x146)]) ∧ 
  HU Tryz.prog (Instr.storeAt 77 (.pointer (some a69)) (.agg #[(.int .i64 x87), (.int .i64 x88), (.int .i64 x89), (.int .i64 x90), (.int .u32 x91), (.int .i64 x92), (.int .u32 x93), (.int .i64 x94), (.int .u16 x95), (.int .u16 x96), (.int .u16 x97), (.int .u16 x98), (.int .u8 x99), (.int .u8 x100), (.int .i64 x101), (.int .u32 x102), (.int .u32 x103), (.int .u16 x104), (.int .u16 x105), (.int .u8 x106)])) h85 fun h147 => HV Tryz.prog (Instr.loadAt 83 (.pointer (some a72))) h147 (.agg #[(.int .i64 x107), (.string s108), (.int .u32 x109), (.int .i64 x110), (.int .i64 x111), (.int .i64 x112), (.string s113), (.int .u32 x114), (.int .i64 x115), (.int .i64 x116), (.int .i64 x117), (.string s118), (.int .u32 x119), (.int .i64 x120), (.int .i64 x121), (.int .i64 x122), (.string s123), (.int .u32 x124), (.int .i64 x125), (.int .i64 x126), (.int .i64 x127), (.string s128), (.int .u32 x129), (.int .i64 x130), (.int .i64 x131), (.int .i64 x132), (.string s133), (.int .u32 x134), (.int .i64 x135), (.int .i64 x136), (.int .i64 x137), (.string s138), (.int .u32 x139), (.int .i64 x140), (.int .i64 x141), (.int .i64 x142), (.string s143), (.int .u32 x144), (.int .i64 x145), (.int .i64 x146)]) ∧ 
  HU Tryz.prog (Instr.storeAt 83 (.pointer (some a70)) (.agg #[(.int .i64 x107), (.string s108), (.int .u32 x109), (.int .i64 x110), (.int .i64 x111), (.int .i64 x112), (.string s113), (.int .u32 x114), (.int .i64 x115), (.int .i64 x116), (.int .i64 x117), (.string s118), (.int .u32 x119), (.int .i64 x120), (.int .i64 x121), (.int .i64 x122), (.string s123), (.int .u32 x124), (.int .i64 x125), (.int .i64 x126), (.int .i64 x127), (.string s128), (.int .u32 x129), (.int .i64 x130), (.int .i64 x131), (.int .i64 x132), (.string s133), (.int .u32 x134), (.int .i64 x135), (.int .i64 x136), (.int .i64 x137), (.string s138), (.int .u32 x139), (.int .i64 x140), (.int .i64 x141), (.int .i64 x142), (.string s143), (.int .u32 x144), (.int .i64 x145), (.int .i64 x146)])) h147 fun h148 => 
  ∃ x149 : Int, ∃ x150 : Int, ∃ x151 : Int, ∃ x152 : Int, ∃ x153 : Int, ∃ x154 : Int, ∃ x155 : Int, ∃ x156 : Int, ∃ x157 : Int, ∃ x158 : Int, ∃ x159 : Int, ∃ x160 : Int, ∃ x161 : Int, ∃ x162 : Int, ∃ x163 : Int, ∃ x164 : Int, ∃ x165 : Int, ∃ x166 : Int, ∃ x167 : Int, ∃ x168 : Int, HV Tryz.prog (Instr.loadAt 77 (.pointer (some a69))) h148 (.agg #[(.int .i64 x149), (.int .i64 x150), (.int .i64 x151), (.int .i64 x152), (.int .u32 x153), (.int .i64 x154), (.int .u32 x155), (.int .i64 x156), (.int .u16 x157), (.int .u16 x158), (.int .u16 x159), (.int .u16 x160), (.int .u8 x161), (.int .u8 x162), (.int .i64 x163), (.int .u32 x164), (.int .u32 x165), (.int .u16 x166), (.int .u16 x167), (.int .u8 x168)]) ∧ ∃ x169 : Int, ∃ s170 : ByteArray, ∃ x171 : Int, ∃ x172 : Int, ∃ x173 : Int, ∃ x174 : Int, ∃ s175 : ByteArray, ∃ x176 : Int, ∃ x177 : Int, ∃ x178 : Int, ∃ x179 : Int, ∃ s180 : ByteArray, ∃ x181 : Int, ∃ x182 : Int, ∃ x183 : Int, ∃ x184 : Int, ∃ s185 : ByteArray, ∃ x186 : Int, ∃ x187 : Int, ∃ x188 : Int, ∃ x189 : Int, ∃ s190 : ByteArray, ∃ x191 : Int, ∃ x192 : Int, ∃ x193 : Int, ∃ x194 : Int, ∃ s195 : ByteArray, ∃ x196 : Int, ∃ x197 : Int, ∃ x198 : Int, ∃ x199 : Int, ∃ s200 : ByteArray, ∃ x201 : Int, ∃ x202 : Int, ∃ x203 : Int, ∃ x204 : Int, ∃ s205 : ByteArray, ∃ x206 : Int, ∃ x207 : Int, ∃ x208 : Int, HV Tryz.prog (Instr.loadAt 83 (.pointer (some a70))) h148 (.agg #[(.int .i64 x169), (.string s170), (.int .u32 x171), (.int .i64 x172), (.int .i64 x173), (.int .i64 x174), (.string s175), (.int .u32 x176), (.int .i64 x177), (.int .i64 x178), (.int .i64 x179), (.string s180), (.int .u32 x181), (.int .i64 x182), (.int .i64 x183), (.int .i64 x184), (.string s185), (.int .u32 x186), (.int .i64 x187), (.int .i64 x188), (.int .i64 x189), (.string s190), (.int .u32 x191), (.int .i64 x192), (.int .i64 x193), (.int .i64 x194), (.string s195), (.int .u32 x196), (.int .i64 x197), (.int .i64 x198), (.int .i64 x199), (.string s200), (.int .u32 x201), (.int .i64 x202), (.int .i64 x203), (.int .i64 x204), (.string s205), (.int .u32 x206), (.int .i64 x207), (.int .i64 x208)]) ∧ K (.tuple #[(.agg #[(.int .i64 x149), (.int .i64 x150), (.int .i64 x151), (.int .i64 x152), (.int .u32 x153), (.int .i64 x154), (.int .u32 x155), (.int .i64 x156), (.int .u16 x157), (.int .u16 x158), (.int .u16 x159), (.int .u16 x160), (.int .u8 x161), (.int .u8 x162), (.int .i64 x163), (.int .u32 x164), (.int .u32 x165), (.int .u16 x166), (.int .u16 x167), (.int .u8 x168)]), (.agg #[(.int .i64 x169), (.string s170), (.int .u32 x171), (.int .i64 x172), (.int .i64 x173), (.int .i64 x174), (.string s175), (.int .u32 x176), (.int .i64 x177), (.int .i64 x178), (.int .i64 x179), (.string s180), (.int .u32 x181), (.int .i64 x182), (.int .i64 x183), (.int .i64 x184), (.string s185), (.int .u32 x186), (.int .i64 x187), (.int .i64 x188), (.int .i64 x189), (.string s190), (.int .u32 x191), (.int .i64 x192), (.int .i64 x193), (.int .i64 x194), (.string s195), (.int .u32 x196), (.int .i64 x197), (.int .i64 x198), (.int .i64 x199), (.string s200), (.int .u32 x201), (.int .i64 x202), (.int .i64 x203), (.int .i64 x204), (.string s205), (.int .u32 x206), (.int .i64 x207), (.int .i64 x208)])]) h148) KP)
  (br (x79 == 1)
  (CallsP Tryz.prog 54 #[(.pointer p68)] h78 (fun r210 h209 =>
  ∃ x211 : Int, r210 = (.int .i64 x211) ∧ 
  HU Tryz.prog (Instr.storeAt 3 (.pointer (some (a71.add 1))) (.int .i64 x211)) h209 fun h212 => 
  CallsP Tryz.prog 23 #[(.pointer p68)] h212 (fun r214 h213 =>
  ∃ x215 : Int, ∃ x216 : Int, ∃ x217 : Int, ∃ x218 : Int, ∃ x219 : Int, ∃ x220 : Int, ∃ x221 : Int, ∃ x222 : Int, ∃ x223 : Int, ∃ x224 : Int, ∃ x225 : Int, ∃ x226 : Int, ∃ x227 : Int, ∃ s228 : ByteArray, ∃ x229 : Int, ∃ x230 : Int, ∃ x231 : Int, ∃ x232 : Int, ∃ s233 : ByteArray, ∃ x234 : Int, ∃ x235 : Int, ∃ x236 : Int, ∃ x237 : Int, ∃ s238 : ByteArray, ∃ x239 : Int, ∃ x240 : Int, ∃ x241 : Int, ∃ x242 : Int, ∃ s243 : ByteArray, ∃ x244 : Int, ∃ x245 : Int, ∃ x246 : Int, ∃ x247 : Int, ∃ s248 : ByteArray, ∃ x249 : Int, ∃ x250 : Int, ∃ x251 : Int, ∃ x252 : Int, ∃ s253 : ByteArray, ∃ x254 : Int, ∃ x255 : Int, ∃ x256 : Int, ∃ x257 : Int, ∃ s258 : ByteArray, ∃ x259 : Int, ∃ x260 : Int, ∃ x261 : Int, ∃ x262 : Int, ∃ s263 : ByteArray, ∃ x264 : Int, ∃ x265 : Int, ∃ x266 : Int, r214 = (.tuple #[(.agg #[(.int .i64 x215), (.int .u32 x216), (.int .i64 x217), (.int .u32 x218), (.int .i64 x219), (.int .u16 x220), (.int .u16 x221), (.int .u16 x222), (.int .u16 x223), (.int .u8 x224), (.int .u8 x225), (.int .i64 x226)]), (.agg #[(.int .i64 x227), (.string s228), (.int .u32 x229), (.int .i64 x230), (.int .i64 x231), (.int .i64 x232), (.string s233), (.int .u32 x234), (.int .i64 x235), (.int .i64 x236), (.int .i64 x237), (.string s238), (.int .u32 x239), (.int .i64 x240), (.int .i64 x241), (.int .i64 x242), (.string s243), (.int .u32 x244), (.int .i64 x245), (.int .i64 x246), (.int .i64 x247), (.string s248), (.int .u32 x249), (.int .i64 x250), (.int .i64 x251), (.int .i64 x252), (.string s253), (.int .u32 x254), (.int .i64 x255), (.int .i64 x256), (.int .i64 x257), (.string s258), (.int .u32 x259), (.int .i64 x260), (.int .i64 x261), (.int .i64 x262), (.string s263), (.int .u32 x264), (.int .i64 x265), (.int .i64 x266)])]) ∧ 
  HU Tryz.prog (Instr.storeAt 75 (.pointer (some (a71.add 3))) (.agg #[(.int .i64 x215), (.int .u32 x216), (.int .i64 x217), (.int .u32 x218), (.int .i64 x219), (.int .u16 x220), (.int .u16 x221), (.int .u16 x222), (.int .u16 x223), (.int .u8 x224), (.int .u8 x225), (.int .i64 x226)])) h213 fun h267 => 
  HU Tryz.prog (Instr.storeAt 83 (.pointer (some a72)) (.agg #[(.int .i64 x227), (.string s228), (.int .u32 x229), (.int .i64 x230), (.int .i64 x231), (.int .i64 x232), (.string s233), (.int .u32 x234), (.int .i64 x235), (.int .i64 x236), (.int .i64 x237), (.string s238), (.int .u32 x239), (.int .i64 x240), (.int .i64 x241), (.int .i64 x242), (.string s243), (.int .u32 x244), (.int .i64 x245), (.int .i64 x246), (.int .i64 x247), (.string s248), (.int .u32 x249), (.int .i64 x250), (.int .i64 x251), (.int .i64 x252), (.string s253), (.int .u32 x254), (.int .i64 x255), (.int .i64 x256), (.int .i64 x257), (.string s258), (.int .u32 x259), (.int .i64 x260), (.int .i64 x261), (.int .i64 x262), (.string s263), (.int .u32 x264), (.int .i64 x265), (.int .i64 x266)])) h267 fun h268 => 
  ∃ x269 : Int, ∃ x270 : Int, ∃ x271 : Int, ∃ x272 : Int, ∃ x273 : Int, ∃ x274 : Int, ∃ x275 : Int, ∃ x276 : Int, ∃ x277 : Int, ∃ x278 : Int, ∃ x279 : Int, ∃ x280 : Int, ∃ x281 : Int, ∃ x282 : Int, ∃ x283 : Int, ∃ x284 : Int, ∃ x285 : Int, ∃ x286 : Int, ∃ x287 : Int, ∃ x288 : Int, HV Tryz.prog (Instr.loadAt 77 (.pointer (some a71))) h268 (.agg #[(.int .i64 x269), (.int .i64 x270), (.int .i64 x271), (.int .i64 x272), (.int .u32 x273), (.int .i64 x274), (.int .u32 x275), (.int .i64 x276), (.int .u16 x277), (.int .u16 x278), (.int .u16 x279), (.int .u16 x280), (.int .u8 x281), (.int .u8 x282), (.int .i64 x283), (.int .u32 x284), (.int .u32 x285), (.int .u16 x286), (.int .u16 x287), (.int .u8 x288)]) ∧ 
  ∃ x289 : Int, ∃ s290 : ByteArray, ∃ x291 : Int, ∃ x292 : Int, ∃ x293 : Int, ∃ x294 : Int, ∃ s295 : ByteArray, ∃ x296 : Int, ∃ x297 : Int, ∃ x298 : Int, ∃ x299 : Int, ∃ s300 : ByteArray, ∃ x301 : Int, ∃ x302 : Int, ∃ x303 : Int, ∃ x304 : Int, ∃ s305 : ByteArray, ∃ x306 : Int, ∃ x307 : Int, ∃ x308 : Int, ∃ x309 : Int, ∃ s310 : ByteArray, ∃ x311 : Int, ∃ x312 : Int, ∃ x313 : Int, ∃ x314 : Int, ∃ s315 : ByteArray, ∃ x316 : Int, ∃ x317 : Int, ∃ x318 : Int, ∃ x319 : Int, ∃ s320 : ByteArray, ∃ x321 : Int, ∃ x322 : Int, ∃ x323 : Int, ∃ x324 : Int, ∃ s325 : ByteArray, ∃ x326 : Int, ∃ x327 : Int, ∃ x328 : Int, HV Tryz.prog (Instr.loadAt 83 (.pointer (some a72))) h268 (.agg #[(.int .i64 x289), (.string s290), (.int .u32 x291), (.int .i64 x292), (.int .i64 x293), (.int .i64 x294), (.string s295), (.int .u32 x296), (.int .i64 x297), (.int .i64 x298), (.int .i64 x299), (.string s300), (.int .u32 x301), (.int .i64 x302), (.int .i64 x303), (.int .i64 x304), (.string s305), (.int .u32 x306), (.int .i64 x307), (.int .i64 x308), (.int .i64 x309), (.string s310), (.int .u32 x311), (.int .i64 x312), (.int .i64 x313), (.int .i64 x314), (.string s315), (.int .u32 x316), (.int .i64 x317), (.int .i64 x318), (.int .i64 x319), (.string s320), (.int .u32 x321), (.int .i64 x322), (.int .i64 x323), (.int .i64 x324), (.string s325), (.int .u32 x326), (.int .i64 x327), (.int .i64 x328)]) ∧ 
  HU Tryz.prog (Instr.storeAt 77 (.pointer (some a69)) (.agg #[(.int .i64 x269), (.int .i64 x270), (.int .i64 x271), (.int .i64 x272), (.int .u32 x273), (.int .i64 x274), (.int .u32 x275), (.int .i64 x276), (.int .u16 x277), (.int .u16 x278), (.int .u16 x279), (.int .u16 x280), (.int .u8 x281), (.int .u8 x282), (.int .i64 x283), (.int .u32 x284), (.int .u32 x285), (.int .u16 x286), (.int .u16 x287), (.int .u8 x288)])) h268 fun h329 => HV Tryz.prog (Instr.loadAt 83 (.pointer (some a72))) h329 (.agg #[(.int .i64 x289), (.string s290), (.int .u32 x291), (.int .i64 x292), (.int .i64 x293), (.int .i64 x294), (.string s295), (.int .u32 x296), (.int .i64 x297), (.int .i64 x298), (.int .i64 x299), (.string s300), (.int .u32 x301), (.int .i64 x302), (.int .i64 x303), (.int .i64 x304), (.string s305), (.int .u32 x306), (.int .i64 x307), (.int .i64 x308), (.int .i64 x309), (.string s310), (.int .u32 x311), (.int .i64 x312), (.int .i64 x313), (.int .i64 x314), (.string s315), (.int .u32 x316), (.int .i64 x317), (.int .i64 x318), (.int .i64 x319), (.string s320), (.int .u32 x321), (.int .i64 x322), (.int .i64 x323), (.int .i64 x324), (.string s325), (.int .u32 x326), (.int .i64 x327), (.int .i64 x328)]) ∧ 
  HU Tryz.prog (Instr.storeAt 83 (.pointer (some a70)) (.agg #[(.int .i64 x289), (.string s290), (.int .u32 x291), (.int .i64 x292), (.int .i64 x293), (.int .i64 x294), (.string s295), (.int .u32 x296), (.int .i64 x297), (.int .i64 x298), (.int .i64 x299), (.string s300), (.int .u32 x301), (.int .i64 x302), (.int .i64 x303), (.int .i64 x304), (.string s305), (.int .u32 x306), (.int .i64 x307), (.int .i64 x308), (.int .i64 x309), (.string s310), (.int .u32 x311), (.int .i64 x312), (.int .i64 x313), (.int .i64 x314), (.string s315), (.int .u32 x316), (.int .i64 x317), (.int .i64 x318), (.int .i64 x319), (.string s320), (.int .u32 x321), (.int .i64 x322), (.int .i64 x323), (.int .i64 x324), (.string s325), (.int .u32 x326), (.int .i64 x327), (.int .i64 x328)])) h329 fun h330 => 
  ∃ x331 : Int, ∃ x332 : Int, ∃ x333 : Int, ∃ x334 : Int, ∃ x335 : Int, ∃ x336 : Int, ∃ x337 : Int, ∃ x338 : Int, ∃ x339 : Int, ∃ x340 : Int, ∃ x341 : Int, ∃ x342 : Int, ∃ x343 : Int, ∃ x344 : Int, ∃ x345 : Int, ∃ x346 : Int, ∃ x347 : Int, ∃ x348 : Int, ∃ x349 : Int, ∃ x350 : Int, HV Tryz.prog (Instr.loadAt 77 (.pointer (some a69))) h330 (.agg #[(.int .i64 x331), (.int .i64 x332), (.int .i64 x333), (.int .i64 x334), (.int .u32 x335), (.int .i64 x336), (.int .u32 x337), (.int .i64 x338), (.int .u16 x339), (.int .u16 x340), (.int .u16 x341), (.int .u16 x342), (.int .u8 x343), (.int .u8 x344), (.int .i64 x345), (.int .u32 x346), (.int .u32 x347), (.int .u16 x348), (.int .u16 x349), (.int .u8 x350)]) ∧ ∃ x351 : Int, ∃ s352 : ByteArray, ∃ x353 : Int, ∃ x354 : Int, ∃ x355 : Int, ∃ x356 : Int, ∃ s357 : ByteArray, ∃ x358 : Int, ∃ x359 : Int, ∃ x360 : Int, ∃ x361 : Int, ∃ s362 : ByteArray, ∃ x363 : Int, ∃ x364 : Int, ∃ x365 : Int, ∃ x366 : Int, ∃ s367 : ByteArray, ∃ x368 : Int, ∃ x369 : Int, ∃ x370 : Int, ∃ x371 : Int, ∃ s372 : ByteArray, ∃ x373 : Int, ∃ x374 : Int, ∃ x375 : Int, ∃ x376 : Int, ∃ s377 : ByteArray, ∃ x378 : Int, ∃ x379 : Int, ∃ x380 : Int, ∃ x381 : Int, ∃ s382 : ByteArray, ∃ x383 : Int, ∃ x384 : Int, ∃ x385 : Int, ∃ x386 : Int, ∃ s387 : ByteArray, ∃ x388 : Int, ∃ x389 : Int, ∃ x390 : Int, HV Tryz.prog (Instr.loadAt 83 (.pointer (some a70))) h330 (.agg #[(.int .i64 x351), (.string s352), (.int .u32 x353), (.int .i64 x354), (.int .i64 x355), (.int .i64 x356), (.string s357), (.int .u32 x358), (.int .i64 x359), (.int .i64 x360), (.int .i64 x361), (.string s362), (.int .u32 x363), (.int .i64 x364), (.int .i64 x365), (.int .i64 x366), (.string s367), (.int .u32 x368), (.int .i64 x369), (.int .i64 x370), (.int .i64 x371), (.string s372), (.int .u32 x373), (.int .i64 x374), (.int .i64 x375), (.int .i64 x376), (.string s377), (.int .u32 x378), (.int .i64 x379), (.int .i64 x380), (.int .i64 x381), (.string s382), (.int .u32 x383), (.int .i64 x384), (.int .i64 x385), (.int .i64 x386), (.string s387), (.int .u32 x388), (.int .i64 x389), (.int .i64 x390)]) ∧ K (.tuple #[(.agg #[(.int .i64 x331), (.int .i64 x332), (.int .i64 x333), (.int .i64 x334), (.int .u32 x335), (.int .i64 x336), (.int .u32 x337), (.int .i64 x338), (.int .u16 x339), (.int .u16 x340), (.int .u16 x341), (.int .u16 x342), (.int .u8 x343), (.int .u8 x344), (.int .i64 x345), (.int .u32 x346), (.int .u32 x347), (.int .u16 x348), (.int .u16 x349), (.int .u8 x350)]), (.agg #[(.int .i64 x351), (.string s352), (.int .u32 x353), (.int .i64 x354), (.int .i64 x355), (.int .i64 x356), (.string s357), (.int .u32 x358), (.int .i64 x359), (.int .i64 x360), (.int .i64 x361), (.string s362), (.int .u32 x363), (.int .i64 x364), (.int .i64 x365), (.int .i64 x366), (.string s367), (.int .u32 x368), (.int .i64 x369), (.int .i64 x370), (.int .i64 x371), (.string s372), (.int .u32 x373), (.int .i64 x374), (.int .i64 x375), (.int .i64 x376), (.string s377), (.int .u32 x378), (.int .i64 x379), (.int .i64 x380), (.int .i64 x381), (.string s382), (.int .u32 x383), (.int .i64 x384), (.int .i64 x385), (.int .i64 x386), (.string s387), (.int .u32 x388), (.int .i64 x389), (.int .i64 x390)])]) h330) KP) KP)
  (br (x79 == 2)
  (CallsP Tryz.prog 54 #[(.pointer p68)] h78 (fun r392 h391 =>
  ∃ x393 : Int, r392 = (.int .i64 x393) ∧ 
  HU Tryz.prog (Instr.storeAt 3 (.pointer (some (a71.add 2))) (.int .i64 x393)) h391 fun h394 => 
  ∃ x395 : Int, ∃ x396 : Int, ∃ x397 : Int, ∃ x398 : Int, ∃ x399 : Int, ∃ x400 : Int, ∃ x401 : Int, ∃ x402 : Int, ∃ x403 : Int, ∃ x404 : Int, ∃ x405 : Int, ∃ x406 : Int, ∃ x407 : Int, ∃ x408 : Int, ∃ x409 : Int, ∃ x410 : Int, ∃ x411 : Int, ∃ x412 : Int, ∃ x413 : Int, ∃ x414 : Int, HV Tryz.prog (Instr.loadAt 77 (.pointer (some a71))) h394 (.agg #[(.int .i64 x395), (.int .i64 x396), (.int .i64 x397), (.int .i64 x398), (.int .u32 x399), (.int .i64 x400), (.int .u32 x401), (.int .i64 x402), (.int .u16 x403), (.int .u16 x404), (.int .u16 x405), (.int .u16 x406), (.int .u8 x407), (.int .u8 x408), (.int .i64 x409), (.int .u32 x410), (.int .u32 x411), (.int .u16 x412), (.int .u16 x413), (.int .u8 x414)]) ∧ 
  ∃ x415 : Int, ∃ s416 : ByteArray, ∃ x417 : Int, ∃ x418 : Int, ∃ x419 : Int, ∃ x420 : Int, ∃ s421 : ByteArray, ∃ x422 : Int, ∃ x423 : Int, ∃ x424 : Int, ∃ x425 : Int, ∃ s426 : ByteArray, ∃ x427 : Int, ∃ x428 : Int, ∃ x429 : Int, ∃ x430 : Int, ∃ s431 : ByteArray, ∃ x432 : Int, ∃ x433 : Int, ∃ x434 : Int, ∃ x435 : Int, ∃ s436 : ByteArray, ∃ x437 : Int, ∃ x438 : Int, ∃ x439 : Int, ∃ x440 : Int, ∃ s441 : ByteArray, ∃ x442 : Int, ∃ x443 : Int, ∃ x444 : Int, ∃ x445 : Int, ∃ s446 : ByteArray, ∃ x447 : Int, ∃ x448 : Int, ∃ x449 : Int, ∃ x450 : Int, ∃ s451 : ByteArray, ∃ x452 : Int, ∃ x453 : Int, ∃ x454 : Int, HV Tryz.prog (Instr.loadAt 83 (.pointer (some a72))) h394 (.agg #[(.int .i64 x415), (.string s416), (.int .u32 x417), (.int .i64 x418), (.int .i64 x419), (.int .i64 x420), (.string s421), (.int .u32 x422), (.int .i64 x423), (.int .i64 x424), (.int .i64 x425), (.string s426), (.int .u32 x427), (.int .i64 x428), (.int .i64 x429), (.int .i64 x430), (.string s431), (.int .u32 x432), (.int .i64 x433), (.int .i64 x434), (.int .i64 x435), (.string s436), (.int .u32 x437), (.int .i64 x438), (.int .i64 x439), (.int .i64 x440), (.string s441), (.int .u32 x442), (.int .i64 x443), (.int .i64 x444), (.int .i64 x445), (.string s446), (.int .u32 x447), (.int .i64 x448), (.int .i64 x449), (.int .i64 x450), (.string s451), (.int .u32 x452), (.int .i64 x453), (.int .i64 x454)]) ∧ 
  HU Tryz.prog (Instr.storeAt 77 (.pointer (some a69)) (.agg #[(.int .i64 x395), (.int .i64 x396), (.int .i64 x397), (.int .i64 x398), (.int .u32 x399), (.int .i64 x400), (.int .u32 x401), (.int .i64 x402), (.int .u16 x403), (.int .u16 x404), (.int .u16 x405), (.int .u16 x406), (.int .u8 x407), (.int .u8 x408), (.int .i64 x409), (.int .u32 x410), (.int .u32 x411), (.int .u16 x412), (.int .u16 x413), (.int .u8 x414)])) h394 fun h455 => HV Tryz.prog (Instr.loadAt 83 (.pointer (some a72))) h455 (.agg #[(.int .i64 x415), (.string s416), (.int .u32 x417), (.int .i64 x418), (.int .i64 x419), (.int .i64 x420), (.string s421), (.int .u32 x422), (.int .i64 x423), (.int .i64 x424), (.int .i64 x425), (.string s426), (.int .u32 x427), (.int .i64 x428), (.int .i64 x429), (.int .i64 x430), (.string s431), (.int .u32 x432), (.int .i64 x433), (.int .i64 x434), (.int .i64 x435), (.string s436), (.int .u32 x437), (.int .i64 x438), (.int .i64 x439), (.int .i64 x440), (.string s441), (.int .u32 x442), (.int .i64 x443), (.int .i64 x444), (.int .i64 x445), (.string s446), (.int .u32 x447), (.int .i64 x448), (.int .i64 x449), (.int .i64 x450), (.string s451), (.int .u32 x452), (.int .i64 x453), (.int .i64 x454)]) ∧ 
  HU Tryz.prog (Instr.storeAt 83 (.pointer (some a70)) (.agg #[(.int .i64 x415), (.string s416), (.int .u32 x417), (.int .i64 x418), (.int .i64 x419), (.int .i64 x420), (.string s421), (.int .u32 x422), (.int .i64 x423), (.int .i64 x424), (.int .i64 x425), (.string s426), (.int .u32 x427), (.int .i64 x428), (.int .i64 x429), (.int .i64 x430), (.string s431), (.int .u32 x432), (.int .i64 x433), (.int .i64 x434), (.int .i64 x435), (.string s436), (.int .u32 x437), (.int .i64 x438), (.int .i64 x439), (.int .i64 x440), (.string s441), (.int .u32 x442), (.int .i64 x443), (.int .i64 x444), (.int .i64 x445), (.string s446), (.int .u32 x447), (.int .i64 x448), (.int .i64 x449), (.int .i64 x450), (.string s451), (.int .u32 x452), (.int .i64 x453), (.int .i64 x454)])) h455 fun h456 => 
  ∃ x457 : Int, ∃ x458 : Int, ∃ x459 : Int, ∃ x460 : Int, ∃ x461 : Int, ∃ x462 : Int, ∃ x463 : Int, ∃ x464 : Int, ∃ x465 : Int, ∃ x466 : Int, ∃ x467 : Int, ∃ x468 : Int, ∃ x469 : Int, ∃ x470 : Int, ∃ x471 : Int, ∃ x472 : Int, ∃ x473 : Int, ∃ x474 : Int, ∃ x475 : Int, ∃ x476 : Int, HV Tryz.prog (Instr.loadAt 77 (.pointer (some a69))) h456 (.agg #[(.int .i64 x457), (.int .i64 x458), (.int .i64 x459), (.int .i64 x460), (.int .u32 x461), (.int .i64 x462), (.int .u32 x463), (.int .i64 x464), (.int .u16 x465), (.int .u16 x466), (.int .u16 x467), (.int .u16 x468), (.int .u8 x469), (.int .u8 x470), (.int .i64 x471), (.int .u32 x472), (.int .u32 x473), (.int .u16 x474), (.int .u16 x475), (.int .u8 x476)]) ∧ ∃ x477 : Int, ∃ s478 : ByteArray, ∃ x479 : Int, ∃ x480 : Int, ∃ x481 : Int, ∃ x482 : Int, ∃ s483 : ByteArray, ∃ x484 : Int, ∃ x485 : Int, ∃ x486 : Int, ∃ x487 : Int, ∃ s488 : ByteArray, ∃ x489 : Int, ∃ x490 : Int, ∃ x491 : Int, ∃ x492 : Int, ∃ s493 : ByteArray, ∃ x494 : Int, ∃ x495 : Int, ∃ x496 : Int, ∃ x497 : Int, ∃ s498 : ByteArray, ∃ x499 : Int, ∃ x500 : Int, ∃ x501 : Int, ∃ x502 : Int, ∃ s503 : ByteArray, ∃ x504 : Int, ∃ x505 : Int, ∃ x506 : Int, ∃ x507 : Int, ∃ s508 : ByteArray, ∃ x509 : Int, ∃ x510 : Int, ∃ x511 : Int, ∃ x512 : Int, ∃ s513 : ByteArray, ∃ x514 : Int, ∃ x515 : Int, ∃ x516 : Int, HV Tryz.prog (Instr.loadAt 83 (.pointer (some a70))) h456 (.agg #[(.int .i64 x477), (.string s478), (.int .u32 x479), (.int .i64 x480), (.int .i64 x481), (.int .i64 x482), (.string s483), (.int .u32 x484), (.int .i64 x485), (.int .i64 x486), (.int .i64 x487), (.string s488), (.int .u32 x489), (.int .i64 x490), (.int .i64 x491), (.int .i64 x492), (.string s493), (.int .u32 x494), (.int .i64 x495), (.int .i64 x496), (.int .i64 x497), (.string s498), (.int .u32 x499), (.int .i64 x500), (.int .i64 x501), (.int .i64 x502), (.string s503), (.int .u32 x504), (.int .i64 x505), (.int .i64 x506), (.int .i64 x507), (.string s508), (.int .u32 x509), (.int .i64 x510), (.int .i64 x511), (.int .i64 x512), (.string s513), (.int .u32 x514), (.int .i64 x515), (.int .i64 x516)]) ∧ K (.tuple #[(.agg #[(.int .i64 x457), (.int .i64 x458), (.int .i64 x459), (.int .i64 x460), (.int .u32 x461), (.int .i64 x462), (.int .u32 x463), (.int .i64 x464), (.int .u16 x465), (.int .u16 x466), (.int .u16 x467), (.int .u16 x468), (.int .u8 x469), (.int .u8 x470), (.int .i64 x471), (.int .u32 x472), (.int .u32 x473), (.int .u16 x474), (.int .u16 x475), (.int .u8 x476)]), (.agg #[(.int .i64 x477), (.string s478), (.int .u32 x479), (.int .i64 x480), (.int .i64 x481), (.int .i64 x482), (.string s483), (.int .u32 x484), (.int .i64 x485), (.int .i64 x486), (.int .i64 x487), (.string s488), (.int .u32 x489), (.int .i64 x490), (.int .i64 x491), (.int .i64 x492), (.string s493), (.int .u32 x494), (.int .i64 x495), (.int .i64 x496), (.int .i64 x497), (.string s498), (.int .u32 x499), (.int .i64 x500), (.int .i64 x501), (.int .i64 x502), (.string s503), (.int .u32 x504), (.int .i64 x505), (.int .i64 x506), (.int .i64 x507), (.string s508), (.int .u32 x509), (.int .i64 x510), (.int .i64 x511), (.int .i64 x512), (.string s513), (.int .u32 x514), (.int .i64 x515), (.int .i64 x516)])]) h456) KP)
  (br (x79 == 3)
  (CallsP Tryz.prog 54 #[(.pointer p68)] h78 (fun r518 h517 =>
  ∃ x519 : Int, r518 = (.int .i64 x519) ∧ 
  HU Tryz.prog (Instr.storeAt 3 (.pointer (some (a71.add 2))) (.int .i64 x519)) h517 fun h520 => 
  CallsP Tryz.prog 54 #[(.pointer p68)] h520 (fun r522 h521 =>
  ∃ x523 : Int, r522 = (.int .i64 x523) ∧ 
  HU Tryz.prog (Instr.storeAt 3 (.pointer (some (a71.add 1))) (.int .i64 x523)) h521 fun h524 => 
  ∃ x525 : Int, ∃ x526 : Int, ∃ x527 : Int, ∃ x528 : Int, ∃ x529 : Int, ∃ x530 : Int, ∃ x531 : Int, ∃ x532 : Int, ∃ x533 : Int, ∃ x534 : Int, ∃ x535 : Int, ∃ x536 : Int, ∃ x537 : Int, ∃ x538 : Int, ∃ x539 : Int, ∃ x540 : Int, ∃ x541 : Int, ∃ x542 : Int, ∃ x543 : Int, ∃ x544 : Int, HV Tryz.prog (Instr.loadAt 77 (.pointer (some a71))) h524 (.agg #[(.int .i64 x525), (.int .i64 x526), (.int .i64 x527), (.int .i64 x528), (.int .u32 x529), (.int .i64 x530), (.int .u32 x531), (.int .i64 x532), (.int .u16 x533), (.int .u16 x534), (.int .u16 x535), (.int .u16 x536), (.int .u8 x537), (.int .u8 x538), (.int .i64 x539), (.int .u32 x540), (.int .u32 x541), (.int .u16 x542), (.int .u16 x543), (.int .u8 x544)]) ∧ 
  ∃ x545 : Int, ∃ s546 : ByteArray, ∃ x547 : Int, ∃ x548 : Int, ∃ x549 : Int, ∃ x550 : Int, ∃ s551 : ByteArray, ∃ x552 : Int, ∃ x553 : Int, ∃ x554 : Int, ∃ x555 : Int, ∃ s556 : ByteArray, ∃ x557 : Int, ∃ x558 : Int, ∃ x559 : Int, ∃ x560 : Int, ∃ s561 : ByteArray, ∃ x562 : Int, ∃ x563 : Int, ∃ x564 : Int, ∃ x565 : Int, ∃ s566 : ByteArray, ∃ x567 : Int, ∃ x568 : Int, ∃ x569 : Int, ∃ x570 : Int, ∃ s571 : ByteArray, ∃ x572 : Int, ∃ x573 : Int, ∃ x574 : Int, ∃ x575 : Int, ∃ s576 : ByteArray, ∃ x577 : Int, ∃ x578 : Int, ∃ x579 : Int, ∃ x580 : Int, ∃ s581 : ByteArray, ∃ x582 : Int, ∃ x583 : Int, ∃ x584 : Int, HV Tryz.prog (Instr.loadAt 83 (.pointer (some a72))) h524 (.agg #[(.int .i64 x545), (.string s546), (.int .u32 x547), (.int .i64 x548), (.int .i64 x549), (.int .i64 x550), (.string s551), (.int .u32 x552), (.int .i64 x553), (.int .i64 x554), (.int .i64 x555), (.string s556), (.int .u32 x557), (.int .i64 x558), (.int .i64 x559), (.int .i64 x560), (.string s561), (.int .u32 x562), (.int .i64 x563), (.int .i64 x564), (.int .i64 x565), (.string s566), (.int .u32 x567), (.int .i64 x568), (.int .i64 x569), (.int .i64 x570), (.string s571), (.int .u32 x572), (.int .i64 x573), (.int .i64 x574), (.int .i64 x575), (.string s576), (.int .u32 x577), (.int .i64 x578), (.int .i64 x579), (.int .i64 x580), (.string s581), (.int .u32 x582), (.int .i64 x583), (.int .i64 x584)]) ∧ 
  HU Tryz.prog (Instr.storeAt 77 (.pointer (some a69)) (.agg #[(.int .i64 x525), (.int .i64 x526), (.int .i64 x527), (.int .i64 x528), (.int .u32 x529), (.int .i64 x530), (.int .u32 x531), (.int .i64 x532), (.int .u16 x533), (.int .u16 x534), (.int .u16 x535), (.int .u16 x536), (.int .u8 x537), (.int .u8 x538), (.int .i64 x539), (.int .u32 x540), (.int .u32 x541), (.int .u16 x542), (.int .u16 x543), (.int .u8 x544)])) h524 fun h585 => HV Tryz.prog (Instr.loadAt 83 (.pointer (some a72))) h585 (.agg #[(.int .i64 x545), (.string s546), (.int .u32 x547), (.int .i64 x548), (.int .i64 x549), (.int .i64 x550), (.string s551), (.int .u32 x552), (.int .i64 x553), (.int .i64 x554), (.int .i64 x555), (.string s556), (.int .u32 x557), (.int .i64 x558), (.int .i64 x559), (.int .i64 x560), (.string s561), (.int .u32 x562), (.int .i64 x563), (.int .i64 x564), (.int .i64 x565), (.string s566), (.int .u32 x567), (.int .i64 x568), (.int .i64 x569), (.int .i64 x570), (.string s571), (.int .u32 x572), (.int .i64 x573), (.int .i64 x574), (.int .i64 x575), (.string s576), (.int .u32 x577), (.int .i64 x578), (.int .i64 x579), (.int .i64 x580), (.string s581), (.int .u32 x582), (.int .i64 x583), (.int .i64 x584)]) ∧ 
  HU Tryz.prog (Instr.storeAt 83 (.pointer (some a70)) (.agg #[(.int .i64 x545), (.string s546), (.int .u32 x547), (.int .i64 x548), (.int .i64 x549), (.int .i64 x550), (.string s551), (.int .u32 x552), (.int .i64 x553), (.int .i64 x554), (.int .i64 x555), (.string s556), (.int .u32 x557), (.int .i64 x558), (.int .i64 x559), (.int .i64 x560), (.string s561), (.int .u32 x562), (.int .i64 x563), (.int .i64 x564), (.int .i64 x565), (.string s566), (.int .u32 x567), (.int .i64 x568), (.int .i64 x569), (.int .i64 x570), (.string s571), (.int .u32 x572), (.int .i64 x573), (.int .i64 x574), (.int .i64 x575), (.string s576), (.int .u32 x577), (.int .i64 x578), (.int .i64 x579), (.int .i64 x580), (.string s581), (.int .u32 x582), (.int .i64 x583), (.int .i64 x584)])) h585 fun h586 => 
  ∃ x587 : Int, ∃ x588 : Int, ∃ x589 : Int, ∃ x590 : Int, ∃ x591 : Int, ∃ x592 : Int, ∃ x593 : Int, ∃ x594 : Int, ∃ x595 : Int, ∃ x596 : Int, ∃ x597 : Int, ∃ x598 : Int, ∃ x599 : Int, ∃ x600 : Int, ∃ x601 : Int, ∃ x602 : Int, ∃ x603 : Int, ∃ x604 : Int, ∃ x605 : Int, ∃ x606 : Int, HV Tryz.prog (Instr.loadAt 77 (.pointer (some a69))) h586 (.agg #[(.int .i64 x587), (.int .i64 x588), (.int .i64 x589), (.int .i64 x590), (.int .u32 x591), (.int .i64 x592), (.int .u32 x593), (.int .i64 x594), (.int .u16 x595), (.int .u16 x596), (.int .u16 x597), (.int .u16 x598), (.int .u8 x599), (.int .u8 x600), (.int .i64 x601), (.int .u32 x602), (.int .u32 x603), (.int .u16 x604), (.int .u16 x605), (.int .u8 x606)]) ∧ ∃ x607 : Int, ∃ s608 : ByteArray, ∃ x609 : Int, ∃ x610 : Int, ∃ x611 : Int, ∃ x612 : Int, ∃ s613 : ByteArray, ∃ x614 : Int, ∃ x615 : Int, ∃ x616 : Int, ∃ x617 : Int, ∃ s618 : ByteArray, ∃ x619 : Int, ∃ x620 : Int, ∃ x621 : Int, ∃ x622 : Int, ∃ s623 : ByteArray, ∃ x624 : Int, ∃ x625 : Int, ∃ x626 : Int, ∃ x627 : Int, ∃ s628 : ByteArray, ∃ x629 : Int, ∃ x630 : Int, ∃ x631 : Int, ∃ x632 : Int, ∃ s633 : ByteArray, ∃ x634 : Int, ∃ x635 : Int, ∃ x636 : Int, ∃ x637 : Int, ∃ s638 : ByteArray, ∃ x639 : Int, ∃ x640 : Int, ∃ x641 : Int, ∃ x642 : Int, ∃ s643 : ByteArray, ∃ x644 : Int, ∃ x645 : Int, ∃ x646 : Int, HV Tryz.prog (Instr.loadAt 83 (.pointer (some a70))) h586 (.agg #[(.int .i64 x607), (.string s608), (.int .u32 x609), (.int .i64 x610), (.int .i64 x611), (.int .i64 x612), (.string s613), (.int .u32 x614), (.int .i64 x615), (.int .i64 x616), (.int .i64 x617), (.string s618), (.int .u32 x619), (.int .i64 x620), (.int .i64 x621), (.int .i64 x622), (.string s623), (.int .u32 x624), (.int .i64 x625), (.int .i64 x626), (.int .i64 x627), (.string s628), (.int .u32 x629), (.int .i64 x630), (.int .i64 x631), (.int .i64 x632), (.string s633), (.int .u32 x634), (.int .i64 x635), (.int .i64 x636), (.int .i64 x637), (.string s638), (.int .u32 x639), (.int .i64 x640), (.int .i64 x641), (.int .i64 x642), (.string s643), (.int .u32 x644), (.int .i64 x645), (.int .i64 x646)]) ∧ K (.tuple #[(.agg #[(.int .i64 x587), (.int .i64 x588), (.int .i64 x589), (.int .i64 x590), (.int .u32 x591), (.int .i64 x592), (.int .u32 x593), (.int .i64 x594), (.int .u16 x595), (.int .u16 x596), (.int .u16 x597), (.int .u16 x598), (.int .u8 x599), (.int .u8 x600), (.int .i64 x601), (.int .u32 x602), (.int .u32 x603), (.int .u16 x604), (.int .u16 x605), (.int .u8 x606)]), (.agg #[(.int .i64 x607), (.string s608), (.int .u32 x609), (.int .i64 x610), (.int .i64 x611), (.int .i64 x612), (.string s613), (.int .u32 x614), (.int .i64 x615), (.int .i64 x616), (.int .i64 x617), (.string s618), (.int .u32 x619), (.int .i64 x620), (.int .i64 x621), (.int .i64 x622), (.string s623), (.int .u32 x624), (.int .i64 x625), (.int .i64 x626), (.int .i64 x627), (.string s628), (.int .u32 x629), (.int .i64 x630), (.int .i64 x631), (.int .i64 x632), (.string s633), (.int .u32 x634), (.int .i64 x635), (.int .i64 x636), (.int .i64 x637), (.string s638), (.int .u32 x639), (.int .i64 x640), (.int .i64 x641), (.int .i64 x642), (.string s643), (.int .u32 x644), (.int .i64 x645), (.int .i64 x646)])]) h586) KP) KP)
  (br (x79 == 4)
  (CallsP Tryz.prog 74 #[(.pointer p68)] h78 (fun r648 h647 =>
  ∃ x649 : Int, r648 = (.int .u32 x649) ∧ 
  HU Tryz.prog (Instr.storeAt 50 (.pointer (some (a71.add 15))) (.int .u32 x649)) h647 fun h650 => 
  CallsP Tryz.prog 74 #[(.pointer p68)] h650 (fun r652 h651 =>
  ∃ x653 : Int, r652 = (.int .u32 x653) ∧ 
  HU Tryz.prog (Instr.storeAt 50 (.pointer (some (Addr.add (a71.add 15) 1))) (.int .u32 x653)) h651 fun h654 => 
  CallsP Tryz.prog 75 #[(.pointer p68), (.int .u32 65535)] h654 (fun r656 h655 =>
  ∃ x657 : Int, r656 = (.int .u32 x657) ∧ 
  HU Tryz.prog (Instr.storeAt 55 (.pointer (some (Addr.add (a71.add 15) 2))) (.int .u16 (IntKind.u16.wrap (x657)))) h655 fun h658 => 
  CallsP Tryz.prog 75 #[(.pointer p68), (.int .u32 65535)] h658 (fun r660 h659 =>
  ∃ x661 : Int, r660 = (.int .u32 x661) ∧ 
  HU Tryz.prog (Instr.storeAt 55 (.pointer (some (Addr.add (a71.add 15) 3))) (.int .u16 (IntKind.u16.wrap (x661)))) h659 fun h662 => 
  CallsP Tryz.prog 75 #[(.pointer p68), (.int .u32 255)] h662 (fun r664 h663 =>
  ∃ x665 : Int, r664 = (.int .u32 x665) ∧ 
  HU Tryz.prog (Instr.storeAt 5 (.pointer (some (Addr.add (a71.add 15) 4))) (.int .u8 (IntKind.u8.wrap (x665)))) h663 fun h666 => 
  ∃ x667 : Int, ∃ x668 : Int, ∃ x669 : Int, ∃ x670 : Int, ∃ x671 : Int, ∃ x672 : Int, ∃ x673 : Int, ∃ x674 : Int, ∃ x675 : Int, ∃ x676 : Int, ∃ x677 : Int, ∃ x678 : Int, ∃ x679 : Int, ∃ x680 : Int, ∃ x681 : Int, ∃ x682 : Int, ∃ x683 : Int, ∃ x684 : Int, ∃ x685 : Int, ∃ x686 : Int, HV Tryz.prog (Instr.loadAt 77 (.pointer (some a71))) h666 (.agg #[(.int .i64 x667), (.int .i64 x668), (.int .i64 x669), (.int .i64 x670), (.int .u32 x671), (.int .i64 x672), (.int .u32 x673), (.int .i64 x674), (.int .u16 x675), (.int .u16 x676), (.int .u16 x677), (.int .u16 x678), (.int .u8 x679), (.int .u8 x680), (.int .i64 x681), (.int .u32 x682), (.int .u32 x683), (.int .u16 x684), (.int .u16 x685), (.int .u8 x686)]) ∧ 
  ∃ x687 : Int, ∃ s688 : ByteArray, ∃ x689 : Int, ∃ x690 : Int, ∃ x691 : Int, ∃ x692 : Int, ∃ s693 : ByteArray, ∃ x694 : Int, ∃ x695 : Int, ∃ x696 : Int, ∃ x697 : Int, ∃ s698 : ByteArray, ∃ x699 : Int, ∃ x700 : Int, ∃ x701 : Int, ∃ x702 : Int, ∃ s703 : ByteArray, ∃ x704 : Int, ∃ x705 : Int, ∃ x706 : Int, ∃ x707 : Int, ∃ s708 : ByteArray, ∃ x709 : Int, ∃ x710 : Int, ∃ x711 : Int, ∃ x712 : Int, ∃ s713 : ByteArray, ∃ x714 : Int, ∃ x715 : Int, ∃ x716 : Int, ∃ x717 : Int, ∃ s718 : ByteArray, ∃ x719 : Int, ∃ x720 : Int, ∃ x721 : Int, ∃ x722 : Int, ∃ s723 : ByteArray, ∃ x724 : Int, ∃ x725 : Int, ∃ x726 : Int, HV Tryz.prog (Instr.loadAt 83 (.pointer (some a72))) h666 (.agg #[(.int .i64 x687), (.string s688), (.int .u32 x689), (.int .i64 x690), (.int .i64 x691), (.int .i64 x692), (.string s693), (.int .u32 x694), (.int .i64 x695), (.int .i64 x696), (.int .i64 x697), (.string s698), (.int .u32 x699), (.int .i64 x700), (.int .i64 x701), (.int .i64 x702), (.string s703), (.int .u32 x704), (.int .i64 x705), (.int .i64 x706), (.int .i64 x707), (.string s708), (.int .u32 x709), (.int .i64 x710), (.int .i64 x711), (.int .i64 x712), (.string s713), (.int .u32 x714), (.int .i64 x715), (.int .i64 x716), (.int .i64 x717), (.string s718), (.int .u32 x719), (.int .i64 x720), (.int .i64 x721), (.int .i64 x722), (.string s723), (.int .u32 x724), (.int .i64 x725), (.int .i64 x726)]) ∧ 
  HU Tryz.prog (Instr.storeAt 77 (.pointer (some a69)) (.agg #[(.int .i64 x667), (.int .i64 x668), (.int .i64 x669), (.int .i64 x670), (.int .u32 x671), (.int .i64 x672), (.int .u32 x673), (.int .i64 x674), (.int .u16 x675), (.int .u16 x676), (.int .u16 x677), (.int .u16 x678), (.int .u8 x679), (.int .u8 x680), (.int .i64 x681), (.int .u32 x682), (.int .u32 x683), (.int .u16 x684), (.int .u16 x685), (.int .u8 x686)])) h666 fun h727 => HV Tryz.prog (Instr.loadAt 83 (.pointer (some a72))) h727 (.agg #[(.int .i64 x687), (.string s688), (.int .u32 x689), (.int .i64 x690), (.int .i64 x691), (.int .i64 x692), (.string s693), (.int .u32 x694), (.int .i64 x695), (.int .i64 x696), (.int .i64 x697), (.string s698), (.int .u32 x699), (.int .i64 x700), (.int .i64 x701), (.int .i64 x702), (.string s703), (.int .u32 x704), (.int .i64 x705), (.int .i64 x706), (.int .i64 x707), (.string s708), (.int .u32 x709), (.int .i64 x710), (.int .i64 x711), (.int .i64 x712), (.string s713), (.int .u32 x714), (.int .i64 x715), (.int .i64 x716), (.int .i64 x717), (.string s718), (.int .u32 x719), (.int .i64 x720), (.int .i64 x721), (.int .i64 x722), (.string s723), (.int .u32 x724), (.int .i64 x725), (.int .i64 x726)]) ∧ 
  HU Tryz.prog (Instr.storeAt 83 (.pointer (some a70)) (.agg #[(.int .i64 x687), (.string s688), (.int .u32 x689), (.int .i64 x690), (.int .i64 x691), (.int .i64 x692), (.string s693), (.int .u32 x694), (.int .i64 x695), (.int .i64 x696), (.int .i64 x697), (.string s698), (.int .u32 x699), (.int .i64 x700), (.int .i64 x701), (.int .i64 x702), (.string s703), (.int .u32 x704), (.int .i64 x705), (.int .i64 x706), (.int .i64 x707), (.string s708), (.int .u32 x709), (.int .i64 x710), (.int .i64 x711), (.int .i64 x712), (.string s713), (.int .u32 x714), (.int .i64 x715), (.int .i64 x716), (.int .i64 x717), (.string s718), (.int .u32 x719), (.int .i64 x720), (.int .i64 x721), (.int .i64 x722), (.string s723), (.int .u32 x724), (.int .i64 x725), (.int .i64 x726)])) h727 fun h728 => 
  ∃ x729 : Int, ∃ x730 : Int, ∃ x731 : Int, ∃ x732 : Int, ∃ x733 : Int, ∃ x734 : Int, ∃ x735 : Int, ∃ x736 : Int, ∃ x737 : Int, ∃ x738 : Int, ∃ x739 : Int, ∃ x740 : Int, ∃ x741 : Int, ∃ x742 : Int, ∃ x743 : Int, ∃ x744 : Int, ∃ x745 : Int, ∃ x746 : Int, ∃ x747 : Int, ∃ x748 : Int, HV Tryz.prog (Instr.loadAt 77 (.pointer (some a69))) h728 (.agg #[(.int .i64 x729), (.int .i64 x730), (.int .i64 x731), (.int .i64 x732), (.int .u32 x733), (.int .i64 x734), (.int .u32 x735), (.int .i64 x736), (.int .u16 x737), (.int .u16 x738), (.int .u16 x739), (.int .u16 x740), (.int .u8 x741), (.int .u8 x742), (.int .i64 x743), (.int .u32 x744), (.int .u32 x745), (.int .u16 x746), (.int .u16 x747), (.int .u8 x748)]) ∧ ∃ x749 : Int, ∃ s750 : ByteArray, ∃ x751 : Int, ∃ x752 : Int, ∃ x753 : Int, ∃ x754 : Int, ∃ s755 : ByteArray, ∃ x756 : Int, ∃ x757 : Int, ∃ x758 : Int, ∃ x759 : Int, ∃ s760 : ByteArray, ∃ x761 : Int, ∃ x762 : Int, ∃ x763 : Int, ∃ x764 : Int, ∃ s765 : ByteArray, ∃ x766 : Int, ∃ x767 : Int, ∃ x768 : Int, ∃ x769 : Int, ∃ s770 : ByteArray, ∃ x771 : Int, ∃ x772 : Int, ∃ x773 : Int, ∃ x774 : Int, ∃ s775 : ByteArray, ∃ x776 : Int, ∃ x777 : Int, ∃ x778 : Int, ∃ x779 : Int, ∃ s780 : ByteArray, ∃ x781 : Int, ∃ x782 : Int, ∃ x783 : Int, ∃ x784 : Int, ∃ s785 : ByteArray, ∃ x786 : Int, ∃ x787 : Int, ∃ x788 : Int, HV Tryz.prog (Instr.loadAt 83 (.pointer (some a70))) h728 (.agg #[(.int .i64 x749), (.string s750), (.int .u32 x751), (.int .i64 x752), (.int .i64 x753), (.int .i64 x754), (.string s755), (.int .u32 x756), (.int .i64 x757), (.int .i64 x758), (.int .i64 x759), (.string s760), (.int .u32 x761), (.int .i64 x762), (.int .i64 x763), (.int .i64 x764), (.string s765), (.int .u32 x766), (.int .i64 x767), (.int .i64 x768), (.int .i64 x769), (.string s770), (.int .u32 x771), (.int .i64 x772), (.int .i64 x773), (.int .i64 x774), (.string s775), (.int .u32 x776), (.int .i64 x777), (.int .i64 x778), (.int .i64 x779), (.string s780), (.int .u32 x781), (.int .i64 x782), (.int .i64 x783), (.int .i64 x784), (.string s785), (.int .u32 x786), (.int .i64 x787), (.int .i64 x788)]) ∧ K (.tuple #[(.agg #[(.int .i64 x729), (.int .i64 x730), (.int .i64 x731), (.int .i64 x732), (.int .u32 x733), (.int .i64 x734), (.int .u32 x735), (.int .i64 x736), (.int .u16 x737), (.int .u16 x738), (.int .u16 x739), (.int .u16 x740), (.int .u8 x741), (.int .u8 x742), (.int .i64 x743), (.int .u32 x744), (.int .u32 x745), (.int .u16 x746), (.int .u16 x747), (.int .u8 x748)]), (.agg #[(.int .i64 x749), (.string s750), (.int .u32 x751), (.int .i64 x752), (.int .i64 x753), (.int .i64 x754), (.string s755), (.int .u32 x756), (.int .i64 x757), (.int .i64 x758), (.int .i64 x759), (.string s760), (.int .u32 x761), (.int .i64 x762), (.int .i64 x763), (.int .i64 x764), (.string s765), (.int .u32 x766), (.int .i64 x767), (.int .i64 x768), (.int .i64 x769), (.string s770), (.int .u32 x771), (.int .i64 x772), (.int .i64 x773), (.int .i64 x774), (.string s775), (.int .u32 x776), (.int .i64 x777), (.int .i64 x778), (.int .i64 x779), (.string s780), (.int .u32 x781), (.int .i64 x782), (.int .i64 x783), (.int .i64 x784), (.string s785), (.int .u32 x786), (.int .i64 x787), (.int .i64 x788)])]) h728) KP) KP) KP) KP) KP)
  (∃ x789 : Int, ∃ x790 : Int, ∃ x791 : Int, ∃ x792 : Int, ∃ x793 : Int, ∃ x794 : Int, ∃ x795 : Int, ∃ x796 : Int, ∃ x797 : Int, ∃ x798 : Int, ∃ x799 : Int, ∃ x800 : Int, ∃ x801 : Int, ∃ x802 : Int, ∃ x803 : Int, ∃ x804 : Int, ∃ x805 : Int, ∃ x806 : Int, ∃ x807 : Int, ∃ x808 : Int, HV Tryz.prog (Instr.loadAt 77 (.pointer (some a71))) h78 (.agg #[(.int .i64 x789), (.int .i64 x790), (.int .i64 x791), (.int .i64 x792), (.int .u32 x793), (.int .i64 x794), (.int .u32 x795), (.int .i64 x796), (.int .u16 x797), (.int .u16 x798), (.int .u16 x799), (.int .u16 x800), (.int .u8 x801), (.int .u8 x802), (.int .i64 x803), (.int .u32 x804), (.int .u32 x805), (.int .u16 x806), (.int .u16 x807), (.int .u8 x808)]) ∧ 
  ∃ x809 : Int, ∃ s810 : ByteArray, ∃ x811 : Int, ∃ x812 : Int, ∃ x813 : Int, ∃ x814 : Int, ∃ s815 : ByteArray, ∃ x816 : Int, ∃ x817 : Int, ∃ x818 : Int, ∃ x819 : Int, ∃ s820 : ByteArray, ∃ x821 : Int, ∃ x822 : Int, ∃ x823 : Int, ∃ x824 : Int, ∃ s825 : ByteArray, ∃ x826 : Int, ∃ x827 : Int, ∃ x828 : Int, ∃ x829 : Int, ∃ s830 : ByteArray, ∃ x831 : Int, ∃ x832 : Int, ∃ x833 : Int, ∃ x834 : Int, ∃ s835 : ByteArray, ∃ x836 : Int, ∃ x837 : Int, ∃ x838 : Int, ∃ x839 : Int, ∃ s840 : ByteArray, ∃ x841 : Int, ∃ x842 : Int, ∃ x843 : Int, ∃ x844 : Int, ∃ s845 : ByteArray, ∃ x846 : Int, ∃ x847 : Int, ∃ x848 : Int, HV Tryz.prog (Instr.loadAt 83 (.pointer (some a72))) h78 (.agg #[(.int .i64 x809), (.string s810), (.int .u32 x811), (.int .i64 x812), (.int .i64 x813), (.int .i64 x814), (.string s815), (.int .u32 x816), (.int .i64 x817), (.int .i64 x818), (.int .i64 x819), (.string s820), (.int .u32 x821), (.int .i64 x822), (.int .i64 x823), (.int .i64 x824), (.string s825), (.int .u32 x826), (.int .i64 x827), (.int .i64 x828), (.int .i64 x829), (.string s830), (.int .u32 x831), (.int .i64 x832), (.int .i64 x833), (.int .i64 x834), (.string s835), (.int .u32 x836), (.int .i64 x837), (.int .i64 x838), (.int .i64 x839), (.string s840), (.int .u32 x841), (.int .i64 x842), (.int .i64 x843), (.int .i64 x844), (.string s845), (.int .u32 x846), (.int .i64 x847), (.int .i64 x848)]) ∧ 
  HU Tryz.prog (Instr.storeAt 77 (.pointer (some a69)) (.agg #[(.int .i64 x789), (.int .i64 x790), (.int .i64 x791), (.int .i64 x792), (.int .u32 x793), (.int .i64 x794), (.int .u32 x795), (.int .i64 x796), (.int .u16 x797), (.int .u16 x798), (.int .u16 x799), (.int .u16 x800), (.int .u8 x801), (.int .u8 x802), (.int .i64 x803), (.int .u32 x804), (.int .u32 x805), (.int .u16 x806), (.int .u16 x807), (.int .u8 x808)])) h78 fun h849 => HV Tryz.prog (Instr.loadAt 83 (.pointer (some a72))) h849 (.agg #[(.int .i64 x809), (.string s810), (.int .u32 x811), (.int .i64 x812), (.int .i64 x813), (.int .i64 x814), (.string s815), (.int .u32 x816), (.int .i64 x817), (.int .i64 x818), (.int .i64 x819), (.string s820), (.int .u32 x821), (.int .i64 x822), (.int .i64 x823), (.int .i64 x824), (.string s825), (.int .u32 x826), (.int .i64 x827), (.int .i64 x828), (.int .i64 x829), (.string s830), (.int .u32 x831), (.int .i64 x832), (.int .i64 x833), (.int .i64 x834), (.string s835), (.int .u32 x836), (.int .i64 x837), (.int .i64 x838), (.int .i64 x839), (.string s840), (.int .u32 x841), (.int .i64 x842), (.int .i64 x843), (.int .i64 x844), (.string s845), (.int .u32 x846), (.int .i64 x847), (.int .i64 x848)]) ∧ 
  HU Tryz.prog (Instr.storeAt 83 (.pointer (some a70)) (.agg #[(.int .i64 x809), (.string s810), (.int .u32 x811), (.int .i64 x812), (.int .i64 x813), (.int .i64 x814), (.string s815), (.int .u32 x816), (.int .i64 x817), (.int .i64 x818), (.int .i64 x819), (.string s820), (.int .u32 x821), (.int .i64 x822), (.int .i64 x823), (.int .i64 x824), (.string s825), (.int .u32 x826), (.int .i64 x827), (.int .i64 x828), (.int .i64 x829), (.string s830), (.int .u32 x831), (.int .i64 x832), (.int .i64 x833), (.int .i64 x834), (.string s835), (.int .u32 x836), (.int .i64 x837), (.int .i64 x838), (.int .i64 x839), (.string s840), (.int .u32 x841), (.int .i64 x842), (.int .i64 x843), (.int .i64 x844), (.string s845), (.int .u32 x846), (.int .i64 x847), (.int .i64 x848)])) h849 fun h850 => 
  ∃ x851 : Int, ∃ x852 : Int, ∃ x853 : Int, ∃ x854 : Int, ∃ x855 : Int, ∃ x856 : Int, ∃ x857 : Int, ∃ x858 : Int, ∃ x859 : Int, ∃ x860 : Int, ∃ x861 : Int, ∃ x862 : Int, ∃ x863 : Int, ∃ x864 : Int, ∃ x865 : Int, ∃ x866 : Int, ∃ x867 : Int, ∃ x868 : Int, ∃ x869 : Int, ∃ x870 : Int, HV Tryz.prog (Instr.loadAt 77 (.pointer (some a69))) h850 (.agg #[(.int .i64 x851), (.int .i64 x852), (.int .i64 x853), (.int .i64 x854), (.int .u32 x855), (.int .i64 x856), (.int .u32 x857), (.int .i64 x858), (.int .u16 x859), (.int .u16 x860), (.int .u16 x861), (.int .u16 x862), (.int .u8 x863), (.int .u8 x864), (.int .i64 x865), (.int .u32 x866), (.int .u32 x867), (.int .u16 x868), (.int .u16 x869), (.int .u8 x870)]) ∧ ∃ x871 : Int, ∃ s872 : ByteArray, ∃ x873 : Int, ∃ x874 : Int, ∃ x875 : Int, ∃ x876 : Int, ∃ s877 : ByteArray, ∃ x878 : Int, ∃ x879 : Int, ∃ x880 : Int, ∃ x881 : Int, ∃ s882 : ByteArray, ∃ x883 : Int, ∃ x884 : Int, ∃ x885 : Int, ∃ x886 : Int, ∃ s887 : ByteArray, ∃ x888 : Int, ∃ x889 : Int, ∃ x890 : Int, ∃ x891 : Int, ∃ s892 : ByteArray, ∃ x893 : Int, ∃ x894 : Int, ∃ x895 : Int, ∃ x896 : Int, ∃ s897 : ByteArray, ∃ x898 : Int, ∃ x899 : Int, ∃ x900 : Int, ∃ x901 : Int, ∃ s902 : ByteArray, ∃ x903 : Int, ∃ x904 : Int, ∃ x905 : Int, ∃ x906 : Int, ∃ s907 : ByteArray, ∃ x908 : Int, ∃ x909 : Int, ∃ x910 : Int, HV Tryz.prog (Instr.loadAt 83 (.pointer (some a70))) h850 (.agg #[(.int .i64 x871), (.string s872), (.int .u32 x873), (.int .i64 x874), (.int .i64 x875), (.int .i64 x876), (.string s877), (.int .u32 x878), (.int .i64 x879), (.int .i64 x880), (.int .i64 x881), (.string s882), (.int .u32 x883), (.int .i64 x884), (.int .i64 x885), (.int .i64 x886), (.string s887), (.int .u32 x888), (.int .i64 x889), (.int .i64 x890), (.int .i64 x891), (.string s892), (.int .u32 x893), (.int .i64 x894), (.int .i64 x895), (.int .i64 x896), (.string s897), (.int .u32 x898), (.int .i64 x899), (.int .i64 x900), (.int .i64 x901), (.string s902), (.int .u32 x903), (.int .i64 x904), (.int .i64 x905), (.int .i64 x906), (.string s907), (.int .u32 x908), (.int .i64 x909), (.int .i64 x910)]) ∧ K (.tuple #[(.agg #[(.int .i64 x851), (.int .i64 x852), (.int .i64 x853), (.int .i64 x854), (.int .u32 x855), (.int .i64 x856), (.int .u32 x857), (.int .i64 x858), (.int .u16 x859), (.int .u16 x860), (.int .u16 x861), (.int .u16 x862), (.int .u8 x863), (.int .u8 x864), (.int .i64 x865), (.int .u32 x866), (.int .u32 x867), (.int .u16 x868), (.int .u16 x869), (.int .u8 x870)]), (.agg #[(.int .i64 x871), (.string s872), (.int .u32 x873), (.int .i64 x874), (.int .i64 x875), (.int .i64 x876), (.string s877), (.int .u32 x878), (.int .i64 x879), (.int .i64 x880), (.int .i64 x881), (.string s882), (.int .u32 x883), (.int .i64 x884), (.int .i64 x885), (.int .i64 x886), (.string s887), (.int .u32 x888), (.int .i64 x889), (.int .i64 x890), (.int .i64 x891), (.string s892), (.int .u32 x893), (.int .i64 x894), (.int .i64 x895), (.int .i64 x896), (.string s897), (.int .u32 x898), (.int .i64 x899), (.int .i64 x900), (.int .i64 x901), (.string s902), (.int .u32 x903), (.int .i64 x904), (.int .i64 x905), (.int .i64 x906), (.string s907), (.int .u32 x908), (.int .i64 x909), (.int .i64 x910)])]) h850))))))
  KP k911 0 h23) KP
def syntax_reader_command_lp (i : Nat) (Q : Qx) (tm : Tm) (h : Hp) : Prop := match Nat.beq i 250 with
  | true => ∃ k, syntax_reader_command_l1_L Q k tm h
  | false => False
def syntax_reader_command_cut (i : Nat) : Option (List Nat) := none
set_option maxRecDepth 100000 in
theorem syntax_reader_command_l1_step (Q : Qx) (k : Nat) (p36 : Option Addr) (a37 : Addr) (a38 : Addr) (a39 : Addr) (a40 : Addr) (a41 : Addr) (s42 : ByteArray) (s43 : ByteArray) (s44 : ByteArray) (s45 : ByteArray) (s46 : ByteArray) (s47 : ByteArray) (s48 : ByteArray) (s49 : ByteArray) (s50 : ByteArray) (s51 : ByteArray) (s52 : ByteArray) (x53 : Int) (h : Hp) : syntax_reader_command_l1_L Q (k + 1) (mkTm [(0, some (.pointer p36)), (2, some (.pointer (some a37))), (3, some (.pointer (some a38))), (4, some (.pointer (some a39))), (5, some (.pointer (some a40))), (6, some (.pointer (some a41))), (19, some (.agg #[(.string s42), (.string s43), (.string s44), (.string s45), (.string s46), (.string s47), (.string s48), (.string s49), (.string s50), (.string s51), (.string s52)])), (20, some (.int .i64 x53))]) h =
    codeWp Tryz.prog 104 true syntax_reader_command_lp syntax_reader_command_cut (sub (bodyOf Tryz.f47) [true, true, true, true, false, true, false, false]) 500 (thenQ (fun tm h => syntax_reader_command_l1_L Q k (mask [0, 2, 3, 4, 5, 6, 19, 20] tm) h) (maskQ (fun e => match e with | .exit 0 => [0, 2, 3, 4, 5, 6] | _ => []) Q)) (mkTm [(0, some (.pointer p36)), (2, some (.pointer (some a37))), (3, some (.pointer (some a38))), (4, some (.pointer (some a39))), (5, some (.pointer (some a40))), (6, some (.pointer (some a41))), (19, some (.agg #[(.string s42), (.string s43), (.string s44), (.string s45), (.string s46), (.string s47), (.string s48), (.string s49), (.string s50), (.string s51), (.string s52)])), (20, some (.int .i64 x53))]) h := by kernel_rfl
theorem syntax_reader_command_l1_mask (Q : Qx) (k : Nat) (tm : Tm) (h : Hp) : syntax_reader_command_l1_L Q k tm h ↔ syntax_reader_command_l1_L Q k (mask [0, 2, 3, 4, 5, 6, 19, 20] tm) h := Iff.rfl
set_option maxRecDepth 100000 in
theorem syntax_reader_command_l1_snd : SndAt Tryz.prog 104 none (sub (bodyOf Tryz.f47) [true, true, true, true, false, true, false]) (syntax_reader_command_lp 250) := by
  refine loop_sound (pn := true) (lp := syntax_reader_command_lp) (cut := syntax_reader_command_cut) (i := 250) (c := (sub (bodyOf Tryz.f47) [true, true, true, true, false, true, false, false])) [0, 2, 3, 4, 5, 6, 19, 20] (fun e => match e with | .exit 0 => [0, 2, 3, 4, 5, 6] | _ => []) syntax_reader_command_l1_L ?_ ?_ ?_
  · exact good_by (pn := true) (c := (sub (bodyOf Tryz.f47) [true, true, true, true, false, true, false, false])) (i := 500) (l := []) (by kernel_rfl) (fun _ h => by cases h)
  · intro Q tm h H
    obtain ⟨p36, e0, H⟩ := selP_ex H
    obtain ⟨a37, e2, H⟩ := selA_ex H
    obtain ⟨a38, e3, H⟩ := selA_ex H
    obtain ⟨a39, e4, H⟩ := selA_ex H
    obtain ⟨a40, e5, H⟩ := selA_ex H
    obtain ⟨a41, e6, H⟩ := selA_ex H
    obtain ⟨m19_0, e19, H⟩ := selAg_ex H
    obtain ⟨u19_0, m19_1, f, G⟩ := selC_ex H
    clear H
    subst f
    have H := G
    clear G
    obtain ⟨u19_1, m19_2, f, G⟩ := selC_ex H
    clear H
    subst f
    have H := G
    clear G
    obtain ⟨u19_2, m19_3, f, G⟩ := selC_ex H
    clear H
    subst f
    have H := G
    clear G
    obtain ⟨u19_3, m19_4, f, G⟩ := selC_ex H
    clear H
    subst f
    have H := G
    clear G
    obtain ⟨u19_4, m19_5, f, G⟩ := selC_ex H
    clear H
    subst f
    have H := G
    clear G
    obtain ⟨u19_5, m19_6, f, G⟩ := selC_ex H
    clear H
    subst f
    have H := G
    clear G
    obtain ⟨u19_6, m19_7, f, G⟩ := selC_ex H
    clear H
    subst f
    have H := G
    clear G
    obtain ⟨u19_7, m19_8, f, G⟩ := selC_ex H
    clear H
    subst f
    have H := G
    clear G
    obtain ⟨u19_8, m19_9, f, G⟩ := selC_ex H
    clear H
    subst f
    have H := G
    clear G
    obtain ⟨u19_9, m19_10, f, G⟩ := selC_ex H
    clear H
    subst f
    have H := G
    clear G
    obtain ⟨u19_10, m19_11, f, G⟩ := selC_ex H
    clear H
    subst f
    have H := G
    clear G
    obtain ⟨f, G⟩ := selN_ex H
    clear H
    subst f
    have H := G
    clear G
    obtain ⟨s42, f, G⟩ := selT_ex H
    clear H
    have H := G
    clear G
    obtain rfl := Option.some.inj f
    obtain ⟨s43, f, G⟩ := selT_ex H
    clear H
    have H := G
    clear G
    obtain rfl := Option.some.inj f
    obtain ⟨s44, f, G⟩ := selT_ex H
    clear H
    have H := G
    clear G
    obtain rfl := Option.some.inj f
    obtain ⟨s45, f, G⟩ := selT_ex H
    clear H
    have H := G
    clear G
    obtain rfl := Option.some.inj f
    obtain ⟨s46, f, G⟩ := selT_ex H
    clear H
    have H := G
    clear G
    obtain rfl := Option.some.inj f
    obtain ⟨s47, f, G⟩ := selT_ex H
    clear H
    have H := G
    clear G
    obtain rfl := Option.some.inj f
    obtain ⟨s48, f, G⟩ := selT_ex H
    clear H
    have H := G
    clear G
    obtain rfl := Option.some.inj f
    obtain ⟨s49, f, G⟩ := selT_ex H
    clear H
    have H := G
    clear G
    obtain rfl := Option.some.inj f
    obtain ⟨s50, f, G⟩ := selT_ex H
    clear H
    have H := G
    clear G
    obtain rfl := Option.some.inj f
    obtain ⟨s51, f, G⟩ := selT_ex H
    clear H
    have H := G
    clear G
    obtain rfl := Option.some.inj f
    obtain ⟨s52, f, G⟩ := selT_ex H
    clear H
    have H := G
    clear G
    obtain rfl := Option.some.inj f
    obtain ⟨x53, e20, H⟩ := selI_ex H
    exact H
  · intro Q k tm h H
    have H0 := H
    obtain ⟨p36, e0, H⟩ := selP_ex H
    obtain ⟨a37, e2, H⟩ := selA_ex H
    obtain ⟨a38, e3, H⟩ := selA_ex H
    obtain ⟨a39, e4, H⟩ := selA_ex H
    obtain ⟨a40, e5, H⟩ := selA_ex H
    obtain ⟨a41, e6, H⟩ := selA_ex H
    obtain ⟨m19_0, e19, H⟩ := selAg_ex H
    obtain ⟨u19_0, m19_1, f, G⟩ := selC_ex H
    clear H
    subst f
    have H := G
    clear G
    obtain ⟨u19_1, m19_2, f, G⟩ := selC_ex H
    clear H
    subst f
    have H := G
    clear G
    obtain ⟨u19_2, m19_3, f, G⟩ := selC_ex H
    clear H
    subst f
    have H := G
    clear G
    obtain ⟨u19_3, m19_4, f, G⟩ := selC_ex H
    clear H
    subst f
    have H := G
    clear G
    obtain ⟨u19_4, m19_5, f, G⟩ := selC_ex H
    clear H
    subst f
    have H := G
    clear G
    obtain ⟨u19_5, m19_6, f, G⟩ := selC_ex H
    clear H
    subst f
    have H := G
    clear G
    obtain ⟨u19_6, m19_7, f, G⟩ := selC_ex H
    clear H
    subst f
    have H := G
    clear G
    obtain ⟨u19_7, m19_8, f, G⟩ := selC_ex H
    clear H
    subst f
    have H := G
    clear G
    obtain ⟨u19_8, m19_9, f, G⟩ := selC_ex H
    clear H
    subst f
    have H := G
    clear G
    obtain ⟨u19_9, m19_10, f, G⟩ := selC_ex H
    clear H
    subst f
    have H := G
    clear G
    obtain ⟨u19_10, m19_11, f, G⟩ := selC_ex H
    clear H
    subst f
    have H := G
    clear G
    obtain ⟨f, G⟩ := selN_ex H
    clear H
    subst f
    have H := G
    clear G
    obtain ⟨s42, f, G⟩ := selT_ex H
    clear H
    have H := G
    clear G
    obtain rfl := Option.some.inj f
    obtain ⟨s43, f, G⟩ := selT_ex H
    clear H
    have H := G
    clear G
    obtain rfl := Option.some.inj f
    obtain ⟨s44, f, G⟩ := selT_ex H
    clear H
    have H := G
    clear G
    obtain rfl := Option.some.inj f
    obtain ⟨s45, f, G⟩ := selT_ex H
    clear H
    have H := G
    clear G
    obtain rfl := Option.some.inj f
    obtain ⟨s46, f, G⟩ := selT_ex H
    clear H
    have H := G
    clear G
    obtain rfl := Option.some.inj f
    obtain ⟨s47, f, G⟩ := selT_ex H
    clear H
    have H := G
    clear G
    obtain rfl := Option.some.inj f
    obtain ⟨s48, f, G⟩ := selT_ex H
    clear H
    have H := G
    clear G
    obtain rfl := Option.some.inj f
    obtain ⟨s49, f, G⟩ := selT_ex H
    clear H
    have H := G
    clear G
    obtain rfl := Option.some.inj f
    obtain ⟨s50, f, G⟩ := selT_ex H
    clear H
    have H := G
    clear G
    obtain rfl := Option.some.inj f
    obtain ⟨s51, f, G⟩ := selT_ex H
    clear H
    have H := G
    clear G
    obtain rfl := Option.some.inj f
    obtain ⟨s52, f, G⟩ := selT_ex H
    clear H
    have H := G
    clear G
    obtain rfl := Option.some.inj f
    obtain ⟨x53, e20, H⟩ := selI_ex H
    have e : mask [0, 2, 3, 4, 5, 6, 19, 20] tm = mkTm [(0, some (.pointer p36)), (2, some (.pointer (some a37))), (3, some (.pointer (some a38))), (4, some (.pointer (some a39))), (5, some (.pointer (some a40))), (6, some (.pointer (some a41))), (19, some (.agg #[(.string s42), (.string s43), (.string s44), (.string s45), (.string s46), (.string s47), (.string s48), (.string s49), (.string s50), (.string s51), (.string s52)])), (20, some (.int .i64 x53))] := by simp only [mask, List.map_cons, List.map_nil, e0, e2, e3, e4, e5, e6, e19, e20] <;> rfl
    rw [e]
    refine Eq.mp (syntax_reader_command_l1_step Q k p36 a37 a38 a39 a40 a41 s42 s43 s44 s45 s46 s47 s48 s49 s50 s51 s52 x53 h) ?_
    rw [← e]
    exact (syntax_reader_command_l1_mask Q (k + 1) tm h).mp H0
set_option maxRecDepth 100000 in
theorem syntax_reader_command_eq (p1 : Option Addr) (h : Hp) (K : Value → Hp → Prop) (KP : Kp) : syntax_reader_command p1 h K KP =
    codeWp Tryz.prog 104 true syntax_reader_command_lp syntax_reader_command_cut (bodyOf Tryz.f47) 1 (endP Tryz.prog Tryz.f47.results.toList K KP) (argTm [(.pointer p1)]) h := by kernel_rfl
set_option maxRecDepth 100000 in
theorem syntax_reader_command_ok (p1 : Option Addr) {h : Hp} {K : Value → Hp → Prop} {KP : Kp} (H : syntax_reader_command p1 h K KP) : CallsP Tryz.prog 47 #[(.pointer p1)] h K KP :=
  callsP_of (args := [(.pointer p1)]) (n := 104) (lp := syntax_reader_command_lp) (cut := syntax_reader_command_cut) Tryz.func47 (c := bodyOf Tryz.f47) (by kernel_rfl) (by kernel_rfl) (by kernel_rfl) (good_by (pn := true) (c := (bodyOf Tryz.f47)) (i := 1) (l := [(250, (sub (bodyOf Tryz.f47) [true, true, true, true, false, true, false]))]) (by kernel_rfl) (List.forall_mem_cons.2 ⟨syntax_reader_command_l1_snd, (fun _ h => by cases h)⟩))
    (Eq.mp (syntax_reader_command_eq p1 h K KP) H)

/-! ### quintet/syntax.Rules$1: function 22 -/
def syntax_Rules_1_j1 (K0 : Hp → Prop) (KP : Kp) (a75 : Addr) (a76 : Addr) (a77 : Addr) (a78 : Addr) (h : Hp) : Prop :=
  ∃ x190 : Int, ∃ x191 : Int, ∃ x192 : Int, ∃ x193 : Int, ∃ x194 : Int, ∃ x195 : Int, ∃ x196 : Int, ∃ x197 : Int, ∃ x198 : Int, ∃ x199 : Int, ∃ x200 : Int, ∃ x201 : Int, HV Tryz.prog (Instr.loadAt 75 (.pointer (some a77))) h (.agg #[(.int .i64 x190), (.int .u32 x191), (.int .i64 x192), (.int .u32 x193), (.int .i64 x194), (.int .u16 x195), (.int .u16 x196), (.int .u16 x197), (.int .u16 x198), (.int .u8 x199), (.int .u8 x200), (.int .i64 x201)]) ∧ 
  ∃ x202 : Int, ∃ s203 : ByteArray, ∃ x204 : Int, ∃ x205 : Int, ∃ x206 : Int, ∃ x207 : Int, ∃ s208 : ByteArray, ∃ x209 : Int, ∃ x210 : Int, ∃ x211 : Int, ∃ x212 : Int, ∃ s213 : ByteArray, ∃ x214 : Int, ∃ x215 : Int, ∃ x216 : Int, ∃ x217 : Int, ∃ s218 : ByteArray, ∃ x219 : Int, ∃ x220 : Int, ∃ x221 : Int, ∃ x222 : Int, ∃ s223 : ByteArray, ∃ x224 : Int, ∃ x225 : Int, ∃ x226 : Int, ∃ x227 : Int, ∃ s228 : ByteArray, ∃ x229 : Int, ∃ x230 : Int, ∃ x231 : Int, ∃ x232 : Int, ∃ s233 : ByteArray, ∃ x234 : Int, ∃ x235 : Int, ∃ x236 : Int, ∃ x237 : Int, ∃ s238 : ByteArray, ∃ x239 : Int, ∃ x240 : Int, ∃ x241 : Int, HV Tryz.prog (Instr.loadAt 83 (.pointer (some a78))) h (.agg #[(.int .i64 x202), (.string s203), (.int .u32 x204), (.int .i64 x205), (.int .i64 x206), (.int .i64 x207), (.string s208), (.int .u32 x209), (.int .i64 x210), (.int .i64 x211), (.int .i64 x212), (.string s213), (.int .u32 x214), (.int .i64 x215), (.int .i64 x216), (.int .i64 x217), (.string s218), (.int .u32 x219), (.int .i64 x220), (.int .i64 x221), (.int .i64 x222), (.string s223), (.int .u32 x224), (.int .i64 x225), (.int .i64 x226), (.int .i64 x227), (.string s228), (.int .u32 x229), (.int .i64 x230), (.int .i64 x231), (.int .i64 x232), (.string s233), (.int .u32 x234), (.int .i64 x235), (.int .i64 x236), (.int .i64 x237), (.string s238), (.int .u32 x239), (.int .i64 x240), (.int .i64 x241)]) ∧ 
  CallsP Tryz.prog 26 #[(.agg #[(.int .i64 x190), (.int .u32 x191), (.int .i64 x192), (.int .u32 x193), (.int .i64 x194), (.int .u16 x195), (.int .u16 x196), (.int .u16 x197), (.int .u16 x198), (.int .u8 x199), (.int .u8 x200), (.int .i64 x201)]), (.agg #[(.int .i64 x202), (.string s203), (.int .u32 x204), (.int .i64 x205), (.int .i64 x206), (.int .i64 x207), (.string s208), (.int .u32 x209), (.int .i64 x210), (.int .i64 x211), (.int .i64 x212), (.string s213), (.int .u32 x214), (.int .i64 x215), (.int .i64 x216), (.int .i64 x217), (.string s218), (.int .u32 x219), (.int .i64 x220), (.int .i64 x221), (.int .i64 x222), (.string s223), (.int .u32 x224), (.int .i64 x225), (.int .i64 x226), (.int .i64 x227), (.string s228), (.int .u32 x229), (.int .i64 x230), (.int .i64 x231), (.int .i64 x232), (.string s233), (.int .u32 x234), (.int .i64 x235), (.int .i64 x236), (.int .i64 x237), (.string s238), (.int .u32 x239), (.int .i64 x240), (.int .i64 x241)])] h (fun r243 h242 =>
  r243 = (.tuple #[]) ∧ 
  ∃ v244 : Value, HV Tryz.prog (Instr.loadAt 79 (.pointer (some a76))) h242 v244 ∧ 
  ∃ x245 : Int, HV Tryz.prog (Instr.loadAt 3 (.pointer (some a77))) h242 (.int .i64 x245) ∧ 
  ∃ x246 : Int, HV Tryz.prog (Instr.lookup 79 v244 (.int .i64 x245) false) h242 (.int .i64 x246) ∧ 
  br (decide (x246 > 0))
  (∃ a247 : Addr, PV Tryz.prog (Instr.indexAt 83 (.pointer (some a78)) (.int .i64 1)) (.pointer (some a247)) ∧
  ∃ x248 : Int, ∃ s249 : ByteArray, ∃ x250 : Int, ∃ x251 : Int, ∃ x252 : Int, HV Tryz.prog (Instr.loadAt 52 (.pointer (some a247))) h242 (.agg #[(.int .i64 x248), (.string s249), (.int .u32 x250), (.int .i64 x251), (.int .i64 x252)]) ∧ 
  CallsP Tryz.prog 25 #[(.agg #[(.int .i64 x248), (.string s249), (.int .u32 x250), (.int .i64 x251), (.int .i64 x252)]), (.int .i64 103)] h242 (fun r254 h253 =>
  r254 = (.tuple #[]) ∧ 
  ∃ v255 : Value, HV Tryz.prog (Instr.loadAt 79 (.pointer (some a76))) h253 v255 ∧ 
  ∃ x256 : Int, HV Tryz.prog (Instr.loadAt 3 (.pointer (some a77))) h253 (.int .i64 x256) ∧ 
  ∃ x257 : Int, HV Tryz.prog (Instr.lookup 79 v255 (.int .i64 x256) false) h253 (.int .i64 x257) ∧ 
  HU Tryz.prog (Instr.mapUpdate 79 v255 (.int .i64 x256) (.int .i64 (IntKind.i64.wrap (x257 + 1)))) h253 fun h258 => 
  ∃ A259 : Option Addr, ∃ l259 : Nat, ∃ c259 : Nat, HV Tryz.prog (Instr.loadAt 22 (.pointer (some a75))) h258 (.slice A259 l259 c259) ∧ 
  ∃ x260 : Int, ∃ x261 : Int, ∃ x262 : Int, ∃ x263 : Int, ∃ x264 : Int, ∃ x265 : Int, ∃ x266 : Int, ∃ x267 : Int, ∃ x268 : Int, ∃ x269 : Int, ∃ x270 : Int, ∃ x271 : Int, HV Tryz.prog (Instr.loadAt 75 (.pointer (some a77))) h258 (.agg #[(.int .i64 x260), (.int .u32 x261), (.int .i64 x262), (.int .u32 x263), (.int .i64 x264), (.int .u16 x265), (.int .u16 x266), (.int .u16 x267), (.int .u16 x268), (.int .u8 x269), (.int .u8 x270), (.int .i64 x271)]) ∧ 
  newC h258 (.cells #[(.int .i64 x260), (.int .u32 x261), (.int .i64 x262), (.int .u32 x263), (.int .i64 x264), (.int .u16 x265), (.int .u16 x266), (.int .u16 x267), (.int .u16 x268), (.int .u8 x269), (.int .u8 x270), (.int .i64 x271)] 75 (0, 0)) fun a273 h272 => 
  HW Tryz.prog (Builtin.append_ #[22, 22] 22 #[(.slice A259 l259 c259), (.slice (some a273) 1 1)]) h272 fun r275 h274 =>
  ∃ A276 : Option Addr, ∃ l276 : Nat, ∃ c276 : Nat, r275 = (.slice A276 l276 c276) ∧ 
  HU Tryz.prog (Instr.storeAt 22 (.pointer (some a75)) (.slice A276 l276 c276)) h274 fun h277 => 
  K0 h277) KP)
  (∃ v278 : Value, HV Tryz.prog (Instr.loadAt 79 (.pointer (some a76))) h242 v278 ∧ 
  ∃ x279 : Int, HV Tryz.prog (Instr.loadAt 3 (.pointer (some a77))) h242 (.int .i64 x279) ∧ 
  ∃ x280 : Int, HV Tryz.prog (Instr.lookup 79 v278 (.int .i64 x279) false) h242 (.int .i64 x280) ∧ 
  HU Tryz.prog (Instr.mapUpdate 79 v278 (.int .i64 x279) (.int .i64 (IntKind.i64.wrap (x280 + 1)))) h242 fun h281 => 
  ∃ A282 : Option Addr, ∃ l282 : Nat, ∃ c282 : Nat, HV Tryz.prog (Instr.loadAt 22 (.pointer (some a75))) h281 (.slice A282 l282 c282) ∧ 
  ∃ x283 : Int, ∃ x284 : Int, ∃ x285 : Int, ∃ x286 : Int, ∃ x287 : Int, ∃ x288 : Int, ∃ x289 : Int, ∃ x290 : Int, ∃ x291 : Int, ∃ x292 : Int, ∃ x293 : Int, ∃ x294 : Int, HV Tryz.prog (Instr.loadAt 75 (.pointer (some a77))) h281 (.agg #[(.int .i64 x283), (.int .u32 x284), (.int .i64 x285), (.int .u32 x286), (.int .i64 x287), (.int .u16 x288), (.int .u16 x289), (.int .u16 x290), (.int .u16 x291), (.int .u8 x292), (.int .u8 x293), (.int .i64 x294)]) ∧ 
  newC h281 (.cells #[(.int .i64 x283), (.int .u32 x284), (.int .i64 x285), (.int .u32 x286), (.int .i64 x287), (.int .u16 x288), (.int .u16 x289), (.int .u16 x290), (.int .u16 x291), (.int .u8 x292), (.int .u8 x293), (.int .i64 x294)] 75 (0, 0)) fun a296 h295 => 
  HW Tryz.prog (Builtin.append_ #[22, 22] 22 #[(.slice A282 l282 c282), (.slice (some a296) 1 1)]) h295 fun r298 h297 =>
  ∃ A299 : Option Addr, ∃ l299 : Nat, ∃ c299 : Nat, r298 = (.slice A299 l299 c299) ∧ 
  HU Tryz.prog (Instr.storeAt 22 (.pointer (some a75)) (.slice A299 l299 c299)) h297 fun h300 => 
  K0 h300)) KP
def syntax_Rules_1_j1_L (Q : Qx) (tm : Tm) (h : Hp) : Prop :=
  selA (tm 1) fun a75 =>
  selA (tm 2) fun a76 =>
  selA (tm 4) fun a77 =>
  selA (tm 5) fun a78 =>
  syntax_Rules_1_j1 (fun  h => Q (.normal) (mkTm []) h) (fun ch h => Q (.panic ch) (mkTm []) h) a75 a76 a77 a78 h
set_option maxRecDepth 100000 in
def syntax_Rules_1 (p1 : Option Addr) (a2 : Addr) (a3 : Addr) (h : Hp) (K : Value → Hp → Prop) (KP : Kp) : Prop :=
  CallsP Tryz.prog 23 #[(.pointer p1)] h (fun r5 h4 =>
  ∃ x6 : Int, ∃ x7 : Int, ∃ x8 : Int, ∃ x9 : Int, ∃ x10 : Int, ∃ x11 : Int, ∃ x12 : Int, ∃ x13 : Int, ∃ x14 : Int, ∃ x15 : Int, ∃ x16 : Int, ∃ x17 : Int, ∃ x18 : Int, ∃ s19 : ByteArray, ∃ x20 : Int, ∃ x21 : Int, ∃ x22 : Int, ∃ x23 : Int, ∃ s24 : ByteArray, ∃ x25 : Int, ∃ x26 : Int, ∃ x27 : Int, ∃ x28 : Int, ∃ s29 : ByteArray, ∃ x30 : Int, ∃ x31 : Int, ∃ x32 : Int, ∃ x33 : Int, ∃ s34 : ByteArray, ∃ x35 : Int, ∃ x36 : Int, ∃ x37 : Int, ∃ x38 : Int, ∃ s39 : ByteArray, ∃ x40 : Int, ∃ x41 : Int, ∃ x42 : Int, ∃ x43 : Int, ∃ s44 : ByteArray, ∃ x45 : Int, ∃ x46 : Int, ∃ x47 : Int, ∃ x48 : Int, ∃ s49 : ByteArray, ∃ x50 : Int, ∃ x51 : Int, ∃ x52 : Int, ∃ x53 : Int, ∃ s54 : ByteArray, ∃ x55 : Int, ∃ x56 : Int, ∃ x57 : Int, r5 = (.tuple #[(.agg #[(.int .i64 x6), (.int .u32 x7), (.int .i64 x8), (.int .u32 x9), (.int .i64 x10), (.int .u16 x11), (.int .u16 x12), (.int .u16 x13), (.int .u16 x14), (.int .u8 x15), (.int .u8 x16), (.int .i64 x17)]), (.agg #[(.int .i64 x18), (.string s19), (.int .u32 x20), (.int .i64 x21), (.int .i64 x22), (.int .i64 x23), (.string s24), (.int .u32 x25), (.int .i64 x26), (.int .i64 x27), (.int .i64 x28), (.string s29), (.int .u32 x30), (.int .i64 x31), (.int .i64 x32), (.int .i64 x33), (.string s34), (.int .u32 x35), (.int .i64 x36), (.int .i64 x37), (.int .i64 x38), (.string s39), (.int .u32 x40), (.int .i64 x41), (.int .i64 x42), (.int .i64 x43), (.string s44), (.int .u32 x45), (.int .i64 x46), (.int .i64 x47), (.int .i64 x48), (.string s49), (.int .u32 x50), (.int .i64 x51), (.int .i64 x52), (.int .i64 x53), (.string s54), (.int .u32 x55), (.int .i64 x56), (.int .i64 x57)])]) ∧ 
  newC h4 (.cells #[(.int .i64 0), (.int .u32 0), (.int .i64 0), (.int .u32 0), (.int .i64 0), (.int .u16 0), (.int .u16 0), (.int .u16 0), (.int .u16 0), (.int .u8 0), (.int .u8 0), (.int .i64 0)] 75 (0, 0)) fun a59 h58 => 
  newC h58 (.cells #[(.int .i64 0), (.string ⟨#[]⟩), (.int .u32 0), (.int .i64 0), (.int .i64 0), (.int .i64 0), (.string ⟨#[]⟩), (.int .u32 0), (.int .i64 0), (.int .i64 0), (.int .i64 0), (.string ⟨#[]⟩), (.int .u32 0), (.int .i64 0), (.int .i64 0), (.int .i64 0), (.string ⟨#[]⟩), (.int .u32 0), (.int .i64 0), (.int .i64 0), (.int .i64 0), (.string ⟨#[]⟩), (.int .u32 0), (.int .i64 0), (.int .i64 0), (.int .i64 0), (.string ⟨#[]⟩), (.int .u32 0), (.int .i64 0), (.int .i64 0), (.int .i64 0), (.string ⟨#[]⟩), (.int .u32 0), (.int .i64 0), (.int .i64 0), (.int .i64 0), (.string ⟨#[]⟩), (.int .u32 0), (.int .i64 0), (.int .i64 0)] 83 (0, 0)) fun a61 h60 => 
  HU Tryz.prog (Instr.storeAt 75 (.pointer (some a59)) (.agg #[(.int .i64 x6), (.int .u32 x7), (.int .i64 x8), (.int .u32 x9), (.int .i64 x10), (.int .u16 x11), (.int .u16 x12), (.int .u16 x13), (.int .u16 x14), (.int .u8 x15), (.int .u8 x16), (.int .i64 x17)])) h60 fun h62 => 
  HU Tryz.prog (Instr.storeAt 83 (.pointer (some a61)) (.agg #[(.int .i64 x18), (.string s19), (.int .u32 x20), (.int .i64 x21), (.int .i64 x22), (.int .i64 x23), (.string s24), (.int .u32 x25), (.int .i64 x26), (.int .i64 x27), (.int .i64 x28), (.string s29), (.int .u32 x30), (.int .i64 x31), (.int .i64 x32), (.int .i64 x33), (.string s34), (.int .u32 x35), (.int .i64 x36), (.int .i64 x37), (.int .i64 x38), (.string s39), (.int .u32 x40), (.int .i64 x41), (.int .i64 x42), (.int .i64 x43), (.string s44), (.int .u32 x45), (.int .i64 x46), (.int .i64 x47), (.int .i64 x48), (.string s49), (.int .u32 x50), (.int .i64 x51), (.int .i64 x52), (.int .i64 x53), (.string s54), (.int .u32 x55), (.int .i64 x56), (.int .i64 x57)])) h62 fun h63 => 
  CallsP Tryz.prog 24 #[(.pointer p1)] h63 (fun r65 h64 =>
  r65 = (.tuple #[]) ∧ 
  ∃ A301 : Option Addr, ∃ l301 : Nat, ∃ c301 : Nat, HV Tryz.prog (Instr.loadAt 22 (.pointer (some a2))) h64 (.slice A301 l301 c301) ∧ 
  br ((l301 : Int) == 64)
  (∃ a302 : Addr, PV Tryz.prog (Instr.indexAt 83 (.pointer (some a61)) (.int .i64 1)) (.pointer (some a302)) ∧
  ∃ x303 : Int, ∃ s304 : ByteArray, ∃ x305 : Int, ∃ x306 : Int, ∃ x307 : Int, HV Tryz.prog (Instr.loadAt 52 (.pointer (some a302))) h64 (.agg #[(.int .i64 x303), (.string s304), (.int .u32 x305), (.int .i64 x306), (.int .i64 x307)]) ∧ 
  CallsP Tryz.prog 25 #[(.agg #[(.int .i64 x303), (.string s304), (.int .u32 x305), (.int .i64 x306), (.int .i64 x307)]), (.int .i64 102)] h64 (fun r309 h308 =>
  r309 = (.tuple #[]) ∧ 
  syntax_Rules_1_j1
  (fun  (h310 : Hp) =>
  K (.tuple #[]) h310)
  KP
  a2 a3 a59 a61 h308) KP)
  (syntax_Rules_1_j1
  (fun  (h311 : Hp) =>
  K (.tuple #[]) h311)
  KP
  a2 a3 a59 a61 h64)) KP) KP
def syntax_Rules_1_lp (i : Nat) (Q : Qx) (tm : Tm) (h : Hp) : Prop := match Nat.beq i 7 with
  | true => syntax_Rules_1_j1_L Q tm h
  | false => False
def syntax_Rules_1_cut (i : Nat) : Option (List Nat) := match Nat.beq i 7 with
  | true => some [1, 2, 4, 5]
  | false => none
set_option maxRecDepth 100000 in
theorem syntax_Rules_1_j1_step (Q : Qx) (a75 : Addr) (a76 : Addr) (a77 : Addr) (a78 : Addr) (h : Hp) : syntax_Rules_1_j1_L Q (mkTm [(1, some (.pointer (some a75))), (2, some (.pointer (some a76))), (4, some (.pointer (some a77))), (5, some (.pointer (some a78)))]) h =
    codeWp Tryz.prog 39 true syntax_Rules_1_lp syntax_Rules_1_cut (sub (bodyOf Tryz.f22) [true, true, true]) 15 (maskQ (fun e => match e with | .normal => [] | _ => []) Q) (mkTm [(1, some (.pointer (some a75))), (2, some (.pointer (some a76))), (4, some (.pointer (some a77))), (5, some (.pointer (some a78)))]) h := by kernel_rfl
theorem syntax_Rules_1_j1_mask (Q : Qx) (tm : Tm) (h : Hp) : syntax_Rules_1_j1_L Q tm h ↔ syntax_Rules_1_j1_L Q (mask [1, 2, 4, 5] tm) h := Iff.rfl
set_option maxRecDepth 100000 in
theorem syntax_Rules_1_j1_snd : SndAt Tryz.prog 39 none (sub (bodyOf Tryz.f22) [true, true, true]) (syntax_Rules_1_lp 7) := by
  refine join_sound (pn := true) (lp := syntax_Rules_1_lp) (cut := syntax_Rules_1_cut) (i := 7) (c := (sub (bodyOf Tryz.f22) [true, true, true])) [1, 2, 4, 5] (fun e => match e with | .normal => [] | _ => []) syntax_Rules_1_j1_L ?_ ?_
  · exact good_by (pn := true) (c := (sub (bodyOf Tryz.f22) [true, true, true])) (i := 15) (l := []) (by kernel_rfl) (fun _ h => by cases h)
  · intro Q tm h H
    have H0 := H
    obtain ⟨a75, e1, H⟩ := selA_ex H
    obtain ⟨a76, e2, H⟩ := selA_ex H
    obtain ⟨a77, e4, H⟩ := selA_ex H
    obtain ⟨a78, e5, H⟩ := selA_ex H
    have e : mask [1, 2, 4, 5] tm = mkTm [(1, some (.pointer (some a75))), (2, some (.pointer (some a76))), (4, some (.pointer (some a77))), (5, some (.pointer (some a78)))] := by simp only [mask, List.map_cons, List.map_nil, e1, e2, e4, e5] <;> rfl
    rw [e]
    refine Eq.mp (syntax_Rules_1_j1_step Q a75 a76 a77 a78 h) ?_
    rw [← e]
    exact (syntax_Rules_1_j1_mask Q tm h).mp H0
set_option maxRecDepth 100000 in
theorem syntax_Rules_1_eq (p1 : Option Addr) (a2 : Addr) (a3 : Addr) (h : Hp) (K : Value → Hp → Prop) (KP : Kp) : syntax_Rules_1 p1 a2 a3 h K KP =
    codeWp Tryz.prog 39 true syntax_Rules_1_lp syntax_Rules_1_cut (bodyOf Tryz.f22) 1 (endP Tryz.prog Tryz.f22.results.toList K KP) (argTm [(.pointer p1), (.pointer (some a2)), (.pointer (some a3))]) h := by kernel_rfl
set_option maxRecDepth 100000 in
theorem syntax_Rules_1_ok (p1 : Option Addr) (a2 : Addr) (a3 : Addr) {h : Hp} {K : Value → Hp → Prop} {KP : Kp} (H : syntax_Rules_1 p1 a2 a3 h K KP) : CallsP Tryz.prog 22 #[(.pointer p1), (.pointer (some a2)), (.pointer (some a3))] h K KP :=
  callsP_of (args := [(.pointer p1), (.pointer (some a2)), (.pointer (some a3))]) (n := 39) (lp := syntax_Rules_1_lp) (cut := syntax_Rules_1_cut) Tryz.func22 (c := bodyOf Tryz.f22) (by kernel_rfl) (by kernel_rfl) (by kernel_rfl) (good_by (pn := true) (c := (bodyOf Tryz.f22)) (i := 1) (l := [(7, (sub (bodyOf Tryz.f22) [true, true, true]))]) (by kernel_rfl) (List.forall_mem_cons.2 ⟨syntax_Rules_1_j1_snd, (fun _ h => by cases h)⟩))
    (Eq.mp (syntax_Rules_1_eq p1 a2 a3 h K KP) H)

/-! ### quintet/syntax.Script$1: function 46 -/
set_option maxRecDepth 100000 in
def syntax_Script_1 (p1 : Option Addr) (a2 : Addr) (h : Hp) (K : Value → Hp → Prop) (KP : Kp) : Prop :=
  drf p1 fun a3 =>
  ∃ A4 : Option Addr, ∃ l4 : Nat, ∃ c4 : Nat, HV Tryz.prog (Instr.loadAt 46 (.pointer (some a3))) h (.slice A4 l4 c4) ∧ 
  drf p1 fun a5 =>
  ∃ x6 : Int, HV Tryz.prog (Instr.loadAt 3 (.pointer (some (a5.add 1)))) h (.int .i64 x6) ∧ 
  ∃ a7 : Addr, PV Tryz.prog (Instr.indexAt 46 (.slice A4 l4 c4) (.int .i64 x6)) (.pointer (some a7)) ∧
  ∃ x8 : Int, ∃ s9 : ByteArray, ∃ x10 : Int, ∃ x11 : Int, ∃ x12 : Int, HV Tryz.prog (Instr.loadAt 52 (.pointer (some a7))) h (.agg #[(.int .i64 x8), (.string s9), (.int .u32 x10), (.int .i64 x11), (.int .i64 x12)]) ∧ 
  newC h (.cells #[(.int .i64 0), (.string ⟨#[]⟩), (.int .u32 0), (.int .i64 0), (.int .i64 0)] 52 (0, 0)) fun a14 h13 => HV Tryz.prog (Instr.loadAt 52 (.pointer (some a7))) h13 (.agg #[(.int .i64 x8), (.string s9), (.int .u32 x10), (.int .i64 x11), (.int .i64 x12)]) ∧ HV Tryz.prog (Instr.loadAt 3 (.pointer (some (a5.add 1)))) h13 (.int .i64 x6) ∧ HV Tryz.prog (Instr.loadAt 46 (.pointer (some a3))) h13 (.slice A4 l4 c4) ∧ 
  HU Tryz.prog (Instr.storeAt 52 (.pointer (some a14)) (.agg #[(.int .i64 x8), (.string s9), (.int .u32 x10), (.int .i64 x11), (.int .i64 x12)])) h13 fun h15 => 
  CallsP Tryz.prog 47 #[(.pointer p1)] h15 (fun r17 h16 =>
  ∃ x18 : Int, ∃ x19 : Int, ∃ x20 : Int, ∃ x21 : Int, ∃ x22 : Int, ∃ x23 : Int, ∃ x24 : Int, ∃ x25 : Int, ∃ x26 : Int, ∃ x27 : Int, ∃ x28 : Int, ∃ x29 : Int, ∃ x30 : Int, ∃ x31 : Int, ∃ x32 : Int, ∃ x33 : Int, ∃ x34 : Int, ∃ x35 : Int, ∃ x36 : Int, ∃ x37 : Int, ∃ x38 : Int, ∃ s39 : ByteArray, ∃ x40 : Int, ∃ x41 : Int, ∃ x42 : Int, ∃ x43 : Int, ∃ s44 : ByteArray, ∃ x45 : Int, ∃ x46 : Int, ∃ x47 : Int, ∃ x48 : Int, ∃ s49 : ByteArray, ∃ x50 : Int, ∃ x51 : Int, ∃ x52 : Int, ∃ x53 : Int, ∃ s54 : ByteArray, ∃ x55 : Int, ∃ x56 : Int, ∃ x57 : Int, ∃ x58 : Int, ∃ s59 : ByteArray, ∃ x60 : Int, ∃ x61 : Int, ∃ x62 : Int, ∃ x63 : Int, ∃ s64 : ByteArray, ∃ x65 : Int, ∃ x66 : Int, ∃ x67 : Int, ∃ x68 : Int, ∃ s69 : ByteArray, ∃ x70 : Int, ∃ x71 : Int, ∃ x72 : Int, ∃ x73 : Int, ∃ s74 : ByteArray, ∃ x75 : Int, ∃ x76 : Int, ∃ x77 : Int, r17 = (.tuple #[(.agg #[(.int .i64 x18), (.int .i64 x19), (.int .i64 x20), (.int .i64 x21), (.int .u32 x22), (.int .i64 x23), (.int .u32 x24), (.int .i64 x25), (.int .u16 x26), (.int .u16 x27), (.int .u16 x28), (.int .u16 x29), (.int .u8 x30), (.int .u8 x31), (.int .i64 x32), (.int .u32 x33), (.int .u32 x34), (.int .u16 x35), (.int .u16 x36), (.int .u8 x37)]), (.agg #[(.int .i64 x38), (.string s39), (.int .u32 x40), (.int .i64 x41), (.int .i64 x42), (.int .i64 x43), (.string s44), (.int .u32 x45), (.int .i64 x46), (.int .i64 x47), (.int .i64 x48), (.string s49), (.int .u32 x50), (.int .i64 x51), (.int .i64 x52), (.int .i64 x53), (.string s54), (.int .u32 x55), (.int .i64 x56), (.int .i64 x57), (.int .i64 x58), (.string s59), (.int .u32 x60), (.int .i64 x61), (.int .i64 x62), (.int .i64 x63), (.string s64), (.int .u32 x65), (.int .i64 x66), (.int .i64 x67), (.int .i64 x68), (.string s69), (.int .u32 x70), (.int .i64 x71), (.int .i64 x72), (.int .i64 x73), (.string s74), (.int .u32 x75), (.int .i64 x76), (.int .i64 x77)])]) ∧ 
  newC h16 (.cells #[(.int .i64 0), (.int .i64 0), (.int .i64 0), (.int .i64 0), (.int .u32 0), (.int .i64 0), (.int .u32 0), (.int .i64 0), (.int .u16 0), (.int .u16 0), (.int .u16 0), (.int .u16 0), (.int .u8 0), (.int .u8 0), (.int .i64 0), (.int .u32 0), (.int .u32 0), (.int .u16 0), (.int .u16 0), (.int .u8 0)] 77 (0, 0)) fun a79 h78 => 
  newC h78 (.cells #[(.int .i64 0), (.string ⟨#[]⟩), (.int .u32 0), (.int .i64 0), (.int .i64 0), (.int .i64 0), (.string ⟨#[]⟩), (.int .u32 0), (.int .i64 0), (.int .i64 0), (.int .i64 0), (.string ⟨#[]⟩), (.int .u32 0), (.int .i64 0), (.int .i64 0), (.int .i64 0), (.string ⟨#[]⟩), (.int .u32 0), (.int .i64 0), (.int .i64 0), (.int .i64 0), (.string ⟨#[]⟩), (.int .u32 0), (.int .i64 0), (.int .i64 0), (.int .i64 0), (.string ⟨#[]⟩), (.int .u32 0), (.int .i64 0), (.int .i64 0), (.int .i64 0), (.string ⟨#[]⟩), (.int .u32 0), (.int .i64 0), (.int .i64 0), (.int .i64 0), (.string ⟨#[]⟩), (.int .u32 0), (.int .i64 0), (.int .i64 0)] 83 (0, 0)) fun a81 h80 => 
  HU Tryz.prog (Instr.storeAt 77 (.pointer (some a79)) (.agg #[(.int .i64 x18), (.int .i64 x19), (.int .i64 x20), (.int .i64 x21), (.int .u32 x22), (.int .i64 x23), (.int .u32 x24), (.int .i64 x25), (.int .u16 x26), (.int .u16 x27), (.int .u16 x28), (.int .u16 x29), (.int .u8 x30), (.int .u8 x31), (.int .i64 x32), (.int .u32 x33), (.int .u32 x34), (.int .u16 x35), (.int .u16 x36), (.int .u8 x37)])) h80 fun h82 => 
  HU Tryz.prog (Instr.storeAt 83 (.pointer (some a81)) (.agg #[(.int .i64 x38), (.string s39), (.int .u32 x40), (.int .i64 x41), (.int .i64 x42), (.int .i64 x43), (.string s44), (.int .u32 x45), (.int .i64 x46), (.int .i64 x47), (.int .i64 x48), (.string s49), (.int .u32 x50), (.int .i64 x51), (.int .i64 x52), (.int .i64 x53), (.string s54), (.int .u32 x55), (.int .i64 x56), (.int .i64 x57), (.int .i64 x58), (.string s59), (.int .u32 x60), (.int .i64 x61), (.int .i64 x62), (.int .i64 x63), (.string s64), (.int .u32 x65), (.int .i64 x66), (.int .i64 x67), (.int .i64 x68), (.string s69), (.int .u32 x70), (.int .i64 x71), (.int .i64 x72), (.int .i64 x73), (.string s74), (.int .u32 x75), (.int .i64 x76), (.int .i64 x77)])) h82 fun h83 => 
  CallsP Tryz.prog 24 #[(.pointer p1)] h83 (fun r85 h84 =>
  r85 = (.tuple #[]) ∧ 
  ∃ A86 : Option Addr, ∃ l86 : Nat, ∃ c86 : Nat, HV Tryz.prog (Instr.loadAt 63 (.pointer (some a2))) h84 (.slice A86 l86 c86) ∧ 
  br ((l86 : Int) == 1000)
  (∃ x87 : Int, ∃ s88 : ByteArray, ∃ x89 : Int, ∃ x90 : Int, ∃ x91 : Int, HV Tryz.prog (Instr.loadAt 52 (.pointer (some a14))) h84 (.agg #[(.int .i64 x87), (.string s88), (.int .u32 x89), (.int .i64 x90), (.int .i64 x91)]) ∧ 
  CallsP Tryz.prog 25 #[(.agg #[(.int .i64 x87), (.string s88), (.int .u32 x89), (.int .i64 x90), (.int .i64 x91)]), (.int .i64 102)] h84 (fun r93 h92 =>
  r93 = (.tuple #[]) ∧ 
  ∃ x94 : Int, HV Tryz.prog (Instr.loadAt 67 (.pointer (some a79))) h92 (.int .i64 x94) ∧ 
  br (x94 == 1)
  (∃ x95 : Int, ∃ x96 : Int, ∃ x97 : Int, ∃ x98 : Int, ∃ x99 : Int, ∃ x100 : Int, ∃ x101 : Int, ∃ x102 : Int, ∃ x103 : Int, ∃ x104 : Int, ∃ x105 : Int, ∃ x106 : Int, HV Tryz.prog (Instr.loadAt 75 (.pointer (some (a79.add 3)))) h92 (.agg #[(.int .i64 x95), (.int .u32 x96), (.int .i64 x97), (.int .u32 x98), (.int .i64 x99), (.int .u16 x100), (.int .u16 x101), (.int .u16 x102), (.int .u16 x103), (.int .u8 x104), (.int .u8 x105), (.int .i64 x106)]) ∧ 
  ∃ x107 : Int, ∃ s108 : ByteArray, ∃ x109 : Int, ∃ x110 : Int, ∃ x111 : Int, ∃ x112 : Int, ∃ s113 : ByteArray, ∃ x114 : Int, ∃ x115 : Int, ∃ x116 : Int, ∃ x117 : Int, ∃ s118 : ByteArray, ∃ x119 : Int, ∃ x120 : Int, ∃ x121 : Int, ∃ x122 : Int, ∃ s123 : ByteArray, ∃ x124 : Int, ∃ x125 : Int, ∃ x126 : Int, ∃ x127 : Int, ∃ s128 : ByteArray, ∃ x129 : Int, ∃ x130 : Int, ∃ x131 : Int, ∃ x132 : Int, ∃ s133 : ByteArray, ∃ x134 : Int, ∃ x135 : Int, ∃ x136 : Int, ∃ x137 : Int, ∃ s138 : ByteArray, ∃ x139 : Int, ∃ x140 : Int, ∃ x141 : Int, ∃ x142 : Int, ∃ s143 : ByteArray, ∃ x144 : Int, ∃ x145 : Int, ∃ x146 : Int, HV Tryz.prog (Instr.loadAt 83 (.pointer (some a81))) h92 (.agg #[(.int .i64 x107), (.string s108), (.int .u32 x109), (.int .i64 x110), (.int .i64 x111), (.int .i64 x112), (.string s113), (.int .u32 x114), (.int .i64 x115), (.int .i64 x116), (.int .i64 x117), (.string s118), (.int .u32 x119), (.int .i64 x120), (.int .i64 x121), (.int .i64 x122), (.string s123), (.int .u32 x124), (.int .i64 x125), (.int .i64 x126), (.int .i64 x127), (.string s128), (.int .u32 x129), (.int .i64 x130), (.int .i64 x131), (.int .i64 x132), (.string s133), (.int .u32 x134), (.int .i64 x135), (.int .i64 x136), (.int .i64 x137), (.string s138), (.int .u32 x139), (.int .i64 x140), (.int .i64 x141), (.int .i64 x142), (.string s143), (.int .u32 x144), (.int .i64 x145), (.int .i64 x146)]) ∧ 
  CallsP Tryz.prog 26 #[(.agg #[(.int .i64 x95), (.int .u32 x96), (.int .i64 x97), (.int .u32 x98), (.int .i64 x99), (.int .u16 x100), (.int .u16 x101), (.int .u16 x102), (.int .u16 x103), (.int .u8 x104), (.int .u8 x105), (.int .i64 x106)]), (.agg #[(.int .i64 x107), (.string s108), (.int .u32 x109), (.int .i64 x110), (.int .i64 x111), (.int .i64 x112), (.string s113), (.int .u32 x114), (.int .i64 x115), (.int .i64 x116), (.int .i64 x117), (.string s118), (.int .u32 x119), (.int .i64 x120), (.int .i64 x121), (.int .i64 x122), (.string s123), (.int .u32 x124), (.int .i64 x125), (.int .i64 x126), (.int .i64 x127), (.string s128), (.int .u32 x129), (.int .i64 x130), (.int .i64 x131), (.int .i64 x132), (.string s133), (.int .u32 x134), (.int .i64 x135), (.int .i64 x136), (.int .i64 x137), (.string s138), (.int .u32 x139), (.int .i64 x140), (.int .i64 x141), (.int .i64 x142), (.string s143), (.int .u32 x144), (.int .i64 x145), (.int .i64 x146)])] h92 (fun r148 h147 =>
  r148 = (.tuple #[]) ∧ 
  ∃ A149 : Option Addr, ∃ l149 : Nat, ∃ c149 : Nat, HV Tryz.prog (Instr.loadAt 63 (.pointer (some a2))) h147 (.slice A149 l149 c149) ∧ 
  ∃ x150 : Int, ∃ x151 : Int, ∃ x152 : Int, ∃ x153 : Int, ∃ x154 : Int, ∃ x155 : Int, ∃ x156 : Int, ∃ x157 : Int, ∃ x158 : Int, ∃ x159 : Int, ∃ x160 : Int, ∃ x161 : Int, ∃ x162 : Int, ∃ x163 : Int, ∃ x164 : Int, ∃ x165 : Int, ∃ x166 : Int, ∃ x167 : Int, ∃ x168 : Int, ∃ x169 : Int, HV Tryz.prog (Instr.loadAt 77 (.pointer (some a79))) h147 (.agg #[(.int .i64 x150), (.int .i64 x151), (.int .i64 x152), (.int .i64 x153), (.int .u32 x154), (.int .i64 x155), (.int .u32 x156), (.int .i64 x157), (.int .u16 x158), (.int .u16 x159), (.int .u16 x160), (.int .u16 x161), (.int .u8 x162), (.int .u8 x163), (.int .i64 x164), (.int .u32 x165), (.int .u32 x166), (.int .u16 x167), (.int .u16 x168), (.int .u8 x169)]) ∧ 
  newC h147 (.cells #[(.int .i64 x150), (.int .i64 x151), (.int .i64 x152), (.int .i64 x153), (.int .u32 x154), (.int .i64 x155), (.int .u32 x156), (.int .i64 x157), (.int .u16 x158), (.int .u16 x159), (.int .u16 x160), (.int .u16 x161), (.int .u8 x162), (.int .u8 x163), (.int .i64 x164), (.int .u32 x165), (.int .u32 x166), (.int .u16 x167), (.int .u16 x168), (.int .u8 x169)] 77 (0, 0)) fun a171 h170 => 
  HW Tryz.prog (Builtin.append_ #[63, 63] 63 #[(.slice A149 l149 c149), (.slice (some a171) 1 1)]) h170 fun r173 h172 =>
  ∃ A174 : Option Addr, ∃ l174 : Nat, ∃ c174 : Nat, r173 = (.slice A174 l174 c174) ∧ 
  HU Tryz.prog (Instr.storeAt 63 (.pointer (some a2)) (.slice A174 l174 c174)) h172 fun h175 => 
  K (.tuple #[]) h175) KP)
  (∃ A176 : Option Addr, ∃ l176 : Nat, ∃ c176 : Nat, HV Tryz.prog (Instr.loadAt 63 (.pointer (some a2))) h92 (.slice A176 l176 c176) ∧ 
  ∃ x177 : Int, ∃ x178 : Int, ∃ x179 : Int, ∃ x180 : Int, ∃ x181 : Int, ∃ x182 : Int, ∃ x183 : Int, ∃ x184 : Int, ∃ x185 : Int, ∃ x186 : Int, ∃ x187 : Int, ∃ x188 : Int, ∃ x189 : Int, ∃ x190 : Int, ∃ x191 : Int, ∃ x192 : Int, ∃ x193 : Int, ∃ x194 : Int, ∃ x195 : Int, ∃ x196 : Int, HV Tryz.prog (Instr.loadAt 77 (.pointer (some a79))) h92 (.agg #[(.int .i64 x177), (.int .i64 x178), (.int .i64 x179), (.int .i64 x180), (.int .u32 x181), (.int .i64 x182), (.int .u32 x183), (.int .i64 x184), (.int .u16 x185), (.int .u16 x186), (.int .u16 x187), (.int .u16 x188), (.int .u8 x189), (.int .u8 x190), (.int .i64 x191), (.int .u32 x192), (.int .u32 x193), (.int .u16 x194), (.int .u16 x195), (.int .u8 x196)]) ∧ 
  newC h92 (.cells #[(.int .i64 x177), (.int .i64 x178), (.int .i64 x179), (.int .i64 x180), (.int .u32 x181), (.int .i64 x182), (.int .u32 x183), (.int .i64 x184), (.int .u16 x185), (.int .u16 x186), (.int .u16 x187), (.int .u16 x188), (.int .u8 x189), (.int .u8 x190), (.int .i64 x191), (.int .u32 x192), (.int .u32 x193), (.int .u16 x194), (.int .u16 x195), (.int .u8 x196)] 77 (0, 0)) fun a198 h197 => 
  HW Tryz.prog (Builtin.append_ #[63, 63] 63 #[(.slice A176 l176 c176), (.slice (some a198) 1 1)]) h197 fun r200 h199 =>
  ∃ A201 : Option Addr, ∃ l201 : Nat, ∃ c201 : Nat, r200 = (.slice A201 l201 c201) ∧ 
  HU Tryz.prog (Instr.storeAt 63 (.pointer (some a2)) (.slice A201 l201 c201)) h199 fun h202 => 
  K (.tuple #[]) h202)) KP)
  (∃ x203 : Int, HV Tryz.prog (Instr.loadAt 67 (.pointer (some a79))) h84 (.int .i64 x203) ∧ 
  br (x203 == 1)
  (∃ x204 : Int, ∃ x205 : Int, ∃ x206 : Int, ∃ x207 : Int, ∃ x208 : Int, ∃ x209 : Int, ∃ x210 : Int, ∃ x211 : Int, ∃ x212 : Int, ∃ x213 : Int, ∃ x214 : Int, ∃ x215 : Int, HV Tryz.prog (Instr.loadAt 75 (.pointer (some (a79.add 3)))) h84 (.agg #[(.int .i64 x204), (.int .u32 x205), (.int .i64 x206), (.int .u32 x207), (.int .i64 x208), (.int .u16 x209), (.int .u16 x210), (.int .u16 x211), (.int .u16 x212), (.int .u8 x213), (.int .u8 x214), (.int .i64 x215)]) ∧ 
  ∃ x216 : Int, ∃ s217 : ByteArray, ∃ x218 : Int, ∃ x219 : Int, ∃ x220 : Int, ∃ x221 : Int, ∃ s222 : ByteArray, ∃ x223 : Int, ∃ x224 : Int, ∃ x225 : Int, ∃ x226 : Int, ∃ s227 : ByteArray, ∃ x228 : Int, ∃ x229 : Int, ∃ x230 : Int, ∃ x231 : Int, ∃ s232 : ByteArray, ∃ x233 : Int, ∃ x234 : Int, ∃ x235 : Int, ∃ x236 : Int, ∃ s237 : ByteArray, ∃ x238 : Int, ∃ x239 : Int, ∃ x240 : Int, ∃ x241 : Int, ∃ s242 : ByteArray, ∃ x243 : Int, ∃ x244 : Int, ∃ x245 : Int, ∃ x246 : Int, ∃ s247 : ByteArray, ∃ x248 : Int, ∃ x249 : Int, ∃ x250 : Int, ∃ x251 : Int, ∃ s252 : ByteArray, ∃ x253 : Int, ∃ x254 : Int, ∃ x255 : Int, HV Tryz.prog (Instr.loadAt 83 (.pointer (some a81))) h84 (.agg #[(.int .i64 x216), (.string s217), (.int .u32 x218), (.int .i64 x219), (.int .i64 x220), (.int .i64 x221), (.string s222), (.int .u32 x223), (.int .i64 x224), (.int .i64 x225), (.int .i64 x226), (.string s227), (.int .u32 x228), (.int .i64 x229), (.int .i64 x230), (.int .i64 x231), (.string s232), (.int .u32 x233), (.int .i64 x234), (.int .i64 x235), (.int .i64 x236), (.string s237), (.int .u32 x238), (.int .i64 x239), (.int .i64 x240), (.int .i64 x241), (.string s242), (.int .u32 x243), (.int .i64 x244), (.int .i64 x245), (.int .i64 x246), (.string s247), (.int .u32 x248), (.int .i64 x249), (.int .i64 x250), (.int .i64 x251), (.string s252), (.int .u32 x253), (.int .i64 x254), (.int .i64 x255)]) ∧ 
  CallsP Tryz.prog 26 #[(.agg #[(.int .i64 x204), (.int .u32 x205), (.int .i64 x206), (.int .u32 x207), (.int .i64 x208), (.int .u16 x209), (.int .u16 x210), (.int .u16 x211), (.int .u16 x212), (.int .u8 x213), (.int .u8 x214), (.int .i64 x215)]), (.agg #[(.int .i64 x216), (.string s217), (.int .u32 x218), (.int .i64 x219), (.int .i64 x220), (.int .i64 x221), (.string s222), (.int .u32 x223), (.int .i64 x224), (.int .i64 x225), (.int .i64 x226), (.string s227), (.int .u32 x228), (.int .i64 x229), (.int .i64 x230), (.int .i64 x231), (.string s232), (.int .u32 x233), (.int .i64 x234), (.int .i64 x235), (.int .i64 x236), (.string s237), (.int .u32 x238), (.int .i64 x239), (.int .i64 x240), (.int .i64 x241), (.string s242), (.int .u32 x243), (.int .i64 x244), (.int .i64 x245), (.int .i64 x246), (.string s247), (.int .u32 x248), (.int .i64 x249), (.int .i64 x250), (.int .i64 x251), (.string s252), (.int .u32 x253), (.int .i64 x254), (.int .i64 x255)])] h84 (fun r257 h256 =>
  r257 = (.tuple #[]) ∧ 
  ∃ A258 : Option Addr, ∃ l258 : Nat, ∃ c258 : Nat, HV Tryz.prog (Instr.loadAt 63 (.pointer (some a2))) h256 (.slice A258 l258 c258) ∧ 
  ∃ x259 : Int, ∃ x260 : Int, ∃ x261 : Int, ∃ x262 : Int, ∃ x263 : Int, ∃ x264 : Int, ∃ x265 : Int, ∃ x266 : Int, ∃ x267 : Int, ∃ x268 : Int, ∃ x269 : Int, ∃ x270 : Int, ∃ x271 : Int, ∃ x272 : Int, ∃ x273 : Int, ∃ x274 : Int, ∃ x275 : Int, ∃ x276 : Int, ∃ x277 : Int, ∃ x278 : Int, HV Tryz.prog (Instr.loadAt 77 (.pointer (some a79))) h256 (.agg #[(.int .i64 x259), (.int .i64 x260), (.int .i64 x261), (.int .i64 x262), (.int .u32 x263), (.int .i64 x264), (.int .u32 x265), (.int .i64 x266), (.int .u16 x267), (.int .u16 x268), (.int .u16 x269), (.int .u16 x270), (.int .u8 x271), (.int .u8 x272), (.int .i64 x273), (.int .u32 x274), (.int .u32 x275), (.int .u16 x276), (.int .u16 x277), (.int .u8 x278)]) ∧ 
  newC h256 (.cells #[(.int .i64 x259), (.int .i64 x260), (.int .i64 x261), (.int .i64 x262), (.int .u32 x263), (.int .i64 x264), (.int .u32 x265), (.int .i64 x266), (.int .u16 x267), (.int .u16 x268), (.int .u16 x269), (.int .u16 x270), (.int .u8 x271), (.int .u8 x272), (.int .i64 x273), (.int .u32 x274), (.int .u32 x275), (.int .u16 x276), (.int .u16 x277), (.int .u8 x278)] 77 (0, 0)) fun a280 h279 => 
  HW Tryz.prog (Builtin.append_ #[63, 63] 63 #[(.slice A258 l258 c258), (.slice (some a280) 1 1)]) h279 fun r282 h281 =>
  ∃ A283 : Option Addr, ∃ l283 : Nat, ∃ c283 : Nat, r282 = (.slice A283 l283 c283) ∧ 
  HU Tryz.prog (Instr.storeAt 63 (.pointer (some a2)) (.slice A283 l283 c283)) h281 fun h284 => 
  K (.tuple #[]) h284) KP)
  (∃ A285 : Option Addr, ∃ l285 : Nat, ∃ c285 : Nat, HV Tryz.prog (Instr.loadAt 63 (.pointer (some a2))) h84 (.slice A285 l285 c285) ∧ 
  ∃ x286 : Int, ∃ x287 : Int, ∃ x288 : Int, ∃ x289 : Int, ∃ x290 : Int, ∃ x291 : Int, ∃ x292 : Int, ∃ x293 : Int, ∃ x294 : Int, ∃ x295 : Int, ∃ x296 : Int, ∃ x297 : Int, ∃ x298 : Int, ∃ x299 : Int, ∃ x300 : Int, ∃ x301 : Int, ∃ x302 : Int, ∃ x303 : Int, ∃ x304 : Int, ∃ x305 : Int, HV Tryz.prog (Instr.loadAt 77 (.pointer (some a79))) h84 (.agg #[(.int .i64 x286), (.int .i64 x287), (.int .i64 x288), (.int .i64 x289), (.int .u32 x290), (.int .i64 x291), (.int .u32 x292), (.int .i64 x293), (.int .u16 x294), (.int .u16 x295), (.int .u16 x296), (.int .u16 x297), (.int .u8 x298), (.int .u8 x299), (.int .i64 x300), (.int .u32 x301), (.int .u32 x302), (.int .u16 x303), (.int .u16 x304), (.int .u8 x305)]) ∧ 
  newC h84 (.cells #[(.int .i64 x286), (.int .i64 x287), (.int .i64 x288), (.int .i64 x289), (.int .u32 x290), (.int .i64 x291), (.int .u32 x292), (.int .i64 x293), (.int .u16 x294), (.int .u16 x295), (.int .u16 x296), (.int .u16 x297), (.int .u8 x298), (.int .u8 x299), (.int .i64 x300), (.int .u32 x301), (.int .u32 x302), (.int .u16 x303), (.int .u16 x304), (.int .u8 x305)] 77 (0, 0)) fun a307 h306 => 
  HW Tryz.prog (Builtin.append_ #[63, 63] 63 #[(.slice A285 l285 c285), (.slice (some a307) 1 1)]) h306 fun r309 h308 =>
  ∃ A310 : Option Addr, ∃ l310 : Nat, ∃ c310 : Nat, r309 = (.slice A310 l310 c310) ∧ 
  HU Tryz.prog (Instr.storeAt 63 (.pointer (some a2)) (.slice A310 l310 c310)) h308 fun h311 => 
  K (.tuple #[]) h311))) KP) KP
def syntax_Script_1_lp (i : Nat) (Q : Qx) (tm : Tm) (h : Hp) : Prop := False
def syntax_Script_1_cut (i : Nat) : Option (List Nat) := none
set_option maxRecDepth 100000 in
theorem syntax_Script_1_eq (p1 : Option Addr) (a2 : Addr) (h : Hp) (K : Value → Hp → Prop) (KP : Kp) : syntax_Script_1 p1 a2 h K KP =
    codeWp Tryz.prog 39 true syntax_Script_1_lp syntax_Script_1_cut (bodyOf Tryz.f46) 1 (endP Tryz.prog Tryz.f46.results.toList K KP) (argTm [(.pointer p1), (.pointer (some a2))]) h := by kernel_rfl
set_option maxRecDepth 100000 in
theorem syntax_Script_1_ok (p1 : Option Addr) (a2 : Addr) {h : Hp} {K : Value → Hp → Prop} {KP : Kp} (H : syntax_Script_1 p1 a2 h K KP) : CallsP Tryz.prog 46 #[(.pointer p1), (.pointer (some a2))] h K KP :=
  callsP_of (args := [(.pointer p1), (.pointer (some a2))]) (n := 39) (lp := syntax_Script_1_lp) (cut := syntax_Script_1_cut) Tryz.func46 (c := bodyOf Tryz.f46) (by kernel_rfl) (by kernel_rfl) (by kernel_rfl) (good_by (pn := true) (c := (bodyOf Tryz.f46)) (i := 1) (l := []) (by kernel_rfl) (fun _ h => by cases h))
    (Eq.mp (syntax_Script_1_eq p1 a2 h K KP) H)

/-! ### quintet/rule.Check: function 59 -/
def rule_Check_l3 (a89 : Addr) (x90 : Int) (x91 : Int) (x92 : Int) (x93 : Int) (x94 : Int) (K0 : Int → Int → Hp → Prop) (K1 : Addr → Hp → Prop)  : Nat → Int → Hp → Prop
  | 0, _, _ => False
  | k + 1, x95, h =>
    br (decide (x95 < 5))
    (∃ x100 : Int, PV Tryz.prog (Instr.index 184 (.agg #[(.int .i64 x90), (.int .i64 x91), (.int .i64 x92), (.int .i64 x93), (.int .i64 x94)]) (.int .i64 x95)) (.int .i64 x100) ∧
    br (x100 != 0)
    (K0 x100 (IntKind.i64.wrap (x95 + 2)) h)
    (rule_Check_l3 a89 x90 x91 x92 x93 x94 K0 K1 k (IntKind.i64.wrap (x95 + 1)) h))
    (K1 a89 h)
def rule_Check_l3_L (Q : Qx) (k : Nat) (tm : Tm) (h : Hp) : Prop :=
  selA (tm 1) fun a89 =>
  selAg (tm 29) fun m29_0 =>
  selC m29_0 fun u29_0 m29_1 =>
  selC m29_1 fun u29_1 m29_2 =>
  selC m29_2 fun u29_2 m29_3 =>
  selC m29_3 fun u29_3 m29_4 =>
  selC m29_4 fun u29_4 m29_5 =>
  selN m29_5
  (selI .i64 (some u29_0) fun x90 =>
  selI .i64 (some u29_1) fun x91 =>
  selI .i64 (some u29_2) fun x92 =>
  selI .i64 (some u29_3) fun x93 =>
  selI .i64 (some u29_4) fun x94 =>
  selI .i64 (tm 30) fun x95 =>
  rule_Check_l3 a89 x90 x91 x92 x93 x94 (fun (x97 : Int) (x98 : Int) h => Q (.ret) (mkTm [(2, some (.int .i64 x97)), (3, some (.int .i64 x98))]) h) (fun (a99 : Addr) h => Q (.exit 0) (mkTm [(1, some (.pointer (some a99)))]) h) k x95 h)
def rule_Check_j2 (K0 : Int → Int → Hp → Prop) (a17 : Addr) (h : Hp) : Prop :=
  ∃ x64 : Int, ∃ x65 : Int, HV Tryz.prog (Instr.loadAt 69 (.pointer (some (a17.add 1)))) h (.agg #[(.int .u32 x64), (.int .i64 x65)]) ∧ 
  CallsH Tryz.prog 78 #[(.agg #[(.int .u32 x64), (.int .i64 x65)])] h fun r67 h66 =>
  ∃ x68 : Int, r67 = (.int .i64 x68) ∧ 
  ∃ x69 : Int, ∃ x70 : Int, HV Tryz.prog (Instr.loadAt 69 (.pointer (some (a17.add 3)))) h66 (.agg #[(.int .u32 x69), (.int .i64 x70)]) ∧ HV Tryz.prog (Instr.loadAt 69 (.pointer (some (a17.add 3)))) h (.agg #[(.int .u32 x69), (.int .i64 x70)]) ∧ 
  CallsH Tryz.prog 78 #[(.agg #[(.int .u32 x69), (.int .i64 x70)])] h66 fun r72 h71 =>
  ∃ x73 : Int, r72 = (.int .i64 x73) ∧ 
  ∃ x74 : Int, ∃ x75 : Int, HV Tryz.prog (Instr.loadAt 71 (.pointer (some (a17.add 5)))) h71 (.agg #[(.int .u16 x74), (.int .u16 x75)]) ∧ HV Tryz.prog (Instr.loadAt 71 (.pointer (some (a17.add 5)))) h66 (.agg #[(.int .u16 x74), (.int .u16 x75)]) ∧ HV Tryz.prog (Instr.loadAt 71 (.pointer (some (a17.add 5)))) h (.agg #[(.int .u16 x74), (.int .u16 x75)]) ∧ 
  CallsH Tryz.prog 79 #[(.agg #[(.int .u16 x74), (.int .u16 x75)])] h71 fun r77 h76 =>
  ∃ x78 : Int, r77 = (.int .i64 x78) ∧ 
  ∃ x79 : Int, ∃ x80 : Int, HV Tryz.prog (Instr.loadAt 71 (.pointer (some (a17.add 7)))) h76 (.agg #[(.int .u16 x79), (.int .u16 x80)]) ∧ HV Tryz.prog (Instr.loadAt 71 (.pointer (some (a17.add 7)))) h71 (.agg #[(.int .u16 x79), (.int .u16 x80)]) ∧ HV Tryz.prog (Instr.loadAt 71 (.pointer (some (a17.add 7)))) h66 (.agg #[(.int .u16 x79), (.int .u16 x80)]) ∧ HV Tryz.prog (Instr.loadAt 71 (.pointer (some (a17.add 7)))) h (.agg #[(.int .u16 x79), (.int .u16 x80)]) ∧ 
  CallsH Tryz.prog 79 #[(.agg #[(.int .u16 x79), (.int .u16 x80)])] h76 fun r82 h81 =>
  ∃ x83 : Int, r82 = (.int .i64 x83) ∧ 
  ∃ x84 : Int, ∃ x85 : Int, HV Tryz.prog (Instr.loadAt 73 (.pointer (some (a17.add 9)))) h81 (.agg #[(.int .u8 x84), (.int .u8 x85)]) ∧ HV Tryz.prog (Instr.loadAt 73 (.pointer (some (a17.add 9)))) h76 (.agg #[(.int .u8 x84), (.int .u8 x85)]) ∧ HV Tryz.prog (Instr.loadAt 73 (.pointer (some (a17.add 9)))) h71 (.agg #[(.int .u8 x84), (.int .u8 x85)]) ∧ HV Tryz.prog (Instr.loadAt 73 (.pointer (some (a17.add 9)))) h66 (.agg #[(.int .u8 x84), (.int .u8 x85)]) ∧ HV Tryz.prog (Instr.loadAt 73 (.pointer (some (a17.add 9)))) h (.agg #[(.int .u8 x84), (.int .u8 x85)]) ∧ 
  CallsH Tryz.prog 80 #[(.agg #[(.int .u8 x84), (.int .u8 x85)])] h81 fun r87 h86 =>
  ∃ x88 : Int, r87 = (.int .i64 x88) ∧ 
  ∃ k107, rule_Check_l3 a17 x68 x73 x78 x83 x88
  (fun (x101 : Int) (x102 : Int) (h103 : Hp) =>
  K0 x101 x102 h103)
  (fun (a104 : Addr) (h105 : Hp) =>
  ∃ x106 : Int, HV Tryz.prog (Instr.loadAt 38 (.pointer (some (a104.add 11)))) h105 (.int .i64 x106) ∧ 
  br (x106 == 1)
  (K0 0 0 h105)
  (br (x106 == 2)
  (K0 0 0 h105)
  (br (x106 == 3)
  (K0 0 0 h105)
  (br (x106 == 4)
  (K0 0 0 h105)
  (K0 81 7 h105)))))
   k107 0 h86
def rule_Check_j2_L (Q : Qx) (tm : Tm) (h : Hp) : Prop :=
  selA (tm 1) fun a17 =>
  rule_Check_j2 (fun (x62 : Int) (x63 : Int) h => Q (.ret) (mkTm [(2, some (.int .i64 x62)), (3, some (.int .i64 x63))]) h) a17 h
set_option maxRecDepth 100000 in
def rule_Check (x1 : Int) (x2 : Int) (x3 : Int) (x4 : Int) (x5 : Int) (x6 : Int) (x7 : Int) (x8 : Int) (x9 : Int) (x10 : Int) (x11 : Int) (x12 : Int) (h : Hp) (K : Value → Hp → Prop) : Prop :=
  newC h (.cells #[(.int .i64 x1), (.int .u32 x2), (.int .i64 x3), (.int .u32 x4), (.int .i64 x5), (.int .u16 x6), (.int .u16 x7), (.int .u16 x8), (.int .u16 x9), (.int .u8 x10), (.int .u8 x11), (.int .i64 x12)] 75 (0, 0)) fun a14 h13 => 
  ∃ x108 : Int, HV Tryz.prog (Instr.loadAt 3 (.pointer (some a14))) h13 (.int .i64 x108) ∧ 
  br (decide (x108 < 1))
  (K (.tuple #[(.int .i64 80), (.int .i64 1)]) h13)
  (∃ x109 : Int, HV Tryz.prog (Instr.loadAt 3 (.pointer (some a14))) h13 (.int .i64 x109) ∧ 
  br (decide (x109 > 999999))
  (K (.tuple #[(.int .i64 80), (.int .i64 1)]) h13)
  (rule_Check_j2
  (fun (x110 : Int) (x111 : Int) (h112 : Hp) =>
  K (.tuple #[(.int .i64 x110), (.int .i64 x111)]) h112)
  a14 h13))
def rule_Check_lp (i : Nat) (Q : Qx) (tm : Tm) (h : Hp) : Prop := match Nat.beq i 58 with
  | true => ∃ k, rule_Check_l3_L Q k tm h
  | false => match Nat.beq i 3 with
  | true => rule_Check_j2_L Q tm h
  | false => False
def rule_Check_cut (i : Nat) : Option (List Nat) := match Nat.beq i 3 with
  | true => some [1]
  | false => none
set_option maxRecDepth 100000 in
theorem rule_Check_l3_step (Q : Qx) (k : Nat) (a89 : Addr) (x90 : Int) (x91 : Int) (x92 : Int) (x93 : Int) (x94 : Int) (x95 : Int) (h : Hp) : rule_Check_l3_L Q (k + 1) (mkTm [(1, some (.pointer (some a89))), (29, some (.agg #[(.int .i64 x90), (.int .i64 x91), (.int .i64 x92), (.int .i64 x93), (.int .i64 x94)])), (30, some (.int .i64 x95))]) h =
    codeWp Tryz.prog 47 false rule_Check_lp rule_Check_cut (sub (bodyOf Tryz.f59) [true, true, false, true, false, false]) 116 (thenQ (fun tm h => rule_Check_l3_L Q k (mask [1, 29, 30] tm) h) (maskQ (fun e => match e with | .ret => [2, 3] | .exit 0 => [1] | _ => []) Q)) (mkTm [(1, some (.pointer (some a89))), (29, some (.agg #[(.int .i64 x90), (.int .i64 x91), (.int .i64 x92), (.int .i64 x93), (.int .i64 x94)])), (30, some (.int .i64 x95))]) h := by kernel_rfl
theorem rule_Check_l3_mask (Q : Qx) (k : Nat) (tm : Tm) (h : Hp) : rule_Check_l3_L Q k tm h ↔ rule_Check_l3_L Q k (mask [1, 29, 30] tm) h := Iff.rfl
set_option maxRecDepth 100000 in
theorem rule_Check_l3_snd : SndAt Tryz.prog 47 none (sub (bodyOf Tryz.f59) [true, true, false, true, false]) (rule_Check_lp 58) := by
  refine loop_sound (pn := false) (lp := rule_Check_lp) (cut := rule_Check_cut) (i := 58) (c := (sub (bodyOf Tryz.f59) [true, true, false, true, false, false])) [1, 29, 30] (fun e => match e with | .ret => [2, 3] | .exit 0 => [1] | _ => []) rule_Check_l3_L ?_ ?_ ?_
  · exact good_by (pn := false) (c := (sub (bodyOf Tryz.f59) [true, true, false, true, false, false])) (i := 116) (l := []) (by kernel_rfl) (fun _ h => by cases h)
  · intro Q tm h H
    obtain ⟨a89, e1, H⟩ := selA_ex H
    obtain ⟨m29_0, e29, H⟩ := selAg_ex H
    obtain ⟨u29_0, m29_1, f, G⟩ := selC_ex H
    clear H
    subst f
    have H := G
    clear G
    obtain ⟨u29_1, m29_2, f, G⟩ := selC_ex H
    clear H
    subst f
    have H := G
    clear G
    obtain ⟨u29_2, m29_3, f, G⟩ := selC_ex H
    clear H
    subst f
    have H := G
    clear G
    obtain ⟨u29_3, m29_4, f, G⟩ := selC_ex H
    clear H
    subst f
    have H := G
    clear G
    obtain ⟨u29_4, m29_5, f, G⟩ := selC_ex H
    clear H
    subst f
    have H := G
    clear G
    obtain ⟨f, G⟩ := selN_ex H
    clear H
    subst f
    have H := G
    clear G
    obtain ⟨x90, f, G⟩ := selI_ex H
    clear H
    have H := G
    clear G
    obtain rfl := Option.some.inj f
    obtain ⟨x91, f, G⟩ := selI_ex H
    clear H
    have H := G
    clear G
    obtain rfl := Option.some.inj f
    obtain ⟨x92, f, G⟩ := selI_ex H
    clear H
    have H := G
    clear G
    obtain rfl := Option.some.inj f
    obtain ⟨x93, f, G⟩ := selI_ex H
    clear H
    have H := G
    clear G
    obtain rfl := Option.some.inj f
    obtain ⟨x94, f, G⟩ := selI_ex H
    clear H
    have H := G
    clear G
    obtain rfl := Option.some.inj f
    obtain ⟨x95, e30, H⟩ := selI_ex H
    exact H
  · intro Q k tm h H
    have H0 := H
    obtain ⟨a89, e1, H⟩ := selA_ex H
    obtain ⟨m29_0, e29, H⟩ := selAg_ex H
    obtain ⟨u29_0, m29_1, f, G⟩ := selC_ex H
    clear H
    subst f
    have H := G
    clear G
    obtain ⟨u29_1, m29_2, f, G⟩ := selC_ex H
    clear H
    subst f
    have H := G
    clear G
    obtain ⟨u29_2, m29_3, f, G⟩ := selC_ex H
    clear H
    subst f
    have H := G
    clear G
    obtain ⟨u29_3, m29_4, f, G⟩ := selC_ex H
    clear H
    subst f
    have H := G
    clear G
    obtain ⟨u29_4, m29_5, f, G⟩ := selC_ex H
    clear H
    subst f
    have H := G
    clear G
    obtain ⟨f, G⟩ := selN_ex H
    clear H
    subst f
    have H := G
    clear G
    obtain ⟨x90, f, G⟩ := selI_ex H
    clear H
    have H := G
    clear G
    obtain rfl := Option.some.inj f
    obtain ⟨x91, f, G⟩ := selI_ex H
    clear H
    have H := G
    clear G
    obtain rfl := Option.some.inj f
    obtain ⟨x92, f, G⟩ := selI_ex H
    clear H
    have H := G
    clear G
    obtain rfl := Option.some.inj f
    obtain ⟨x93, f, G⟩ := selI_ex H
    clear H
    have H := G
    clear G
    obtain rfl := Option.some.inj f
    obtain ⟨x94, f, G⟩ := selI_ex H
    clear H
    have H := G
    clear G
    obtain rfl := Option.some.inj f
    obtain ⟨x95, e30, H⟩ := selI_ex H
    have e : mask [1, 29, 30] tm = mkTm [(1, some (.pointer (some a89))), (29, some (.agg #[(.int .i64 x90), (.int .i64 x91), (.int .i64 x92), (.int .i64 x93), (.int .i64 x94)])), (30, some (.int .i64 x95))] := by simp only [mask, List.map_cons, List.map_nil, e1, e29, e30] <;> rfl
    rw [e]
    refine Eq.mp (rule_Check_l3_step Q k a89 x90 x91 x92 x93 x94 x95 h) ?_
    rw [← e]
    exact (rule_Check_l3_mask Q (k + 1) tm h).mp H0
set_option maxRecDepth 100000 in
theorem rule_Check_j2_step (Q : Qx) (a17 : Addr) (h : Hp) : rule_Check_j2_L Q (mkTm [(1, some (.pointer (some a17)))]) h =
    codeWp Tryz.prog 47 false rule_Check_lp rule_Check_cut (sub (bodyOf Tryz.f59) [true, true]) 7 (maskQ (fun e => match e with | .ret => [2, 3] | _ => []) Q) (mkTm [(1, some (.pointer (some a17)))]) h := by kernel_rfl
theorem rule_Check_j2_mask (Q : Qx) (tm : Tm) (h : Hp) : rule_Check_j2_L Q tm h ↔ rule_Check_j2_L Q (mask [1] tm) h := Iff.rfl
set_option maxRecDepth 100000 in
theorem rule_Check_j2_snd : SndAt Tryz.prog 47 none (sub (bodyOf Tryz.f59) [true, true]) (rule_Check_lp 3) := by
  refine join_sound (pn := false) (lp := rule_Check_lp) (cut := rule_Check_cut) (i := 3) (c := (sub (bodyOf Tryz.f59) [true, true])) [1] (fun e => match e with | .ret => [2, 3] | _ => []) rule_Check_j2_L ?_ ?_
  · exact good_by (pn := false) (c := (sub (bodyOf Tryz.f59) [true, true])) (i := 7) (l := [(58, (sub (bodyOf Tryz.f59) [true, true, false, true, false]))]) (by kernel_rfl) (List.forall_mem_cons.2 ⟨rule_Check_l3_snd, (fun _ h => by cases h)⟩)
  · intro Q tm h H
    have H0 := H
    obtain ⟨a17, e1, H⟩ := selA_ex H
    have e : mask [1] tm = mkTm [(1, some (.pointer (some a17)))] := by simp only [mask, List.map_cons, List.map_nil, e1] <;> rfl
    rw [e]
    refine Eq.mp (rule_Check_j2_step Q a17 h) ?_
    rw [← e]
    exact (rule_Check_j2_mask Q tm h).mp H0
set_option maxRecDepth 100000 in
theorem rule_Check_eq (x1 : Int) (x2 : Int) (x3 : Int) (x4 : Int) (x5 : Int) (x6 : Int) (x7 : Int) (x8 : Int) (x9 : Int) (x10 : Int) (x11 : Int) (x12 : Int) (h : Hp) (K : Value → Hp → Prop) : rule_Check x1 x2 x3 x4 x5 x6 x7 x8 x9 x10 x11 x12 h K =
    codeWp Tryz.prog 47 false rule_Check_lp rule_Check_cut (bodyOf Tryz.f59) 1 (endQ Tryz.prog Tryz.f59.results.toList K) (argTm [(.agg #[(.int .i64 x1), (.int .u32 x2), (.int .i64 x3), (.int .u32 x4), (.int .i64 x5), (.int .u16 x6), (.int .u16 x7), (.int .u16 x8), (.int .u16 x9), (.int .u8 x10), (.int .u8 x11), (.int .i64 x12)])]) h := by kernel_rfl
set_option maxRecDepth 100000 in
theorem rule_Check_ok (x1 : Int) (x2 : Int) (x3 : Int) (x4 : Int) (x5 : Int) (x6 : Int) (x7 : Int) (x8 : Int) (x9 : Int) (x10 : Int) (x11 : Int) (x12 : Int) {h : Hp} {K : Value → Hp → Prop} (H : rule_Check x1 x2 x3 x4 x5 x6 x7 x8 x9 x10 x11 x12 h K) : CallsH Tryz.prog 59 #[(.agg #[(.int .i64 x1), (.int .u32 x2), (.int .i64 x3), (.int .u32 x4), (.int .i64 x5), (.int .u16 x6), (.int .u16 x7), (.int .u16 x8), (.int .u16 x9), (.int .u8 x10), (.int .u8 x11), (.int .i64 x12)])] h K :=
  calls_of (pn := false) (args := [(.agg #[(.int .i64 x1), (.int .u32 x2), (.int .i64 x3), (.int .u32 x4), (.int .i64 x5), (.int .u16 x6), (.int .u16 x7), (.int .u16 x8), (.int .u16 x9), (.int .u8 x10), (.int .u8 x11), (.int .i64 x12)])]) (n := 47) (lp := rule_Check_lp) (cut := rule_Check_cut) Tryz.func59 (c := bodyOf Tryz.f59) (by kernel_rfl) (by kernel_rfl) (by kernel_rfl) (good_by (pn := false) (c := (bodyOf Tryz.f59)) (i := 1) (l := [(3, (sub (bodyOf Tryz.f59) [true, true]))]) (by kernel_rfl) (List.forall_mem_cons.2 ⟨rule_Check_j2_snd, (fun _ h => by cases h)⟩))
    (Eq.mp (rule_Check_eq x1 x2 x3 x4 x5 x6 x7 x8 x9 x10 x11 x12 h K) H)

/-! ### quintet/prefix.care: function 91 -/
set_option maxRecDepth 100000 in
def prefix_care (x1 : Int) (h : Hp) (K : Value → Hp → Prop) : Prop :=
  ∃ x2 : Int, PV Tryz.prog (binOp .shl 50 (.int .u32 4294967295) (.int .i64 (IntKind.i64.wrap (32 - x1)))) (.int .u32 x2) ∧
  K (.int .u32 x2) h
def prefix_care_lp (i : Nat) (Q : Qx) (tm : Tm) (h : Hp) : Prop := False
def prefix_care_cut (i : Nat) : Option (List Nat) := none
set_option maxRecDepth 100000 in
theorem prefix_care_eq (x1 : Int) (h : Hp) (K : Value → Hp → Prop) : prefix_care x1 h K =
    codeWp Tryz.prog 6 false prefix_care_lp prefix_care_cut (bodyOf Tryz.f91) 1 (endQ Tryz.prog Tryz.f91.results.toList K) (argTm [(.int .i64 x1)]) h := by kernel_rfl
set_option maxRecDepth 100000 in
theorem prefix_care_ok (x1 : Int) {h : Hp} {K : Value → Hp → Prop} (H : prefix_care x1 h K) : CallsH Tryz.prog 91 #[(.int .i64 x1)] h K :=
  calls_of (pn := false) (args := [(.int .i64 x1)]) (n := 6) (lp := prefix_care_lp) (cut := prefix_care_cut) Tryz.func91 (c := bodyOf Tryz.f91) (by kernel_rfl) (by kernel_rfl) (by kernel_rfl) (good_by (pn := false) (c := (bodyOf Tryz.f91)) (i := 1) (l := []) (by kernel_rfl) (fun _ h => by cases h))
    (Eq.mp (prefix_care_eq x1 h K) H)

/-! ### quintet/prefix.Check: function 78 -/
set_option maxRecDepth 100000 in
def prefix_Check (x1 : Int) (x2 : Int) (h : Hp) (K : Value → Hp → Prop) : Prop :=
  newC h (.cells #[(.int .u32 x1), (.int .i64 x2)] 69 (0, 0)) fun a4 h3 => 
  ∃ x5 : Int, HV Tryz.prog (Instr.loadAt 3 (.pointer (some (a4.add 1)))) h3 (.int .i64 x5) ∧ 
  br (decide (x5 < 0))
  (K (.int .i64 20) h3)
  (∃ x6 : Int, HV Tryz.prog (Instr.loadAt 3 (.pointer (some (a4.add 1)))) h3 (.int .i64 x6) ∧ 
  br (decide (x6 > 32))
  (K (.int .i64 20) h3)
  (∃ x7 : Int, HV Tryz.prog (Instr.loadAt 50 (.pointer (some a4))) h3 (.int .u32 x7) ∧ 
  ∃ x8 : Int, HV Tryz.prog (Instr.loadAt 3 (.pointer (some (a4.add 1)))) h3 (.int .i64 x8) ∧ 
  CallsH Tryz.prog 91 #[(.int .i64 x8)] h3 fun r10 h9 =>
  ∃ x11 : Int, r10 = (.int .u32 x11) ∧ HV Tryz.prog (Instr.loadAt 50 (.pointer (some a4))) h9 (.int .u32 x7) ∧ 
  br ((bAndNot .u32 x7 x11) != 0)
  (K (.int .i64 21) h9)
  (K (.int .i64 0) h9)))
def prefix_Check_lp (i : Nat) (Q : Qx) (tm : Tm) (h : Hp) : Prop := False
def prefix_Check_cut (i : Nat) : Option (List Nat) := none
set_option maxRecDepth 100000 in
theorem prefix_Check_eq (x1 : Int) (x2 : Int) (h : Hp) (K : Value → Hp → Prop) : prefix_Check x1 x2 h K =
    codeWp Tryz.prog 20 false prefix_Check_lp prefix_Check_cut (bodyOf Tryz.f78) 1 (endQ Tryz.prog Tryz.f78.results.toList K) (argTm [(.agg #[(.int .u32 x1), (.int .i64 x2)])]) h := by kernel_rfl
set_option maxRecDepth 100000 in
theorem prefix_Check_ok (x1 : Int) (x2 : Int) {h : Hp} {K : Value → Hp → Prop} (H : prefix_Check x1 x2 h K) : CallsH Tryz.prog 78 #[(.agg #[(.int .u32 x1), (.int .i64 x2)])] h K :=
  calls_of (pn := false) (args := [(.agg #[(.int .u32 x1), (.int .i64 x2)])]) (n := 20) (lp := prefix_Check_lp) (cut := prefix_Check_cut) Tryz.func78 (c := bodyOf Tryz.f78) (by kernel_rfl) (by kernel_rfl) (by kernel_rfl) (good_by (pn := false) (c := (bodyOf Tryz.f78)) (i := 1) (l := []) (by kernel_rfl) (fun _ h => by cases h))
    (Eq.mp (prefix_Check_eq x1 x2 h K) H)

/-! ### quintet/span.Check: function 79 -/
set_option maxRecDepth 100000 in
def span_Check (x1 : Int) (x2 : Int) (h : Hp) (K : Value → Hp → Prop) : Prop :=
  newC h (.cells #[(.int .u16 x1), (.int .u16 x2)] 71 (0, 0)) fun a4 h3 => 
  ∃ x5 : Int, HV Tryz.prog (Instr.loadAt 55 (.pointer (some a4))) h3 (.int .u16 x5) ∧ 
  ∃ x6 : Int, HV Tryz.prog (Instr.loadAt 55 (.pointer (some (a4.add 1)))) h3 (.int .u16 x6) ∧ 
  br (decide (x5 > x6))
  (K (.int .i64 30) h3)
  (K (.int .i64 0) h3)
def span_Check_lp (i : Nat) (Q : Qx) (tm : Tm) (h : Hp) : Prop := False
def span_Check_cut (i : Nat) : Option (List Nat) := none
set_option maxRecDepth 100000 in
theorem span_Check_eq (x1 : Int) (x2 : Int) (h : Hp) (K : Value → Hp → Prop) : span_Check x1 x2 h K =
    codeWp Tryz.prog 8 false span_Check_lp span_Check_cut (bodyOf Tryz.f79) 1 (endQ Tryz.prog Tryz.f79.results.toList K) (argTm [(.agg #[(.int .u16 x1), (.int .u16 x2)])]) h := by kernel_rfl
set_option maxRecDepth 100000 in
theorem span_Check_ok (x1 : Int) (x2 : Int) {h : Hp} {K : Value → Hp → Prop} (H : span_Check x1 x2 h K) : CallsH Tryz.prog 79 #[(.agg #[(.int .u16 x1), (.int .u16 x2)])] h K :=
  calls_of (pn := false) (args := [(.agg #[(.int .u16 x1), (.int .u16 x2)])]) (n := 8) (lp := span_Check_lp) (cut := span_Check_cut) Tryz.func79 (c := bodyOf Tryz.f79) (by kernel_rfl) (by kernel_rfl) (by kernel_rfl) (good_by (pn := false) (c := (bodyOf Tryz.f79)) (i := 1) (l := []) (by kernel_rfl) (fun _ h => by cases h))
    (Eq.mp (span_Check_eq x1 x2 h K) H)

/-! ### quintet/mask.Check: function 80 -/
set_option maxRecDepth 100000 in
def mask_Check (x1 : Int) (x2 : Int) (h : Hp) (K : Value → Hp → Prop) : Prop :=
  newC h (.cells #[(.int .u8 x1), (.int .u8 x2)] 73 (0, 0)) fun a4 h3 => 
  ∃ x5 : Int, HV Tryz.prog (Instr.loadAt 5 (.pointer (some a4))) h3 (.int .u8 x5) ∧ 
  ∃ x6 : Int, HV Tryz.prog (Instr.loadAt 5 (.pointer (some (a4.add 1)))) h3 (.int .u8 x6) ∧ 
  br ((bAndNot .u8 x5 x6) != 0)
  (K (.int .i64 40) h3)
  (K (.int .i64 0) h3)
def mask_Check_lp (i : Nat) (Q : Qx) (tm : Tm) (h : Hp) : Prop := False
def mask_Check_cut (i : Nat) : Option (List Nat) := none
set_option maxRecDepth 100000 in
theorem mask_Check_eq (x1 : Int) (x2 : Int) (h : Hp) (K : Value → Hp → Prop) : mask_Check x1 x2 h K =
    codeWp Tryz.prog 9 false mask_Check_lp mask_Check_cut (bodyOf Tryz.f80) 1 (endQ Tryz.prog Tryz.f80.results.toList K) (argTm [(.agg #[(.int .u8 x1), (.int .u8 x2)])]) h := by kernel_rfl
set_option maxRecDepth 100000 in
theorem mask_Check_ok (x1 : Int) (x2 : Int) {h : Hp} {K : Value → Hp → Prop} (H : mask_Check x1 x2 h K) : CallsH Tryz.prog 80 #[(.agg #[(.int .u8 x1), (.int .u8 x2)])] h K :=
  calls_of (pn := false) (args := [(.agg #[(.int .u8 x1), (.int .u8 x2)])]) (n := 9) (lp := mask_Check_lp) (cut := mask_Check_cut) Tryz.func80 (c := bodyOf Tryz.f80) (by kernel_rfl) (by kernel_rfl) (by kernel_rfl) (good_by (pn := false) (c := (bodyOf Tryz.f80)) (i := 1) (l := []) (by kernel_rfl) (fun _ h => by cases h))
    (Eq.mp (mask_Check_eq x1 x2 h K) H)

end Go.Proofs.YtfdpccbajaiepaaGreatDoor.Sxp.Fx
