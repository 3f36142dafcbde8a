/- Texts laid together: FxP, FxN, Shelf, SxStr. -/
import Derived.Test.YtfdpccbajaiepaaGreatDoorB01
import Derived.Test.YtfdpccbajaiepaaGreatDoorB02
import Derived.Test.YtfdpccbajaiepaaGreatDoorProg
import Derived.Shelf.Strings.Builder1
import Derived.Shelf.Strings.BuilderF
import Derived.Shelf.Strings.BuilderK
import Derived.Shelf.Strconv.Itoa0
import Derived.Shelf.Strconv.Itoa1
import Derived.Shelf.LaysM
import Derived.Shelf.Strconv.Itoa2
import Derived.Shelf.Strconv.AppendUint10
import Derived.Shelf.Strconv.AppendInt10
import Derived.Test.YtfdpccbajaiepaaGreatDoorB03
import Derived.Lib.UnsafeStr
import Derived.Laws.BytesArg
/- Printed by sx.py: words over the heap alone for Go functions, and that each call does what its word says. -/
namespace Go.Proofs.YtfdpccbajaiepaaGreatDoor.Sxp.Fx
open Go Go.RowKit Go.Proofs.YtfdpccbajaiepaaGreatDoor.Sx
set_option linter.unusedVariables false
set_option maxRecDepth 100000
set_option maxHeartbeats 4000000

/-! ### quintet/syntax.Print: function 36 -/
set_option maxRecDepth 100000 in
def syntax_Print (x1 : Int) (x2 : Int) (x3 : Int) (x4 : Int) (x5 : Int) (x6 : Int) (x7 : Int) (x8 : Int) (x9 : Int) (x10 : Int) (x11 : Int) (x12 : Int) (h : Hp) (K : Value → Hp → Prop) : Prop :=
  newC h (.cells #[(.int .i64 x1), (.int .u32 x2), (.int .i64 x3), (.int .u32 x4), (.int .i64 x5), (.int .u16 x6), (.int .u16 x7), (.int .u16 x8), (.int .u16 x9), (.int .u8 x10), (.int .u8 x11), (.int .i64 x12)] 75 (0, 0)) fun a14 h13 => 
  ∃ x15 : Int, ∃ x16 : Int, ∃ x17 : Int, ∃ x18 : Int, ∃ x19 : Int, ∃ x20 : Int, ∃ x21 : Int, ∃ x22 : Int, ∃ x23 : Int, ∃ x24 : Int, ∃ x25 : Int, ∃ x26 : Int, HV Tryz.prog (Instr.loadAt 75 (.pointer (some a14))) h13 (.agg #[(.int .i64 x15), (.int .u32 x16), (.int .i64 x17), (.int .u32 x18), (.int .i64 x19), (.int .u16 x20), (.int .u16 x21), (.int .u16 x22), (.int .u16 x23), (.int .u8 x24), (.int .u8 x25), (.int .i64 x26)]) ∧ 
  CallsH Tryz.prog 59 #[(.agg #[(.int .i64 x15), (.int .u32 x16), (.int .i64 x17), (.int .u32 x18), (.int .i64 x19), (.int .u16 x20), (.int .u16 x21), (.int .u16 x22), (.int .u16 x23), (.int .u8 x24), (.int .u8 x25), (.int .i64 x26)])] h13 fun r28 h27 =>
  ∃ x29 : Int, ∃ x30 : Int, r28 = (.tuple #[(.int .i64 x29), (.int .i64 x30)]) ∧ 
  br (x29 != 0)
  (K (.tuple #[(.string ({ data := #[] })), (.int .i64 x29)]) h27)
  (∃ x31 : Int, HV Tryz.prog (Instr.loadAt 3 (.pointer (some a14))) h27 (.int .i64 x31) ∧ 
  CallsH Tryz.prog 45 #[(.slice none 0 0), (.string ({ data := #[] })), (.int .u64 (IntKind.u64.wrap (x31)))] h27 fun r33 h32 =>
  ∃ A34 : Option Addr, ∃ l34 : Nat, ∃ c34 : Nat, r33 = (.slice A34 l34 c34) ∧ 
  CallsH Tryz.prog 65 #[] h32 fun r36 h35 =>
  ∃ s37 : ByteArray, ∃ s38 : ByteArray, ∃ s39 : ByteArray, ∃ s40 : ByteArray, ∃ s41 : ByteArray, r36 = (.agg #[(.string s37), (.string s38), (.string s39), (.string s40), (.string s41)]) ∧ 
  ∃ x42 : Int, HV Tryz.prog (Instr.loadAt 38 (.pointer (some (a14.add 11)))) h35 (.int .i64 x42) ∧ HV Tryz.prog (Instr.loadAt 38 (.pointer (some (a14.add 11)))) h32 (.int .i64 x42) ∧ 
  ∃ s43 : ByteArray, PV Tryz.prog (Instr.index 166 (.agg #[(.string s37), (.string s38), (.string s39), (.string s40), (.string s41)]) (.int .i64 x42)) (.string s43) ∧
  ∃ s44 : ByteArray, PV Tryz.prog (binOp .add 9 (.string ({ data := #[32] })) (.string s43)) (.string s44) ∧
  HW Tryz.prog (Builtin.append_ #[58, 9] 58 #[(.slice A34 l34 c34), (.string s44)]) h35 fun r46 h45 =>
  ∃ A47 : Option Addr, ∃ l47 : Nat, ∃ c47 : Nat, r46 = (.slice A47 l47 c47) ∧ 
  ∃ x48 : Int, ∃ x49 : Int, HV Tryz.prog (Instr.loadAt 69 (.pointer (some (a14.add 1)))) h45 (.agg #[(.int .u32 x48), (.int .i64 x49)]) ∧ 
  CallsH Tryz.prog 66 #[(.slice A47 l47 c47), (.agg #[(.int .u32 x48), (.int .i64 x49)])] h45 fun r51 h50 =>
  ∃ A52 : Option Addr, ∃ l52 : Nat, ∃ c52 : Nat, r51 = (.slice A52 l52 c52) ∧ 
  ∃ x53 : Int, ∃ x54 : Int, HV Tryz.prog (Instr.loadAt 69 (.pointer (some (a14.add 3)))) h50 (.agg #[(.int .u32 x53), (.int .i64 x54)]) ∧ 
  CallsH Tryz.prog 66 #[(.slice A52 l52 c52), (.agg #[(.int .u32 x53), (.int .i64 x54)])] h50 fun r56 h55 =>
  ∃ A57 : Option Addr, ∃ l57 : Nat, ∃ c57 : Nat, r56 = (.slice A57 l57 c57) ∧ 
  ∃ x58 : Int, ∃ x59 : Int, HV Tryz.prog (Instr.loadAt 71 (.pointer (some (a14.add 5)))) h55 (.agg #[(.int .u16 x58), (.int .u16 x59)]) ∧ 
  CallsH Tryz.prog 67 #[(.slice A57 l57 c57), (.agg #[(.int .u16 x58), (.int .u16 x59)])] h55 fun r61 h60 =>
  ∃ A62 : Option Addr, ∃ l62 : Nat, ∃ c62 : Nat, r61 = (.slice A62 l62 c62) ∧ 
  ∃ x63 : Int, ∃ x64 : Int, HV Tryz.prog (Instr.loadAt 71 (.pointer (some (a14.add 7)))) h60 (.agg #[(.int .u16 x63), (.int .u16 x64)]) ∧ 
  CallsH Tryz.prog 67 #[(.slice A62 l62 c62), (.agg #[(.int .u16 x63), (.int .u16 x64)])] h60 fun r66 h65 =>
  ∃ A67 : Option Addr, ∃ l67 : Nat, ∃ c67 : Nat, r66 = (.slice A67 l67 c67) ∧ 
  ∃ x68 : Int, ∃ x69 : Int, HV Tryz.prog (Instr.loadAt 73 (.pointer (some (a14.add 9)))) h65 (.agg #[(.int .u8 x68), (.int .u8 x69)]) ∧ 
  CallsH Tryz.prog 68 #[(.slice A67 l67 c67), (.agg #[(.int .u8 x68), (.int .u8 x69)])] h65 fun r71 h70 =>
  ∃ A72 : Option Addr, ∃ l72 : Nat, ∃ c72 : Nat, r71 = (.slice A72 l72 c72) ∧ 
  ∃ s73 : ByteArray, HV Tryz.prog (convert 58 9 (.slice A72 l72 c72)) h70 (.string s73) ∧ 
  K (.tuple #[(.string s73), (.int .i64 0)]) h70)
def syntax_Print_lp (i : Nat) (Q : Qx) (tm : Tm) (h : Hp) : Prop := False
def syntax_Print_cut (i : Nat) : Option (List Nat) := none
set_option maxRecDepth 100000 in
theorem syntax_Print_eq (x1 : Int) (x2 : Int) (x3 : Int) (x4 : Int) (x5 : Int) (x6 : Int) (x7 : Int) (x8 : Int) (x9 : Int) (x10 : Int) (x11 : Int) (x12 : Int) (h : Hp) (K : Value → Hp → Prop) : syntax_Print x1 x2 x3 x4 x5 x6 x7 x8 x9 x10 x11 x12 h K =
    codeWp Tryz.prog 47 false syntax_Print_lp syntax_Print_cut (bodyOf Tryz.f36) 1 (endQ Tryz.prog Tryz.f36.results.toList K) (argTm [(.agg #[(.int .i64 x1), (.int .u32 x2), (.int .i64 x3), (.int .u32 x4), (.int .i64 x5), (.int .u16 x6), (.int .u16 x7), (.int .u16 x8), (.int .u16 x9), (.int .u8 x10), (.int .u8 x11), (.int .i64 x12)])]) h := by kernel_rfl
set_option maxRecDepth 100000 in
theorem syntax_Print_ok (x1 : Int) (x2 : Int) (x3 : Int) (x4 : Int) (x5 : Int) (x6 : Int) (x7 : Int) (x8 : Int) (x9 : Int) (x10 : Int) (x11 : Int) (x12 : Int) {h : Hp} {K : Value → Hp → Prop} (H : syntax_Print x1 x2 x3 x4 x5 x6 x7 x8 x9 x10 x11 x12 h K) : CallsH Tryz.prog 36 #[(.agg #[(.int .i64 x1), (.int .u32 x2), (.int .i64 x3), (.int .u32 x4), (.int .i64 x5), (.int .u16 x6), (.int .u16 x7), (.int .u16 x8), (.int .u16 x9), (.int .u8 x10), (.int .u8 x11), (.int .i64 x12)])] h K :=
  calls_of (pn := false) (args := [(.agg #[(.int .i64 x1), (.int .u32 x2), (.int .i64 x3), (.int .u32 x4), (.int .i64 x5), (.int .u16 x6), (.int .u16 x7), (.int .u16 x8), (.int .u16 x9), (.int .u8 x10), (.int .u8 x11), (.int .i64 x12)])]) (n := 47) (lp := syntax_Print_lp) (cut := syntax_Print_cut) Tryz.func36 (c := bodyOf Tryz.f36) (by kernel_rfl) (by kernel_rfl) (by kernel_rfl) (good_by (pn := false) (c := (bodyOf Tryz.f36)) (i := 1) (l := []) (by kernel_rfl) (fun _ h => by cases h))
    (Eq.mp (syntax_Print_eq x1 x2 x3 x4 x5 x6 x7 x8 x9 x10 x11 x12 h K) H)

/-! ### quintet/syntax.address: function 44 -/
def syntax_address_l1 (x4 : Int) (s5 : ByteArray) (s6 : ByteArray) (s7 : ByteArray) (s8 : ByteArray) (K0 : (Option Addr) → Nat → Nat → Hp → Prop)  : Nat → (Option Addr) → Nat → Nat → Int → Hp → Prop
  | 0, _, _, _, _, _ => False
  | k + 1, A3, l3, c3, x9, h =>
    br (decide (x9 < 4))
    (∃ s16 : ByteArray, PV Tryz.prog (Instr.index 177 (.agg #[(.string s5), (.string s6), (.string s7), (.string s8)]) (.int .i64 x9)) (.string s16) ∧
    ∃ x17 : Int, PV Tryz.prog (binOp .shr 50 (.int .u32 x4) (.int .i64 (IntKind.i64.wrap (24 - (IntKind.i64.wrap (8 * x9)))))) (.int .u32 x17) ∧
    CallsH Tryz.prog 45 #[(.slice A3 l3 c3), (.string s16), (.int .u64 (IntKind.u64.wrap (bAnd .u32 x17 255)))] h fun r19 h18 =>
    ∃ A20 : Option Addr, ∃ l20 : Nat, ∃ c20 : Nat, r19 = (.slice A20 l20 c20) ∧ 
    syntax_address_l1 x4 s5 s6 s7 s8 K0 k A20 l20 c20 (IntKind.i64.wrap (x9 + 1)) h18)
    (K0 A3 l3 c3 h)
def syntax_address_l1_L (Q : Qx) (k : Nat) (tm : Tm) (h : Hp) : Prop :=
  selS (tm 0) fun A3 l3 c3 =>
  selI .u32 (tm 1) fun x4 =>
  selAg (tm 7) fun m7_0 =>
  selC m7_0 fun u7_0 m7_1 =>
  selC m7_1 fun u7_1 m7_2 =>
  selC m7_2 fun u7_2 m7_3 =>
  selC m7_3 fun u7_3 m7_4 =>
  selN m7_4
  (selT (some u7_0) fun s5 =>
  selT (some u7_1) fun s6 =>
  selT (some u7_2) fun s7 =>
  selT (some u7_3) fun s8 =>
  selI .i64 (tm 8) fun x9 =>
  syntax_address_l1 x4 s5 s6 s7 s8 (fun (A15 : Option Addr) (l15 : Nat) (c15 : Nat) h => Q (.exit 0) (mkTm [(0, some (.slice A15 l15 c15))]) h) k A3 l3 c3 x9 h)
set_option maxRecDepth 100000 in
def syntax_address (A1 : Option Addr) (l1 : Nat) (c1 : Nat) (x2 : Int) (h : Hp) (K : Value → Hp → Prop) : Prop :=
  ∃ k23, syntax_address_l1 x2 ({ data := #[32] }) ({ data := #[46] }) ({ data := #[46] }) ({ data := #[46] })
  (fun (A21 : Option Addr) (l21 : Nat) (c21 : Nat) (h22 : Hp) =>
  K (.slice A21 l21 c21) h22)
   k23 A1 l1 c1 0 h
def syntax_address_lp (i : Nat) (Q : Qx) (tm : Tm) (h : Hp) : Prop := match Nat.beq i 26 with
  | true => ∃ k, syntax_address_l1_L Q k tm h
  | false => False
def syntax_address_cut (i : Nat) : Option (List Nat) := none
set_option maxRecDepth 100000 in
theorem syntax_address_l1_step (Q : Qx) (k : Nat) (A3 : Option Addr) (l3 : Nat) (c3 : Nat) (x4 : Int) (s5 : ByteArray) (s6 : ByteArray) (s7 : ByteArray) (s8 : ByteArray) (x9 : Int) (h : Hp) : syntax_address_l1_L Q (k + 1) (mkTm [(0, some (.slice A3 l3 c3)), (1, some (.int .u32 x4)), (7, some (.agg #[(.string s5), (.string s6), (.string s7), (.string s8)])), (8, some (.int .i64 x9))]) h =
    codeWp Tryz.prog 24 false syntax_address_lp syntax_address_cut (sub (bodyOf Tryz.f44) [true, false, true, false, false]) 52 (thenQ (fun tm h => syntax_address_l1_L Q k (mask [0, 1, 7, 8] tm) h) (maskQ (fun e => match e with | .exit 0 => [0] | _ => []) Q)) (mkTm [(0, some (.slice A3 l3 c3)), (1, some (.int .u32 x4)), (7, some (.agg #[(.string s5), (.string s6), (.string s7), (.string s8)])), (8, some (.int .i64 x9))]) h := by kernel_rfl
theorem syntax_address_l1_mask (Q : Qx) (k : Nat) (tm : Tm) (h : Hp) : syntax_address_l1_L Q k tm h ↔ syntax_address_l1_L Q k (mask [0, 1, 7, 8] tm) h := Iff.rfl
set_option maxRecDepth 100000 in
theorem syntax_address_l1_snd : SndAt Tryz.prog 24 none (sub (bodyOf Tryz.f44) [true, false, true, false]) (syntax_address_lp 26) := by
  refine loop_sound (pn := false) (lp := syntax_address_lp) (cut := syntax_address_cut) (i := 26) (c := (sub (bodyOf Tryz.f44) [true, false, true, false, false])) [0, 1, 7, 8] (fun e => match e with | .exit 0 => [0] | _ => []) syntax_address_l1_L ?_ ?_ ?_
  · exact good_by (pn := false) (c := (sub (bodyOf Tryz.f44) [true, false, true, false, false])) (i := 52) (l := []) (by kernel_rfl) (fun _ h => by cases h)
  · intro Q tm h H
    obtain ⟨A3, l3, c3, e0, H⟩ := selS_ex H
    obtain ⟨x4, e1, H⟩ := selI_ex H
    obtain ⟨m7_0, e7, H⟩ := selAg_ex H
    obtain ⟨u7_0, m7_1, f, G⟩ := selC_ex H
    clear H
    subst f
    have H := G
    clear G
    obtain ⟨u7_1, m7_2, f, G⟩ := selC_ex H
    clear H
    subst f
    have H := G
    clear G
    obtain ⟨u7_2, m7_3, f, G⟩ := selC_ex H
    clear H
    subst f
    have H := G
    clear G
    obtain ⟨u7_3, m7_4, f, G⟩ := selC_ex H
    clear H
    subst f
    have H := G
    clear G
    obtain ⟨f, G⟩ := selN_ex H
    clear H
    subst f
    have H := G
    clear G
    obtain ⟨s5, f, G⟩ := selT_ex H
    clear H
    have H := G
    clear G
    obtain rfl := Option.some.inj f
    obtain ⟨s6, f, G⟩ := selT_ex H
    clear H
    have H := G
    clear G
    obtain rfl := Option.some.inj f
    obtain ⟨s7, f, G⟩ := selT_ex H
    clear H
    have H := G
    clear G
    obtain rfl := Option.some.inj f
    obtain ⟨s8, f, G⟩ := selT_ex H
    clear H
    have H := G
    clear G
    obtain rfl := Option.some.inj f
    obtain ⟨x9, e8, H⟩ := selI_ex H
    exact H
  · intro Q k tm h H
    have H0 := H
    obtain ⟨A3, l3, c3, e0, H⟩ := selS_ex H
    obtain ⟨x4, e1, H⟩ := selI_ex H
    obtain ⟨m7_0, e7, H⟩ := selAg_ex H
    obtain ⟨u7_0, m7_1, f, G⟩ := selC_ex H
    clear H
    subst f
    have H := G
    clear G
    obtain ⟨u7_1, m7_2, f, G⟩ := selC_ex H
    clear H
    subst f
    have H := G
    clear G
    obtain ⟨u7_2, m7_3, f, G⟩ := selC_ex H
    clear H
    subst f
    have H := G
    clear G
    obtain ⟨u7_3, m7_4, f, G⟩ := selC_ex H
    clear H
    subst f
    have H := G
    clear G
    obtain ⟨f, G⟩ := selN_ex H
    clear H
    subst f
    have H := G
    clear G
    obtain ⟨s5, f, G⟩ := selT_ex H
    clear H
    have H := G
    clear G
    obtain rfl := Option.some.inj f
    obtain ⟨s6, f, G⟩ := selT_ex H
    clear H
    have H := G
    clear G
    obtain rfl := Option.some.inj f
    obtain ⟨s7, f, G⟩ := selT_ex H
    clear H
    have H := G
    clear G
    obtain rfl := Option.some.inj f
    obtain ⟨s8, f, G⟩ := selT_ex H
    clear H
    have H := G
    clear G
    obtain rfl := Option.some.inj f
    obtain ⟨x9, e8, H⟩ := selI_ex H
    have e : mask [0, 1, 7, 8] tm = mkTm [(0, some (.slice A3 l3 c3)), (1, some (.int .u32 x4)), (7, some (.agg #[(.string s5), (.string s6), (.string s7), (.string s8)])), (8, some (.int .i64 x9))] := by simp only [mask, List.map_cons, List.map_nil, e0, e1, e7, e8] <;> rfl
    rw [e]
    refine Eq.mp (syntax_address_l1_step Q k A3 l3 c3 x4 s5 s6 s7 s8 x9 h) ?_
    rw [← e]
    exact (syntax_address_l1_mask Q (k + 1) tm h).mp H0
set_option maxRecDepth 100000 in
theorem syntax_address_eq (A1 : Option Addr) (l1 : Nat) (c1 : Nat) (x2 : Int) (h : Hp) (K : Value → Hp → Prop) : syntax_address A1 l1 c1 x2 h K =
    codeWp Tryz.prog 24 false syntax_address_lp syntax_address_cut (bodyOf Tryz.f44) 1 (endQ Tryz.prog Tryz.f44.results.toList K) (argTm [(.slice A1 l1 c1), (.int .u32 x2)]) h := by kernel_rfl
set_option maxRecDepth 100000 in
theorem syntax_address_ok (A1 : Option Addr) (l1 : Nat) (c1 : Nat) (x2 : Int) {h : Hp} {K : Value → Hp → Prop} (H : syntax_address A1 l1 c1 x2 h K) : CallsH Tryz.prog 44 #[(.slice A1 l1 c1), (.int .u32 x2)] h K :=
  calls_of (pn := false) (args := [(.slice A1 l1 c1), (.int .u32 x2)]) (n := 24) (lp := syntax_address_lp) (cut := syntax_address_cut) Tryz.func44 (c := bodyOf Tryz.f44) (by kernel_rfl) (by kernel_rfl) (by kernel_rfl) (good_by (pn := false) (c := (bodyOf Tryz.f44)) (i := 1) (l := [(26, (sub (bodyOf Tryz.f44) [true, false, true, false]))]) (by kernel_rfl) (List.forall_mem_cons.2 ⟨syntax_address_l1_snd, (fun _ h => by cases h)⟩))
    (Eq.mp (syntax_address_eq A1 l1 c1 x2 h K) H)

/-! ### quintet/syntax.number: function 45 -/
set_option maxRecDepth 100000 in
def syntax_number (A1 : Option Addr) (l1 : Nat) (c1 : Nat) (s2 : ByteArray) (x3 : Int) (h : Hp) (K : Value → Hp → Prop) : Prop :=
  HW Tryz.prog (Builtin.append_ #[58, 9] 58 #[(.slice A1 l1 c1), (.string s2)]) h fun r5 h4 =>
  ∃ A6 : Option Addr, ∃ l6 : Nat, ∃ c6 : Nat, r5 = (.slice A6 l6 c6) ∧ 
  CallsH Tryz.prog 73 #[(.slice A6 l6 c6), (.int .u64 x3), (.int .i64 10)] h4 fun r8 h7 =>
  ∃ A9 : Option Addr, ∃ l9 : Nat, ∃ c9 : Nat, r8 = (.slice A9 l9 c9) ∧ 
  K (.slice A9 l9 c9) h7
def syntax_number_lp (i : Nat) (Q : Qx) (tm : Tm) (h : Hp) : Prop := False
def syntax_number_cut (i : Nat) : Option (List Nat) := none
set_option maxRecDepth 100000 in
theorem syntax_number_eq (A1 : Option Addr) (l1 : Nat) (c1 : Nat) (s2 : ByteArray) (x3 : Int) (h : Hp) (K : Value → Hp → Prop) : syntax_number A1 l1 c1 s2 x3 h K =
    codeWp Tryz.prog 13 false syntax_number_lp syntax_number_cut (bodyOf Tryz.f45) 1 (endQ Tryz.prog Tryz.f45.results.toList K) (argTm [(.slice A1 l1 c1), (.string s2), (.int .u64 x3)]) h := by kernel_rfl
set_option maxRecDepth 100000 in
theorem syntax_number_ok (A1 : Option Addr) (l1 : Nat) (c1 : Nat) (s2 : ByteArray) (x3 : Int) {h : Hp} {K : Value → Hp → Prop} (H : syntax_number A1 l1 c1 s2 x3 h K) : CallsH Tryz.prog 45 #[(.slice A1 l1 c1), (.string s2), (.int .u64 x3)] h K :=
  calls_of (pn := false) (args := [(.slice A1 l1 c1), (.string s2), (.int .u64 x3)]) (n := 13) (lp := syntax_number_lp) (cut := syntax_number_cut) Tryz.func45 (c := bodyOf Tryz.f45) (by kernel_rfl) (by kernel_rfl) (by kernel_rfl) (good_by (pn := false) (c := (bodyOf Tryz.f45)) (i := 1) (l := []) (by kernel_rfl) (fun _ h => by cases h))
    (Eq.mp (syntax_number_eq A1 l1 c1 s2 x3 h K) H)

/-! ### quintet/syntax.prefix: function 66 -/
set_option maxRecDepth 100000 in
def syntax_prefix (A1 : Option Addr) (l1 : Nat) (c1 : Nat) (x2 : Int) (x3 : Int) (h : Hp) (K : Value → Hp → Prop) : Prop :=
  newC h (.cells #[(.int .u32 x2), (.int .i64 x3)] 69 (0, 0)) fun a5 h4 => 
  ∃ x6 : Int, HV Tryz.prog (Instr.loadAt 3 (.pointer (some (a5.add 1)))) h4 (.int .i64 x6) ∧ 
  br (x6 == 0)
  (HW Tryz.prog (Builtin.append_ #[58, 9] 58 #[(.slice A1 l1 c1), (.string ({ data := #[32, 42] }))]) h4 fun r8 h7 =>
  ∃ A9 : Option Addr, ∃ l9 : Nat, ∃ c9 : Nat, r8 = (.slice A9 l9 c9) ∧ 
  K (.slice A9 l9 c9) h7)
  (∃ x10 : Int, HV Tryz.prog (Instr.loadAt 50 (.pointer (some a5))) h4 (.int .u32 x10) ∧ 
  CallsH Tryz.prog 44 #[(.slice A1 l1 c1), (.int .u32 x10)] h4 fun r12 h11 =>
  ∃ A13 : Option Addr, ∃ l13 : Nat, ∃ c13 : Nat, r12 = (.slice A13 l13 c13) ∧ 
  ∃ x14 : Int, HV Tryz.prog (Instr.loadAt 3 (.pointer (some (a5.add 1)))) h11 (.int .i64 x14) ∧ 
  br (decide (x14 < 32))
  (∃ x15 : Int, HV Tryz.prog (Instr.loadAt 3 (.pointer (some (a5.add 1)))) h11 (.int .i64 x15) ∧ 
  CallsH Tryz.prog 45 #[(.slice A13 l13 c13), (.string ({ data := #[47] })), (.int .u64 (IntKind.u64.wrap (x15)))] h11 fun r17 h16 =>
  ∃ A18 : Option Addr, ∃ l18 : Nat, ∃ c18 : Nat, r17 = (.slice A18 l18 c18) ∧ 
  K (.slice A18 l18 c18) h16)
  (K (.slice A13 l13 c13) h11))
def syntax_prefix_lp (i : Nat) (Q : Qx) (tm : Tm) (h : Hp) : Prop := False
def syntax_prefix_cut (i : Nat) : Option (List Nat) := none
set_option maxRecDepth 100000 in
theorem syntax_prefix_eq (A1 : Option Addr) (l1 : Nat) (c1 : Nat) (x2 : Int) (x3 : Int) (h : Hp) (K : Value → Hp → Prop) : syntax_prefix A1 l1 c1 x2 x3 h K =
    codeWp Tryz.prog 23 false syntax_prefix_lp syntax_prefix_cut (bodyOf Tryz.f66) 1 (endQ Tryz.prog Tryz.f66.results.toList K) (argTm [(.slice A1 l1 c1), (.agg #[(.int .u32 x2), (.int .i64 x3)])]) h := by kernel_rfl
set_option maxRecDepth 100000 in
theorem syntax_prefix_ok (A1 : Option Addr) (l1 : Nat) (c1 : Nat) (x2 : Int) (x3 : Int) {h : Hp} {K : Value → Hp → Prop} (H : syntax_prefix A1 l1 c1 x2 x3 h K) : CallsH Tryz.prog 66 #[(.slice A1 l1 c1), (.agg #[(.int .u32 x2), (.int .i64 x3)])] h K :=
  calls_of (pn := false) (args := [(.slice A1 l1 c1), (.agg #[(.int .u32 x2), (.int .i64 x3)])]) (n := 23) (lp := syntax_prefix_lp) (cut := syntax_prefix_cut) Tryz.func66 (c := bodyOf Tryz.f66) (by kernel_rfl) (by kernel_rfl) (by kernel_rfl) (good_by (pn := false) (c := (bodyOf Tryz.f66)) (i := 1) (l := []) (by kernel_rfl) (fun _ h => by cases h))
    (Eq.mp (syntax_prefix_eq A1 l1 c1 x2 x3 h K) H)

/-! ### quintet/syntax.span: function 67 -/
set_option maxRecDepth 100000 in
def syntax_span (A1 : Option Addr) (l1 : Nat) (c1 : Nat) (x2 : Int) (x3 : Int) (h : Hp) (K : Value → Hp → Prop) : Prop :=
  newC h (.cells #[(.int .u16 x2), (.int .u16 x3)] 71 (0, 0)) fun a5 h4 => 
  ∃ x6 : Int, ∃ x7 : Int, HV Tryz.prog (Instr.loadAt 71 (.pointer (some a5))) h4 (.agg #[(.int .u16 x6), (.int .u16 x7)]) ∧ 
  ∃ b8 : Bool, PV Tryz.prog (binOp .eql 71 (.agg #[(.int .u16 x6), (.int .u16 x7)]) (.agg #[(.int .u16 0), (.int .u16 65535)])) (.bool b8) ∧
  br b8
  (HW Tryz.prog (Builtin.append_ #[58, 9] 58 #[(.slice A1 l1 c1), (.string ({ data := #[32, 42] }))]) h4 fun r10 h9 =>
  ∃ A11 : Option Addr, ∃ l11 : Nat, ∃ c11 : Nat, r10 = (.slice A11 l11 c11) ∧ 
  K (.slice A11 l11 c11) h9)
  (∃ x12 : Int, HV Tryz.prog (Instr.loadAt 55 (.pointer (some a5))) h4 (.int .u16 x12) ∧ 
  CallsH Tryz.prog 45 #[(.slice A1 l1 c1), (.string ({ data := #[32] })), (.int .u64 (IntKind.u64.wrap (x12)))] h4 fun r14 h13 =>
  ∃ A15 : Option Addr, ∃ l15 : Nat, ∃ c15 : Nat, r14 = (.slice A15 l15 c15) ∧ 
  ∃ x16 : Int, HV Tryz.prog (Instr.loadAt 55 (.pointer (some (a5.add 1)))) h13 (.int .u16 x16) ∧ 
  ∃ x17 : Int, HV Tryz.prog (Instr.loadAt 55 (.pointer (some a5))) h13 (.int .u16 x17) ∧ 
  br (x16 != x17)
  (∃ x18 : Int, HV Tryz.prog (Instr.loadAt 55 (.pointer (some (a5.add 1)))) h13 (.int .u16 x18) ∧ 
  CallsH Tryz.prog 45 #[(.slice A15 l15 c15), (.string ({ data := #[58] })), (.int .u64 (IntKind.u64.wrap (x18)))] h13 fun r20 h19 =>
  ∃ A21 : Option Addr, ∃ l21 : Nat, ∃ c21 : Nat, r20 = (.slice A21 l21 c21) ∧ 
  K (.slice A21 l21 c21) h19)
  (K (.slice A15 l15 c15) h13))
def syntax_span_lp (i : Nat) (Q : Qx) (tm : Tm) (h : Hp) : Prop := False
def syntax_span_cut (i : Nat) : Option (List Nat) := none
set_option maxRecDepth 100000 in
theorem syntax_span_eq (A1 : Option Addr) (l1 : Nat) (c1 : Nat) (x2 : Int) (x3 : Int) (h : Hp) (K : Value → Hp → Prop) : syntax_span A1 l1 c1 x2 x3 h K =
    codeWp Tryz.prog 26 false syntax_span_lp syntax_span_cut (bodyOf Tryz.f67) 1 (endQ Tryz.prog Tryz.f67.results.toList K) (argTm [(.slice A1 l1 c1), (.agg #[(.int .u16 x2), (.int .u16 x3)])]) h := by kernel_rfl
set_option maxRecDepth 100000 in
theorem syntax_span_ok (A1 : Option Addr) (l1 : Nat) (c1 : Nat) (x2 : Int) (x3 : Int) {h : Hp} {K : Value → Hp → Prop} (H : syntax_span A1 l1 c1 x2 x3 h K) : CallsH Tryz.prog 67 #[(.slice A1 l1 c1), (.agg #[(.int .u16 x2), (.int .u16 x3)])] h K :=
  calls_of (pn := false) (args := [(.slice A1 l1 c1), (.agg #[(.int .u16 x2), (.int .u16 x3)])]) (n := 26) (lp := syntax_span_lp) (cut := syntax_span_cut) Tryz.func67 (c := bodyOf Tryz.f67) (by kernel_rfl) (by kernel_rfl) (by kernel_rfl) (good_by (pn := false) (c := (bodyOf Tryz.f67)) (i := 1) (l := []) (by kernel_rfl) (fun _ h => by cases h))
    (Eq.mp (syntax_span_eq A1 l1 c1 x2 x3 h K) H)

/-! ### quintet/syntax.mask: function 68 -/
set_option maxRecDepth 100000 in
def syntax_mask (A1 : Option Addr) (l1 : Nat) (c1 : Nat) (x2 : Int) (x3 : Int) (h : Hp) (K : Value → Hp → Prop) : Prop :=
  newC h (.cells #[(.int .u8 x2), (.int .u8 x3)] 73 (0, 0)) fun a5 h4 => 
  ∃ x6 : Int, HV Tryz.prog (Instr.loadAt 5 (.pointer (some (a5.add 1)))) h4 (.int .u8 x6) ∧ 
  br (x6 == 0)
  (HW Tryz.prog (Builtin.append_ #[58, 9] 58 #[(.slice A1 l1 c1), (.string ({ data := #[32, 42] }))]) h4 fun r8 h7 =>
  ∃ A9 : Option Addr, ∃ l9 : Nat, ∃ c9 : Nat, r8 = (.slice A9 l9 c9) ∧ 
  K (.slice A9 l9 c9) h7)
  (∃ x10 : Int, HV Tryz.prog (Instr.loadAt 5 (.pointer (some a5))) h4 (.int .u8 x10) ∧ 
  CallsH Tryz.prog 45 #[(.slice A1 l1 c1), (.string ({ data := #[32] })), (.int .u64 (IntKind.u64.wrap (x10)))] h4 fun r12 h11 =>
  ∃ A13 : Option Addr, ∃ l13 : Nat, ∃ c13 : Nat, r12 = (.slice A13 l13 c13) ∧ 
  ∃ x14 : Int, HV Tryz.prog (Instr.loadAt 5 (.pointer (some (a5.add 1)))) h11 (.int .u8 x14) ∧ 
  br (decide (x14 < 255))
  (∃ x15 : Int, HV Tryz.prog (Instr.loadAt 5 (.pointer (some (a5.add 1)))) h11 (.int .u8 x15) ∧ 
  CallsH Tryz.prog 45 #[(.slice A13 l13 c13), (.string ({ data := #[47] })), (.int .u64 (IntKind.u64.wrap (x15)))] h11 fun r17 h16 =>
  ∃ A18 : Option Addr, ∃ l18 : Nat, ∃ c18 : Nat, r17 = (.slice A18 l18 c18) ∧ 
  K (.slice A18 l18 c18) h16)
  (K (.slice A13 l13 c13) h11))
def syntax_mask_lp (i : Nat) (Q : Qx) (tm : Tm) (h : Hp) : Prop := False
def syntax_mask_cut (i : Nat) : Option (List Nat) := none
set_option maxRecDepth 100000 in
theorem syntax_mask_eq (A1 : Option Addr) (l1 : Nat) (c1 : Nat) (x2 : Int) (x3 : Int) (h : Hp) (K : Value → Hp → Prop) : syntax_mask A1 l1 c1 x2 x3 h K =
    codeWp Tryz.prog 24 false syntax_mask_lp syntax_mask_cut (bodyOf Tryz.f68) 1 (endQ Tryz.prog Tryz.f68.results.toList K) (argTm [(.slice A1 l1 c1), (.agg #[(.int .u8 x2), (.int .u8 x3)])]) h := by kernel_rfl
set_option maxRecDepth 100000 in
theorem syntax_mask_ok (A1 : Option Addr) (l1 : Nat) (c1 : Nat) (x2 : Int) (x3 : Int) {h : Hp} {K : Value → Hp → Prop} (H : syntax_mask A1 l1 c1 x2 x3 h K) : CallsH Tryz.prog 68 #[(.slice A1 l1 c1), (.agg #[(.int .u8 x2), (.int .u8 x3)])] h K :=
  calls_of (pn := false) (args := [(.slice A1 l1 c1), (.agg #[(.int .u8 x2), (.int .u8 x3)])]) (n := 24) (lp := syntax_mask_lp) (cut := syntax_mask_cut) Tryz.func68 (c := bodyOf Tryz.f68) (by kernel_rfl) (by kernel_rfl) (by kernel_rfl) (good_by (pn := false) (c := (bodyOf Tryz.f68)) (i := 1) (l := []) (by kernel_rfl) (fun _ h => by cases h))
    (Eq.mp (syntax_mask_eq A1 l1 c1 x2 x3 h K) H)

/-! ### quintet/syntax.PrintHeader: function 18 -/
set_option maxRecDepth 100000 in
def syntax_PrintHeader (x1 : Int) (x2 : Int) (x3 : Int) (x4 : Int) (x5 : Int) (h : Hp) (K : Value → Hp → Prop) : Prop :=
  newC h (.cells #[(.int .u32 x1), (.int .u32 x2), (.int .u16 x3), (.int .u16 x4), (.int .u8 x5)] 57 (0, 0)) fun a7 h6 => 
  ∃ x8 : Int, HV Tryz.prog (Instr.loadAt 50 (.pointer (some a7))) h6 (.int .u32 x8) ∧ 
  CallsH Tryz.prog 44 #[(.slice none 0 0), (.int .u32 x8)] h6 fun r10 h9 =>
  ∃ A11 : Option Addr, ∃ l11 : Nat, ∃ c11 : Nat, r10 = (.slice A11 l11 c11) ∧ 
  ∃ x12 : Int, HV Tryz.prog (Instr.loadAt 50 (.pointer (some (a7.add 1)))) h9 (.int .u32 x12) ∧ HV Tryz.prog (Instr.loadAt 50 (.pointer (some (a7.add 1)))) h6 (.int .u32 x12) ∧ 
  CallsH Tryz.prog 44 #[(.slice A11 l11 c11), (.int .u32 x12)] h9 fun r14 h13 =>
  ∃ A15 : Option Addr, ∃ l15 : Nat, ∃ c15 : Nat, r14 = (.slice A15 l15 c15) ∧ 
  ∃ x16 : Int, HV Tryz.prog (Instr.loadAt 55 (.pointer (some (a7.add 2)))) h13 (.int .u16 x16) ∧ 
  CallsH Tryz.prog 45 #[(.slice A15 l15 c15), (.string ({ data := #[32] })), (.int .u64 (IntKind.u64.wrap (x16)))] h13 fun r18 h17 =>
  ∃ A19 : Option Addr, ∃ l19 : Nat, ∃ c19 : Nat, r18 = (.slice A19 l19 c19) ∧ 
  ∃ x20 : Int, HV Tryz.prog (Instr.loadAt 55 (.pointer (some (a7.add 3)))) h17 (.int .u16 x20) ∧ 
  CallsH Tryz.prog 45 #[(.slice A19 l19 c19), (.string ({ data := #[32] })), (.int .u64 (IntKind.u64.wrap (x20)))] h17 fun r22 h21 =>
  ∃ A23 : Option Addr, ∃ l23 : Nat, ∃ c23 : Nat, r22 = (.slice A23 l23 c23) ∧ 
  ∃ x24 : Int, HV Tryz.prog (Instr.loadAt 5 (.pointer (some (a7.add 4)))) h21 (.int .u8 x24) ∧ 
  CallsH Tryz.prog 45 #[(.slice A23 l23 c23), (.string ({ data := #[32] })), (.int .u64 (IntKind.u64.wrap (x24)))] h21 fun r26 h25 =>
  ∃ A27 : Option Addr, ∃ l27 : Nat, ∃ c27 : Nat, r26 = (.slice A27 l27 c27) ∧ 
  ∃ A28 : Option Addr, ∃ l28 : Nat, ∃ c28 : Nat, PV Tryz.prog (Instr.sliceAt 58 (.slice A27 l27 c27) (some (.int .i64 1)) none none) (.slice A28 l28 c28) ∧
  ∃ s29 : ByteArray, HV Tryz.prog (convert 58 9 (.slice A28 l28 c28)) h25 (.string s29) ∧ 
  K (.string s29) h25
def syntax_PrintHeader_lp (i : Nat) (Q : Qx) (tm : Tm) (h : Hp) : Prop := False
def syntax_PrintHeader_cut (i : Nat) : Option (List Nat) := none
set_option maxRecDepth 100000 in
theorem syntax_PrintHeader_eq (x1 : Int) (x2 : Int) (x3 : Int) (x4 : Int) (x5 : Int) (h : Hp) (K : Value → Hp → Prop) : syntax_PrintHeader x1 x2 x3 x4 x5 h K =
    codeWp Tryz.prog 27 false syntax_PrintHeader_lp syntax_PrintHeader_cut (bodyOf Tryz.f18) 1 (endQ Tryz.prog Tryz.f18.results.toList K) (argTm [(.agg #[(.int .u32 x1), (.int .u32 x2), (.int .u16 x3), (.int .u16 x4), (.int .u8 x5)])]) h := by kernel_rfl
set_option maxRecDepth 100000 in
theorem syntax_PrintHeader_ok (x1 : Int) (x2 : Int) (x3 : Int) (x4 : Int) (x5 : Int) {h : Hp} {K : Value → Hp → Prop} (H : syntax_PrintHeader x1 x2 x3 x4 x5 h K) : CallsH Tryz.prog 18 #[(.agg #[(.int .u32 x1), (.int .u32 x2), (.int .u16 x3), (.int .u16 x4), (.int .u8 x5)])] h K :=
  calls_of (pn := false) (args := [(.agg #[(.int .u32 x1), (.int .u32 x2), (.int .u16 x3), (.int .u16 x4), (.int .u8 x5)])]) (n := 27) (lp := syntax_PrintHeader_lp) (cut := syntax_PrintHeader_cut) Tryz.func18 (c := bodyOf Tryz.f18) (by kernel_rfl) (by kernel_rfl) (by kernel_rfl) (good_by (pn := false) (c := (bodyOf Tryz.f18)) (i := 1) (l := []) (by kernel_rfl) (fun _ h => by cases h))
    (Eq.mp (syntax_PrintHeader_eq x1 x2 x3 x4 x5 h K) H)

/-! ### quintet/syntax.PrintRules: function 12 -/
def syntax_PrintRules_l1 (a7 : Addr) (v8 : Value) (A9 : Option Addr) (l9 : Nat) (c9 : Nat) (x10 : Int) (K0 : ByteArray → Int → Hp → Prop) (K1 : Addr → Hp → Prop)  : Nat → Int → Hp → Prop
  | 0, _, _ => False
  | k + 1, x11, h =>
    br (decide (x11 < x10))
    (∃ a57 : Addr, PV Tryz.prog (Instr.indexAt 22 (.slice A9 l9 c9) (.int .i64 x11)) (.pointer (some a57)) ∧
    ∃ x58 : Int, ∃ x59 : Int, ∃ x60 : Int, ∃ x61 : Int, ∃ x62 : Int, ∃ x63 : Int, ∃ x64 : Int, ∃ x65 : Int, ∃ x66 : Int, ∃ x67 : Int, ∃ x68 : Int, ∃ x69 : Int, HV Tryz.prog (Instr.loadAt 75 (.pointer (some a57))) h (.agg #[(.int .i64 x58), (.int .u32 x59), (.int .i64 x60), (.int .u32 x61), (.int .i64 x62), (.int .u16 x63), (.int .u16 x64), (.int .u16 x65), (.int .u16 x66), (.int .u8 x67), (.int .u8 x68), (.int .i64 x69)]) ∧ 
    newC h (.cells #[(.int .i64 0), (.int .u32 0), (.int .i64 0), (.int .u32 0), (.int .i64 0), (.int .u16 0), (.int .u16 0), (.int .u16 0), (.int .u16 0), (.int .u8 0), (.int .u8 0), (.int .i64 0)] 75 (0, 0)) fun a71 h70 => 
    HU Tryz.prog (Instr.storeAt 75 (.pointer (some a71)) (.agg #[(.int .i64 x58), (.int .u32 x59), (.int .i64 x60), (.int .u32 x61), (.int .i64 x62), (.int .u16 x63), (.int .u16 x64), (.int .u16 x65), (.int .u16 x66), (.int .u8 x67), (.int .u8 x68), (.int .i64 x69)])) h70 fun h72 => 
    ∃ x73 : Int, ∃ x74 : Int, ∃ x75 : Int, ∃ x76 : Int, ∃ x77 : Int, ∃ x78 : Int, ∃ x79 : Int, ∃ x80 : Int, ∃ x81 : Int, ∃ x82 : Int, ∃ x83 : Int, ∃ x84 : Int, HV Tryz.prog (Instr.loadAt 75 (.pointer (some a71))) h72 (.agg #[(.int .i64 x73), (.int .u32 x74), (.int .i64 x75), (.int .u32 x76), (.int .i64 x77), (.int .u16 x78), (.int .u16 x79), (.int .u16 x80), (.int .u16 x81), (.int .u8 x82), (.int .u8 x83), (.int .i64 x84)]) ∧ 
    CallsH Tryz.prog 36 #[(.agg #[(.int .i64 x73), (.int .u32 x74), (.int .i64 x75), (.int .u32 x76), (.int .i64 x77), (.int .u16 x78), (.int .u16 x79), (.int .u16 x80), (.int .u16 x81), (.int .u8 x82), (.int .u8 x83), (.int .i64 x84)])] h72 fun r86 h85 =>
    ∃ s87 : ByteArray, ∃ x88 : Int, r86 = (.tuple #[(.string s87), (.int .i64 x88)]) ∧ 
    br (x88 != 0)
    (K0 ({ data := #[] }) x88 h85)
    (∃ x89 : Int, HV Tryz.prog (Instr.loadAt 3 (.pointer (some a71))) h85 (.int .i64 x89) ∧ 
    ∃ x90 : Int, HV Tryz.prog (Instr.lookup 79 v8 (.int .i64 x89) false) h85 (.int .i64 x90) ∧ 
    br (decide (x90 > 0))
    (K0 ({ data := #[] }) 103 h85)
    (∃ x91 : Int, HV Tryz.prog (Instr.loadAt 3 (.pointer (some a71))) h85 (.int .i64 x91) ∧ 
    ∃ x92 : Int, HV Tryz.prog (Instr.lookup 79 v8 (.int .i64 x91) false) h85 (.int .i64 x92) ∧ 
    HU Tryz.prog (Instr.mapUpdate 79 v8 (.int .i64 x91) (.int .i64 (IntKind.i64.wrap (x92 + 1)))) h85 fun h93 => 
    ∃ s94 : ByteArray, PV Tryz.prog (binOp .add 9 (.string s87) (.string ({ data := #[10] }))) (.string s94) ∧
    CallsH Tryz.prog 37 #[(.pointer (some a7)), (.string s94)] h93 fun r96 h95 =>
    ∃ x97 : Int, ∃ v98 : Value, r96 = (.tuple #[(.int .i64 x97), v98]) ∧ 
    syntax_PrintRules_l1 a7 v8 A9 l9 c9 x10 K0 K1 k (IntKind.i64.wrap (x11 + 1)) h95)))
    (K1 a7 h)
def syntax_PrintRules_l1_L (Q : Qx) (k : Nat) (tm : Tm) (h : Hp) : Prop :=
  selA (tm 4) fun a7 =>
  selV (tm 5) fun v8 =>
  selS (tm 14) fun A9 l9 c9 =>
  selI .i64 (tm 15) fun x10 =>
  selI .i64 (tm 16) fun x11 =>
  syntax_PrintRules_l1 a7 v8 A9 l9 c9 x10 (fun (s54 : ByteArray) (x55 : Int) h => Q (.ret) (mkTm [(2, some (.string s54)), (3, some (.int .i64 x55))]) h) (fun (a56 : Addr) h => Q (.exit 0) (mkTm [(4, some (.pointer (some a56)))]) h) k x11 h
set_option maxRecDepth 100000 in
def syntax_PrintRules (A1 : Option Addr) (l1 : Nat) (c1 : Nat) (h : Hp) (K : Value → Hp → Prop) : Prop :=
  br (decide ((l1 : Int) > 64))
  (K (.tuple #[(.string ({ data := #[] })), (.int .i64 2)]) h)
  (newC h (.cells #[(.pointer none), (.slice none 0 0)] 113 (0, 0)) fun a3 h2 => 
  HW Tryz.prog (Instr.makeMap 79 none) h2 fun r5 h4 =>
  ∃ v6 : Value, r5 = v6 ∧ 
  ∃ k107, syntax_PrintRules_l1 a3 v6 A1 l1 c1 (l1 : Int)
  (fun (s99 : ByteArray) (x100 : Int) (h101 : Hp) =>
  K (.tuple #[(.string s99), (.int .i64 x100)]) h101)
  (fun (a102 : Addr) (h103 : Hp) =>
  CallsH Tryz.prog 38 #[(.pointer (some a102))] h103 fun r105 h104 =>
  ∃ s106 : ByteArray, r105 = (.string s106) ∧ 
  K (.tuple #[(.string s106), (.int .i64 0)]) h104)
   k107 0 h4)
def syntax_PrintRules_lp (i : Nat) (Q : Qx) (tm : Tm) (h : Hp) : Prop := match Nat.beq i 250 with
  | true => ∃ k, syntax_PrintRules_l1_L Q k tm h
  | false => False
def syntax_PrintRules_cut (i : Nat) : Option (List Nat) := none
set_option maxRecDepth 100000 in
theorem syntax_PrintRules_l1_step (Q : Qx) (k : Nat) (a7 : Addr) (v8 : Value) (A9 : Option Addr) (l9 : Nat) (c9 : Nat) (x10 : Int) (x11 : Int) (h : Hp) : syntax_PrintRules_l1_L Q (k + 1) (mkTm [(4, some (.pointer (some a7))), (5, some v8), (14, some (.slice A9 l9 c9)), (15, some (.int .i64 x10)), (16, some (.int .i64 x11))]) h =
    codeWp Tryz.prog 43 false syntax_PrintRules_lp syntax_PrintRules_cut (sub (bodyOf Tryz.f12) [true, true, true, true, false, true, false, false]) 500 (thenQ (fun tm h => syntax_PrintRules_l1_L Q k (mask [4, 5, 14, 15, 16] tm) h) (maskQ (fun e => match e with | .ret => [2, 3] | .exit 0 => [4] | _ => []) Q)) (mkTm [(4, some (.pointer (some a7))), (5, some v8), (14, some (.slice A9 l9 c9)), (15, some (.int .i64 x10)), (16, some (.int .i64 x11))]) h := by kernel_rfl
theorem syntax_PrintRules_l1_mask (Q : Qx) (k : Nat) (tm : Tm) (h : Hp) : syntax_PrintRules_l1_L Q k tm h ↔ syntax_PrintRules_l1_L Q k (mask [4, 5, 14, 15, 16] tm) h := Iff.rfl
set_option maxRecDepth 100000 in
theorem syntax_PrintRules_l1_snd : SndAt Tryz.prog 43 none (sub (bodyOf Tryz.f12) [true, true, true, true, false, true, false]) (syntax_PrintRules_lp 250) := by
  refine loop_sound (pn := false) (lp := syntax_PrintRules_lp) (cut := syntax_PrintRules_cut) (i := 250) (c := (sub (bodyOf Tryz.f12) [true, true, true, true, false, true, false, false])) [4, 5, 14, 15, 16] (fun e => match e with | .ret => [2, 3] | .exit 0 => [4] | _ => []) syntax_PrintRules_l1_L ?_ ?_ ?_
  · exact good_by (pn := false) (c := (sub (bodyOf Tryz.f12) [true, true, true, true, false, true, false, false])) (i := 500) (l := []) (by kernel_rfl) (fun _ h => by cases h)
  · intro Q tm h H
    obtain ⟨a7, e4, H⟩ := selA_ex H
    obtain ⟨v8, e5, H⟩ := selV_ex H
    obtain ⟨A9, l9, c9, e14, H⟩ := selS_ex H
    obtain ⟨x10, e15, H⟩ := selI_ex H
    obtain ⟨x11, e16, H⟩ := selI_ex H
    exact H
  · intro Q k tm h H
    have H0 := H
    obtain ⟨a7, e4, H⟩ := selA_ex H
    obtain ⟨v8, e5, H⟩ := selV_ex H
    obtain ⟨A9, l9, c9, e14, H⟩ := selS_ex H
    obtain ⟨x10, e15, H⟩ := selI_ex H
    obtain ⟨x11, e16, H⟩ := selI_ex H
    have e : mask [4, 5, 14, 15, 16] tm = mkTm [(4, some (.pointer (some a7))), (5, some v8), (14, some (.slice A9 l9 c9)), (15, some (.int .i64 x10)), (16, some (.int .i64 x11))] := by simp only [mask, List.map_cons, List.map_nil, e4, e5, e14, e15, e16] <;> rfl
    rw [e]
    refine Eq.mp (syntax_PrintRules_l1_step Q k a7 v8 A9 l9 c9 x10 x11 h) ?_
    rw [← e]
    exact (syntax_PrintRules_l1_mask Q (k + 1) tm h).mp H0
set_option maxRecDepth 100000 in
theorem syntax_PrintRules_eq (A1 : Option Addr) (l1 : Nat) (c1 : Nat) (h : Hp) (K : Value → Hp → Prop) : syntax_PrintRules A1 l1 c1 h K =
    codeWp Tryz.prog 43 false syntax_PrintRules_lp syntax_PrintRules_cut (bodyOf Tryz.f12) 1 (endQ Tryz.prog Tryz.f12.results.toList K) (argTm [(.slice A1 l1 c1)]) h := by kernel_rfl
set_option maxRecDepth 100000 in
theorem syntax_PrintRules_ok (A1 : Option Addr) (l1 : Nat) (c1 : Nat) {h : Hp} {K : Value → Hp → Prop} (H : syntax_PrintRules A1 l1 c1 h K) : CallsH Tryz.prog 12 #[(.slice A1 l1 c1)] h K :=
  calls_of (pn := false) (args := [(.slice A1 l1 c1)]) (n := 43) (lp := syntax_PrintRules_lp) (cut := syntax_PrintRules_cut) Tryz.func12 (c := bodyOf Tryz.f12) (by kernel_rfl) (by kernel_rfl) (by kernel_rfl) (good_by (pn := false) (c := (bodyOf Tryz.f12)) (i := 1) (l := [(250, (sub (bodyOf Tryz.f12) [true, true, true, true, false, true, false]))]) (by kernel_rfl) (List.forall_mem_cons.2 ⟨syntax_PrintRules_l1_snd, (fun _ h => by cases h)⟩))
    (Eq.mp (syntax_PrintRules_eq A1 l1 c1 h K) H)

/-! ### quintet/syntax.PrintScript: function 20 -/
def syntax_PrintScript_l1 (a4 : Addr) (A5 : Option Addr) (l5 : Nat) (c5 : Nat) (x6 : Int) (K0 : ByteArray → Int → Hp → Prop) (K1 : Addr → Hp → Prop)  : Nat → Int → Hp → Prop
  | 0, _, _ => False
  | k + 1, x7, h =>
    br (decide (x7 < x6))
    (∃ a157 : Addr, PV Tryz.prog (Instr.indexAt 63 (.slice A5 l5 c5) (.int .i64 x7)) (.pointer (some a157)) ∧
    ∃ x158 : Int, ∃ x159 : Int, ∃ x160 : Int, ∃ x161 : Int, ∃ x162 : Int, ∃ x163 : Int, ∃ x164 : Int, ∃ x165 : Int, ∃ x166 : Int, ∃ x167 : Int, ∃ x168 : Int, ∃ x169 : Int, ∃ x170 : Int, ∃ x171 : Int, ∃ x172 : Int, ∃ x173 : Int, ∃ x174 : Int, ∃ x175 : Int, ∃ x176 : Int, ∃ x177 : Int, HV Tryz.prog (Instr.loadAt 77 (.pointer (some a157))) h (.agg #[(.int .i64 x158), (.int .i64 x159), (.int .i64 x160), (.int .i64 x161), (.int .u32 x162), (.int .i64 x163), (.int .u32 x164), (.int .i64 x165), (.int .u16 x166), (.int .u16 x167), (.int .u16 x168), (.int .u16 x169), (.int .u8 x170), (.int .u8 x171), (.int .i64 x172), (.int .u32 x173), (.int .u32 x174), (.int .u16 x175), (.int .u16 x176), (.int .u8 x177)]) ∧ 
    newC h (.cells #[(.int .i64 0), (.int .i64 0), (.int .i64 0), (.int .i64 0), (.int .u32 0), (.int .i64 0), (.int .u32 0), (.int .i64 0), (.int .u16 0), (.int .u16 0), (.int .u16 0), (.int .u16 0), (.int .u8 0), (.int .u8 0), (.int .i64 0), (.int .u32 0), (.int .u32 0), (.int .u16 0), (.int .u16 0), (.int .u8 0)] 77 (0, 0)) fun a179 h178 => 
    HU Tryz.prog (Instr.storeAt 77 (.pointer (some a179)) (.agg #[(.int .i64 x158), (.int .i64 x159), (.int .i64 x160), (.int .i64 x161), (.int .u32 x162), (.int .i64 x163), (.int .u32 x164), (.int .i64 x165), (.int .u16 x166), (.int .u16 x167), (.int .u16 x168), (.int .u16 x169), (.int .u8 x170), (.int .u8 x171), (.int .i64 x172), (.int .u32 x173), (.int .u32 x174), (.int .u16 x175), (.int .u16 x176), (.int .u8 x177)])) h178 fun h180 => 
    ∃ x181 : Int, ∃ x182 : Int, ∃ x183 : Int, ∃ x184 : Int, ∃ x185 : Int, ∃ x186 : Int, ∃ x187 : Int, ∃ x188 : Int, ∃ x189 : Int, ∃ x190 : Int, ∃ x191 : Int, ∃ x192 : Int, ∃ x193 : Int, ∃ x194 : Int, ∃ x195 : Int, ∃ x196 : Int, ∃ x197 : Int, ∃ x198 : Int, ∃ x199 : Int, ∃ x200 : Int, HV Tryz.prog (Instr.loadAt 77 (.pointer (some a179))) h180 (.agg #[(.int .i64 x181), (.int .i64 x182), (.int .i64 x183), (.int .i64 x184), (.int .u32 x185), (.int .i64 x186), (.int .u32 x187), (.int .i64 x188), (.int .u16 x189), (.int .u16 x190), (.int .u16 x191), (.int .u16 x192), (.int .u8 x193), (.int .u8 x194), (.int .i64 x195), (.int .u32 x196), (.int .u32 x197), (.int .u16 x198), (.int .u16 x199), (.int .u8 x200)]) ∧ 
    CallsH Tryz.prog 48 #[(.agg #[(.int .i64 x181), (.int .i64 x182), (.int .i64 x183), (.int .i64 x184), (.int .u32 x185), (.int .i64 x186), (.int .u32 x187), (.int .i64 x188), (.int .u16 x189), (.int .u16 x190), (.int .u16 x191), (.int .u16 x192), (.int .u8 x193), (.int .u8 x194), (.int .i64 x195), (.int .u32 x196), (.int .u32 x197), (.int .u16 x198), (.int .u16 x199), (.int .u8 x200)])] h180 fun r202 h201 =>
    ∃ x203 : Int, r202 = (.int .i64 x203) ∧ 
    br (x203 != 0)
    (K0 ({ data := #[] }) x203 h201)
    (CallsH Tryz.prog 49 #[] h201 fun r205 h204 =>
    ∃ s206 : ByteArray, ∃ s207 : ByteArray, ∃ s208 : ByteArray, ∃ s209 : ByteArray, ∃ s210 : ByteArray, ∃ s211 : ByteArray, ∃ s212 : ByteArray, ∃ s213 : ByteArray, ∃ s214 : ByteArray, ∃ s215 : ByteArray, ∃ s216 : ByteArray, r205 = (.agg #[(.string s206), (.string s207), (.string s208), (.string s209), (.string s210), (.string s211), (.string s212), (.string s213), (.string s214), (.string s215), (.string s216)]) ∧ 
    ∃ x217 : Int, HV Tryz.prog (Instr.loadAt 67 (.pointer (some a179))) h204 (.int .i64 x217) ∧ HV Tryz.prog (Instr.loadAt 67 (.pointer (some a179))) h201 (.int .i64 x217) ∧ 
    ∃ s218 : ByteArray, PV Tryz.prog (Instr.index 134 (.agg #[(.string s206), (.string s207), (.string s208), (.string s209), (.string s210), (.string s211), (.string s212), (.string s213), (.string s214), (.string s215), (.string s216)]) (.int .i64 x217)) (.string s218) ∧
    CallsH Tryz.prog 37 #[(.pointer (some a4)), (.string s218)] h204 fun r220 h219 =>
    ∃ x221 : Int, ∃ v222 : Value, r220 = (.tuple #[(.int .i64 x221), v222]) ∧ 
    ∃ x223 : Int, HV Tryz.prog (Instr.loadAt 67 (.pointer (some a179))) h219 (.int .i64 x223) ∧ 
    br (x223 == 1)
    (∃ x224 : Int, ∃ x225 : Int, ∃ x226 : Int, ∃ x227 : Int, ∃ x228 : Int, ∃ x229 : Int, ∃ x230 : Int, ∃ x231 : Int, ∃ x232 : Int, ∃ x233 : Int, ∃ x234 : Int, ∃ x235 : Int, HV Tryz.prog (Instr.loadAt 75 (.pointer (some (a179.add 3)))) h219 (.agg #[(.int .i64 x224), (.int .u32 x225), (.int .i64 x226), (.int .u32 x227), (.int .i64 x228), (.int .u16 x229), (.int .u16 x230), (.int .u16 x231), (.int .u16 x232), (.int .u8 x233), (.int .u8 x234), (.int .i64 x235)]) ∧ 
    CallsH Tryz.prog 36 #[(.agg #[(.int .i64 x224), (.int .u32 x225), (.int .i64 x226), (.int .u32 x227), (.int .i64 x228), (.int .u16 x229), (.int .u16 x230), (.int .u16 x231), (.int .u16 x232), (.int .u8 x233), (.int .u8 x234), (.int .i64 x235)])] h219 fun r237 h236 =>
    ∃ s238 : ByteArray, ∃ x239 : Int, r237 = (.tuple #[(.string s238), (.int .i64 x239)]) ∧ 
    ∃ x240 : Int, HV Tryz.prog (Instr.loadAt 3 (.pointer (some (a179.add 1)))) h236 (.int .i64 x240) ∧ 
    CallsH Tryz.prog 50 #[(.int .i64 x240)] h236 fun r242 h241 =>
    ∃ s243 : ByteArray, r242 = (.string s243) ∧ 
    ∃ s244 : ByteArray, PV Tryz.prog (binOp .add 9 (.string ({ data := #[32] })) (.string s243)) (.string s244) ∧
    ∃ s245 : ByteArray, PV Tryz.prog (binOp .add 9 (.string s244) (.string ({ data := #[32] }))) (.string s245) ∧
    ∃ s246 : ByteArray, PV Tryz.prog (binOp .add 9 (.string s245) (.string s238)) (.string s246) ∧
    CallsH Tryz.prog 37 #[(.pointer (some a4)), (.string s246)] h241 fun r248 h247 =>
    ∃ x249 : Int, ∃ v250 : Value, r248 = (.tuple #[(.int .i64 x249), v250]) ∧ 
    CallsH Tryz.prog 51 #[(.pointer (some a4)), (.int .u8 10)] h247 fun r252 h251 =>
    ∃ v253 : Value, r252 = v253 ∧ 
    syntax_PrintScript_l1 a4 A5 l5 c5 x6 K0 K1 k (IntKind.i64.wrap (x7 + 1)) h251)
    (br (x223 == 2)
    (∃ x254 : Int, HV Tryz.prog (Instr.loadAt 3 (.pointer (some (a179.add 2)))) h219 (.int .i64 x254) ∧ 
    CallsH Tryz.prog 50 #[(.int .i64 x254)] h219 fun r256 h255 =>
    ∃ s257 : ByteArray, r256 = (.string s257) ∧ 
    ∃ s258 : ByteArray, PV Tryz.prog (binOp .add 9 (.string ({ data := #[32] })) (.string s257)) (.string s258) ∧
    CallsH Tryz.prog 37 #[(.pointer (some a4)), (.string s258)] h255 fun r260 h259 =>
    ∃ x261 : Int, ∃ v262 : Value, r260 = (.tuple #[(.int .i64 x261), v262]) ∧ 
    CallsH Tryz.prog 51 #[(.pointer (some a4)), (.int .u8 10)] h259 fun r264 h263 =>
    ∃ v265 : Value, r264 = v265 ∧ 
    syntax_PrintScript_l1 a4 A5 l5 c5 x6 K0 K1 k (IntKind.i64.wrap (x7 + 1)) h263)
    (br (x223 == 3)
    (∃ x266 : Int, HV Tryz.prog (Instr.loadAt 3 (.pointer (some (a179.add 2)))) h219 (.int .i64 x266) ∧ 
    CallsH Tryz.prog 50 #[(.int .i64 x266)] h219 fun r268 h267 =>
    ∃ s269 : ByteArray, r268 = (.string s269) ∧ 
    ∃ s270 : ByteArray, PV Tryz.prog (binOp .add 9 (.string ({ data := #[32] })) (.string s269)) (.string s270) ∧
    ∃ s271 : ByteArray, PV Tryz.prog (binOp .add 9 (.string s270) (.string ({ data := #[32] }))) (.string s271) ∧
    ∃ x272 : Int, HV Tryz.prog (Instr.loadAt 3 (.pointer (some (a179.add 1)))) h267 (.int .i64 x272) ∧ HV Tryz.prog (Instr.loadAt 3 (.pointer (some (a179.add 1)))) h219 (.int .i64 x272) ∧ 
    CallsH Tryz.prog 50 #[(.int .i64 x272)] h267 fun r274 h273 =>
    ∃ s275 : ByteArray, r274 = (.string s275) ∧ 
    ∃ s276 : ByteArray, PV Tryz.prog (binOp .add 9 (.string s271) (.string s275)) (.string s276) ∧
    CallsH Tryz.prog 37 #[(.pointer (some a4)), (.string s276)] h273 fun r278 h277 =>
    ∃ x279 : Int, ∃ v280 : Value, r278 = (.tuple #[(.int .i64 x279), v280]) ∧ 
    CallsH Tryz.prog 51 #[(.pointer (some a4)), (.int .u8 10)] h277 fun r282 h281 =>
    ∃ v283 : Value, r282 = v283 ∧ 
    syntax_PrintScript_l1 a4 A5 l5 c5 x6 K0 K1 k (IntKind.i64.wrap (x7 + 1)) h281)
    (br (x223 == 4)
    (∃ x284 : Int, ∃ x285 : Int, ∃ x286 : Int, ∃ x287 : Int, ∃ x288 : Int, HV Tryz.prog (Instr.loadAt 57 (.pointer (some (a179.add 15)))) h219 (.agg #[(.int .u32 x284), (.int .u32 x285), (.int .u16 x286), (.int .u16 x287), (.int .u8 x288)]) ∧ 
    CallsH Tryz.prog 18 #[(.agg #[(.int .u32 x284), (.int .u32 x285), (.int .u16 x286), (.int .u16 x287), (.int .u8 x288)])] h219 fun r290 h289 =>
    ∃ s291 : ByteArray, r290 = (.string s291) ∧ 
    ∃ s292 : ByteArray, PV Tryz.prog (binOp .add 9 (.string ({ data := #[32] })) (.string s291)) (.string s292) ∧
    CallsH Tryz.prog 37 #[(.pointer (some a4)), (.string s292)] h289 fun r294 h293 =>
    ∃ x295 : Int, ∃ v296 : Value, r294 = (.tuple #[(.int .i64 x295), v296]) ∧ 
    CallsH Tryz.prog 51 #[(.pointer (some a4)), (.int .u8 10)] h293 fun r298 h297 =>
    ∃ v299 : Value, r298 = v299 ∧ 
    syntax_PrintScript_l1 a4 A5 l5 c5 x6 K0 K1 k (IntKind.i64.wrap (x7 + 1)) h297)
    (CallsH Tryz.prog 51 #[(.pointer (some a4)), (.int .u8 10)] h219 fun r301 h300 =>
    ∃ v302 : Value, r301 = v302 ∧ 
    syntax_PrintScript_l1 a4 A5 l5 c5 x6 K0 K1 k (IntKind.i64.wrap (x7 + 1)) h300))))))
    (K1 a4 h)
def syntax_PrintScript_l1_L (Q : Qx) (k : Nat) (tm : Tm) (h : Hp) : Prop :=
  selA (tm 4) fun a4 =>
  selS (tm 13) fun A5 l5 c5 =>
  selI .i64 (tm 14) fun x6 =>
  selI .i64 (tm 15) fun x7 =>
  syntax_PrintScript_l1 a4 A5 l5 c5 x6 (fun (s154 : ByteArray) (x155 : Int) h => Q (.ret) (mkTm [(2, some (.string s154)), (3, some (.int .i64 x155))]) h) (fun (a156 : Addr) h => Q (.exit 0) (mkTm [(4, some (.pointer (some a156)))]) h) k x7 h
set_option maxRecDepth 100000 in
def syntax_PrintScript (A1 : Option Addr) (l1 : Nat) (c1 : Nat) (h : Hp) (K : Value → Hp → Prop) : Prop :=
  br (decide ((l1 : Int) > 1000))
  (K (.tuple #[(.string ({ data := #[] })), (.int .i64 2)]) h)
  (newC h (.cells #[(.pointer none), (.slice none 0 0)] 113 (0, 0)) fun a3 h2 => 
  ∃ k314, syntax_PrintScript_l1 a3 A1 l1 c1 (l1 : Int)
  (fun (s303 : ByteArray) (x304 : Int) (h305 : Hp) =>
  K (.tuple #[(.string s303), (.int .i64 x304)]) h305)
  (fun (a306 : Addr) (h307 : Hp) =>
  CallsH Tryz.prog 52 #[(.pointer (some a306))] h307 fun r309 h308 =>
  ∃ x310 : Int, r309 = (.int .i64 x310) ∧ 
  br (decide (x310 > 65536))
  (K (.tuple #[(.string ({ data := #[] })), (.int .i64 2)]) h308)
  (CallsH Tryz.prog 38 #[(.pointer (some a306))] h308 fun r312 h311 =>
  ∃ s313 : ByteArray, r312 = (.string s313) ∧ 
  K (.tuple #[(.string s313), (.int .i64 0)]) h311))
   k314 0 h2)
def syntax_PrintScript_lp (i : Nat) (Q : Qx) (tm : Tm) (h : Hp) : Prop := match Nat.beq i 122 with
  | true => ∃ k, syntax_PrintScript_l1_L Q k tm h
  | false => False
def syntax_PrintScript_cut (i : Nat) : Option (List Nat) := none
set_option maxRecDepth 100000 in
theorem syntax_PrintScript_l1_step (Q : Qx) (k : Nat) (a4 : Addr) (A5 : Option Addr) (l5 : Nat) (c5 : Nat) (x6 : Int) (x7 : Int) (h : Hp) : syntax_PrintScript_l1_L Q (k + 1) (mkTm [(4, some (.pointer (some a4))), (13, some (.slice A5 l5 c5)), (14, some (.int .i64 x6)), (15, some (.int .i64 x7))]) h =
    codeWp Tryz.prog 78 false syntax_PrintScript_lp syntax_PrintScript_cut (sub (bodyOf Tryz.f20) [true, true, true, false, true, false, false]) 244 (thenQ (fun tm h => syntax_PrintScript_l1_L Q k (mask [4, 13, 14, 15] tm) h) (maskQ (fun e => match e with | .ret => [2, 3] | .exit 0 => [4] | _ => []) Q)) (mkTm [(4, some (.pointer (some a4))), (13, some (.slice A5 l5 c5)), (14, some (.int .i64 x6)), (15, some (.int .i64 x7))]) h := by kernel_rfl
theorem syntax_PrintScript_l1_mask (Q : Qx) (k : Nat) (tm : Tm) (h : Hp) : syntax_PrintScript_l1_L Q k tm h ↔ syntax_PrintScript_l1_L Q k (mask [4, 13, 14, 15] tm) h := Iff.rfl
set_option maxRecDepth 100000 in
theorem syntax_PrintScript_l1_snd : SndAt Tryz.prog 78 none (sub (bodyOf Tryz.f20) [true, true, true, false, true, false]) (syntax_PrintScript_lp 122) := by
  refine loop_sound (pn := false) (lp := syntax_PrintScript_lp) (cut := syntax_PrintScript_cut) (i := 122) (c := (sub (bodyOf Tryz.f20) [true, true, true, false, true, false, false])) [4, 13, 14, 15] (fun e => match e with | .ret => [2, 3] | .exit 0 => [4] | _ => []) syntax_PrintScript_l1_L ?_ ?_ ?_
  · exact good_by (pn := false) (c := (sub (bodyOf Tryz.f20) [true, true, true, false, true, false, false])) (i := 244) (l := []) (by kernel_rfl) (fun _ h => by cases h)
  · intro Q tm h H
    obtain ⟨a4, e4, H⟩ := selA_ex H
    obtain ⟨A5, l5, c5, e13, H⟩ := selS_ex H
    obtain ⟨x6, e14, H⟩ := selI_ex H
    obtain ⟨x7, e15, H⟩ := selI_ex H
    exact H
  · intro Q k tm h H
    have H0 := H
    obtain ⟨a4, e4, H⟩ := selA_ex H
    obtain ⟨A5, l5, c5, e13, H⟩ := selS_ex H
    obtain ⟨x6, e14, H⟩ := selI_ex H
    obtain ⟨x7, e15, H⟩ := selI_ex H
    have e : mask [4, 13, 14, 15] tm = mkTm [(4, some (.pointer (some a4))), (13, some (.slice A5 l5 c5)), (14, some (.int .i64 x6)), (15, some (.int .i64 x7))] := by simp only [mask, List.map_cons, List.map_nil, e4, e13, e14, e15] <;> rfl
    rw [e]
    refine Eq.mp (syntax_PrintScript_l1_step Q k a4 A5 l5 c5 x6 x7 h) ?_
    rw [← e]
    exact (syntax_PrintScript_l1_mask Q (k + 1) tm h).mp H0
set_option maxRecDepth 100000 in
theorem syntax_PrintScript_eq (A1 : Option Addr) (l1 : Nat) (c1 : Nat) (h : Hp) (K : Value → Hp → Prop) : syntax_PrintScript A1 l1 c1 h K =
    codeWp Tryz.prog 78 false syntax_PrintScript_lp syntax_PrintScript_cut (bodyOf Tryz.f20) 1 (endQ Tryz.prog Tryz.f20.results.toList K) (argTm [(.slice A1 l1 c1)]) h := by kernel_rfl
set_option maxRecDepth 100000 in
theorem syntax_PrintScript_ok (A1 : Option Addr) (l1 : Nat) (c1 : Nat) {h : Hp} {K : Value → Hp → Prop} (H : syntax_PrintScript A1 l1 c1 h K) : CallsH Tryz.prog 20 #[(.slice A1 l1 c1)] h K :=
  calls_of (pn := false) (args := [(.slice A1 l1 c1)]) (n := 78) (lp := syntax_PrintScript_lp) (cut := syntax_PrintScript_cut) Tryz.func20 (c := bodyOf Tryz.f20) (by kernel_rfl) (by kernel_rfl) (by kernel_rfl) (good_by (pn := false) (c := (bodyOf Tryz.f20)) (i := 1) (l := [(122, (sub (bodyOf Tryz.f20) [true, true, true, false, true, false]))]) (by kernel_rfl) (List.forall_mem_cons.2 ⟨syntax_PrintScript_l1_snd, (fun _ h => by cases h)⟩))
    (Eq.mp (syntax_PrintScript_eq A1 l1 c1 h K) H)

/-! ### quintet/syntax.checked: function 48 -/
def syntax_checked_j3 (K0 : Int → Hp → Prop) (a231 : Addr) (h : Hp) : Prop :=
  ∃ x250 : Int, HV Tryz.prog (Instr.loadAt 67 (.pointer (some a231))) h (.int .i64 x250) ∧ 
  br (x250 == 1)
  (∃ x251 : Int, ∃ x252 : Int, ∃ x253 : Int, ∃ x254 : Int, ∃ x255 : Int, ∃ x256 : Int, ∃ x257 : Int, ∃ x258 : Int, ∃ x259 : Int, ∃ x260 : Int, ∃ x261 : Int, ∃ x262 : Int, HV Tryz.prog (Instr.loadAt 75 (.pointer (some (a231.add 3)))) h (.agg #[(.int .i64 x251), (.int .u32 x252), (.int .i64 x253), (.int .u32 x254), (.int .i64 x255), (.int .u16 x256), (.int .u16 x257), (.int .u16 x258), (.int .u16 x259), (.int .u8 x260), (.int .u8 x261), (.int .i64 x262)]) ∧ 
  CallsH Tryz.prog 59 #[(.agg #[(.int .i64 x251), (.int .u32 x252), (.int .i64 x253), (.int .u32 x254), (.int .i64 x255), (.int .u16 x256), (.int .u16 x257), (.int .u16 x258), (.int .u16 x259), (.int .u8 x260), (.int .u8 x261), (.int .i64 x262)])] h fun r264 h263 =>
  ∃ x265 : Int, ∃ x266 : Int, r264 = (.tuple #[(.int .i64 x265), (.int .i64 x266)]) ∧ 
  K0 x265 h263)
  (K0 0 h)
def syntax_checked_j3_L (Q : Qx) (tm : Tm) (h : Hp) : Prop :=
  selA (tm 1) fun a231 =>
  syntax_checked_j3 (fun (x249 : Int) h => Q (.ret) (mkTm [(2, some (.int .i64 x249))]) h) a231 h
def syntax_checked_j2 (K0 : Int → Hp → Prop) (a55 : Addr) (a56 : Addr) (h : Hp) : Prop :=
  ∃ x267 : Int, ∃ x268 : Int, ∃ x269 : Int, ∃ x270 : Int, ∃ x271 : Int, ∃ x272 : Int, ∃ x273 : Int, ∃ x274 : Int, ∃ x275 : Int, ∃ x276 : Int, ∃ x277 : Int, ∃ x278 : Int, ∃ x279 : Int, ∃ x280 : Int, ∃ x281 : Int, ∃ x282 : Int, ∃ x283 : Int, ∃ x284 : Int, ∃ x285 : Int, ∃ x286 : Int, HV Tryz.prog (Instr.loadAt 77 (.pointer (some a56))) h (.agg #[(.int .i64 x267), (.int .i64 x268), (.int .i64 x269), (.int .i64 x270), (.int .u32 x271), (.int .i64 x272), (.int .u32 x273), (.int .i64 x274), (.int .u16 x275), (.int .u16 x276), (.int .u16 x277), (.int .u16 x278), (.int .u8 x279), (.int .u8 x280), (.int .i64 x281), (.int .u32 x282), (.int .u32 x283), (.int .u16 x284), (.int .u16 x285), (.int .u8 x286)]) ∧ 
  ∃ x287 : Int, ∃ x288 : Int, ∃ x289 : Int, ∃ x290 : Int, ∃ x291 : Int, ∃ x292 : Int, ∃ x293 : Int, ∃ x294 : Int, ∃ x295 : Int, ∃ x296 : Int, ∃ x297 : Int, ∃ x298 : Int, ∃ x299 : Int, ∃ x300 : Int, ∃ x301 : Int, ∃ x302 : Int, ∃ x303 : Int, ∃ x304 : Int, ∃ x305 : Int, ∃ x306 : Int, HV Tryz.prog (Instr.loadAt 77 (.pointer (some a55))) h (.agg #[(.int .i64 x287), (.int .i64 x288), (.int .i64 x289), (.int .i64 x290), (.int .u32 x291), (.int .i64 x292), (.int .u32 x293), (.int .i64 x294), (.int .u16 x295), (.int .u16 x296), (.int .u16 x297), (.int .u16 x298), (.int .u8 x299), (.int .u8 x300), (.int .i64 x301), (.int .u32 x302), (.int .u32 x303), (.int .u16 x304), (.int .u16 x305), (.int .u8 x306)]) ∧ 
  ∃ b307 : Bool, PV Tryz.prog (binOp .neq 77 (.agg #[(.int .i64 x267), (.int .i64 x268), (.int .i64 x269), (.int .i64 x270), (.int .u32 x271), (.int .i64 x272), (.int .u32 x273), (.int .i64 x274), (.int .u16 x275), (.int .u16 x276), (.int .u16 x277), (.int .u16 x278), (.int .u8 x279), (.int .u8 x280), (.int .i64 x281), (.int .u32 x282), (.int .u32 x283), (.int .u16 x284), (.int .u16 x285), (.int .u8 x286)]) (.agg #[(.int .i64 x287), (.int .i64 x288), (.int .i64 x289), (.int .i64 x290), (.int .u32 x291), (.int .i64 x292), (.int .u32 x293), (.int .i64 x294), (.int .u16 x295), (.int .u16 x296), (.int .u16 x297), (.int .u16 x298), (.int .u8 x299), (.int .u8 x300), (.int .i64 x301), (.int .u32 x302), (.int .u32 x303), (.int .u16 x304), (.int .u16 x305), (.int .u8 x306)])) (.bool b307) ∧
  br b307
  (K0 1 h)
  (∃ x308 : Int, HV Tryz.prog (Instr.loadAt 3 (.pointer (some (a55.add 1)))) h (.int .i64 x308) ∧ 
  ∃ x309 : Int, HV Tryz.prog (Instr.loadAt 3 (.pointer (some (a55.add 1)))) h (.int .i64 x309) ∧ 
  br (x308 != (IntKind.i64.wrap (IntKind.u32.wrap (x309))))
  (K0 1 h)
  (∃ x310 : Int, HV Tryz.prog (Instr.loadAt 3 (.pointer (some (a55.add 2)))) h (.int .i64 x310) ∧ 
  ∃ x311 : Int, HV Tryz.prog (Instr.loadAt 3 (.pointer (some (a55.add 2)))) h (.int .i64 x311) ∧ 
  br (x310 != (IntKind.i64.wrap (IntKind.u32.wrap (x311))))
  (K0 1 h)
  (syntax_checked_j3
  (fun (x312 : Int) (h313 : Hp) =>
  K0 x312 h313)
  a55 h)))
def syntax_checked_j2_L (Q : Qx) (tm : Tm) (h : Hp) : Prop :=
  selA (tm 1) fun a55 =>
  selA (tm 3) fun a56 =>
  syntax_checked_j2 (fun (x185 : Int) h => Q (.ret) (mkTm [(2, some (.int .i64 x185))]) h) a55 a56 h
set_option maxRecDepth 100000 in
def syntax_checked (x1 : Int) (x2 : Int) (x3 : Int) (x4 : Int) (x5 : Int) (x6 : Int) (x7 : Int) (x8 : Int) (x9 : Int) (x10 : Int) (x11 : Int) (x12 : Int) (x13 : Int) (x14 : Int) (x15 : Int) (x16 : Int) (x17 : Int) (x18 : Int) (x19 : Int) (x20 : Int) (h : Hp) (K : Value → Hp → Prop) : Prop :=
  newC h (.cells #[(.int .i64 x1), (.int .i64 x2), (.int .i64 x3), (.int .i64 x4), (.int .u32 x5), (.int .i64 x6), (.int .u32 x7), (.int .i64 x8), (.int .u16 x9), (.int .u16 x10), (.int .u16 x11), (.int .u16 x12), (.int .u8 x13), (.int .u8 x14), (.int .i64 x15), (.int .u32 x16), (.int .u32 x17), (.int .u16 x18), (.int .u16 x19), (.int .u8 x20)] 77 (0, 0)) fun a22 h21 => 
  ∃ x23 : Int, HV Tryz.prog (Instr.loadAt 67 (.pointer (some a22))) h21 (.int .i64 x23) ∧ 
  newC h21 (.cells #[(.int .i64 0), (.int .i64 0), (.int .i64 0), (.int .i64 0), (.int .u32 0), (.int .i64 0), (.int .u32 0), (.int .i64 0), (.int .u16 0), (.int .u16 0), (.int .u16 0), (.int .u16 0), (.int .u8 0), (.int .u8 0), (.int .i64 0), (.int .u32 0), (.int .u32 0), (.int .u16 0), (.int .u16 0), (.int .u8 0)] 77 (0, 0)) fun a25 h24 => 
  HU Tryz.prog (Instr.storeAt 77 (.pointer (some a25)) (.agg #[(.int .i64 x23), (.int .i64 0), (.int .i64 0), (.int .i64 0), (.int .u32 0), (.int .i64 0), (.int .u32 0), (.int .i64 0), (.int .u16 0), (.int .u16 0), (.int .u16 0), (.int .u16 0), (.int .u8 0), (.int .u8 0), (.int .i64 0), (.int .u32 0), (.int .u32 0), (.int .u16 0), (.int .u16 0), (.int .u8 0)])) h24 fun h26 => 
  ∃ x314 : Int, HV Tryz.prog (Instr.loadAt 67 (.pointer (some a22))) h26 (.int .i64 x314) ∧ 
  br (x314 == 1)
  (∃ x315 : Int, HV Tryz.prog (Instr.loadAt 3 (.pointer (some (a22.add 1)))) h26 (.int .i64 x315) ∧ 
  ∃ x316 : Int, ∃ x317 : Int, ∃ x318 : Int, ∃ x319 : Int, ∃ x320 : Int, ∃ x321 : Int, ∃ x322 : Int, ∃ x323 : Int, ∃ x324 : Int, ∃ x325 : Int, ∃ x326 : Int, ∃ x327 : Int, HV Tryz.prog (Instr.loadAt 75 (.pointer (some (a22.add 3)))) h26 (.agg #[(.int .i64 x316), (.int .u32 x317), (.int .i64 x318), (.int .u32 x319), (.int .i64 x320), (.int .u16 x321), (.int .u16 x322), (.int .u16 x323), (.int .u16 x324), (.int .u8 x325), (.int .u8 x326), (.int .i64 x327)]) ∧ 
  HU Tryz.prog (Instr.storeAt 3 (.pointer (some (a25.add 1))) (.int .i64 x315)) h26 fun h328 => HV Tryz.prog (Instr.loadAt 75 (.pointer (some (a22.add 3)))) h328 (.agg #[(.int .i64 x316), (.int .u32 x317), (.int .i64 x318), (.int .u32 x319), (.int .i64 x320), (.int .u16 x321), (.int .u16 x322), (.int .u16 x323), (.int .u16 x324), (.int .u8 x325), (.int .u8 x326), (.int .i64 x327)]) ∧ 
  HU Tryz.prog (Instr.storeAt 75 (.pointer (some (a25.add 3))) (.agg #[(.int .i64 x316), (.int .u32 x317), (.int .i64 x318), (.int .u32 x319), (.int .i64 x320), (.int .u16 x321), (.int .u16 x322), (.int .u16 x323), (.int .u16 x324), (.int .u8 x325), (.int .u8 x326), (.int .i64 x327)])) h328 fun h329 => 
  syntax_checked_j2
  (fun (x330 : Int) (h331 : Hp) =>
  K (.int .i64 x330) h331)
  a22 a25 h329)
  (br (x314 == 2)
  (∃ x332 : Int, HV Tryz.prog (Instr.loadAt 3 (.pointer (some (a22.add 2)))) h26 (.int .i64 x332) ∧ 
  HU Tryz.prog (Instr.storeAt 3 (.pointer (some (a25.add 2))) (.int .i64 x332)) h26 fun h333 => 
  syntax_checked_j2
  (fun (x334 : Int) (h335 : Hp) =>
  K (.int .i64 x334) h335)
  a22 a25 h333)
  (br (x314 == 3)
  (∃ x336 : Int, HV Tryz.prog (Instr.loadAt 3 (.pointer (some (a22.add 2)))) h26 (.int .i64 x336) ∧ 
  ∃ x337 : Int, HV Tryz.prog (Instr.loadAt 3 (.pointer (some (a22.add 1)))) h26 (.int .i64 x337) ∧ 
  HU Tryz.prog (Instr.storeAt 3 (.pointer (some (a25.add 2))) (.int .i64 x336)) h26 fun h338 => HV Tryz.prog (Instr.loadAt 3 (.pointer (some (a22.add 1)))) h338 (.int .i64 x337) ∧ 
  HU Tryz.prog (Instr.storeAt 3 (.pointer (some (a25.add 1))) (.int .i64 x337)) h338 fun h339 => 
  syntax_checked_j2
  (fun (x340 : Int) (h341 : Hp) =>
  K (.int .i64 x340) h341)
  a22 a25 h339)
  (br (x314 == 4)
  (∃ x342 : Int, ∃ x343 : Int, ∃ x344 : Int, ∃ x345 : Int, ∃ x346 : Int, HV Tryz.prog (Instr.loadAt 57 (.pointer (some (a22.add 15)))) h26 (.agg #[(.int .u32 x342), (.int .u32 x343), (.int .u16 x344), (.int .u16 x345), (.int .u8 x346)]) ∧ 
  HU Tryz.prog (Instr.storeAt 57 (.pointer (some (a25.add 15))) (.agg #[(.int .u32 x342), (.int .u32 x343), (.int .u16 x344), (.int .u16 x345), (.int .u8 x346)])) h26 fun h347 => 
  syntax_checked_j2
  (fun (x348 : Int) (h349 : Hp) =>
  K (.int .i64 x348) h349)
  a22 a25 h347)
  (br (x314 == 5)
  (syntax_checked_j2
  (fun (x350 : Int) (h351 : Hp) =>
  K (.int .i64 x350) h351)
  a22 a25 h26)
  (br (x314 == 6)
  (syntax_checked_j2
  (fun (x352 : Int) (h353 : Hp) =>
  K (.int .i64 x352) h353)
  a22 a25 h26)
  (br (x314 == 7)
  (syntax_checked_j2
  (fun (x354 : Int) (h355 : Hp) =>
  K (.int .i64 x354) h355)
  a22 a25 h26)
  (br (x314 == 8)
  (syntax_checked_j2
  (fun (x356 : Int) (h357 : Hp) =>
  K (.int .i64 x356) h357)
  a22 a25 h26)
  (br (x314 == 9)
  (syntax_checked_j2
  (fun (x358 : Int) (h359 : Hp) =>
  K (.int .i64 x358) h359)
  a22 a25 h26)
  (br (x314 == 10)
  (syntax_checked_j2
  (fun (x360 : Int) (h361 : Hp) =>
  K (.int .i64 x360) h361)
  a22 a25 h26)
  (K (.int .i64 1) h26))))))))))
def syntax_checked_lp (i : Nat) (Q : Qx) (tm : Tm) (h : Hp) : Prop := match Nat.beq i 15 with
  | true => syntax_checked_j3_L Q tm h
  | false => match Nat.beq i 7 with
  | true => syntax_checked_j2_L Q tm h
  | false => False
def syntax_checked_cut (i : Nat) : Option (List Nat) := match Nat.beq i 7 with
  | true => some [1, 3]
  | false => match Nat.beq i 15 with
  | true => some [1]
  | false => none
set_option maxRecDepth 100000 in
theorem syntax_checked_j3_step (Q : Qx) (a231 : Addr) (h : Hp) : syntax_checked_j3_L Q (mkTm [(1, some (.pointer (some a231)))]) h =
    codeWp Tryz.prog 75 false syntax_checked_lp syntax_checked_cut (sub (bodyOf Tryz.f48) [true, true, true, true]) 31 (maskQ (fun e => match e with | .ret => [2] | _ => []) Q) (mkTm [(1, some (.pointer (some a231)))]) h := by kernel_rfl
theorem syntax_checked_j3_mask (Q : Qx) (tm : Tm) (h : Hp) : syntax_checked_j3_L Q tm h ↔ syntax_checked_j3_L Q (mask [1] tm) h := Iff.rfl
set_option maxRecDepth 100000 in
theorem syntax_checked_j3_snd : SndAt Tryz.prog 75 none (sub (bodyOf Tryz.f48) [true, true, true, true]) (syntax_checked_lp 15) := by
  refine join_sound (pn := false) (lp := syntax_checked_lp) (cut := syntax_checked_cut) (i := 15) (c := (sub (bodyOf Tryz.f48) [true, true, true, true])) [1] (fun e => match e with | .ret => [2] | _ => []) syntax_checked_j3_L ?_ ?_
  · exact good_by (pn := false) (c := (sub (bodyOf Tryz.f48) [true, true, true, true])) (i := 31) (l := []) (by kernel_rfl) (fun _ h => by cases h)
  · intro Q tm h H
    have H0 := H
    obtain ⟨a231, e1, H⟩ := selA_ex H
    have e : mask [1] tm = mkTm [(1, some (.pointer (some a231)))] := by simp only [mask, List.map_cons, List.map_nil, e1] <;> rfl
    rw [e]
    refine Eq.mp (syntax_checked_j3_step Q a231 h) ?_
    rw [← e]
    exact (syntax_checked_j3_mask Q tm h).mp H0
set_option maxRecDepth 100000 in
theorem syntax_checked_j2_step (Q : Qx) (a55 : Addr) (a56 : Addr) (h : Hp) : syntax_checked_j2_L Q (mkTm [(1, some (.pointer (some a55))), (3, some (.pointer (some a56)))]) h =
    codeWp Tryz.prog 75 false syntax_checked_lp syntax_checked_cut (sub (bodyOf Tryz.f48) [true, true, true]) 15 (maskQ (fun e => match e with | .ret => [2] | _ => []) Q) (mkTm [(1, some (.pointer (some a55))), (3, some (.pointer (some a56)))]) h := by kernel_rfl
theorem syntax_checked_j2_mask (Q : Qx) (tm : Tm) (h : Hp) : syntax_checked_j2_L Q tm h ↔ syntax_checked_j2_L Q (mask [1, 3] tm) h := Iff.rfl
set_option maxRecDepth 100000 in
theorem syntax_checked_j2_snd : SndAt Tryz.prog 75 none (sub (bodyOf Tryz.f48) [true, true, true]) (syntax_checked_lp 7) := by
  refine join_sound (pn := false) (lp := syntax_checked_lp) (cut := syntax_checked_cut) (i := 7) (c := (sub (bodyOf Tryz.f48) [true, true, true])) [1, 3] (fun e => match e with | .ret => [2] | _ => []) syntax_checked_j2_L ?_ ?_
  · exact good_by (pn := false) (c := (sub (bodyOf Tryz.f48) [true, true, true])) (i := 15) (l := [(15, (sub (bodyOf Tryz.f48) [true, true, true, true]))]) (by kernel_rfl) (List.forall_mem_cons.2 ⟨syntax_checked_j3_snd, (fun _ h => by cases h)⟩)
  · intro Q tm h H
    have H0 := H
    obtain ⟨a55, e1, H⟩ := selA_ex H
    obtain ⟨a56, e3, H⟩ := selA_ex H
    have e : mask [1, 3] tm = mkTm [(1, some (.pointer (some a55))), (3, some (.pointer (some a56)))] := by simp only [mask, List.map_cons, List.map_nil, e1, e3] <;> rfl
    rw [e]
    refine Eq.mp (syntax_checked_j2_step Q a55 a56 h) ?_
    rw [← e]
    exact (syntax_checked_j2_mask Q tm h).mp H0
set_option maxRecDepth 100000 in
theorem syntax_checked_eq (x1 : Int) (x2 : Int) (x3 : Int) (x4 : Int) (x5 : Int) (x6 : Int) (x7 : Int) (x8 : Int) (x9 : Int) (x10 : Int) (x11 : Int) (x12 : Int) (x13 : Int) (x14 : Int) (x15 : Int) (x16 : Int) (x17 : Int) (x18 : Int) (x19 : Int) (x20 : Int) (h : Hp) (K : Value → Hp → Prop) : syntax_checked x1 x2 x3 x4 x5 x6 x7 x8 x9 x10 x11 x12 x13 x14 x15 x16 x17 x18 x19 x20 h K =
    codeWp Tryz.prog 75 false syntax_checked_lp syntax_checked_cut (bodyOf Tryz.f48) 1 (endQ Tryz.prog Tryz.f48.results.toList K) (argTm [(.agg #[(.int .i64 x1), (.int .i64 x2), (.int .i64 x3), (.int .i64 x4), (.int .u32 x5), (.int .i64 x6), (.int .u32 x7), (.int .i64 x8), (.int .u16 x9), (.int .u16 x10), (.int .u16 x11), (.int .u16 x12), (.int .u8 x13), (.int .u8 x14), (.int .i64 x15), (.int .u32 x16), (.int .u32 x17), (.int .u16 x18), (.int .u16 x19), (.int .u8 x20)])]) h := by kernel_rfl
set_option maxRecDepth 100000 in
theorem syntax_checked_ok (x1 : Int) (x2 : Int) (x3 : Int) (x4 : Int) (x5 : Int) (x6 : Int) (x7 : Int) (x8 : Int) (x9 : Int) (x10 : Int) (x11 : Int) (x12 : Int) (x13 : Int) (x14 : Int) (x15 : Int) (x16 : Int) (x17 : Int) (x18 : Int) (x19 : Int) (x20 : Int) {h : Hp} {K : Value → Hp → Prop} (H : syntax_checked x1 x2 x3 x4 x5 x6 x7 x8 x9 x10 x11 x12 x13 x14 x15 x16 x17 x18 x19 x20 h K) : CallsH Tryz.prog 48 #[(.agg #[(.int .i64 x1), (.int .i64 x2), (.int .i64 x3), (.int .i64 x4), (.int .u32 x5), (.int .i64 x6), (.int .u32 x7), (.int .i64 x8), (.int .u16 x9), (.int .u16 x10), (.int .u16 x11), (.int .u16 x12), (.int .u8 x13), (.int .u8 x14), (.int .i64 x15), (.int .u32 x16), (.int .u32 x17), (.int .u16 x18), (.int .u16 x19), (.int .u8 x20)])] h K :=
  calls_of (pn := false) (args := [(.agg #[(.int .i64 x1), (.int .i64 x2), (.int .i64 x3), (.int .i64 x4), (.int .u32 x5), (.int .i64 x6), (.int .u32 x7), (.int .i64 x8), (.int .u16 x9), (.int .u16 x10), (.int .u16 x11), (.int .u16 x12), (.int .u8 x13), (.int .u8 x14), (.int .i64 x15), (.int .u32 x16), (.int .u32 x17), (.int .u16 x18), (.int .u16 x19), (.int .u8 x20)])]) (n := 75) (lp := syntax_checked_lp) (cut := syntax_checked_cut) Tryz.func48 (c := bodyOf Tryz.f48) (by kernel_rfl) (by kernel_rfl) (by kernel_rfl) (good_by (pn := false) (c := (bodyOf Tryz.f48)) (i := 1) (l := [(7, (sub (bodyOf Tryz.f48) [true, true, true]))]) (by kernel_rfl) (List.forall_mem_cons.2 ⟨syntax_checked_j2_snd, (fun _ h => by cases h)⟩))
    (Eq.mp (syntax_checked_eq x1 x2 x3 x4 x5 x6 x7 x8 x9 x10 x11 x12 x13 x14 x15 x16 x17 x18 x19 x20 h K) H)

/-! ### (*strings.Builder).WriteString: function 37 -/
set_option maxRecDepth 100000 in
def strings_Builder_WriteString (p1 : Option Addr) (s2 : ByteArray) (h : Hp) (K : Value → Hp → Prop) : Prop :=
  CallsH Tryz.prog 69 #[(.pointer p1)] h fun r4 h3 =>
  r4 = (.tuple #[]) ∧ 
  drf p1 fun a5 =>
  ∃ A6 : Option Addr, ∃ l6 : Nat, ∃ c6 : Nat, HV Tryz.prog (Instr.loadAt 58 (.pointer (some (a5.add 1)))) h3 (.slice A6 l6 c6) ∧ 
  HW Tryz.prog (Builtin.append_ #[58, 9] 58 #[(.slice A6 l6 c6), (.string s2)]) h3 fun r8 h7 =>
  ∃ A9 : Option Addr, ∃ l9 : Nat, ∃ c9 : Nat, r8 = (.slice A9 l9 c9) ∧ 
  drf p1 fun a10 =>
  HU Tryz.prog (Instr.storeAt 58 (.pointer (some (a10.add 1))) (.slice A9 l9 c9)) h7 fun h11 => 
  K (.tuple #[(.int .i64 ((s2 : ByteArray).size : Int)), .nilIface]) h11
def strings_Builder_WriteString_lp (i : Nat) (Q : Qx) (tm : Tm) (h : Hp) : Prop := False
def strings_Builder_WriteString_cut (i : Nat) : Option (List Nat) := none
set_option maxRecDepth 100000 in
theorem strings_Builder_WriteString_eq (p1 : Option Addr) (s2 : ByteArray) (h : Hp) (K : Value → Hp → Prop) : strings_Builder_WriteString p1 s2 h K =
    codeWp Tryz.prog 19 false strings_Builder_WriteString_lp strings_Builder_WriteString_cut (bodyOf Tryz.f37) 1 (endQ Tryz.prog Tryz.f37.results.toList K) (argTm [(.pointer p1), (.string s2)]) h := by kernel_rfl
set_option maxRecDepth 100000 in
theorem strings_Builder_WriteString_ok (p1 : Option Addr) (s2 : ByteArray) {h : Hp} {K : Value → Hp → Prop} (H : strings_Builder_WriteString p1 s2 h K) : CallsH Tryz.prog 37 #[(.pointer p1), (.string s2)] h K :=
  calls_of (pn := false) (args := [(.pointer p1), (.string s2)]) (n := 19) (lp := strings_Builder_WriteString_lp) (cut := strings_Builder_WriteString_cut) Tryz.func37 (c := bodyOf Tryz.f37) (by kernel_rfl) (by kernel_rfl) (by kernel_rfl) (good_by (pn := false) (c := (bodyOf Tryz.f37)) (i := 1) (l := []) (by kernel_rfl) (fun _ h => by cases h))
    (Eq.mp (strings_Builder_WriteString_eq p1 s2 h K) H)

/-! ### (*strings.Builder).WriteByte: function 51 -/
set_option maxRecDepth 100000 in
def strings_Builder_WriteByte (p1 : Option Addr) (x2 : Int) (h : Hp) (K : Value → Hp → Prop) : Prop :=
  CallsH Tryz.prog 69 #[(.pointer p1)] h fun r4 h3 =>
  r4 = (.tuple #[]) ∧ 
  drf p1 fun a5 =>
  ∃ A6 : Option Addr, ∃ l6 : Nat, ∃ c6 : Nat, HV Tryz.prog (Instr.loadAt 58 (.pointer (some (a5.add 1)))) h3 (.slice A6 l6 c6) ∧ 
  newC h3 (.cells #[(.int .u8 x2)] 5 (0, 0)) fun a8 h7 => 
  HW Tryz.prog (Builtin.append_ #[58, 58] 58 #[(.slice A6 l6 c6), (.slice (some a8) 1 1)]) h7 fun r10 h9 =>
  ∃ A11 : Option Addr, ∃ l11 : Nat, ∃ c11 : Nat, r10 = (.slice A11 l11 c11) ∧ 
  drf p1 fun a12 =>
  HU Tryz.prog (Instr.storeAt 58 (.pointer (some (a12.add 1))) (.slice A11 l11 c11)) h9 fun h13 => 
  K .nilIface h13
def strings_Builder_WriteByte_lp (i : Nat) (Q : Qx) (tm : Tm) (h : Hp) : Prop := False
def strings_Builder_WriteByte_cut (i : Nat) : Option (List Nat) := none
set_option maxRecDepth 100000 in
theorem strings_Builder_WriteByte_eq (p1 : Option Addr) (x2 : Int) (h : Hp) (K : Value → Hp → Prop) : strings_Builder_WriteByte p1 x2 h K =
    codeWp Tryz.prog 17 false strings_Builder_WriteByte_lp strings_Builder_WriteByte_cut (bodyOf Tryz.f51) 1 (endQ Tryz.prog Tryz.f51.results.toList K) (argTm [(.pointer p1), (.int .u8 x2)]) h := by kernel_rfl
set_option maxRecDepth 100000 in
theorem strings_Builder_WriteByte_ok (p1 : Option Addr) (x2 : Int) {h : Hp} {K : Value → Hp → Prop} (H : strings_Builder_WriteByte p1 x2 h K) : CallsH Tryz.prog 51 #[(.pointer p1), (.int .u8 x2)] h K :=
  calls_of (pn := false) (args := [(.pointer p1), (.int .u8 x2)]) (n := 17) (lp := strings_Builder_WriteByte_lp) (cut := strings_Builder_WriteByte_cut) Tryz.func51 (c := bodyOf Tryz.f51) (by kernel_rfl) (by kernel_rfl) (by kernel_rfl) (good_by (pn := false) (c := (bodyOf Tryz.f51)) (i := 1) (l := []) (by kernel_rfl) (fun _ h => by cases h))
    (Eq.mp (strings_Builder_WriteByte_eq p1 x2 h K) H)

/-! ### (*strings.Builder).Len: function 52 -/
set_option maxRecDepth 100000 in
def strings_Builder_Len (p1 : Option Addr) (h : Hp) (K : Value → Hp → Prop) : Prop :=
  drf p1 fun a2 =>
  ∃ A3 : Option Addr, ∃ l3 : Nat, ∃ c3 : Nat, HV Tryz.prog (Instr.loadAt 58 (.pointer (some (a2.add 1)))) h (.slice A3 l3 c3) ∧ 
  K (.int .i64 (l3 : Int)) h
def strings_Builder_Len_lp (i : Nat) (Q : Qx) (tm : Tm) (h : Hp) : Prop := False
def strings_Builder_Len_cut (i : Nat) : Option (List Nat) := none
set_option maxRecDepth 100000 in
theorem strings_Builder_Len_eq (p1 : Option Addr) (h : Hp) (K : Value → Hp → Prop) : strings_Builder_Len p1 h K =
    codeWp Tryz.prog 8 false strings_Builder_Len_lp strings_Builder_Len_cut (bodyOf Tryz.f52) 1 (endQ Tryz.prog Tryz.f52.results.toList K) (argTm [(.pointer p1)]) h := by kernel_rfl
set_option maxRecDepth 100000 in
theorem strings_Builder_Len_ok (p1 : Option Addr) {h : Hp} {K : Value → Hp → Prop} (H : strings_Builder_Len p1 h K) : CallsH Tryz.prog 52 #[(.pointer p1)] h K :=
  calls_of (pn := false) (args := [(.pointer p1)]) (n := 8) (lp := strings_Builder_Len_lp) (cut := strings_Builder_Len_cut) Tryz.func52 (c := bodyOf Tryz.f52) (by kernel_rfl) (by kernel_rfl) (by kernel_rfl) (good_by (pn := false) (c := (bodyOf Tryz.f52)) (i := 1) (l := []) (by kernel_rfl) (fun _ h => by cases h))
    (Eq.mp (strings_Builder_Len_eq p1 h K) H)

/-! ### (*strings.Builder).copyCheck: function 69 -/
set_option maxRecDepth 100000 in
def strings_Builder_copyCheck (p1 : Option Addr) (h : Hp) (K : Value → Hp → Prop) : Prop :=
  drf p1 fun a2 =>
  ∃ p3 : Option Addr, HV Tryz.prog (Instr.loadAt 111 (.pointer (some a2))) h (.pointer p3) ∧ 
  ∃ b4 : Bool, PV Tryz.prog (binOp .eql 111 (.pointer p3) (.pointer none)) (.bool b4) ∧
  br b4
  (∃ v5 : Value, HV Tryz.prog (convert 111 89 (.pointer p1)) h v5 ∧ 
  ∃ p6 : Option Addr, HV Tryz.prog (convert 89 111 v5) h (.pointer p6) ∧ 
  drf p1 fun a7 =>
  HU Tryz.prog (Instr.storeAt 111 (.pointer (some a7)) (.pointer p6)) h fun h8 => 
  K (.tuple #[]) h8)
  (drf p1 fun a9 =>
  ∃ p10 : Option Addr, HV Tryz.prog (Instr.loadAt 111 (.pointer (some a9))) h (.pointer p10) ∧ 
  ∃ b11 : Bool, HV Tryz.prog (binOp .neq 111 (.pointer p10) (.pointer p1)) h (.bool b11) ∧
  br b11
  (False)
  (K (.tuple #[]) h))
def strings_Builder_copyCheck_lp (i : Nat) (Q : Qx) (tm : Tm) (h : Hp) : Prop := False
def strings_Builder_copyCheck_cut (i : Nat) : Option (List Nat) := none
set_option maxRecDepth 100000 in
theorem strings_Builder_copyCheck_eq (p1 : Option Addr) (h : Hp) (K : Value → Hp → Prop) : strings_Builder_copyCheck p1 h K =
    codeWp Tryz.prog 20 false strings_Builder_copyCheck_lp strings_Builder_copyCheck_cut (bodyOf Tryz.f69) 1 (endQ Tryz.prog Tryz.f69.results.toList K) (argTm [(.pointer p1)]) h := by kernel_rfl
set_option maxRecDepth 100000 in
theorem strings_Builder_copyCheck_ok (p1 : Option Addr) {h : Hp} {K : Value → Hp → Prop} (H : strings_Builder_copyCheck p1 h K) : CallsH Tryz.prog 69 #[(.pointer p1)] h K :=
  calls_of (pn := false) (args := [(.pointer p1)]) (n := 20) (lp := strings_Builder_copyCheck_lp) (cut := strings_Builder_copyCheck_cut) Tryz.func69 (c := bodyOf Tryz.f69) (by kernel_rfl) (by kernel_rfl) (by kernel_rfl) (good_by (pn := false) (c := (bodyOf Tryz.f69)) (i := 1) (l := []) (by kernel_rfl) (fun _ h => by cases h))
    (Eq.mp (strings_Builder_copyCheck_eq p1 h K) H)

/-! ### quintet/header.Pack: function 16 -/
set_option maxRecDepth 100000 in
def header_Pack (x1 : Int) (x2 : Int) (x3 : Int) (x4 : Int) (x5 : Int) (h : Hp) (K : Value → Hp → Prop) : Prop :=
  newC h (.cells #[(.int .u32 x1), (.int .u32 x2), (.int .u16 x3), (.int .u16 x4), (.int .u8 x5)] 57 (0, 0)) fun a7 h6 => 
  ∃ x8 : Int, ∃ x9 : Int, ∃ x10 : Int, ∃ x11 : Int, ∃ x12 : Int, HV Tryz.prog (Instr.loadAt 57 (.pointer (some a7))) h6 (.agg #[(.int .u32 x8), (.int .u32 x9), (.int .u16 x10), (.int .u16 x11), (.int .u8 x12)]) ∧ 
  CallsH Tryz.prog 41 #[(.agg #[(.int .u32 x8), (.int .u32 x9), (.int .u16 x10), (.int .u16 x11), (.int .u8 x12)])] h6 fun r14 h13 =>
  ∃ x15 : Int, ∃ x16 : Int, ∃ x17 : Int, ∃ x18 : Int, ∃ x19 : Int, ∃ x20 : Int, ∃ x21 : Int, ∃ x22 : Int, ∃ x23 : Int, ∃ x24 : Int, ∃ x25 : Int, ∃ x26 : Int, ∃ x27 : Int, r14 = (.agg #[(.int .u8 x15), (.int .u8 x16), (.int .u8 x17), (.int .u8 x18), (.int .u8 x19), (.int .u8 x20), (.int .u8 x21), (.int .u8 x22), (.int .u8 x23), (.int .u8 x24), (.int .u8 x25), (.int .u8 x26), (.int .u8 x27)]) ∧ 
  newC h13 (.cells #[(.int .u8 0), (.int .u8 0), (.int .u8 0), (.int .u8 0), (.int .u8 0), (.int .u8 0), (.int .u8 0), (.int .u8 0), (.int .u8 0), (.int .u8 0), (.int .u8 0), (.int .u8 0), (.int .u8 0)] 122 (0, 0)) fun a29 h28 => 
  HU Tryz.prog (Instr.storeAt 122 (.pointer (some a29)) (.agg #[(.int .u8 x15), (.int .u8 x16), (.int .u8 x17), (.int .u8 x18), (.int .u8 x19), (.int .u8 x20), (.int .u8 x21), (.int .u8 x22), (.int .u8 x23), (.int .u8 x24), (.int .u8 x25), (.int .u8 x26), (.int .u8 x27)])) h28 fun h30 => 
  ∃ A31 : Option Addr, ∃ l31 : Nat, ∃ c31 : Nat, PV Tryz.prog (Instr.sliceAt 122 (.pointer (some a29)) none none none) (.slice A31 l31 c31) ∧
  HW Tryz.prog (Builtin.append_ #[58, 58] 58 #[(.slice none 0 0), (.slice A31 l31 c31)]) h30 fun r33 h32 =>
  ∃ A34 : Option Addr, ∃ l34 : Nat, ∃ c34 : Nat, r33 = (.slice A34 l34 c34) ∧ 
  K (.slice A34 l34 c34) h32
def header_Pack_lp (i : Nat) (Q : Qx) (tm : Tm) (h : Hp) : Prop := False
def header_Pack_cut (i : Nat) : Option (List Nat) := none
set_option maxRecDepth 100000 in
theorem header_Pack_eq (x1 : Int) (x2 : Int) (x3 : Int) (x4 : Int) (x5 : Int) (h : Hp) (K : Value → Hp → Prop) : header_Pack x1 x2 x3 x4 x5 h K =
    codeWp Tryz.prog 8 false header_Pack_lp header_Pack_cut (bodyOf Tryz.f16) 1 (endQ Tryz.prog Tryz.f16.results.toList K) (argTm [(.agg #[(.int .u32 x1), (.int .u32 x2), (.int .u16 x3), (.int .u16 x4), (.int .u8 x5)])]) h := by kernel_rfl
set_option maxRecDepth 100000 in
theorem header_Pack_ok (x1 : Int) (x2 : Int) (x3 : Int) (x4 : Int) (x5 : Int) {h : Hp} {K : Value → Hp → Prop} (H : header_Pack x1 x2 x3 x4 x5 h K) : CallsH Tryz.prog 16 #[(.agg #[(.int .u32 x1), (.int .u32 x2), (.int .u16 x3), (.int .u16 x4), (.int .u8 x5)])] h K :=
  calls_of (pn := false) (args := [(.agg #[(.int .u32 x1), (.int .u32 x2), (.int .u16 x3), (.int .u16 x4), (.int .u8 x5)])]) (n := 8) (lp := header_Pack_lp) (cut := header_Pack_cut) Tryz.func16 (c := bodyOf Tryz.f16) (by kernel_rfl) (by kernel_rfl) (by kernel_rfl) (good_by (pn := false) (c := (bodyOf Tryz.f16)) (i := 1) (l := []) (by kernel_rfl) (fun _ h => by cases h))
    (Eq.mp (header_Pack_eq x1 x2 x3 x4 x5 h K) H)

/-! ### quintet/header.Unpack: function 17 -/
set_option maxRecDepth 100000 in
def header_Unpack (A1 : Option Addr) (l1 : Nat) (c1 : Nat) (h : Hp) (K : Value → Hp → Prop) : Prop :=
  newC h (.cells #[(.int .u32 0), (.int .u32 0), (.int .u16 0), (.int .u16 0), (.int .u8 0)] 57 (0, 0)) fun a3 h2 => 
  br ((l1 : Int) != 13)
  (HU Tryz.prog (Instr.storeAt 57 (.pointer (some a3)) (.agg #[(.int .u32 0), (.int .u32 0), (.int .u16 0), (.int .u16 0), (.int .u8 0)])) h2 fun h4 => 
  ∃ x5 : Int, ∃ x6 : Int, ∃ x7 : Int, ∃ x8 : Int, ∃ x9 : Int, HV Tryz.prog (Instr.loadAt 57 (.pointer (some a3))) h4 (.agg #[(.int .u32 x5), (.int .u32 x6), (.int .u16 x7), (.int .u16 x8), (.int .u8 x9)]) ∧ K (.tuple #[(.agg #[(.int .u32 x5), (.int .u32 x6), (.int .u16 x7), (.int .u16 x8), (.int .u8 x9)]), (.int .i64 60)]) h4)
  (CallsH Tryz.prog 42 #[(.slice A1 l1 c1)] h2 fun r11 h10 =>
  ∃ x12 : Int, r11 = (.int .u32 x12) ∧ 
  ∃ A13 : Option Addr, ∃ l13 : Nat, ∃ c13 : Nat, PV Tryz.prog (Instr.sliceAt 58 (.slice A1 l1 c1) (some (.int .i64 4)) none none) (.slice A13 l13 c13) ∧
  CallsH Tryz.prog 42 #[(.slice A13 l13 c13)] h10 fun r15 h14 =>
  ∃ x16 : Int, r15 = (.int .u32 x16) ∧ 
  ∃ A17 : Option Addr, ∃ l17 : Nat, ∃ c17 : Nat, PV Tryz.prog (Instr.sliceAt 58 (.slice A1 l1 c1) (some (.int .i64 8)) none none) (.slice A17 l17 c17) ∧
  CallsH Tryz.prog 43 #[(.slice A17 l17 c17)] h14 fun r19 h18 =>
  ∃ x20 : Int, r19 = (.int .u16 x20) ∧ 
  ∃ A21 : Option Addr, ∃ l21 : Nat, ∃ c21 : Nat, PV Tryz.prog (Instr.sliceAt 58 (.slice A1 l1 c1) (some (.int .i64 10)) none none) (.slice A21 l21 c21) ∧
  CallsH Tryz.prog 43 #[(.slice A21 l21 c21)] h18 fun r23 h22 =>
  ∃ x24 : Int, r23 = (.int .u16 x24) ∧ 
  ∃ a25 : Addr, PV Tryz.prog (Instr.indexAt 58 (.slice A1 l1 c1) (.int .i64 12)) (.pointer (some a25)) ∧
  ∃ x26 : Int, HV Tryz.prog (Instr.loadAt 5 (.pointer (some a25))) h22 (.int .u8 x26) ∧ HV Tryz.prog (Instr.loadAt 5 (.pointer (some a25))) h18 (.int .u8 x26) ∧ HV Tryz.prog (Instr.loadAt 5 (.pointer (some a25))) h14 (.int .u8 x26) ∧ HV Tryz.prog (Instr.loadAt 5 (.pointer (some a25))) h10 (.int .u8 x26) ∧ HV Tryz.prog (Instr.loadAt 5 (.pointer (some a25))) h2 (.int .u8 x26) ∧ 
  HU Tryz.prog (Instr.storeAt 57 (.pointer (some a3)) (.agg #[(.int .u32 x12), (.int .u32 x16), (.int .u16 x20), (.int .u16 x24), (.int .u8 x26)])) h22 fun h27 => 
  ∃ x28 : Int, ∃ x29 : Int, ∃ x30 : Int, ∃ x31 : Int, ∃ x32 : Int, HV Tryz.prog (Instr.loadAt 57 (.pointer (some a3))) h27 (.agg #[(.int .u32 x28), (.int .u32 x29), (.int .u16 x30), (.int .u16 x31), (.int .u8 x32)]) ∧ K (.tuple #[(.agg #[(.int .u32 x28), (.int .u32 x29), (.int .u16 x30), (.int .u16 x31), (.int .u8 x32)]), (.int .i64 0)]) h27)
def header_Unpack_lp (i : Nat) (Q : Qx) (tm : Tm) (h : Hp) : Prop := False
def header_Unpack_cut (i : Nat) : Option (List Nat) := none
set_option maxRecDepth 100000 in
theorem header_Unpack_eq (A1 : Option Addr) (l1 : Nat) (c1 : Nat) (h : Hp) (K : Value → Hp → Prop) : header_Unpack A1 l1 c1 h K =
    codeWp Tryz.prog 23 false header_Unpack_lp header_Unpack_cut (bodyOf Tryz.f17) 1 (endQ Tryz.prog Tryz.f17.results.toList K) (argTm [(.slice A1 l1 c1)]) h := by kernel_rfl
set_option maxRecDepth 100000 in
theorem header_Unpack_ok (A1 : Option Addr) (l1 : Nat) (c1 : Nat) {h : Hp} {K : Value → Hp → Prop} (H : header_Unpack A1 l1 c1 h K) : CallsH Tryz.prog 17 #[(.slice A1 l1 c1)] h K :=
  calls_of (pn := false) (args := [(.slice A1 l1 c1)]) (n := 23) (lp := header_Unpack_lp) (cut := header_Unpack_cut) Tryz.func17 (c := bodyOf Tryz.f17) (by kernel_rfl) (by kernel_rfl) (by kernel_rfl) (good_by (pn := false) (c := (bodyOf Tryz.f17)) (i := 1) (l := []) (by kernel_rfl) (fun _ h => by cases h))
    (Eq.mp (header_Unpack_eq A1 l1 c1 h K) H)

/-! ### quintet/header.packed: function 41 -/
set_option maxRecDepth 100000 in
def header_packed (x1 : Int) (x2 : Int) (x3 : Int) (x4 : Int) (x5 : Int) (h : Hp) (K : Value → Hp → Prop) : Prop :=
  newC h (.cells #[(.int .u32 x1), (.int .u32 x2), (.int .u16 x3), (.int .u16 x4), (.int .u8 x5)] 57 (0, 0)) fun a7 h6 => 
  newC h6 (.cells #[(.int .u8 0), (.int .u8 0), (.int .u8 0), (.int .u8 0), (.int .u8 0), (.int .u8 0), (.int .u8 0), (.int .u8 0), (.int .u8 0), (.int .u8 0), (.int .u8 0), (.int .u8 0), (.int .u8 0)] 122 (0, 0)) fun a9 h8 => 
  ∃ x10 : Int, HV Tryz.prog (Instr.loadAt 50 (.pointer (some a7))) h8 (.int .u32 x10) ∧ 
  ∃ x11 : Int, HV Tryz.prog (Instr.loadAt 50 (.pointer (some a7))) h8 (.int .u32 x11) ∧ 
  ∃ x12 : Int, HV Tryz.prog (Instr.loadAt 50 (.pointer (some a7))) h8 (.int .u32 x12) ∧ 
  ∃ x13 : Int, HV Tryz.prog (Instr.loadAt 50 (.pointer (some a7))) h8 (.int .u32 x13) ∧ 
  ∃ x14 : Int, HV Tryz.prog (Instr.loadAt 50 (.pointer (some (a7.add 1)))) h8 (.int .u32 x14) ∧ 
  ∃ x15 : Int, HV Tryz.prog (Instr.loadAt 50 (.pointer (some (a7.add 1)))) h8 (.int .u32 x15) ∧ 
  ∃ x16 : Int, HV Tryz.prog (Instr.loadAt 50 (.pointer (some (a7.add 1)))) h8 (.int .u32 x16) ∧ 
  ∃ x17 : Int, HV Tryz.prog (Instr.loadAt 50 (.pointer (some (a7.add 1)))) h8 (.int .u32 x17) ∧ 
  ∃ x18 : Int, HV Tryz.prog (Instr.loadAt 55 (.pointer (some (a7.add 2)))) h8 (.int .u16 x18) ∧ 
  ∃ x19 : Int, HV Tryz.prog (Instr.loadAt 55 (.pointer (some (a7.add 2)))) h8 (.int .u16 x19) ∧ 
  ∃ x20 : Int, HV Tryz.prog (Instr.loadAt 55 (.pointer (some (a7.add 3)))) h8 (.int .u16 x20) ∧ 
  ∃ x21 : Int, HV Tryz.prog (Instr.loadAt 55 (.pointer (some (a7.add 3)))) h8 (.int .u16 x21) ∧ 
  ∃ x22 : Int, HV Tryz.prog (Instr.loadAt 5 (.pointer (some (a7.add 4)))) h8 (.int .u8 x22) ∧ 
  HU Tryz.prog (Instr.storeAt 122 (.pointer (some a9)) (.agg #[(.int .u8 (IntKind.u8.wrap (Int.fdiv x10 16777216))), (.int .u8 (IntKind.u8.wrap (Int.fdiv x11 65536))), (.int .u8 (IntKind.u8.wrap (Int.fdiv x12 256))), (.int .u8 (IntKind.u8.wrap (x13))), (.int .u8 (IntKind.u8.wrap (Int.fdiv x14 16777216))), (.int .u8 (IntKind.u8.wrap (Int.fdiv x15 65536))), (.int .u8 (IntKind.u8.wrap (Int.fdiv x16 256))), (.int .u8 (IntKind.u8.wrap (x17))), (.int .u8 (IntKind.u8.wrap (Int.fdiv x18 256))), (.int .u8 (IntKind.u8.wrap (x19))), (.int .u8 (IntKind.u8.wrap (Int.fdiv x20 256))), (.int .u8 (IntKind.u8.wrap (x21))), (.int .u8 x22)])) h8 fun h23 => 
  ∃ x24 : Int, ∃ x25 : Int, ∃ x26 : Int, ∃ x27 : Int, ∃ x28 : Int, ∃ x29 : Int, ∃ x30 : Int, ∃ x31 : Int, ∃ x32 : Int, ∃ x33 : Int, ∃ x34 : Int, ∃ x35 : Int, ∃ x36 : Int, HV Tryz.prog (Instr.loadAt 122 (.pointer (some a9))) h23 (.agg #[(.int .u8 x24), (.int .u8 x25), (.int .u8 x26), (.int .u8 x27), (.int .u8 x28), (.int .u8 x29), (.int .u8 x30), (.int .u8 x31), (.int .u8 x32), (.int .u8 x33), (.int .u8 x34), (.int .u8 x35), (.int .u8 x36)]) ∧ K (.agg #[(.int .u8 x24), (.int .u8 x25), (.int .u8 x26), (.int .u8 x27), (.int .u8 x28), (.int .u8 x29), (.int .u8 x30), (.int .u8 x31), (.int .u8 x32), (.int .u8 x33), (.int .u8 x34), (.int .u8 x35), (.int .u8 x36)]) h23
def header_packed_lp (i : Nat) (Q : Qx) (tm : Tm) (h : Hp) : Prop := False
def header_packed_cut (i : Nat) : Option (List Nat) := none
set_option maxRecDepth 100000 in
theorem header_packed_eq (x1 : Int) (x2 : Int) (x3 : Int) (x4 : Int) (x5 : Int) (h : Hp) (K : Value → Hp → Prop) : header_packed x1 x2 x3 x4 x5 h K =
    codeWp Tryz.prog 50 false header_packed_lp header_packed_cut (bodyOf Tryz.f41) 1 (endQ Tryz.prog Tryz.f41.results.toList K) (argTm [(.agg #[(.int .u32 x1), (.int .u32 x2), (.int .u16 x3), (.int .u16 x4), (.int .u8 x5)])]) h := by kernel_rfl
set_option maxRecDepth 100000 in
theorem header_packed_ok (x1 : Int) (x2 : Int) (x3 : Int) (x4 : Int) (x5 : Int) {h : Hp} {K : Value → Hp → Prop} (H : header_packed x1 x2 x3 x4 x5 h K) : CallsH Tryz.prog 41 #[(.agg #[(.int .u32 x1), (.int .u32 x2), (.int .u16 x3), (.int .u16 x4), (.int .u8 x5)])] h K :=
  calls_of (pn := false) (args := [(.agg #[(.int .u32 x1), (.int .u32 x2), (.int .u16 x3), (.int .u16 x4), (.int .u8 x5)])]) (n := 50) (lp := header_packed_lp) (cut := header_packed_cut) Tryz.func41 (c := bodyOf Tryz.f41) (by kernel_rfl) (by kernel_rfl) (by kernel_rfl) (good_by (pn := false) (c := (bodyOf Tryz.f41)) (i := 1) (l := []) (by kernel_rfl) (fun _ h => by cases h))
    (Eq.mp (header_packed_eq x1 x2 x3 x4 x5 h K) H)

/-! ### quintet/header.word: function 42 -/
set_option maxRecDepth 100000 in
def header_word (A1 : Option Addr) (l1 : Nat) (c1 : Nat) (h : Hp) (K : Value → Hp → Prop) : Prop :=
  ∃ a2 : Addr, PV Tryz.prog (Instr.indexAt 58 (.slice A1 l1 c1) (.int .i64 0)) (.pointer (some a2)) ∧
  ∃ x3 : Int, HV Tryz.prog (Instr.loadAt 5 (.pointer (some a2))) h (.int .u8 x3) ∧ 
  ∃ a4 : Addr, PV Tryz.prog (Instr.indexAt 58 (.slice A1 l1 c1) (.int .i64 1)) (.pointer (some a4)) ∧
  ∃ x5 : Int, HV Tryz.prog (Instr.loadAt 5 (.pointer (some a4))) h (.int .u8 x5) ∧ 
  ∃ a6 : Addr, PV Tryz.prog (Instr.indexAt 58 (.slice A1 l1 c1) (.int .i64 2)) (.pointer (some a6)) ∧
  ∃ x7 : Int, HV Tryz.prog (Instr.loadAt 5 (.pointer (some a6))) h (.int .u8 x7) ∧ 
  ∃ a8 : Addr, PV Tryz.prog (Instr.indexAt 58 (.slice A1 l1 c1) (.int .i64 3)) (.pointer (some a8)) ∧
  ∃ x9 : Int, HV Tryz.prog (Instr.loadAt 5 (.pointer (some a8))) h (.int .u8 x9) ∧ 
  K (.int .u32 (bOr .u32 (bOr .u32 (bOr .u32 (IntKind.u32.wrap ((IntKind.u32.wrap (x3)) * 16777216)) (IntKind.u32.wrap ((IntKind.u32.wrap (x5)) * 65536))) (IntKind.u32.wrap ((IntKind.u32.wrap (x7)) * 256))) (IntKind.u32.wrap (x9)))) h
def header_word_lp (i : Nat) (Q : Qx) (tm : Tm) (h : Hp) : Prop := False
def header_word_cut (i : Nat) : Option (List Nat) := none
set_option maxRecDepth 100000 in
theorem header_word_eq (A1 : Option Addr) (l1 : Nat) (c1 : Nat) (h : Hp) (K : Value → Hp → Prop) : header_word A1 l1 c1 h K =
    codeWp Tryz.prog 25 false header_word_lp header_word_cut (bodyOf Tryz.f42) 1 (endQ Tryz.prog Tryz.f42.results.toList K) (argTm [(.slice A1 l1 c1)]) h := by kernel_rfl
set_option maxRecDepth 100000 in
theorem header_word_ok (A1 : Option Addr) (l1 : Nat) (c1 : Nat) {h : Hp} {K : Value → Hp → Prop} (H : header_word A1 l1 c1 h K) : CallsH Tryz.prog 42 #[(.slice A1 l1 c1)] h K :=
  calls_of (pn := false) (args := [(.slice A1 l1 c1)]) (n := 25) (lp := header_word_lp) (cut := header_word_cut) Tryz.func42 (c := bodyOf Tryz.f42) (by kernel_rfl) (by kernel_rfl) (by kernel_rfl) (good_by (pn := false) (c := (bodyOf Tryz.f42)) (i := 1) (l := []) (by kernel_rfl) (fun _ h => by cases h))
    (Eq.mp (header_word_eq A1 l1 c1 h K) H)

/-! ### quintet/header.port: function 43 -/
set_option maxRecDepth 100000 in
def header_port (A1 : Option Addr) (l1 : Nat) (c1 : Nat) (h : Hp) (K : Value → Hp → Prop) : Prop :=
  ∃ a2 : Addr, PV Tryz.prog (Instr.indexAt 58 (.slice A1 l1 c1) (.int .i64 0)) (.pointer (some a2)) ∧
  ∃ x3 : Int, HV Tryz.prog (Instr.loadAt 5 (.pointer (some a2))) h (.int .u8 x3) ∧ 
  ∃ a4 : Addr, PV Tryz.prog (Instr.indexAt 58 (.slice A1 l1 c1) (.int .i64 1)) (.pointer (some a4)) ∧
  ∃ x5 : Int, HV Tryz.prog (Instr.loadAt 5 (.pointer (some a4))) h (.int .u8 x5) ∧ 
  K (.int .u16 (bOr .u16 (IntKind.u16.wrap ((IntKind.u16.wrap (x3)) * 256)) (IntKind.u16.wrap (x5)))) h
def header_port_lp (i : Nat) (Q : Qx) (tm : Tm) (h : Hp) : Prop := False
def header_port_cut (i : Nat) : Option (List Nat) := none
set_option maxRecDepth 100000 in
theorem header_port_eq (A1 : Option Addr) (l1 : Nat) (c1 : Nat) (h : Hp) (K : Value → Hp → Prop) : header_port A1 l1 c1 h K =
    codeWp Tryz.prog 13 false header_port_lp header_port_cut (bodyOf Tryz.f43) 1 (endQ Tryz.prog Tryz.f43.results.toList K) (argTm [(.slice A1 l1 c1)]) h := by kernel_rfl
set_option maxRecDepth 100000 in
theorem header_port_ok (A1 : Option Addr) (l1 : Nat) (c1 : Nat) {h : Hp} {K : Value → Hp → Prop} (H : header_port A1 l1 c1 h K) : CallsH Tryz.prog 43 #[(.slice A1 l1 c1)] h K :=
  calls_of (pn := false) (args := [(.slice A1 l1 c1)]) (n := 13) (lp := header_port_lp) (cut := header_port_cut) Tryz.func43 (c := bodyOf Tryz.f43) (by kernel_rfl) (by kernel_rfl) (by kernel_rfl) (good_by (pn := false) (c := (bodyOf Tryz.f43)) (i := 1) (l := []) (by kernel_rfl) (fun _ h => by cases h))
    (Eq.mp (header_port_eq A1 l1 c1 h K) H)

/-! ### quintet/quintettop.TopReads: function 3 -/
def quintettop_TopReads_l3 (A148 : Option Addr) (l148 : Nat) (c148 : Nat) (s149 : ByteArray) (x150 : Int) (A151 : Option Addr) (l151 : Nat) (c151 : Nat) (v152 : Value) (s153 : ByteArray) (x154 : Int) (A155 : Option Addr) (l155 : Nat) (c155 : Nat) (v156 : Value) (K0 : (Option Addr) → Nat → Nat → ByteArray → Int → (Option Addr) → Nat → Nat → Value → ByteArray → Int → Value → Int → Hp → Prop)  : Nat → Int → Int → Hp → Prop
  | 0, _, _, _ => False
  | k + 1, x157, x158, h =>
    br (decide (x158 < (l155 : Int)))
    (∃ a170 : Addr, PV Tryz.prog (Instr.indexAt 46 (.slice A155 l155 c155) (.int .i64 x158)) (.pointer (some a170)) ∧
    ∃ x171 : Int, HV Tryz.prog (Instr.loadAt 49 (.pointer (some a170))) h (.int .i64 x171) ∧ 
    br (x171 == 4)
    (quintettop_TopReads_l3 A148 l148 c148 s149 x150 A151 l151 c151 v152 s153 x154 A155 l155 c155 v156 K0 k (IntKind.i64.wrap (x157 + 1)) (IntKind.i64.wrap (x158 + 1)) h)
    (quintettop_TopReads_l3 A148 l148 c148 s149 x150 A151 l151 c151 v152 s153 x154 A155 l155 c155 v156 K0 k x157 (IntKind.i64.wrap (x158 + 1)) h))
    (K0 A148 l148 c148 s149 x150 A151 l151 c151 v152 s153 x154 v156 x157 h)
def quintettop_TopReads_l3_L (Q : Qx) (k : Nat) (tm : Tm) (h : Hp) : Prop :=
  selS (tm 3) fun A148 l148 c148 =>
  selT (tm 10) fun s149 =>
  selI .i64 (tm 11) fun x150 =>
  selS (tm 12) fun A151 l151 c151 =>
  selV (tm 13) fun v152 =>
  selT (tm 14) fun s153 =>
  selI .i64 (tm 15) fun x154 =>
  selS (tm 16) fun A155 l155 c155 =>
  selV (tm 17) fun v156 =>
  selI .i64 (tm 18) fun x157 =>
  selI .i64 (tm 19) fun x158 =>
  quintettop_TopReads_l3 A148 l148 c148 s149 x150 A151 l151 c151 v152 s153 x154 A155 l155 c155 v156 (fun (A161 : Option Addr) (l161 : Nat) (c161 : Nat) (s162 : ByteArray) (x163 : Int) (A164 : Option Addr) (l164 : Nat) (c164 : Nat) (v165 : Value) (s166 : ByteArray) (x167 : Int) (v168 : Value) (x169 : Int) h => Q (.exit 0) (mkTm [(3, some (.slice A161 l161 c161)), (10, some (.string s162)), (11, some (.int .i64 x163)), (12, some (.slice A164 l164 c164)), (13, some v165), (14, some (.string s166)), (15, some (.int .i64 x167)), (17, some v168), (18, some (.int .i64 x169))]) h) k x157 x158 h
def quintettop_TopReads_j2 (K0 : Bool → Hp → Prop) (A64 : Option Addr) (l64 : Nat) (c64 : Nat) (p65 : Option Addr) (h : Hp) : Prop :=
  CallsH Tryz.prog 13 #[(.pointer p65)] h fun r130 h129 =>
  ∃ A131 : Option Addr, ∃ l131 : Nat, ∃ c131 : Nat, r130 = (.slice A131 l131 c131) ∧ 
  CallsH Tryz.prog 12 #[(.slice A131 l131 c131)] h129 fun r133 h132 =>
  ∃ s134 : ByteArray, ∃ x135 : Int, r133 = (.tuple #[(.string s134), (.int .i64 x135)]) ∧ 
  CallsH Tryz.prog 5 #[(.string s134)] h132 fun r137 h136 =>
  ∃ A138 : Option Addr, ∃ l138 : Nat, ∃ c138 : Nat, ∃ v139 : Value, r137 = (.tuple #[(.slice A138 l138 c138), v139]) ∧ 
  CallsH Tryz.prog 12 #[(.slice A138 l138 c138)] h136 fun r141 h140 =>
  ∃ s142 : ByteArray, ∃ x143 : Int, r141 = (.tuple #[(.string s142), (.int .i64 x143)]) ∧ 
  CallsH Tryz.prog 14 #[(.string s134)] h140 fun r145 h144 =>
  ∃ A146 : Option Addr, ∃ l146 : Nat, ∃ c146 : Nat, ∃ v147 : Value, r145 = (.tuple #[(.slice A146 l146 c146), v147]) ∧ 
  ∃ k190, quintettop_TopReads_l3 A64 l64 c64 s134 x135 A138 l138 c138 v139 s142 x143 A146 l146 c146 v147
  (fun (A172 : Option Addr) (l172 : Nat) (c172 : Nat) (s173 : ByteArray) (x174 : Int) (A175 : Option Addr) (l175 : Nat) (c175 : Nat) (v176 : Value) (s177 : ByteArray) (x178 : Int) (v179 : Value) (x180 : Int) (h181 : Hp) =>
  CallsH Tryz.prog 8 #[] h181 fun r183 h182 =>
  ∃ b184 : Bool, r183 = (.bool b184) ∧ 
  br b184
  (br (x174 == 0)
  (∃ b185 : Bool, PV Tryz.prog (binOp .eql 24 v176 .nilIface) (.bool b185) ∧
  br b185
  (CallsH Tryz.prog 15 #[(.slice A172 l172 c172), (.slice A175 l175 c175)] h182 fun r187 h186 =>
  ∃ b188 : Bool, r187 = (.bool b188) ∧ 
  br b188
  (br (x178 == 0)
  (br ((s177 : ByteArray).toList == (s173 : ByteArray).toList)
  (∃ b189 : Bool, PV Tryz.prog (binOp .eql 24 v179 .nilIface) (.bool b189) ∧
  br b189
  (K0 (x180 == (l172 : Int)) h186)
  (K0 false h186))
  (K0 false h186))
  (K0 false h186))
  (K0 false h186))
  (K0 false h182))
  (K0 false h182))
  (K0 false h182))
   k190 0 0 h144
def quintettop_TopReads_j2_L (Q : Qx) (tm : Tm) (h : Hp) : Prop :=
  selS (tm 3) fun A64 l64 c64 =>
  selP (tm 8) fun p65 =>
  quintettop_TopReads_j2 (fun (b128 : Bool) h => Q (.ret) (mkTm [(2, some (.bool b128))]) h) A64 l64 c64 p65 h
set_option maxRecDepth 100000 in
def quintettop_TopReads (s1 : ByteArray) (h : Hp) (K : Value → Hp → Prop) : Prop :=
  br (decide (((s1 : ByteArray).size : Int) > 16777216))
  (K (.bool true) h)
  (CallsH Tryz.prog 5 #[(.string s1)] h fun r3 h2 =>
  ∃ A4 : Option Addr, ∃ l4 : Nat, ∃ c4 : Nat, ∃ v5 : Value, r3 = (.tuple #[(.slice A4 l4 c4), v5]) ∧ 
  ∃ b6 : Bool, PV Tryz.prog (binOp .neq 24 v5 .nilIface) (.bool b6) ∧
  br b6
  (newC h2 (.cells #[(.pointer none)] 27 (0, 0)) fun a8 h7 => 
  CallsH Tryz.prog 6 #[v5, (.iface 29 (.pointer (some a8)))] h7 fun r10 h9 =>
  ∃ b11 : Bool, r10 = (.bool b11) ∧ 
  CallsH Tryz.prog 7 #[v5, (.iface 31 (.int .i64 2))] h9 fun r13 h12 =>
  ∃ b14 : Bool, r13 = (.bool b14) ∧ 
  CallsH Tryz.prog 8 #[] h12 fun r16 h15 =>
  ∃ b17 : Bool, r16 = (.bool b17) ∧ 
  br b17
  (br ((l4 : Int) == 0)
  (br b11
  (∃ p18 : Option Addr, HV Tryz.prog (Instr.loadAt 27 (.pointer (some a8))) h15 (.pointer p18) ∧ 
  ∃ b19 : Bool, PV Tryz.prog (binOp .neq 27 (.pointer p18) (.pointer none)) (.bool b19) ∧
  br b19
  (∃ p20 : Option Addr, HV Tryz.prog (Instr.loadAt 27 (.pointer (some a8))) h15 (.pointer p20) ∧ 
  drf p20 fun a21 =>
  ∃ x22 : Int, HV Tryz.prog (Instr.loadAt 31 (.pointer (some a21))) h15 (.int .i64 x22) ∧ 
  br (x22 != 0)
  (br b14
  (∃ p23 : Option Addr, HV Tryz.prog (Instr.loadAt 27 (.pointer (some a8))) h15 (.pointer p23) ∧ 
  drf p23 fun a24 =>
  ∃ x25 : Int, HV Tryz.prog (Instr.loadAt 3 (.pointer (some (a24.add 1)))) h15 (.int .i64 x25) ∧ 
  br (x25 == 0)
  (∃ p26 : Option Addr, HV Tryz.prog (Instr.loadAt 27 (.pointer (some a8))) h15 (.pointer p26) ∧ 
  drf p26 fun a27 =>
  ∃ x28 : Int, HV Tryz.prog (Instr.loadAt 3 (.pointer (some (a27.add 2)))) h15 (.int .i64 x28) ∧ 
  br (x28 == 0)
  (K (.bool true) h15)
  (br (!b14)
  (∃ p29 : Option Addr, HV Tryz.prog (Instr.loadAt 27 (.pointer (some a8))) h15 (.pointer p29) ∧ 
  drf p29 fun a30 =>
  ∃ x31 : Int, HV Tryz.prog (Instr.loadAt 3 (.pointer (some (a30.add 1)))) h15 (.int .i64 x31) ∧ 
  br (decide (x31 ≥ 1))
  (∃ p32 : Option Addr, HV Tryz.prog (Instr.loadAt 27 (.pointer (some a8))) h15 (.pointer p32) ∧ 
  drf p32 fun a33 =>
  ∃ x34 : Int, HV Tryz.prog (Instr.loadAt 3 (.pointer (some (a33.add 2)))) h15 (.int .i64 x34) ∧ 
  K (.bool (decide (x34 ≥ 1))) h15)
  (K (.bool false) h15))
  (K (.bool false) h15)))
  (br (!b14)
  (∃ p35 : Option Addr, HV Tryz.prog (Instr.loadAt 27 (.pointer (some a8))) h15 (.pointer p35) ∧ 
  drf p35 fun a36 =>
  ∃ x37 : Int, HV Tryz.prog (Instr.loadAt 3 (.pointer (some (a36.add 1)))) h15 (.int .i64 x37) ∧ 
  br (decide (x37 ≥ 1))
  (∃ p38 : Option Addr, HV Tryz.prog (Instr.loadAt 27 (.pointer (some a8))) h15 (.pointer p38) ∧ 
  drf p38 fun a39 =>
  ∃ x40 : Int, HV Tryz.prog (Instr.loadAt 3 (.pointer (some (a39.add 2)))) h15 (.int .i64 x40) ∧ 
  K (.bool (decide (x40 ≥ 1))) h15)
  (K (.bool false) h15))
  (K (.bool false) h15)))
  (br (!b14)
  (∃ p41 : Option Addr, HV Tryz.prog (Instr.loadAt 27 (.pointer (some a8))) h15 (.pointer p41) ∧ 
  drf p41 fun a42 =>
  ∃ x43 : Int, HV Tryz.prog (Instr.loadAt 3 (.pointer (some (a42.add 1)))) h15 (.int .i64 x43) ∧ 
  br (decide (x43 ≥ 1))
  (∃ p44 : Option Addr, HV Tryz.prog (Instr.loadAt 27 (.pointer (some a8))) h15 (.pointer p44) ∧ 
  drf p44 fun a45 =>
  ∃ x46 : Int, HV Tryz.prog (Instr.loadAt 3 (.pointer (some (a45.add 2)))) h15 (.int .i64 x46) ∧ 
  K (.bool (decide (x46 ≥ 1))) h15)
  (K (.bool false) h15))
  (K (.bool false) h15)))
  (K (.bool false) h15))
  (K (.bool false) h15))
  (K (.bool false) h15))
  (K (.bool false) h15))
  (K (.bool false) h15))
  (CallsH Tryz.prog 10 #[(.int .i64 1)] h2 fun r48 h47 =>
  ∃ x49 : Int, ∃ x50 : Int, ∃ x51 : Int, ∃ x52 : Int, ∃ x53 : Int, ∃ x54 : Int, ∃ x55 : Int, r48 = (.agg #[(.int .i64 x49), (.int .i64 x50), (.int .i64 x51), (.int .i64 x52), (.int .i64 x53), (.int .i64 x54), (.int .i64 x55)]) ∧ 
  CallsH Tryz.prog 9 #[(.agg #[(.int .i64 x49), (.int .i64 x50), (.int .i64 x51), (.int .i64 x52), (.int .i64 x53), (.int .i64 x54), (.int .i64 x55)])] h47 fun r57 h56 =>
  ∃ p58 : Option Addr, ∃ x59 : Int, r57 = (.tuple #[(.pointer p58), (.int .i64 x59)]) ∧ 
  ∃ b191 : Bool, PV Tryz.prog (binOp .eql 35 (.pointer p58) (.pointer none)) (.bool b191) ∧
  br b191
  (K (.bool false) h56)
  (br (x59 != 0)
  (K (.bool false) h56)
  (CallsH Tryz.prog 11 #[(.pointer p58), (.slice A4 l4 c4)] h56 fun r193 h192 =>
  ∃ x194 : Int, r193 = (.int .i64 x194) ∧ 
  br (x194 != 0)
  (K (.bool false) h192)
  (quintettop_TopReads_j2
  (fun (b195 : Bool) (h196 : Hp) =>
  K (.bool b195) h196)
  A4 l4 c4 p58 h192)))))
def quintettop_TopReads_lp (i : Nat) (Q : Qx) (tm : Tm) (h : Hp) : Prop := match Nat.beq i 32762 with
  | true => ∃ k, quintettop_TopReads_l3_L Q k tm h
  | false => match Nat.beq i 63 with
  | true => quintettop_TopReads_j2_L Q tm h
  | false => False
def quintettop_TopReads_cut (i : Nat) : Option (List Nat) := match Nat.beq i 63 with
  | true => some [3, 8]
  | false => none
set_option maxRecDepth 100000 in
theorem quintettop_TopReads_l3_step (Q : Qx) (k : Nat) (A148 : Option Addr) (l148 : Nat) (c148 : Nat) (s149 : ByteArray) (x150 : Int) (A151 : Option Addr) (l151 : Nat) (c151 : Nat) (v152 : Value) (s153 : ByteArray) (x154 : Int) (A155 : Option Addr) (l155 : Nat) (c155 : Nat) (v156 : Value) (x157 : Int) (x158 : Int) (h : Hp) : quintettop_TopReads_l3_L Q (k + 1) (mkTm [(3, some (.slice A148 l148 c148)), (10, some (.string s149)), (11, some (.int .i64 x150)), (12, some (.slice A151 l151 c151)), (13, some v152), (14, some (.string s153)), (15, some (.int .i64 x154)), (16, some (.slice A155 l155 c155)), (17, some v156), (18, some (.int .i64 x157)), (19, some (.int .i64 x158))]) h =
    codeWp Tryz.prog 176 false quintettop_TopReads_lp quintettop_TopReads_cut (sub (bodyOf Tryz.f3) [true, true, true, true, true, true, true, true, true, true, true, false, true, false, false]) 65524 (thenQ (fun tm h => quintettop_TopReads_l3_L Q k (mask [3, 10, 11, 12, 13, 14, 15, 16, 17, 18, 19] tm) h) (maskQ (fun e => match e with | .exit 0 => [3, 10, 11, 12, 13, 14, 15, 17, 18] | _ => []) Q)) (mkTm [(3, some (.slice A148 l148 c148)), (10, some (.string s149)), (11, some (.int .i64 x150)), (12, some (.slice A151 l151 c151)), (13, some v152), (14, some (.string s153)), (15, some (.int .i64 x154)), (16, some (.slice A155 l155 c155)), (17, some v156), (18, some (.int .i64 x157)), (19, some (.int .i64 x158))]) h := by kernel_rfl
theorem quintettop_TopReads_l3_mask (Q : Qx) (k : Nat) (tm : Tm) (h : Hp) : quintettop_TopReads_l3_L Q k tm h ↔ quintettop_TopReads_l3_L Q k (mask [3, 10, 11, 12, 13, 14, 15, 16, 17, 18, 19] tm) h := Iff.rfl
set_option maxRecDepth 100000 in
theorem quintettop_TopReads_l3_snd : SndAt Tryz.prog 176 none (sub (bodyOf Tryz.f3) [true, true, true, true, true, true, true, true, true, true, true, false, true, false]) (quintettop_TopReads_lp 32762) := by
  refine loop_sound (pn := false) (lp := quintettop_TopReads_lp) (cut := quintettop_TopReads_cut) (i := 32762) (c := (sub (bodyOf Tryz.f3) [true, true, true, true, true, true, true, true, true, true, true, false, true, false, false])) [3, 10, 11, 12, 13, 14, 15, 16, 17, 18, 19] (fun e => match e with | .exit 0 => [3, 10, 11, 12, 13, 14, 15, 17, 18] | _ => []) quintettop_TopReads_l3_L ?_ ?_ ?_
  · exact good_by (pn := false) (c := (sub (bodyOf Tryz.f3) [true, true, true, true, true, true, true, true, true, true, true, false, true, false, false])) (i := 65524) (l := []) (by kernel_rfl) (fun _ h => by cases h)
  · intro Q tm h H
    obtain ⟨A148, l148, c148, e3, H⟩ := selS_ex H
    obtain ⟨s149, e10, H⟩ := selT_ex H
    obtain ⟨x150, e11, H⟩ := selI_ex H
    obtain ⟨A151, l151, c151, e12, H⟩ := selS_ex H
    obtain ⟨v152, e13, H⟩ := selV_ex H
    obtain ⟨s153, e14, H⟩ := selT_ex H
    obtain ⟨x154, e15, H⟩ := selI_ex H
    obtain ⟨A155, l155, c155, e16, H⟩ := selS_ex H
    obtain ⟨v156, e17, H⟩ := selV_ex H
    obtain ⟨x157, e18, H⟩ := selI_ex H
    obtain ⟨x158, e19, H⟩ := selI_ex H
    exact H
  · intro Q k tm h H
    have H0 := H
    obtain ⟨A148, l148, c148, e3, H⟩ := selS_ex H
    obtain ⟨s149, e10, H⟩ := selT_ex H
    obtain ⟨x150, e11, H⟩ := selI_ex H
    obtain ⟨A151, l151, c151, e12, H⟩ := selS_ex H
    obtain ⟨v152, e13, H⟩ := selV_ex H
    obtain ⟨s153, e14, H⟩ := selT_ex H
    obtain ⟨x154, e15, H⟩ := selI_ex H
    obtain ⟨A155, l155, c155, e16, H⟩ := selS_ex H
    obtain ⟨v156, e17, H⟩ := selV_ex H
    obtain ⟨x157, e18, H⟩ := selI_ex H
    obtain ⟨x158, e19, H⟩ := selI_ex H
    have e : mask [3, 10, 11, 12, 13, 14, 15, 16, 17, 18, 19] tm = mkTm [(3, some (.slice A148 l148 c148)), (10, some (.string s149)), (11, some (.int .i64 x150)), (12, some (.slice A151 l151 c151)), (13, some v152), (14, some (.string s153)), (15, some (.int .i64 x154)), (16, some (.slice A155 l155 c155)), (17, some v156), (18, some (.int .i64 x157)), (19, some (.int .i64 x158))] := by simp only [mask, List.map_cons, List.map_nil, e3, e10, e11, e12, e13, e14, e15, e16, e17, e18, e19] <;> rfl
    rw [e]
    refine Eq.mp (quintettop_TopReads_l3_step Q k A148 l148 c148 s149 x150 A151 l151 c151 v152 s153 x154 A155 l155 c155 v156 x157 x158 h) ?_
    rw [← e]
    exact (quintettop_TopReads_l3_mask Q (k + 1) tm h).mp H0
set_option maxRecDepth 100000 in
theorem quintettop_TopReads_j2_step (Q : Qx) (A64 : Option Addr) (l64 : Nat) (c64 : Nat) (p65 : Option Addr) (h : Hp) : quintettop_TopReads_j2_L Q (mkTm [(3, some (.slice A64 l64 c64)), (8, some (.pointer p65))]) h =
    codeWp Tryz.prog 176 false quintettop_TopReads_lp quintettop_TopReads_cut (sub (bodyOf Tryz.f3) [true, true, true, true, true, true]) 127 (maskQ (fun e => match e with | .ret => [2] | _ => []) Q) (mkTm [(3, some (.slice A64 l64 c64)), (8, some (.pointer p65))]) h := by kernel_rfl
theorem quintettop_TopReads_j2_mask (Q : Qx) (tm : Tm) (h : Hp) : quintettop_TopReads_j2_L Q tm h ↔ quintettop_TopReads_j2_L Q (mask [3, 8] tm) h := Iff.rfl
set_option maxRecDepth 100000 in
theorem quintettop_TopReads_j2_snd : SndAt Tryz.prog 176 none (sub (bodyOf Tryz.f3) [true, true, true, true, true, true]) (quintettop_TopReads_lp 63) := by
  refine join_sound (pn := false) (lp := quintettop_TopReads_lp) (cut := quintettop_TopReads_cut) (i := 63) (c := (sub (bodyOf Tryz.f3) [true, true, true, true, true, true])) [3, 8] (fun e => match e with | .ret => [2] | _ => []) quintettop_TopReads_j2_L ?_ ?_
  · exact good_by (pn := false) (c := (sub (bodyOf Tryz.f3) [true, true, true, true, true, true])) (i := 127) (l := [(32762, (sub (bodyOf Tryz.f3) [true, true, true, true, true, true, true, true, true, true, true, false, true, false]))]) (by kernel_rfl) (List.forall_mem_cons.2 ⟨quintettop_TopReads_l3_snd, (fun _ h => by cases h)⟩)
  · intro Q tm h H
    have H0 := H
    obtain ⟨A64, l64, c64, e3, H⟩ := selS_ex H
    obtain ⟨p65, e8, H⟩ := selP_ex H
    have e : mask [3, 8] tm = mkTm [(3, some (.slice A64 l64 c64)), (8, some (.pointer p65))] := by simp only [mask, List.map_cons, List.map_nil, e3, e8] <;> rfl
    rw [e]
    refine Eq.mp (quintettop_TopReads_j2_step Q A64 l64 c64 p65 h) ?_
    rw [← e]
    exact (quintettop_TopReads_j2_mask Q tm h).mp H0
set_option maxRecDepth 100000 in
theorem quintettop_TopReads_eq (s1 : ByteArray) (h : Hp) (K : Value → Hp → Prop) : quintettop_TopReads s1 h K =
    codeWp Tryz.prog 176 false quintettop_TopReads_lp quintettop_TopReads_cut (bodyOf Tryz.f3) 1 (endQ Tryz.prog Tryz.f3.results.toList K) (argTm [(.string s1)]) h := by kernel_rfl
set_option maxRecDepth 100000 in
theorem quintettop_TopReads_ok (s1 : ByteArray) {h : Hp} {K : Value → Hp → Prop} (H : quintettop_TopReads s1 h K) : CallsH Tryz.prog 3 #[(.string s1)] h K :=
  calls_of (pn := false) (args := [(.string s1)]) (n := 176) (lp := quintettop_TopReads_lp) (cut := quintettop_TopReads_cut) Tryz.func3 (c := bodyOf Tryz.f3) (by kernel_rfl) (by kernel_rfl) (by kernel_rfl) (good_by (pn := false) (c := (bodyOf Tryz.f3)) (i := 1) (l := [(63, (sub (bodyOf Tryz.f3) [true, true, true, true, true, true]))]) (by kernel_rfl) (List.forall_mem_cons.2 ⟨quintettop_TopReads_j2_snd, (fun _ h => by cases h)⟩))
    (Eq.mp (quintettop_TopReads_eq s1 h K) H)

/-! ### quintet/quintettop.TopAsks: function 4 -/
def quintettop_TopAsks_j1 (K0 : Bool → Hp → Prop) (a42 : Addr) (A43 : Option Addr) (l43 : Nat) (c43 : Nat) (x44 : Int) (s45 : ByteArray) (A46 : Option Addr) (l46 : Nat) (c46 : Nat) (h : Hp) : Prop :=
  CallsH Tryz.prog 20 #[(.slice A46 l46 c46)] h fun r70 h69 =>
  ∃ s71 : ByteArray, ∃ x72 : Int, r70 = (.tuple #[(.string s71), (.int .i64 x72)]) ∧ 
  CallsH Tryz.prog 8 #[] h69 fun r74 h73 =>
  ∃ b75 : Bool, r74 = (.bool b75) ∧ 
  br b75
  (br (x44 == 0)
  (br ((l43 : Int) == 13)
  (∃ a76 : Addr, PV Tryz.prog (Instr.indexAt 63 (.slice A46 l46 c46) (.int .i64 0)) (.pointer (some a76)) ∧
  ∃ x77 : Int, HV Tryz.prog (Instr.loadAt 67 (.pointer (some a76))) h73 (.int .i64 x77) ∧ 
  br (x77 == 4)
  (∃ a78 : Addr, PV Tryz.prog (Instr.indexAt 63 (.slice A46 l46 c46) (.int .i64 0)) (.pointer (some a78)) ∧
  ∃ x79 : Int, ∃ x80 : Int, ∃ x81 : Int, ∃ x82 : Int, ∃ x83 : Int, HV Tryz.prog (Instr.loadAt 57 (.pointer (some (a78.add 15)))) h73 (.agg #[(.int .u32 x79), (.int .u32 x80), (.int .u16 x81), (.int .u16 x82), (.int .u8 x83)]) ∧ 
  ∃ x84 : Int, ∃ x85 : Int, ∃ x86 : Int, ∃ x87 : Int, ∃ x88 : Int, HV Tryz.prog (Instr.loadAt 57 (.pointer (some a42))) h73 (.agg #[(.int .u32 x84), (.int .u32 x85), (.int .u16 x86), (.int .u16 x87), (.int .u8 x88)]) ∧ 
  ∃ b89 : Bool, PV Tryz.prog (binOp .eql 57 (.agg #[(.int .u32 x79), (.int .u32 x80), (.int .u16 x81), (.int .u16 x82), (.int .u8 x83)]) (.agg #[(.int .u32 x84), (.int .u32 x85), (.int .u16 x86), (.int .u16 x87), (.int .u8 x88)])) (.bool b89) ∧
  br b89
  (br (x72 == 0)
  (K0 ((s71 : ByteArray).toList == (s45 : ByteArray).toList) h73)
  (K0 false h73))
  (K0 false h73))
  (K0 false h73))
  (K0 false h73))
  (K0 false h73))
  (K0 false h73)
def quintettop_TopAsks_j1_L (Q : Qx) (tm : Tm) (h : Hp) : Prop :=
  selA (tm 1) fun a42 =>
  selS (tm 3) fun A43 l43 c43 =>
  selI .i64 (tm 5) fun x44 =>
  selT (tm 6) fun s45 =>
  selS (tm 7) fun A46 l46 c46 =>
  quintettop_TopAsks_j1 (fun (b68 : Bool) h => Q (.ret) (mkTm [(2, some (.bool b68))]) h) a42 A43 l43 c43 x44 s45 A46 l46 c46 h
set_option maxRecDepth 100000 in
def quintettop_TopAsks (x1 : Int) (x2 : Int) (x3 : Int) (x4 : Int) (x5 : Int) (h : Hp) (K : Value → Hp → Prop) : Prop :=
  newC h (.cells #[(.int .u32 x1), (.int .u32 x2), (.int .u16 x3), (.int .u16 x4), (.int .u8 x5)] 57 (0, 0)) fun a7 h6 => 
  ∃ x8 : Int, ∃ x9 : Int, ∃ x10 : Int, ∃ x11 : Int, ∃ x12 : Int, HV Tryz.prog (Instr.loadAt 57 (.pointer (some a7))) h6 (.agg #[(.int .u32 x8), (.int .u32 x9), (.int .u16 x10), (.int .u16 x11), (.int .u8 x12)]) ∧ 
  CallsH Tryz.prog 16 #[(.agg #[(.int .u32 x8), (.int .u32 x9), (.int .u16 x10), (.int .u16 x11), (.int .u8 x12)])] h6 fun r14 h13 =>
  ∃ A15 : Option Addr, ∃ l15 : Nat, ∃ c15 : Nat, r14 = (.slice A15 l15 c15) ∧ 
  CallsH Tryz.prog 17 #[(.slice A15 l15 c15)] h13 fun r17 h16 =>
  ∃ x18 : Int, ∃ x19 : Int, ∃ x20 : Int, ∃ x21 : Int, ∃ x22 : Int, ∃ x23 : Int, r17 = (.tuple #[(.agg #[(.int .u32 x18), (.int .u32 x19), (.int .u16 x20), (.int .u16 x21), (.int .u8 x22)]), (.int .i64 x23)]) ∧ 
  newC h16 (.cells #[(.int .u32 0), (.int .u32 0), (.int .u16 0), (.int .u16 0), (.int .u8 0)] 57 (0, 0)) fun a25 h24 => 
  HU Tryz.prog (Instr.storeAt 57 (.pointer (some a25)) (.agg #[(.int .u32 x18), (.int .u32 x19), (.int .u16 x20), (.int .u16 x21), (.int .u8 x22)])) h24 fun h26 => 
  ∃ x27 : Int, ∃ x28 : Int, ∃ x29 : Int, ∃ x30 : Int, ∃ x31 : Int, HV Tryz.prog (Instr.loadAt 57 (.pointer (some a25))) h26 (.agg #[(.int .u32 x27), (.int .u32 x28), (.int .u16 x29), (.int .u16 x30), (.int .u8 x31)]) ∧ 
  CallsH Tryz.prog 18 #[(.agg #[(.int .u32 x27), (.int .u32 x28), (.int .u16 x29), (.int .u16 x30), (.int .u8 x31)])] h26 fun r33 h32 =>
  ∃ s34 : ByteArray, r33 = (.string s34) ∧ 
  ∃ s35 : ByteArray, PV Tryz.prog (binOp .add 9 (.string ({ data := #[97, 115, 107, 32] })) (.string s34)) (.string s35) ∧
  ∃ s36 : ByteArray, PV Tryz.prog (binOp .add 9 (.string s35) (.string ({ data := #[10] }))) (.string s36) ∧
  CallsH Tryz.prog 19 #[(.string s36)] h32 fun r38 h37 =>
  ∃ A39 : Option Addr, ∃ l39 : Nat, ∃ c39 : Nat, ∃ v40 : Value, r38 = (.tuple #[(.slice A39 l39 c39), v40]) ∧ 
  ∃ b90 : Bool, PV Tryz.prog (binOp .neq 24 v40 .nilIface) (.bool b90) ∧
  br b90
  (K (.bool false) h37)
  (br ((l39 : Int) != 1)
  (K (.bool false) h37)
  (quintettop_TopAsks_j1
  (fun (b91 : Bool) (h92 : Hp) =>
  K (.bool b91) h92)
  a7 A15 l15 c15 x23 s36 A39 l39 c39 h37))
def quintettop_TopAsks_lp (i : Nat) (Q : Qx) (tm : Tm) (h : Hp) : Prop := match Nat.beq i 63 with
  | true => quintettop_TopAsks_j1_L Q tm h
  | false => False
def quintettop_TopAsks_cut (i : Nat) : Option (List Nat) := match Nat.beq i 63 with
  | true => some [1, 3, 5, 6, 7]
  | false => none
set_option maxRecDepth 100000 in
theorem quintettop_TopAsks_j1_step (Q : Qx) (a42 : Addr) (A43 : Option Addr) (l43 : Nat) (c43 : Nat) (x44 : Int) (s45 : ByteArray) (A46 : Option Addr) (l46 : Nat) (c46 : Nat) (h : Hp) : quintettop_TopAsks_j1_L Q (mkTm [(1, some (.pointer (some a42))), (3, some (.slice A43 l43 c43)), (5, some (.int .i64 x44)), (6, some (.string s45)), (7, some (.slice A46 l46 c46))]) h =
    codeWp Tryz.prog 73 false quintettop_TopAsks_lp quintettop_TopAsks_cut (sub (bodyOf Tryz.f4) [true, true, true, true, true, true]) 127 (maskQ (fun e => match e with | .ret => [2] | _ => []) Q) (mkTm [(1, some (.pointer (some a42))), (3, some (.slice A43 l43 c43)), (5, some (.int .i64 x44)), (6, some (.string s45)), (7, some (.slice A46 l46 c46))]) h := by kernel_rfl
theorem quintettop_TopAsks_j1_mask (Q : Qx) (tm : Tm) (h : Hp) : quintettop_TopAsks_j1_L Q tm h ↔ quintettop_TopAsks_j1_L Q (mask [1, 3, 5, 6, 7] tm) h := Iff.rfl
set_option maxRecDepth 100000 in
theorem quintettop_TopAsks_j1_snd : SndAt Tryz.prog 73 none (sub (bodyOf Tryz.f4) [true, true, true, true, true, true]) (quintettop_TopAsks_lp 63) := by
  refine join_sound (pn := false) (lp := quintettop_TopAsks_lp) (cut := quintettop_TopAsks_cut) (i := 63) (c := (sub (bodyOf Tryz.f4) [true, true, true, true, true, true])) [1, 3, 5, 6, 7] (fun e => match e with | .ret => [2] | _ => []) quintettop_TopAsks_j1_L ?_ ?_
  · exact good_by (pn := false) (c := (sub (bodyOf Tryz.f4) [true, true, true, true, true, true])) (i := 127) (l := []) (by kernel_rfl) (fun _ h => by cases h)
  · intro Q tm h H
    have H0 := H
    obtain ⟨a42, e1, H⟩ := selA_ex H
    obtain ⟨A43, l43, c43, e3, H⟩ := selS_ex H
    obtain ⟨x44, e5, H⟩ := selI_ex H
    obtain ⟨s45, e6, H⟩ := selT_ex H
    obtain ⟨A46, l46, c46, e7, H⟩ := selS_ex H
    have e : mask [1, 3, 5, 6, 7] tm = mkTm [(1, some (.pointer (some a42))), (3, some (.slice A43 l43 c43)), (5, some (.int .i64 x44)), (6, some (.string s45)), (7, some (.slice A46 l46 c46))] := by simp only [mask, List.map_cons, List.map_nil, e1, e3, e5, e6, e7] <;> rfl
    rw [e]
    refine Eq.mp (quintettop_TopAsks_j1_step Q a42 A43 l43 c43 x44 s45 A46 l46 c46 h) ?_
    rw [← e]
    exact (quintettop_TopAsks_j1_mask Q tm h).mp H0
set_option maxRecDepth 100000 in
theorem quintettop_TopAsks_eq (x1 : Int) (x2 : Int) (x3 : Int) (x4 : Int) (x5 : Int) (h : Hp) (K : Value → Hp → Prop) : quintettop_TopAsks x1 x2 x3 x4 x5 h K =
    codeWp Tryz.prog 73 false quintettop_TopAsks_lp quintettop_TopAsks_cut (bodyOf Tryz.f4) 1 (endQ Tryz.prog Tryz.f4.results.toList K) (argTm [(.agg #[(.int .u32 x1), (.int .u32 x2), (.int .u16 x3), (.int .u16 x4), (.int .u8 x5)])]) h := by kernel_rfl
set_option maxRecDepth 100000 in
theorem quintettop_TopAsks_ok (x1 : Int) (x2 : Int) (x3 : Int) (x4 : Int) (x5 : Int) {h : Hp} {K : Value → Hp → Prop} (H : quintettop_TopAsks x1 x2 x3 x4 x5 h K) : CallsH Tryz.prog 4 #[(.agg #[(.int .u32 x1), (.int .u32 x2), (.int .u16 x3), (.int .u16 x4), (.int .u8 x5)])] h K :=
  calls_of (pn := false) (args := [(.agg #[(.int .u32 x1), (.int .u32 x2), (.int .u16 x3), (.int .u16 x4), (.int .u8 x5)])]) (n := 73) (lp := quintettop_TopAsks_lp) (cut := quintettop_TopAsks_cut) Tryz.func4 (c := bodyOf Tryz.f4) (by kernel_rfl) (by kernel_rfl) (by kernel_rfl) (good_by (pn := false) (c := (bodyOf Tryz.f4)) (i := 1) (l := [(63, (sub (bodyOf Tryz.f4) [true, true, true, true, true, true]))]) (by kernel_rfl) (List.forall_mem_cons.2 ⟨quintettop_TopAsks_j1_snd, (fun _ h => by cases h)⟩))
    (Eq.mp (quintettop_TopAsks_eq x1 x2 x3 x4 x5 h K) H)

/-! ### quintet/quintettop.reads: function 8 -/
def quintettop_reads_j1 (K0 : Bool → Hp → Prop) (p23 : Option Addr) (h : Hp) : Prop :=
  CallsH Tryz.prog 33 #[(.pointer p23), (.agg #[(.int .u32 167772167), (.int .u32 0), (.int .u16 0), (.int .u16 0), (.int .u8 0)])] h fun r39 h38 =>
  ∃ b40 : Bool, ∃ x41 : Int, ∃ x42 : Int, ∃ x43 : Int, r39 = (.tuple #[(.agg #[(.bool b40), (.int .i64 x41), (.int .i64 x42)]), (.int .i64 x43)]) ∧ 
  newC h38 (.cells #[(.bool false), (.int .i64 0), (.int .i64 0)] 104 (0, 0)) fun a45 h44 => 
  HU Tryz.prog (Instr.storeAt 104 (.pointer (some a45)) (.agg #[(.bool b40), (.int .i64 x41), (.int .i64 x42)])) h44 fun h46 => 
  br (x43 == 0)
  (∃ b47 : Bool, ∃ x48 : Int, ∃ x49 : Int, HV Tryz.prog (Instr.loadAt 104 (.pointer (some a45))) h46 (.agg #[(.bool b47), (.int .i64 x48), (.int .i64 x49)]) ∧ 
  ∃ b50 : Bool, PV Tryz.prog (binOp .eql 104 (.agg #[(.bool b47), (.int .i64 x48), (.int .i64 x49)]) (.agg #[(.bool true), (.int .i64 1), (.int .i64 2)])) (.bool b50) ∧
  K0 b50 h46)
  (K0 false h46)
def quintettop_reads_j1_L (Q : Qx) (tm : Tm) (h : Hp) : Prop :=
  selP (tm 3) fun p23 =>
  quintettop_reads_j1 (fun (b37 : Bool) h => Q (.ret) (mkTm [(0, some (.bool b37))]) h) p23 h
set_option maxRecDepth 100000 in
def quintettop_reads (h : Hp) (K : Value → Hp → Prop) : Prop :=
  CallsH Tryz.prog 5 #[(.string ({ data := #[49, 32, 112, 101, 114, 109, 105, 116, 32, 49, 48, 46, 48, 46, 48, 46, 48, 47, 56, 32, 42, 32, 42, 32, 42, 32, 42, 10] }))] h fun r2 h1 =>
  ∃ A3 : Option Addr, ∃ l3 : Nat, ∃ c3 : Nat, ∃ v4 : Value, r2 = (.tuple #[(.slice A3 l3 c3), v4]) ∧ 
  CallsH Tryz.prog 10 #[(.int .i64 1)] h1 fun r6 h5 =>
  ∃ x7 : Int, ∃ x8 : Int, ∃ x9 : Int, ∃ x10 : Int, ∃ x11 : Int, ∃ x12 : Int, ∃ x13 : Int, r6 = (.agg #[(.int .i64 x7), (.int .i64 x8), (.int .i64 x9), (.int .i64 x10), (.int .i64 x11), (.int .i64 x12), (.int .i64 x13)]) ∧ 
  CallsH Tryz.prog 9 #[(.agg #[(.int .i64 x7), (.int .i64 x8), (.int .i64 x9), (.int .i64 x10), (.int .i64 x11), (.int .i64 x12), (.int .i64 x13)])] h5 fun r15 h14 =>
  ∃ p16 : Option Addr, ∃ x17 : Int, r15 = (.tuple #[(.pointer p16), (.int .i64 x17)]) ∧ 
  ∃ b51 : Bool, PV Tryz.prog (binOp .neq 24 v4 .nilIface) (.bool b51) ∧
  br b51
  (K (.bool false) h14)
  (∃ b52 : Bool, PV Tryz.prog (binOp .eql 35 (.pointer p16) (.pointer none)) (.bool b52) ∧
  br b52
  (K (.bool false) h14)
  (br (x17 != 0)
  (K (.bool false) h14)
  (br ((l3 : Int) != 1)
  (K (.bool false) h14)
  (CallsH Tryz.prog 11 #[(.pointer p16), (.slice A3 l3 c3)] h14 fun r54 h53 =>
  ∃ x55 : Int, r54 = (.int .i64 x55) ∧ 
  br (x55 != 0)
  (K (.bool false) h53)
  (quintettop_reads_j1
  (fun (b56 : Bool) (h57 : Hp) =>
  K (.bool b56) h57)
  p16 h53)))))
def quintettop_reads_lp (i : Nat) (Q : Qx) (tm : Tm) (h : Hp) : Prop := match Nat.beq i 15 with
  | true => quintettop_reads_j1_L Q tm h
  | false => False
def quintettop_reads_cut (i : Nat) : Option (List Nat) := match Nat.beq i 15 with
  | true => some [3]
  | false => none
set_option maxRecDepth 100000 in
theorem quintettop_reads_j1_step (Q : Qx) (p23 : Option Addr) (h : Hp) : quintettop_reads_j1_L Q (mkTm [(3, some (.pointer p23))]) h =
    codeWp Tryz.prog 50 false quintettop_reads_lp quintettop_reads_cut (sub (bodyOf Tryz.f8) [true, true, true, true]) 31 (maskQ (fun e => match e with | .ret => [0] | _ => []) Q) (mkTm [(3, some (.pointer p23))]) h := by kernel_rfl
theorem quintettop_reads_j1_mask (Q : Qx) (tm : Tm) (h : Hp) : quintettop_reads_j1_L Q tm h ↔ quintettop_reads_j1_L Q (mask [3] tm) h := Iff.rfl
set_option maxRecDepth 100000 in
theorem quintettop_reads_j1_snd : SndAt Tryz.prog 50 none (sub (bodyOf Tryz.f8) [true, true, true, true]) (quintettop_reads_lp 15) := by
  refine join_sound (pn := false) (lp := quintettop_reads_lp) (cut := quintettop_reads_cut) (i := 15) (c := (sub (bodyOf Tryz.f8) [true, true, true, true])) [3] (fun e => match e with | .ret => [0] | _ => []) quintettop_reads_j1_L ?_ ?_
  · exact good_by (pn := false) (c := (sub (bodyOf Tryz.f8) [true, true, true, true])) (i := 31) (l := []) (by kernel_rfl) (fun _ h => by cases h)
  · intro Q tm h H
    have H0 := H
    obtain ⟨p23, e3, H⟩ := selP_ex H
    have e : mask [3] tm = mkTm [(3, some (.pointer p23))] := by simp only [mask, List.map_cons, List.map_nil, e3] <;> rfl
    rw [e]
    refine Eq.mp (quintettop_reads_j1_step Q p23 h) ?_
    rw [← e]
    exact (quintettop_reads_j1_mask Q tm h).mp H0
set_option maxRecDepth 100000 in
theorem quintettop_reads_eq (h : Hp) (K : Value → Hp → Prop) : quintettop_reads  h K =
    codeWp Tryz.prog 50 false quintettop_reads_lp quintettop_reads_cut (bodyOf Tryz.f8) 1 (endQ Tryz.prog Tryz.f8.results.toList K) (argTm []) h := by kernel_rfl
set_option maxRecDepth 100000 in
theorem quintettop_reads_ok {h : Hp} {K : Value → Hp → Prop} (H : quintettop_reads  h K) : CallsH Tryz.prog 8 #[] h K :=
  calls_of (pn := false) (args := []) (n := 50) (lp := quintettop_reads_lp) (cut := quintettop_reads_cut) Tryz.func8 (c := bodyOf Tryz.f8) (by kernel_rfl) (by kernel_rfl) (by kernel_rfl) (good_by (pn := false) (c := (bodyOf Tryz.f8)) (i := 1) (l := [(15, (sub (bodyOf Tryz.f8) [true, true, true, true]))]) (by kernel_rfl) (List.forall_mem_cons.2 ⟨quintettop_reads_j1_snd, (fun _ h => by cases h)⟩))
    (Eq.mp (quintettop_reads_eq  h K) H)

/-! ### quintet/quintettop.roomy: function 10 -/
set_option maxRecDepth 100000 in
def quintettop_roomy (x1 : Int) (h : Hp) (K : Value → Hp → Prop) : Prop :=
  newC h (.cells #[(.int .i64 0), (.int .i64 0), (.int .i64 0), (.int .i64 0), (.int .i64 0), (.int .i64 0), (.int .i64 0)] 40 (0, 0)) fun a3 h2 => 
  HU Tryz.prog (Instr.storeAt 40 (.pointer (some a3)) (.agg #[(.int .i64 64), (.int .i64 x1), (.int .i64 1048576), (.int .i64 1048576), (.int .i64 1048576), (.int .i64 4), (.int .i64 8)])) h2 fun h4 => 
  ∃ x5 : Int, ∃ x6 : Int, ∃ x7 : Int, ∃ x8 : Int, ∃ x9 : Int, ∃ x10 : Int, ∃ x11 : Int, HV Tryz.prog (Instr.loadAt 40 (.pointer (some a3))) h4 (.agg #[(.int .i64 x5), (.int .i64 x6), (.int .i64 x7), (.int .i64 x8), (.int .i64 x9), (.int .i64 x10), (.int .i64 x11)]) ∧ K (.agg #[(.int .i64 x5), (.int .i64 x6), (.int .i64 x7), (.int .i64 x8), (.int .i64 x9), (.int .i64 x10), (.int .i64 x11)]) h4
def quintettop_roomy_lp (i : Nat) (Q : Qx) (tm : Tm) (h : Hp) : Prop := False
def quintettop_roomy_cut (i : Nat) : Option (List Nat) := none
set_option maxRecDepth 100000 in
theorem quintettop_roomy_eq (x1 : Int) (h : Hp) (K : Value → Hp → Prop) : quintettop_roomy x1 h K =
    codeWp Tryz.prog 5 false quintettop_roomy_lp quintettop_roomy_cut (bodyOf Tryz.f10) 1 (endQ Tryz.prog Tryz.f10.results.toList K) (argTm [(.int .i64 x1)]) h := by kernel_rfl
set_option maxRecDepth 100000 in
theorem quintettop_roomy_ok (x1 : Int) {h : Hp} {K : Value → Hp → Prop} (H : quintettop_roomy x1 h K) : CallsH Tryz.prog 10 #[(.int .i64 x1)] h K :=
  calls_of (pn := false) (args := [(.int .i64 x1)]) (n := 5) (lp := quintettop_roomy_lp) (cut := quintettop_roomy_cut) Tryz.func10 (c := bodyOf Tryz.f10) (by kernel_rfl) (by kernel_rfl) (by kernel_rfl) (good_by (pn := false) (c := (bodyOf Tryz.f10)) (i := 1) (l := []) (by kernel_rfl) (fun _ h => by cases h))
    (Eq.mp (quintettop_roomy_eq x1 h K) H)

/-! ### quintet/quintettop.same: function 15 -/
def quintettop_same_l1 (A3 : Option Addr) (l3 : Nat) (c3 : Nat) (A4 : Option Addr) (l4 : Nat) (c4 : Nat) (K0 : Bool → Hp → Prop) (K1 : Hp → Prop)  : Nat → Int → Hp → Prop
  | 0, _, _ => False
  | k + 1, x5, h =>
    br (decide (x5 < (l3 : Int)))
    (∃ a34 : Addr, PV Tryz.prog (Instr.indexAt 22 (.slice A3 l3 c3) (.int .i64 x5)) (.pointer (some a34)) ∧
    ∃ x35 : Int, ∃ x36 : Int, ∃ x37 : Int, ∃ x38 : Int, ∃ x39 : Int, ∃ x40 : Int, ∃ x41 : Int, ∃ x42 : Int, ∃ x43 : Int, ∃ x44 : Int, ∃ x45 : Int, ∃ x46 : Int, HV Tryz.prog (Instr.loadAt 75 (.pointer (some a34))) h (.agg #[(.int .i64 x35), (.int .u32 x36), (.int .i64 x37), (.int .u32 x38), (.int .i64 x39), (.int .u16 x40), (.int .u16 x41), (.int .u16 x42), (.int .u16 x43), (.int .u8 x44), (.int .u8 x45), (.int .i64 x46)]) ∧ 
    ∃ a47 : Addr, PV Tryz.prog (Instr.indexAt 22 (.slice A4 l4 c4) (.int .i64 x5)) (.pointer (some a47)) ∧
    ∃ x48 : Int, ∃ x49 : Int, ∃ x50 : Int, ∃ x51 : Int, ∃ x52 : Int, ∃ x53 : Int, ∃ x54 : Int, ∃ x55 : Int, ∃ x56 : Int, ∃ x57 : Int, ∃ x58 : Int, ∃ x59 : Int, HV Tryz.prog (Instr.loadAt 75 (.pointer (some a47))) h (.agg #[(.int .i64 x48), (.int .u32 x49), (.int .i64 x50), (.int .u32 x51), (.int .i64 x52), (.int .u16 x53), (.int .u16 x54), (.int .u16 x55), (.int .u16 x56), (.int .u8 x57), (.int .u8 x58), (.int .i64 x59)]) ∧ 
    ∃ b60 : Bool, PV Tryz.prog (binOp .neq 75 (.agg #[(.int .i64 x35), (.int .u32 x36), (.int .i64 x37), (.int .u32 x38), (.int .i64 x39), (.int .u16 x40), (.int .u16 x41), (.int .u16 x42), (.int .u16 x43), (.int .u8 x44), (.int .u8 x45), (.int .i64 x46)]) (.agg #[(.int .i64 x48), (.int .u32 x49), (.int .i64 x50), (.int .u32 x51), (.int .i64 x52), (.int .u16 x53), (.int .u16 x54), (.int .u16 x55), (.int .u16 x56), (.int .u8 x57), (.int .u8 x58), (.int .i64 x59)])) (.bool b60) ∧
    br b60
    (K0 false h)
    (quintettop_same_l1 A3 l3 c3 A4 l4 c4 K0 K1 k (IntKind.i64.wrap (x5 + 1)) h))
    (K1 h)
def quintettop_same_l1_L (Q : Qx) (k : Nat) (tm : Tm) (h : Hp) : Prop :=
  selS (tm 0) fun A3 l3 c3 =>
  selS (tm 1) fun A4 l4 c4 =>
  selI .i64 (tm 5) fun x5 =>
  quintettop_same_l1 A3 l3 c3 A4 l4 c4 (fun (b33 : Bool) h => Q (.ret) (mkTm [(4, some (.bool b33))]) h) (fun  h => Q (.exit 0) (mkTm []) h) k x5 h
set_option maxRecDepth 100000 in
def quintettop_same (A1 : Option Addr) (l1 : Nat) (c1 : Nat) (A2 : Option Addr) (l2 : Nat) (c2 : Nat) (h : Hp) (K : Value → Hp → Prop) : Prop :=
  br ((l1 : Int) != (l2 : Int))
  (K (.bool false) h)
  (∃ k64, quintettop_same_l1 A1 l1 c1 A2 l2 c2
  (fun (b61 : Bool) (h62 : Hp) =>
  K (.bool b61) h62)
  (fun  (h63 : Hp) =>
  K (.bool true) h63)
   k64 0 h)
def quintettop_same_lp (i : Nat) (Q : Qx) (tm : Tm) (h : Hp) : Prop := match Nat.beq i 58 with
  | true => ∃ k, quintettop_same_l1_L Q k tm h
  | false => False
def quintettop_same_cut (i : Nat) : Option (List Nat) := none
set_option maxRecDepth 100000 in
theorem quintettop_same_l1_step (Q : Qx) (k : Nat) (A3 : Option Addr) (l3 : Nat) (c3 : Nat) (A4 : Option Addr) (l4 : Nat) (c4 : Nat) (x5 : Int) (h : Hp) : quintettop_same_l1_L Q (k + 1) (mkTm [(0, some (.slice A3 l3 c3)), (1, some (.slice A4 l4 c4)), (5, some (.int .i64 x5))]) h =
    codeWp Tryz.prog 26 false quintettop_same_lp quintettop_same_cut (sub (bodyOf Tryz.f15) [true, true, false, true, false, false]) 116 (thenQ (fun tm h => quintettop_same_l1_L Q k (mask [0, 1, 5] tm) h) (maskQ (fun e => match e with | .ret => [4] | .exit 0 => [] | _ => []) Q)) (mkTm [(0, some (.slice A3 l3 c3)), (1, some (.slice A4 l4 c4)), (5, some (.int .i64 x5))]) h := by kernel_rfl
theorem quintettop_same_l1_mask (Q : Qx) (k : Nat) (tm : Tm) (h : Hp) : quintettop_same_l1_L Q k tm h ↔ quintettop_same_l1_L Q k (mask [0, 1, 5] tm) h := Iff.rfl
set_option maxRecDepth 100000 in
theorem quintettop_same_l1_snd : SndAt Tryz.prog 26 none (sub (bodyOf Tryz.f15) [true, true, false, true, false]) (quintettop_same_lp 58) := by
  refine loop_sound (pn := false) (lp := quintettop_same_lp) (cut := quintettop_same_cut) (i := 58) (c := (sub (bodyOf Tryz.f15) [true, true, false, true, false, false])) [0, 1, 5] (fun e => match e with | .ret => [4] | .exit 0 => [] | _ => []) quintettop_same_l1_L ?_ ?_ ?_
  · exact good_by (pn := false) (c := (sub (bodyOf Tryz.f15) [true, true, false, true, false, false])) (i := 116) (l := []) (by kernel_rfl) (fun _ h => by cases h)
  · intro Q tm h H
    obtain ⟨A3, l3, c3, e0, H⟩ := selS_ex H
    obtain ⟨A4, l4, c4, e1, H⟩ := selS_ex H
    obtain ⟨x5, e5, H⟩ := selI_ex H
    exact H
  · intro Q k tm h H
    have H0 := H
    obtain ⟨A3, l3, c3, e0, H⟩ := selS_ex H
    obtain ⟨A4, l4, c4, e1, H⟩ := selS_ex H
    obtain ⟨x5, e5, H⟩ := selI_ex H
    have e : mask [0, 1, 5] tm = mkTm [(0, some (.slice A3 l3 c3)), (1, some (.slice A4 l4 c4)), (5, some (.int .i64 x5))] := by simp only [mask, List.map_cons, List.map_nil, e0, e1, e5] <;> rfl
    rw [e]
    refine Eq.mp (quintettop_same_l1_step Q k A3 l3 c3 A4 l4 c4 x5 h) ?_
    rw [← e]
    exact (quintettop_same_l1_mask Q (k + 1) tm h).mp H0
set_option maxRecDepth 100000 in
theorem quintettop_same_eq (A1 : Option Addr) (l1 : Nat) (c1 : Nat) (A2 : Option Addr) (l2 : Nat) (c2 : Nat) (h : Hp) (K : Value → Hp → Prop) : quintettop_same A1 l1 c1 A2 l2 c2 h K =
    codeWp Tryz.prog 26 false quintettop_same_lp quintettop_same_cut (bodyOf Tryz.f15) 1 (endQ Tryz.prog Tryz.f15.results.toList K) (argTm [(.slice A1 l1 c1), (.slice A2 l2 c2)]) h := by kernel_rfl
set_option maxRecDepth 100000 in
theorem quintettop_same_ok (A1 : Option Addr) (l1 : Nat) (c1 : Nat) (A2 : Option Addr) (l2 : Nat) (c2 : Nat) {h : Hp} {K : Value → Hp → Prop} (H : quintettop_same A1 l1 c1 A2 l2 c2 h K) : CallsH Tryz.prog 15 #[(.slice A1 l1 c1), (.slice A2 l2 c2)] h K :=
  calls_of (pn := false) (args := [(.slice A1 l1 c1), (.slice A2 l2 c2)]) (n := 26) (lp := quintettop_same_lp) (cut := quintettop_same_cut) Tryz.func15 (c := bodyOf Tryz.f15) (by kernel_rfl) (by kernel_rfl) (by kernel_rfl) (good_by (pn := false) (c := (bodyOf Tryz.f15)) (i := 1) (l := [(58, (sub (bodyOf Tryz.f15) [true, true, false, true, false]))]) (by kernel_rfl) (List.forall_mem_cons.2 ⟨quintettop_same_l1_snd, (fun _ h => by cases h)⟩))
    (Eq.mp (quintettop_same_eq A1 l1 c1 A2 l2 c2 h K) H)

/-! ### quintet/syntax.Script: function 19 -/
set_option maxRecDepth 100000 in
def syntax_Script (s1 : ByteArray) (h : Hp) (K : Value → Hp → Prop) : Prop :=
  newC h (.cells #[(.slice none 0 0)] 63 (0, 0)) fun a3 h2 => 
  CallsH Tryz.prog 21 #[(.string s1), (.func (.func 46) #[] #[(.pointer (some a3))])] h2 fun r5 h4 =>
  ∃ v6 : Value, r5 = v6 ∧ 
  ∃ b7 : Bool, PV Tryz.prog (binOp .neq 24 v6 .nilIface) (.bool b7) ∧
  br b7
  (K (.tuple #[(.slice none 0 0), v6]) h4)
  (∃ A8 : Option Addr, ∃ l8 : Nat, ∃ c8 : Nat, HV Tryz.prog (Instr.loadAt 63 (.pointer (some a3))) h4 (.slice A8 l8 c8) ∧ 
  K (.tuple #[(.slice A8 l8 c8), .nilIface]) h4)
def syntax_Script_lp (i : Nat) (Q : Qx) (tm : Tm) (h : Hp) : Prop := False
def syntax_Script_cut (i : Nat) : Option (List Nat) := none
set_option maxRecDepth 100000 in
theorem syntax_Script_eq (s1 : ByteArray) (h : Hp) (K : Value → Hp → Prop) : syntax_Script s1 h K =
    codeWp Tryz.prog 13 false syntax_Script_lp syntax_Script_cut (bodyOf Tryz.f19) 1 (endQ Tryz.prog Tryz.f19.results.toList K) (argTm [(.string s1)]) h := by kernel_rfl
set_option maxRecDepth 100000 in
theorem syntax_Script_ok (s1 : ByteArray) {h : Hp} {K : Value → Hp → Prop} (H : syntax_Script s1 h K) : CallsH Tryz.prog 19 #[(.string s1)] h K :=
  calls_of (pn := false) (args := [(.string s1)]) (n := 13) (lp := syntax_Script_lp) (cut := syntax_Script_cut) Tryz.func19 (c := bodyOf Tryz.f19) (by kernel_rfl) (by kernel_rfl) (by kernel_rfl) (good_by (pn := false) (c := (bodyOf Tryz.f19)) (i := 1) (l := []) (by kernel_rfl) (fun _ h => by cases h))
    (Eq.mp (syntax_Script_eq s1 h K) H)

end Go.Proofs.YtfdpccbajaiepaaGreatDoor.Sxp.Fx

/- Printed by sx.py: words over the heap alone for Go functions, and that each call does what its word says. -/
namespace Go.Proofs.YtfdpccbajaiepaaGreatDoor.Sxp.Fx
open Go Go.RowKit Go.Proofs.YtfdpccbajaiepaaGreatDoor.Sx
set_option linter.unusedVariables false
set_option maxRecDepth 100000
set_option maxHeartbeats 4000000

/-! ### strconv.AppendUint: function 73 -/
set_option maxRecDepth 100000 in
def strconv_AppendUint (A1 : Option Addr) (l1 : Nat) (c1 : Nat) (x2 : Int) (x3 : Int) (h : Hp) (K : Value → Hp → Prop) : Prop :=
  CallsH Tryz.prog 89 #[(.slice A1 l1 c1), (.int .u64 x2), (.int .i64 x3)] h fun r5 h4 =>
  ∃ A6 : Option Addr, ∃ l6 : Nat, ∃ c6 : Nat, r5 = (.slice A6 l6 c6) ∧ 
  K (.slice A6 l6 c6) h4
def strconv_AppendUint_lp (i : Nat) (Q : Qx) (tm : Tm) (h : Hp) : Prop := False
def strconv_AppendUint_cut (i : Nat) : Option (List Nat) := none
set_option maxRecDepth 100000 in
theorem strconv_AppendUint_eq (A1 : Option Addr) (l1 : Nat) (c1 : Nat) (x2 : Int) (x3 : Int) (h : Hp) (K : Value → Hp → Prop) : strconv_AppendUint A1 l1 c1 x2 x3 h K =
    codeWp Tryz.prog 11 false strconv_AppendUint_lp strconv_AppendUint_cut (bodyOf Tryz.f73) 1 (endQ Tryz.prog Tryz.f73.results.toList K) (argTm [(.slice A1 l1 c1), (.int .u64 x2), (.int .i64 x3)]) h := by kernel_rfl
set_option maxRecDepth 100000 in
theorem strconv_AppendUint_ok (A1 : Option Addr) (l1 : Nat) (c1 : Nat) (x2 : Int) (x3 : Int) {h : Hp} {K : Value → Hp → Prop} (H : strconv_AppendUint A1 l1 c1 x2 x3 h K) : CallsH Tryz.prog 73 #[(.slice A1 l1 c1), (.int .u64 x2), (.int .i64 x3)] h K :=
  calls_of (pn := false) (args := [(.slice A1 l1 c1), (.int .u64 x2), (.int .i64 x3)]) (n := 11) (lp := strconv_AppendUint_lp) (cut := strconv_AppendUint_cut) Tryz.func73 (c := bodyOf Tryz.f73) (by kernel_rfl) (by kernel_rfl) (by kernel_rfl) (good_by (pn := false) (c := (bodyOf Tryz.f73)) (i := 1) (l := []) (by kernel_rfl) (fun _ h => by cases h))
    (Eq.mp (strconv_AppendUint_eq A1 l1 c1 x2 x3 h K) H)

end Go.Proofs.YtfdpccbajaiepaaGreatDoor.Sxp.Fx

/-
  DERIVED: THE SHELF's CONTRACTS AT THIS DUMP, IN PLAIN WORDS (tools/lay-plain.mjs out of 'TryzShelf.lean', which tools/lay-shelf.mjs wrote): THE SAME DECLARATIONS UNDER THE SAME NAMES: 'import', 'namespace', 'open', 'def', 'theorem' AND NOTHING ELSE: no command of the shelf's: FOR A HAND-IN. Each laying: the table of numbers ('.._ren') and one theorem, a field a fact of the dump's own or the kernel's comparison; each contract: ONE APPLICATION.
-/
namespace Go.Proofs
open Go.Shelf
def Tryz.lays170_ren : Go.Shelf.Ren := ⟨fun | 170 => 52 | n => n, fun | 70 => 111 | 3 => 3 | 0 => 0 | 72 => 113 | 37 => 58 | 5 => 5 | n => n, fun | n => n⟩
theorem Tryz.lays170 : Go.Proofs.Lays.n170 Tryz.prog Tryz.lays170_ren := {
  mixed := by kernel_rfl
  f170 := Tryz.func52.trans (congrArg some (by kernel_rfl))
  t0 := Tryz.underlying0
  a0 := Tryz.isAgg0
  z0 := Tryz.sizeOf0
  v0 := Tryz.zeroValue0
  t3 := Tryz.underlying3
  a3 := Tryz.isAgg3
  z3 := Tryz.sizeOf3
  v3 := Tryz.zeroValue3
  t37 := Tryz.underlying58
  a37 := Tryz.isAgg58
  z37 := Tryz.sizeOf58
  v37 := Tryz.zeroValue58
  t70 := Tryz.underlying111
  a70 := Tryz.isAgg111
  z70 := Tryz.sizeOf111
  v70 := Tryz.zeroValue111
  t72 := Tryz.underlying113
  a72 := Tryz.isAgg113
  z72 := Tryz.sizeOf113
  v72 := Tryz.zeroValue113 }
open Go.RowKit in
/-- (*strings.Builder).Len: "Len returns the number of accumulated bytes; b.Len() == len(b.String()).": the world is as it was. (LAID: no walk: one application.) -/
theorem Tryz.Builder_Len (B b : Nat) (bs : List Value) (w : World) (h : Lib.IsBuilder 113 5 B b bs w) :
    Calls Tryz.prog 52 #[.pointer (some ⟨b, 0, none⟩)] w fun e w' => e = .returned (.int .i64 bs.length) ∧ w' = w := Any.Builder_Len Tryz.lays170 B b bs w h
def Tryz.lays169_ren : Go.Shelf.Ren := ⟨fun | 169 => 38 | n => n, fun | 70 => 111 | 9 => 9 | 0 => 0 | 72 => 113 | 37 => 58 | 127 => 171 | 3 => 3 | 5 => 5 | n => n, fun | n => n⟩
theorem Tryz.lays169 : Go.Proofs.Lays.n169 Tryz.prog Tryz.lays169_ren := {
  mixed := by kernel_rfl
  f169 := Tryz.func38.trans (congrArg some (by kernel_rfl))
  t0 := Tryz.underlying0
  a0 := Tryz.isAgg0
  z0 := Tryz.sizeOf0
  v0 := Tryz.zeroValue0
  t3 := Tryz.underlying3
  a3 := Tryz.isAgg3
  z3 := Tryz.sizeOf3
  v3 := Tryz.zeroValue3
  t9 := Tryz.underlying9
  a9 := Tryz.isAgg9
  z9 := Tryz.sizeOf9
  v9 := Tryz.zeroValue9
  t37 := Tryz.underlying58
  a37 := Tryz.isAgg58
  z37 := Tryz.sizeOf58
  v37 := Tryz.zeroValue58
  t70 := Tryz.underlying111
  a70 := Tryz.isAgg111
  z70 := Tryz.sizeOf111
  v70 := Tryz.zeroValue111
  t72 := Tryz.underlying113
  a72 := Tryz.isAgg113
  z72 := Tryz.sizeOf113
  v72 := Tryz.zeroValue113
  t127 := Tryz.underlying171
  a127 := Tryz.isAgg171
  z127 := Tryz.sizeOf171
  v127 := Tryz.zeroValue171 }
theorem Tryz.Builder_Extra_169 : Builder.Extra Tryz.prog Tryz.lays169_ren := {
  sizeBuilder := by kernel_rfl
  liesBuilder := by kernel_rfl
  t5 := Tryz.underlying5
  a5 := Tryz.isAgg5
  z5 := Tryz.sizeOf5
  v5 := Tryz.zeroValue5
  infoByte := by kernel_rfl
  cellsByte := by kernel_rfl
  sizeByte := by kernel_rfl
  neB5 := by decide }
open Go.RowKit in
/-- (*strings.Builder).String: "String returns the accumulated string.": OF A BUILDER THAT HOLDS AT LEAST ONE BYTE. ✋ THE MODEL FREEZES THOSE BYTES IN THE BUFFER (unsafe.String): a later write INTO them ends the model's run without an answer; a later append BEHIND them goes on. The statement's order of evaluation is drawn: one draw. (LAID: no walk: one application.) -/
theorem Tryz.Builder_String (B b : Nat) (l : List UInt8) (w : World) (h : Lib.IsBuilder 113 5 B b (Lib.byteCells l) w) (h0 : l ≠ []) :
    Calls Tryz.prog 38 #[.pointer (some ⟨b, 0, none⟩)] w fun e w' => e = .returned (.string ⟨l.toArray⟩) ∧ Below B w w' := Any.Builder_String Tryz.lays169 Tryz.Builder_Extra_169 B b l w h h0
open Go.RowKit in
/-- (*strings.Builder).String OF A BUILDER THAT HOLDS NO BYTE: the empty string. (Its buffer is nil, or a row of which it has taken nothing yet; where that row has NO capacity the model lays one new block for unsafe.SliceData's 'some address'.) One draw. (LAID: no walk: one application.) -/
theorem Tryz.Builder_String_empty (B b : Nat) (w : World) (h : Lib.IsBuilder 113 5 B b [] w) (hBw : B ≤ w.heap.size) :
    Calls Tryz.prog 38 #[.pointer (some ⟨b, 0, none⟩)] w fun e w' => e = .returned (.string ⟨#[]⟩) ∧ Below B w w' := Any.Builder_String_empty Tryz.lays169 Tryz.Builder_Extra_169 B b w h hBw
open Go.RowKit in
/-- (*strings.Builder).String: "String returns the accumulated string.": WHATEVER THE BUILDER HOLDS. (LAID: no walk: one application.) -/
theorem Tryz.Builder_String_any (B b : Nat) (l : List UInt8) (w : World) (h : Lib.IsBuilder 113 5 B b (Lib.byteCells l) w) (hBw : B ≤ w.heap.size) :
    Calls Tryz.prog 38 #[.pointer (some ⟨b, 0, none⟩)] w fun e w' => e = .returned (.string ⟨l.toArray⟩) ∧ Below B w w' := Any.Builder_String_any Tryz.lays169 Tryz.Builder_Extra_169 B b l w h hBw
open Go.RowKit in
/-- (*strings.Builder).Len: "Len returns the number of accumulated bytes; b.Len() == len(b.String()).": the world is as it was. (THE FORM '_f': 'Lib.IsBuilderF'.) (LAID: no walk: one application.) -/
theorem Tryz.Builder_Len_f (B b : Nat) (bs : List Value) (w : World) (h : Lib.IsBuilderF 113 5 B b bs w) :
    Calls Tryz.prog 52 #[.pointer (some ⟨b, 0, none⟩)] w fun e w' => e = .returned (.int .i64 bs.length) ∧ w' = w := Any.Builder_Len_f Tryz.lays170 B b bs w h
open Go.RowKit in
/-- (*strings.Builder).String: "String returns the accumulated string.": OF A BUILDER THAT HOLDS AT LEAST ONE BYTE. ✋ THE MODEL FREEZES THOSE BYTES IN THE BUFFER (unsafe.String): a later write INTO them ends the model's run without an answer; a later append BEHIND them goes on. The statement's order of evaluation is drawn: one draw. THE FORM '_f': IT SAYS BESIDES THAT THE BUILDER IS A BUILDER STILL ('Lib.IsBuilderF', the same bytes): SO IT CAN BE WRITTEN ON: 'b.WriteString(b.String()[:k])'. (LAID: no walk: one application.) -/
theorem Tryz.Builder_String_f (B b : Nat) (l : List UInt8) (w : World) (h : Lib.IsBuilderF 113 5 B b (Lib.byteCells l) w) (h0 : l ≠ []) :
    Calls Tryz.prog 38 #[.pointer (some ⟨b, 0, none⟩)] w fun e w' => e = .returned (.string ⟨l.toArray⟩) ∧ (Lib.IsBuilderF 113 5 B b (Lib.byteCells l) w' ∧ Below B w w') := Any.Builder_String_f Tryz.lays169 Tryz.Builder_Extra_169 B b l w h h0
open Go.RowKit in
/-- (*strings.Builder).String OF A BUILDER THAT HOLDS NO BYTE: the empty string; THE FORM '_f': a builder still. (LAID: no walk: one application.) -/
theorem Tryz.Builder_String_empty_f (B b : Nat) (w : World) (h : Lib.IsBuilderF 113 5 B b [] w) (hBw : B ≤ w.heap.size) :
    Calls Tryz.prog 38 #[.pointer (some ⟨b, 0, none⟩)] w fun e w' => e = .returned (.string ⟨#[]⟩) ∧ (Lib.IsBuilderF 113 5 B b [] w' ∧ Below B w w') := Any.Builder_String_empty_f Tryz.lays169 Tryz.Builder_Extra_169 B b w h hBw
open Go.RowKit in
/-- (*strings.Builder).String: "String returns the accumulated string.": WHATEVER THE BUILDER HOLDS; THE FORM '_f': OF A BUILDER THAT MAY HAVE BEEN READ BEFORE; AND IT IS A BUILDER STILL, holding the same bytes: it can be written on. (LAID: no walk: one application.) -/
theorem Tryz.Builder_String_any_f (B b : Nat) (l : List UInt8) (w : World) (h : Lib.IsBuilderF 113 5 B b (Lib.byteCells l) w) (hBw : B ≤ w.heap.size) :
    Calls Tryz.prog 38 #[.pointer (some ⟨b, 0, none⟩)] w fun e w' => e = .returned (.string ⟨l.toArray⟩) ∧ (Lib.IsBuilderF 113 5 B b (Lib.byteCells l) w' ∧ Below B w w') := Any.Builder_String_any_f Tryz.lays169 Tryz.Builder_Extra_169 B b l w h hBw
open Go.RowKit in
/-- (*strings.Builder).String: "String returns the accumulated string.": OF A BUILDER THAT HOLDS AT LEAST ONE BYTE. ✋ THE MODEL FREEZES THOSE BYTES IN THE BUFFER (unsafe.String): a later write INTO them ends the model's run without an answer; a later append BEHIND them goes on. The statement's order of evaluation is drawn: one draw. THE FORM '_k': OVER 'Lib.IsBuilderF' (a builder that 'String()' may have read), AND WITH THE FRAME THAT REACHES ABOVE THE BUILDER: 'Lib.OthersKept': every block that is not b and is no row of uint8's stands as it stood: the iterator of a range among them. (LAID: no walk: one application.) -/
theorem Tryz.Builder_String_k (B b : Nat) (l : List UInt8) (w : World) (h : Lib.IsBuilderF 113 5 B b (Lib.byteCells l) w) (h0 : l ≠ []) :
    Calls Tryz.prog 38 #[.pointer (some ⟨b, 0, none⟩)] w fun e w' => e = .returned (.string ⟨l.toArray⟩) ∧ (Lib.IsBuilderF 113 5 B b (Lib.byteCells l) w' ∧ Below B w w' ∧ Lib.OthersKept 5 (some b) w w') := Any.Builder_String_k Tryz.lays169 Tryz.Builder_Extra_169 B b l w h h0
open Go.RowKit in
/-- (*strings.Builder).String OF A BUILDER THAT HOLDS NO BYTE: the empty string; THE FORM '_k': OVER 'Lib.IsBuilderF' (a builder that 'String()' may have read), AND WITH THE FRAME THAT REACHES ABOVE THE BUILDER: 'Lib.OthersKept': every block that is not b and is no row of uint8's stands as it stood: the iterator of a range among them. (LAID: no walk: one application.) -/
theorem Tryz.Builder_String_empty_k (B b : Nat) (w : World) (h : Lib.IsBuilderF 113 5 B b [] w) (hBw : B ≤ w.heap.size) :
    Calls Tryz.prog 38 #[.pointer (some ⟨b, 0, none⟩)] w fun e w' => e = .returned (.string ⟨#[]⟩) ∧ (Lib.IsBuilderF 113 5 B b [] w' ∧ Below B w w' ∧ Lib.OthersKept 5 (some b) w w') := Any.Builder_String_empty_k Tryz.lays169 Tryz.Builder_Extra_169 B b w h hBw
open Go.RowKit in
/-- (*strings.Builder).String: "String returns the accumulated string.": WHATEVER THE BUILDER HOLDS; THE FORM '_k': OVER 'Lib.IsBuilderF' (a builder that 'String()' may have read), AND WITH THE FRAME THAT REACHES ABOVE THE BUILDER: 'Lib.OthersKept': every block that is not b and is no row of uint8's stands as it stood: the iterator of a range among them. (LAID: no walk: one application.) -/
theorem Tryz.Builder_String_any_k (B b : Nat) (l : List UInt8) (w : World) (h : Lib.IsBuilderF 113 5 B b (Lib.byteCells l) w) (hBw : B ≤ w.heap.size) :
    Calls Tryz.prog 38 #[.pointer (some ⟨b, 0, none⟩)] w fun e w' => e = .returned (.string ⟨l.toArray⟩) ∧ (Lib.IsBuilderF 113 5 B b (Lib.byteCells l) w' ∧ Below B w w' ∧ Lib.OthersKept 5 (some b) w w') := Any.Builder_String_any_k Tryz.lays169 Tryz.Builder_Extra_169 B b l w h hBw
def Tryz.lays129_ren : Go.Shelf.Ren := ⟨fun | 129 => 97 | n => n, fun | 53 => 128 | 3 => 3 | 4 => 4 | 46 => 176 | 5 => 5 | 9 => 9 | n => n, fun | n => n⟩
theorem Tryz.lays129 : Go.Proofs.Lays.n129 Tryz.prog Tryz.lays129_ren := {
  mixed := by kernel_rfl
  f129 := Tryz.func97.trans (congrArg some (by kernel_rfl))
  t3 := Tryz.underlying3
  a3 := Tryz.isAgg3
  z3 := Tryz.sizeOf3
  v3 := Tryz.zeroValue3
  t4 := Tryz.underlying4
  a4 := Tryz.isAgg4
  z4 := Tryz.sizeOf4
  v4 := Tryz.zeroValue4
  t5 := Tryz.underlying5
  a5 := Tryz.isAgg5
  z5 := Tryz.sizeOf5
  v5 := Tryz.zeroValue5
  t9 := Tryz.underlying9
  a9 := Tryz.isAgg9
  z9 := Tryz.sizeOf9
  v9 := Tryz.zeroValue9
  t46 := Tryz.underlying176
  a46 := Tryz.isAgg176
  z46 := Tryz.sizeOf176
  v46 := Tryz.zeroValue176
  t53 := Tryz.underlying128
  a53 := Tryz.isAgg128
  z53 := Tryz.sizeOf128
  v53 := Tryz.zeroValue128 }
/-- bits.Len64: "Len64 returns the minimum number of bits required to represent x; the result is 0 for x == 0.": IT RETURNS 'Lib.bitLen x'; the world is as it was. ('h0', 'h1': x is a uint64.) (LAID: no walk: one application.) -/
theorem Tryz.bits_Len64 (x : Int) (w : World) (h0 : 0 ≤ x) (h1 : x ≤ 18446744073709551615) :
    Calls Tryz.prog 97 #[.int .u64 x] w fun e w' => e = .returned (.int .i64 (Lib.bitLen x.toNat)) ∧ w' = w := Any.bits_Len64 Tryz.lays129 x w h0 h1
def Tryz.lays317_ren : Go.Shelf.Ren := ⟨fun | 317 => 96 | n => n, fun | 3 => 3 | 46 => 176 | n => n, fun | n => n⟩
theorem Tryz.lays317 : Go.Proofs.Lays.n317 Tryz.prog Tryz.lays317_ren := {
  mixed := by kernel_rfl
  f317 := Tryz.func96.trans (congrArg some (by kernel_rfl))
  t3 := Tryz.underlying3
  a3 := Tryz.isAgg3
  z3 := Tryz.sizeOf3
  v3 := Tryz.zeroValue3
  t46 := Tryz.underlying176
  a46 := Tryz.isAgg176
  z46 := Tryz.sizeOf176
  v46 := Tryz.zeroValue176 }
open Go.Lib in
/-- internal/strconv.log10Pow2: "log10Pow2(x) returns ⌊log₁₀ 2**x⌋ = ⌊x * log₁₀ 2⌋.": '(x * 78913) >> 18', at an x up to 64 (a length in bits). The world is as it was. (LAID: no walk: one application.) -/
theorem Tryz.internal_strconv_log10Pow2 (x : Nat) (h : x ≤ 64) (w : World) :
    Calls Tryz.prog 96 #[.int .i64 x] w fun e w' => e = .returned (.int .i64 (Lib.l10 x)) ∧ w' = w := Any.internal_strconv_log10Pow2 Tryz.lays317 x h w
def Tryz.lays318_ren : Go.Shelf.Ren := ⟨fun | 318 => 98 | n => n, fun | 3 => 3 | 4 => 4 | n => n, fun | n => n⟩
theorem Tryz.lays318 : Go.Proofs.Lays.n318 Tryz.prog Tryz.lays318_ren := {
  mixed := by kernel_rfl
  f318 := Tryz.func98.trans (congrArg some (by kernel_rfl))
  t3 := Tryz.underlying3
  a3 := Tryz.isAgg3
  z3 := Tryz.sizeOf3
  v3 := Tryz.zeroValue3
  t4 := Tryz.underlying4
  a4 := Tryz.isAgg4
  z4 := Tryz.sizeOf4
  v4 := Tryz.zeroValue4 }
open Go.Lib in
/-- internal/strconv.bool2: "bool2 converts b to an integer: 1 for true, 0 for false." The world is as it was. (LAID: no walk: one application.) -/
theorem Tryz.internal_strconv_bool2_int (b : Bool) (w : World) :
    Calls Tryz.prog 98 #[.bool b] w fun e w' => e = .returned (.int .i64 (if b then 1 else 0)) ∧ w' = w := Any.internal_strconv_bool2_int Tryz.lays318 b w
def Tryz.lays283_ren : Go.Shelf.Ren := ⟨fun | 283 => 92 | n => n, fun | 3 => 3 | 9 => 9 | 4 => 4 | n => n, fun | n => n⟩
theorem Tryz.lays283 : Go.Proofs.Lays.n283 Tryz.prog Tryz.lays283_ren := {
  mixed := by kernel_rfl
  f283 := Tryz.func92.trans (congrArg some (by kernel_rfl))
  t3 := Tryz.underlying3
  a3 := Tryz.isAgg3
  z3 := Tryz.sizeOf3
  v3 := Tryz.zeroValue3
  t4 := Tryz.underlying4
  a4 := Tryz.isAgg4
  z4 := Tryz.sizeOf4
  v4 := Tryz.zeroValue4
  t9 := Tryz.underlying9
  a9 := Tryz.isAgg9
  z9 := Tryz.sizeOf9
  v9 := Tryz.zeroValue9 }
open Go.Lib in
/-- internal/strconv.small: "small returns the string for an i with 0 <= i < nSmalls.": i's decimal numeral. The world is as it was. (LAID: no walk: one application.) -/
theorem Tryz.internal_strconv_small (i : Nat) (h : i < 100) (w : World) :
    Calls Tryz.prog 92 #[.int .i64 i] w fun e w' => e = .returned (.string ⟨(Lib.decDigits i).toArray⟩) ∧ w' = w := Any.internal_strconv_small Tryz.lays283 i h w
def Tryz.laysM284_ren : Go.Shelf.Ren := ⟨fun | 284 => 93 | 129 => 97 | 317 => 96 | 318 => 98 | n => n, fun | 53 => 128 | 3 => 3 | 212 => 201 | 0 => 0 | 4 => 4 | 46 => 176 | 5 => 5 | 9 => 9 | n => n, fun | 17 => 1 | n => n⟩
theorem Tryz.laysM284 : Go.Proofs.LaysM.n284 Tryz.prog Tryz.laysM284_ren := {
  mixed := by kernel_rfl
  f129 := Tryz.func97.trans (congrArg some (by kernel_rfl))
  f284 := Tryz.func93.trans (congrArg some (by kernel_rfl))
  f317 := Tryz.func96.trans (congrArg some (by kernel_rfl))
  f318 := Tryz.func98.trans (congrArg some (by kernel_rfl))
  t0 := Tryz.underlying0
  a0 := Tryz.isAgg0
  z0 := Tryz.sizeOf0
  v0 := Tryz.zeroValue0
  t3 := Tryz.underlying3
  a3 := Tryz.isAgg3
  z3 := Tryz.sizeOf3
  v3 := Tryz.zeroValue3
  t4 := Tryz.underlying4
  a4 := Tryz.isAgg4
  z4 := Tryz.sizeOf4
  v4 := Tryz.zeroValue4
  t5 := Tryz.underlying5
  a5 := Tryz.isAgg5
  z5 := Tryz.sizeOf5
  v5 := Tryz.zeroValue5
  t9 := Tryz.underlying9
  a9 := Tryz.isAgg9
  z9 := Tryz.sizeOf9
  v9 := Tryz.zeroValue9
  t46 := Tryz.underlying176
  a46 := Tryz.isAgg176
  z46 := Tryz.sizeOf176
  v46 := Tryz.zeroValue176
  t53 := Tryz.underlying128
  a53 := Tryz.isAgg128
  z53 := Tryz.sizeOf128
  v53 := Tryz.zeroValue128
  t212 := Tryz.underlying201
  a212 := Tryz.isAgg201
  z212 := Tryz.sizeOf201
  v212 := Tryz.zeroValue201
  g17 := by kernel_rfl
  i0 := by kernel_rfl
  i3 := by kernel_rfl
  i4 := by kernel_rfl
  i5 := by kernel_rfl
  i9 := by kernel_rfl
  i46 := by kernel_rfl
  i53 := by kernel_rfl
  i212 := by kernel_rfl
  m17 := by kernel_rfl }
open Go.Lib in
/-- internal/strconv.numDigits, at a d that is not 0: THE NUMBER OF d's DECIMAL DIGITS. The world is as it was. (LAID: no walk: one application.) -/
theorem Tryz.internal_strconv_numDigits (u : Nat) (h1 : 1 ≤ u) (h2 : u < 18446744073709551616) (w : World) (htab : Lib.TabIs Tryz.prog w "internal/strconv.uint64pow10" .u64 Lib.pow10Tab) :
    Calls Tryz.prog 93 #[.int .u64 u] w fun e w' => e = .returned (.int .i64 (Lib.nDigits u)) ∧ w' = w := Any.internal_strconv_numDigits Tryz.laysM284 u h1 h2 w htab
def Tryz.lays285_ren : Go.Shelf.Ren := ⟨fun | 285 => 94 | n => n, fun | 37 => 58 | 53 => 128 | 3 => 3 | 4 => 4 | 51 => 50 | 9 => 9 | 5 => 5 | 0 => 0 | n => n, fun | n => n⟩
theorem Tryz.lays285 : Go.Proofs.Lays.n285 Tryz.prog Tryz.lays285_ren := {
  mixed := by kernel_rfl
  f285 := Tryz.func94.trans (congrArg some (by kernel_rfl))
  t0 := Tryz.underlying0
  a0 := Tryz.isAgg0
  z0 := Tryz.sizeOf0
  v0 := Tryz.zeroValue0
  t3 := Tryz.underlying3
  a3 := Tryz.isAgg3
  z3 := Tryz.sizeOf3
  v3 := Tryz.zeroValue3
  t4 := Tryz.underlying4
  a4 := Tryz.isAgg4
  z4 := Tryz.sizeOf4
  v4 := Tryz.zeroValue4
  t5 := Tryz.underlying5
  a5 := Tryz.isAgg5
  z5 := Tryz.sizeOf5
  v5 := Tryz.zeroValue5
  t9 := Tryz.underlying9
  a9 := Tryz.isAgg9
  z9 := Tryz.sizeOf9
  v9 := Tryz.zeroValue9
  t37 := Tryz.underlying58
  a37 := Tryz.isAgg58
  z37 := Tryz.sizeOf58
  v37 := Tryz.zeroValue58
  t51 := Tryz.underlying50
  a51 := Tryz.isAgg50
  z51 := Tryz.sizeOf50
  v51 := Tryz.zeroValue50
  t53 := Tryz.underlying128
  a53 := Tryz.isAgg128
  z53 := Tryz.sizeOf128
  v53 := Tryz.zeroValue128 }
open Go.RowKit Go.Sort Go.Lib in
/-- internal/strconv.formatBase10: "formatBase10 formats the decimal representation of u into a. The caller is responsible for ensuring that a is big enough to hold u. If a is too big, leading zeros will be filled in as needed.": THE ROW HOLDS u's DIGITS ('FmtInv .. 0 ..': every place t holds 'dg u (len - 1 - t)'); all else is as it was but for the count of draws. (LAID: no walk: one application.) -/
theorem Tryz.internal_strconv_formatBase10 (blk off cap : Nat) (u : Nat) (d : Array UInt8) (w : World) (hH : Holds (fun (b : UInt8) => Value.int .u8 (b.toNat : Int)) w blk off d) (hu : u < 10 ^ d.size) (hu64 : u < 18446744073709551616) (hsz : d.size < 4611686018427387904) :
    Calls Tryz.prog 94 #[.slice (some ⟨blk, off, none⟩) d.size cap, .int .u64 u] w fun e w' =>
      e = .returned (.tuple #[]) ∧ ∃ (n v' : Nat) (dk : Array UInt8), w' = (putRow (fun (b : UInt8) => Value.int .u8 (b.toNat : Int)) w blk off dk).drewN n ∧ FmtInv d.size u 0 v' dk := Any.internal_strconv_formatBase10 Tryz.lays285 blk off cap u d w hH hu hu64 hsz
def Tryz.laysM288_ren : Go.Shelf.Ren := ⟨fun | 288 => 89 | 283 => 92 | 284 => 93 | 285 => 94 | 286 => 95 | 129 => 97 | 317 => 96 | 318 => 98 | 319 => 99 | 320 => 100 | 337 => 101 | 338 => 102 | n => n, fun | 37 => 58 | 53 => 128 | 3 => 3 | 4 => 4 | 9 => 9 | 171 => 194 | 0 => 0 | 173 => 197 | 212 => 201 | 51 => 50 | 5 => 5 | 20 => 20 | 213 => 202 | 46 => 176 | 232 => 206 | 233 => 207 | n => n, fun | 17 => 1 | 18 => 2 | 19 => 3 | n => n⟩
theorem Tryz.laysM288 : Go.Proofs.LaysM.n288 Tryz.prog Tryz.laysM288_ren := {
  mixed := by kernel_rfl
  f129 := Tryz.func97.trans (congrArg some (by kernel_rfl))
  f283 := Tryz.func92.trans (congrArg some (by kernel_rfl))
  f284 := Tryz.func93.trans (congrArg some (by kernel_rfl))
  f285 := Tryz.func94.trans (congrArg some (by kernel_rfl))
  f286 := Tryz.func95.trans (congrArg some (by kernel_rfl))
  f288 := Tryz.func89.trans (congrArg some (by kernel_rfl))
  f317 := Tryz.func96.trans (congrArg some (by kernel_rfl))
  f318 := Tryz.func98.trans (congrArg some (by kernel_rfl))
  f319 := Tryz.func99.trans (congrArg some (by kernel_rfl))
  f320 := Tryz.func100.trans (congrArg some (by kernel_rfl))
  f337 := Tryz.func101.trans (congrArg some (by kernel_rfl))
  f338 := Tryz.func102.trans (congrArg some (by kernel_rfl))
  t0 := Tryz.underlying0
  a0 := Tryz.isAgg0
  z0 := Tryz.sizeOf0
  v0 := Tryz.zeroValue0
  t3 := Tryz.underlying3
  a3 := Tryz.isAgg3
  z3 := Tryz.sizeOf3
  v3 := Tryz.zeroValue3
  t4 := Tryz.underlying4
  a4 := Tryz.isAgg4
  z4 := Tryz.sizeOf4
  v4 := Tryz.zeroValue4
  t5 := Tryz.underlying5
  a5 := Tryz.isAgg5
  z5 := Tryz.sizeOf5
  v5 := Tryz.zeroValue5
  t9 := Tryz.underlying9
  a9 := Tryz.isAgg9
  z9 := Tryz.sizeOf9
  v9 := Tryz.zeroValue9
  t20 := Tryz.underlying20
  a20 := Tryz.isAgg20
  z20 := Tryz.sizeOf20
  v20 := Tryz.zeroValue20
  t37 := Tryz.underlying58
  a37 := Tryz.isAgg58
  z37 := Tryz.sizeOf58
  v37 := Tryz.zeroValue58
  t46 := Tryz.underlying176
  a46 := Tryz.isAgg176
  z46 := Tryz.sizeOf176
  v46 := Tryz.zeroValue176
  t51 := Tryz.underlying50
  a51 := Tryz.isAgg50
  z51 := Tryz.sizeOf50
  v51 := Tryz.zeroValue50
  t53 := Tryz.underlying128
  a53 := Tryz.isAgg128
  z53 := Tryz.sizeOf128
  v53 := Tryz.zeroValue128
  t171 := Tryz.underlying194
  a171 := Tryz.isAgg194
  z171 := Tryz.sizeOf194
  v171 := Tryz.zeroValue194
  t173 := Tryz.underlying197
  a173 := Tryz.isAgg197
  z173 := Tryz.sizeOf197
  v173 := Tryz.zeroValue197
  t212 := Tryz.underlying201
  a212 := Tryz.isAgg201
  z212 := Tryz.sizeOf201
  v212 := Tryz.zeroValue201
  t213 := Tryz.underlying202
  a213 := Tryz.isAgg202
  z213 := Tryz.sizeOf202
  t232 := Tryz.underlying206
  a232 := Tryz.isAgg206
  z232 := Tryz.sizeOf206
  v232 := Tryz.zeroValue206
  t233 := Tryz.underlying207
  a233 := Tryz.isAgg207
  z233 := Tryz.sizeOf207
  v233 := Tryz.zeroValue207
  g17 := by kernel_rfl
  g18 := by kernel_rfl
  g19 := by kernel_rfl
  i0 := by kernel_rfl
  i3 := by kernel_rfl
  i4 := by kernel_rfl
  i5 := by kernel_rfl
  i9 := by kernel_rfl
  i20 := by kernel_rfl
  i37 := by kernel_rfl
  i46 := by kernel_rfl
  i51 := by kernel_rfl
  i53 := by kernel_rfl
  i171 := by kernel_rfl
  i173 := by kernel_rfl
  i212 := by kernel_rfl
  i232 := by kernel_rfl
  i233 := by kernel_rfl
  m17 := by kernel_rfl
  m18 := by kernel_rfl
  m19 := by kernel_rfl }
open Go.RowKit Go.Sort Go.Lib in
/-- internal/strconv.AppendUint(dst, i, 10), i BELOW 100: WHAT COMES BACK OWNS dst's CELLS AND, BEHIND THEM, i's DECIMAL NUMERAL. No table is read. Below the call's own blocks nothing has turned. (LAID: no walk: one application.) -/
theorem Tryz.internal_strconv_AppendUint_10_small (B n u : Nat) (hu : u < 100) (sv : Value) (xs : List Value) (w : World) (hown : w.ownsRow B 5 1 sv n xs) (hBw : B ≤ w.heap.size) (hlim : n + 20 ≤ 140737488355328) :
    Calls Tryz.prog 89 #[sv, .int .u64 u, .int .i64 10] w fun e w' => ∃ v', e = .returned v' ∧ w'.ownsRow B 5 1 v' (n + (Lib.decDigits u).length) (xs ++ Lib.byteCells (Lib.decDigits u)) ∧ Below B w w' ∧ Lib.OthersKept 5 none w w' := Any.internal_strconv_AppendUint_10_small Tryz.laysM288 B n u hu sv xs w hown hBw hlim
open Go.RowKit Go.Sort Go.Lib in
/-- internal/strconv.AppendUint(dst, i, 10), i FROM 100 ON: likewise; the digits are laid in an array of the call's own and appended. (LAID: no walk: one application.) -/
theorem Tryz.internal_strconv_AppendUint_10_big (B n u : Nat) (hu : 100 ≤ u) (hu64 : u < 18446744073709551616) (sv : Value) (xs : List Value) (w : World) (hown : w.ownsRow B 5 1 sv n xs) (hBw : B ≤ w.heap.size) (hlim : n + 20 ≤ 140737488355328) (htab : Lib.TabIs Tryz.prog w "internal/strconv.uint64pow10" .u64 Lib.pow10Tab) :
    Calls Tryz.prog 89 #[sv, .int .u64 u, .int .i64 10] w fun e w' => ∃ v', e = .returned v' ∧ w'.ownsRow B 5 1 v' (n + (Lib.decDigits u).length) (xs ++ Lib.byteCells (Lib.decDigits u)) ∧ Below B w w' ∧ Lib.OthersKept 5 none w w' := Any.internal_strconv_AppendUint_10_big Tryz.laysM288 B n u hu hu64 sv xs w hown hBw hlim htab
open Go.RowKit Go.Sort Go.Lib in
/-- internal/strconv.AppendUint(dst, i, 10): the two contracts as one. NO WALK. (LAID: no walk: one application.) -/
theorem Tryz.internal_strconv_AppendUint_10 (B n u : Nat) (hu64 : u < 18446744073709551616) (sv : Value) (xs : List Value) (w : World) (hown : w.ownsRow B 5 1 sv n xs) (hBw : B ≤ w.heap.size) (hlim : n + 20 ≤ 140737488355328) (htab : Lib.TabIs Tryz.prog w "internal/strconv.uint64pow10" .u64 Lib.pow10Tab) :
    Calls Tryz.prog 89 #[sv, .int .u64 u, .int .i64 10] w fun e w' => ∃ v', e = .returned v' ∧ w'.ownsRow B 5 1 v' (n + (Lib.decDigits u).length) (xs ++ Lib.byteCells (Lib.decDigits u)) ∧ Below B w w' ∧ Lib.OthersKept 5 none w w' := Any.internal_strconv_AppendUint_10 Tryz.laysM288 B n u hu64 sv xs w hown hBw hlim htab
end Go.Proofs

/- Rows of bytes: a string is appended; what is kept of the others. -/
namespace Go.Proofs.YtfdpccbajaiepaaGreatDoor.Sx
open Go Go.RowKit
set_option linter.unusedVariables false
set_option linter.unusedSimpArgs false
set_option maxRecDepth 10000
abbrev encB (u : UInt8) : List Value := [.int .u8 u.toNat]
theorem flatB (l : List UInt8) : l.flatMap encB = Lib.byteCells l := by
  induction l with
  | nil => rfl
  | cons x l ih => rw [List.flatMap_cons, ih]; rfl
/-- A row of these bytes. -/
def ByR (h : Hp) (E : Nat) (A : Option Addr) (c : Nat) (l : List UInt8) : Prop := RowC h E encB 1 A c l
theorem ByR.nil {h : Hp} {E : Nat} : ByR h E none 0 [] := RowC.nil
/-- Blocks of other kinds are kept. -/
def OthK (E : Nat) (h h' : Hp) : Prop := ∀ (k : Nat) (o : Obj), h[k]? = some o → (∀ c fz, o ≠ Obj.cells c E fz) → h'[k]? = some o
theorem OthK.refl (E : Nat) (h : Hp) : OthK E h h := fun _ _ h _ => h
theorem OthK.trans {E : Nat} {a b c : Hp} (x : OthK E a b) (y : OthK E b c) : OthK E a c := fun k o h ho => y k o (x k o h ho) ho
theorem Ext.oth {E : Nat} {h h' : Hp} (e : Ext h h') : OthK E h h' := fun k o ho _ => by rw [e.old k (lt_of_get ho)]; exact ho
theorem OthK.cells {E : Nat} {h h' : Hp} (x : OthK E h h') {k : Nat} {cs : Array Value} {T : TypeId} {fz : Nat × Nat} (hb : h[k]? = some (.cells cs T fz)) (hT : T ≠ E) : h'[k]? = some (.cells cs T fz) := x k _ hb (fun c f h => by injection h with _ h1; exact hT h1)
theorem OthK.cl {E : Nat} {h h' : Hp} (x : OthK E h h') {k o : Nat} {cs vs : List Value} {T : TypeId} {fz : Nat × Nat} (hb : h[k]? = some (.cells cs.toArray T fz)) (hT : T ≠ E) (hv : ∀ j v, vs[j]? = some v → cs[o + j]? = some v) : Cl h' ⟨k, o, none⟩ vs := Cl.of_block (x.cells hb hT) hv
theorem Fr.oth {E : Nat} {h h' : Hp} {A : Option Addr} {c : Nat} {l : List UInt8} (f : Fr (blk A) h h') (r : ByR h E A c l) : OthK E h h' := by
  intro k o ho hn
  by_cases hk : blk A k
  · exfalso
    obtain ⟨a, ha, hab⟩ := hk
    rcases r.row with ⟨rfl, _⟩ | ⟨g, rest, rfl, hb, _⟩
    · cases ha
    · injection ha with ha
      subst ha
      simp only at hab
      subst hab
      rw [hb] at ho
      injection ho with ho
      exact hn _ _ ho.symm
  · exact f.get ho hk
theorem HW_appendS {P : Program} {T S E : TypeId} {i : TypeInfo} {z : Value} {h : Hp} {A : Option Addr} {n c : Nat} {cs : List Value} {ns : List UInt8} {K : Value → Hp → Prop}
    (hu : P.underlying T = some (.slice E)) (hS : P.underlying S = some .string) (hi : P.info? E = some i) (hz : i.zero = some z) (hzl : z.cells.size = i.size) (hi1 : i.size = 1) (hb0 : 0 < i.bytes)
    (r : OSl h E 1 A n c cs) (hbound : (2 * (n + ns.length) + 768) * i.bytes ≤ 2 ^ 48)
    (H : ∀ h' A' c', OSl h' E 1 A' (n + ns.length) c' (cs ++ Lib.byteCells ns) → (A' = A ∨ ∀ k, blk A' k → h.size ≤ k) → Fr (blk A) h h' → (c' = c ∨ c' < 2 ^ 63) → K (.slice A' (n + ns.length) c') h') :
    HW P (Builtin.append_ #[T, S] T #[.slice A n c, .string ⟨ns.toArray⟩]) h K := by
  unfold HW
  have hub : n + ns.length < 2 ^ 62 := by
    have : (2 * (n + ns.length) + 768) * 1 ≤ (2 * (n + ns.length) + 768) * i.bytes := Nat.mul_le_mul_left _ hb0
    omega
  have hsz : (⟨ns.toArray⟩ : ByteArray).size = ns.length := by simp [ByteArray.size]
  have hex : ((⟨ns.toArray⟩ : ByteArray).extract 0 ns.length).data = ns.toArray := by
    have : ((⟨ns.toArray⟩ : ByteArray).extract 0 ns.length) = ⟨ns.toArray⟩ := by
      have := ByteArray.extract_zero_size (b := (⟨ns.toArray⟩ : ByteArray))
      rwa [hsz] at this
    rw [this]
  have hnl : (Lib.byteCells ns).length = ns.length := Lib.byteCells_length ns
  have hfc : Builtin.firstCells i.size ns.length (.string ⟨ns.toArray⟩) = (pure (Lib.byteCells ns).toArray : Sem (Array Value)) := by
    have e1 : Builtin.firstCells i.size ns.length (.string ⟨ns.toArray⟩) = (pure (((⟨ns.toArray⟩ : ByteArray).extract 0 ns.length).data.map fun b => Value.int .u8 b.toNat) : Sem (Array Value)) := rfl
    rw [e1, hex]
    simp [Lib.byteCells]
  simp [Builtin.append_, semWp_bind_eq, underlying_eq hu, underlying_eq hS, size_eq hi, Builtin.lenOf, semWp_pure_eq, hsz]
  by_cases hroom : n + ns.length ≤ c
  · rw [if_pos hroom, hfc, semWp_bind_eq, semWp_pure_eq]
    rcases r with ⟨rfl, rfl, rfl, rfl⟩ | ⟨g, rest, rfl, hb, h1, h2, h3⟩
    · have hn0 : ns = [] := List.eq_nil_of_length_eq_zero (by omega)
      subst hn0
      simp only [semWp_pure_eq]
      exact H h none 0 (.inl ⟨rfl, rfl, rfl, rfl⟩) (.inl rfl) (Fr.refl _ _) (.inl rfl)
    · simp only [semWp_map_eq]
      rw [add_eq0, hi1, Nat.mul_one]
      rw [Nat.mul_one] at h1 h2
      have hlen : n + (Lib.byteCells ns).length ≤ (cs ++ rest).length := by rw [h2, hnl]; exact hroom
      have hf : (Lib.byteCells ns).all flatV = true := by simp [Lib.byteCells, flatV]
      refine wp_storeCells P (Lib.byteCells ns) 0 (cs ++ rest) h hb (by simpa using hlen) (fun u hu => List.all_eq_true.1 hf u hu) ?_
      have e : (cs ++ rest).take (n + 0) ++ Lib.byteCells ns ++ (cs ++ rest).drop (n + 0 + (Lib.byteCells ns).length) = (cs ++ Lib.byteCells ns) ++ rest.drop (Lib.byteCells ns).length := by
        rw [Nat.add_zero, ← h1, List.take_left, List.drop_append, List.drop_of_length_le (by omega)]
        simp
      rw [e]
      refine H _ _ c (.inr ⟨g, rest.drop (Lib.byteCells ns).length, rfl, setB_get (lt_of_get hb), ?_, ?_, hroom⟩) (.inl rfl) (setB_fr ⟨_, rfl, rfl⟩) (.inl rfl)
      · rw [List.length_append, h1, hnl, Nat.mul_one]
      · simp only [List.length_append, List.length_drop] at h2 hlen ⊢
        omega
  · rw [if_neg hroom]
    have hne : ¬ (i.bytes = 0) := by omega
    have hcap := nextcap_le (need := n + ns.length) (cap := c) (by omega)
    have hok : ¬ (281474976710656 < Builtin.nextslicecap (n + ns.length) c * i.bytes) := by
      have := Nat.mul_le_mul_right i.bytes hcap
      omega
    simp only [semWp_bind_eq, info_eq hi, hne, and_false, if_false, hok]
    refine ⟨fun hq => by simp [Question.forced] at hq, fun _ t => ?_⟩
    show semWp P (pure _ : Sem Nat) h _
    rw [semWp_pure_eq]
    have hcapn : n + ns.length ≤ Question.cut (.appendCap (n + ns.length) c E) t := by simp [Question.cut]
    have hcapu : Question.cut (.appendCap (n + ns.length) c E) t < 2 ^ 63 := by
      simp only [Question.cut]
      have := Nat.mod_lt t (show 0 < 2 ^ 63 - (n + ns.length) by omega)
      omega
    revert hcapu
    generalize Question.cut (.appendCap (n + ns.length) c E) t = nc at hcapn
    intro hcapu
    simp only [askRoom_eq]
    have r2 : RSl h A n i.size cs := by rw [hi1]; exact r.read
    refine wp_firstCells r2 ?_
    rw [hfc, semWp_pure_eq]
    simp only [zero_eq hi hz, semWp_map_eq]
    show K (.slice (some ⟨h.size, 0, none⟩) (n + ns.length) nc) (h.push _)
    have hzc : (cs.toArray ++ ((Lib.byteCells ns).toArray ++ Builtin.zeroCells z.cells (nc - (n + ns.length)))) = ((cs ++ Lib.byteCells ns) ++ zcells z.cells.toList (nc - (n + ns.length))).toArray := by
      apply Array.ext'
      simp [zcells]
    rw [hzc]
    have hcl := r.read.1
    rw [Nat.mul_one] at hcl
    refine H _ _ nc (.inr ⟨h.size, zcells z.cells.toList (nc - (n + ns.length)), rfl, by simp, ?_, ?_, hcapn⟩) (.inr ?_) ((Ext.push h _).fr _) (.inr hcapu)
    · rw [List.length_append, hcl, hnl, Nat.mul_one]
    · have : z.cells.toList.length = 1 := by simpa [hi1] using hzl
      rw [List.length_append, List.length_append, hcl, hnl, zcells_len, this]
      omega
    · rintro k ⟨a, ha, rfl⟩
      injection ha with ha
      subst ha
      exact Nat.le_refl _
/-- append(b, s...), b a fresh row of bytes. -/
theorem appStr {P : Program} {T S E : TypeId} {i : TypeInfo} {z : Value} {h0 h : Hp} {A : Option Addr} {c : Nat} {l ns : List UInt8} {K : Value → Hp → Prop}
    (hu : P.underlying T = some (.slice E)) (hS : P.underlying S = some .string) (hi : P.info? E = some i) (hz : i.zero = some z) (hzl : z.cells.size = i.size) (hi1 : i.size = 1) (hb0 : i.bytes = 1)
    (e : Ext h0 h) (r : ByR h E A c l) (hF : Fresh h0 A) (hl : l.length + ns.length ≤ 1000000000)
    (H : ∀ h' A' c', Ext h0 h' → OthK E h h' → ByR h' E A' c' (l ++ ns) → Fresh h0 A' → K (.slice A' (l ++ ns).length c') h') :
    HW P (Builtin.append_ #[T, S] T #[.slice A l.length c, .string ⟨ns.toArray⟩]) h K := by
  have r1 : OSl h E 1 A l.length c (Lib.byteCells l) := by have := r.row; unfold Row at this; rwa [flatB] at this
  refine HW_appendS hu hS hi hz hzl hi1 (by omega) r1 (by rw [hb0]; omega) fun h' A' c' r' hA f hc => ?_
  have hF' : Fresh h0 A' := by
    rcases hA with rfl | hA
    · exact hF
    · exact fun k hk => Nat.le_trans e.size (hA k hk)
  have := H h' A' c' (extOwn e f (fun k hk => hF k hk)) (f.oth r) ⟨by
    unfold Row
    rw [flatB, List.length_append, Lib.byteCells_append]
    exact r', hc.elim (fun h => h ▸ r.cap) (fun h => h)⟩ hF'
  rwa [List.length_append] at this
theorem convCl {P : Program} {T S E : TypeId} (hs : P.underlying T = some (.slice E)) (hd : P.underlying S = some .string) (he : P.underlying E = some (.int .u8)) {h : Hp} {a : Addr} {l : List UInt8} {n c : Nat} (cl : Cl h a (Lib.byteCells l)) (hn : l.length = n) :
    HV P (convert T S (.slice (some a) n c)) h (.string ⟨l.toArray⟩) := by
  intro w hw
  subst hw
  have hld := run_loadCells_list (P := P) w a (Lib.byteCells l) (fun j v hj => cl.at_ j v hj)
  rw [Lib.byteCells_length, hn] at hld
  have e1 : Lib.byteCells l = (l.map fun b => (b.toNat : Int)).map (Value.int .u8) := by simp [Lib.byteCells]
  rw [e1] at hld
  rw [run_convert_bytes_string w T S E _ n c hs he hd, run_bytesToString w _ n c _ hld, foldl_push_bytes]
  have e2 : (l.map fun b => (b.toNat : Int)).map (fun n => UInt8.ofNat n.toNat) = l := by
    rw [List.map_map]
    have : ((fun n : Int => UInt8.ofNat n.toNat) ∘ fun b : UInt8 => (b.toNat : Int)) = id := by
      funext b
      simp
    rw [this, List.map_id]
  rw [e2]
  simp [ByteArray.empty, ByteArray.emptyWithCapacity]
  rfl
end Go.Proofs.YtfdpccbajaiepaaGreatDoor.Sx
