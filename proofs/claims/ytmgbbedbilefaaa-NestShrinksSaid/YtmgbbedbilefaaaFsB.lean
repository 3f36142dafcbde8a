/- Printed by sx.py: words over the heap alone for Go functions, and that each call does what its word says. -/
import Derived.Test.YtmgbbedbilefaaaSxSel
import Derived.Test.YtmgbbedbilefaaaSxRound
import Derived.Test.YtmgbbedbilefaaaProg
namespace Go.Proofs.Ytmgbbedbilefaaa.Fs
open Go Go.RowKit Go.Proofs.Ytmgbbedbilefaaa.Sx
set_option linter.unusedVariables false

/-! ### quintet/quintetlaw14.lent: function 10 -/
def quintetlaw14_lent (A1 : Option Addr) (l1 : Nat) (c1 : Nat) (h : Hp) (K : Value → Hp → Prop) : Prop :=
  HW Try.prog (Instr.makeSlice 22 (.int .i64 (IntKind.i64.wrap ((l1 : Int) + 1))) (.int .i64 (IntKind.i64.wrap ((l1 : Int) + 1)))) h fun r3 h2 =>
  ∃ A4 : Option Addr, ∃ l4 : Nat, ∃ c4 : Nat, r3 = (.slice A4 l4 c4) ∧ 
  HW Try.prog (Builtin.copy_ #[22, 22] 3 #[(.slice A4 l4 c4), (.slice A1 l1 c1)]) h2 fun r6 h5 =>
  ∃ x7 : Int, r6 = (.int .i64 x7) ∧ 
  ∃ a8 : Addr, PV Try.prog (Instr.indexAt 22 (.slice A4 l4 c4) (.int .i64 (l1 : Int))) (.pointer (some a8)) ∧
  HU Try.prog (Instr.storeAt 38 (.pointer (some a8)) (.agg #[(.int .u16 7), (.int .u16 3)])) h5 fun h9 => 
  ∃ A10 : Option Addr, ∃ l10 : Nat, ∃ c10 : Nat, PV Try.prog (Instr.sliceAt 22 (.slice A4 l4 c4) none (some (.int .i64 (l1 : Int))) none) (.slice A10 l10 c10) ∧
  K (.slice A10 l10 c10) h9
def quintetlaw14_lent_lp (i : Nat) (Q : Qx) (tm : Tm) (h : Hp) : Prop := False
def quintetlaw14_lent_cut (i : Nat) : Option (List Nat) := none
set_option maxRecDepth 100000 in
theorem quintetlaw14_lent_eq (A1 : Option Addr) (l1 : Nat) (c1 : Nat) (h : Hp) (K : Value → Hp → Prop) : quintetlaw14_lent A1 l1 c1 h K =
    codeWp Try.prog 20 quintetlaw14_lent_lp quintetlaw14_lent_cut (bodyOf Try.f10) 1 (endQ Try.prog Try.f10.results.toList K) (argTm [(.slice A1 l1 c1)]) h := by kernel_rfl
set_option maxRecDepth 100000 in
theorem quintetlaw14_lent_ok (A1 : Option Addr) (l1 : Nat) (c1 : Nat) {h : Hp} {K : Value → Hp → Prop} (H : quintetlaw14_lent A1 l1 c1 h K) : CallsH Try.prog 10 #[(.slice A1 l1 c1)] h K :=
  calls_of (args := [(.slice A1 l1 c1)]) (n := 20) (lp := quintetlaw14_lent_lp) (cut := quintetlaw14_lent_cut) Try.func10 (c := bodyOf Try.f10) (by kernel_rfl) (by kernel_rfl) (by kernel_rfl) (good_by (c := (bodyOf Try.f10)) (i := 1) (l := []) (by kernel_rfl) (fun _ h => by cases h))
    (Eq.mp (quintetlaw14_lent_eq A1 l1 c1 h K) H)

/-! ### quintet/quintetref14.Levels: function 12 -/
def quintetref14_Levels_l3 (A63 : Option Addr) (l63 : Nat) (c63 : Nat) (A64 : Option Addr) (l64 : Nat) (c64 : Nat) (A65 : Option Addr) (l65 : Nat) (c65 : Nat) (x67 : Int) (K0 : (Option Addr) → Nat → Nat → (Option Addr) → Nat → Nat → (Option Addr) → Nat → Nat → (Option Addr) → Nat → Nat → Int → Hp → Prop)  : Nat → (Option Addr) → Nat → Nat → Int → Hp → Prop
  | 0, _, _, _, _, _ => False
  | k + 1, A66, l66, c66, x68, h =>
    br (decide (x68 < (l64 : Int)))
    (∃ a88 : Addr, PV Try.prog (Instr.indexAt 22 (.slice A64 l64 c64) (.int .i64 x68)) (.pointer (some a88)) ∧
    ∃ x89 : Int, ∃ x90 : Int, HV Try.prog (Instr.loadAt 38 (.pointer (some a88))) h (.agg #[(.int .u16 x89), (.int .u16 x90)]) ∧ 
    ∃ a91 : Addr, PV Try.prog (Instr.indexAt 22 (.slice A63 l63 c63) (.int .i64 x67)) (.pointer (some a91)) ∧
    ∃ x92 : Int, ∃ x93 : Int, HV Try.prog (Instr.loadAt 38 (.pointer (some a91))) h (.agg #[(.int .u16 x92), (.int .u16 x93)]) ∧ 
    ∃ b94 : Bool, PV Try.prog (binOp .eql 38 (.agg #[(.int .u16 x89), (.int .u16 x90)]) (.agg #[(.int .u16 x92), (.int .u16 x93)])) (.bool b94) ∧
    br b94
    (∃ a95 : Addr, PV Try.prog (Instr.indexAt 25 (.slice A65 l65 c65) (.int .i64 x68)) (.pointer (some a95)) ∧
    ∃ x96 : Int, HV Try.prog (Instr.loadAt 3 (.pointer (some a95))) h (.int .i64 x96) ∧ 
    newC h (.cells #[(.int .i64 x96)] 3 (0, 0)) fun a98 h97 => 
    HW Try.prog (Builtin.append_ #[25, 25] 25 #[(.slice A66 l66 c66), (.slice (some a98) 1 1)]) h97 fun r100 h99 =>
    ∃ A101 : Option Addr, ∃ l101 : Nat, ∃ c101 : Nat, r100 = (.slice A101 l101 c101) ∧ 
    quintetref14_Levels_l3 A63 l63 c63 A64 l64 c64 A65 l65 c65 x67 K0 k A101 l101 c101 (IntKind.i64.wrap (x68 + 1)) h99)
    (quintetref14_Levels_l3 A63 l63 c63 A64 l64 c64 A65 l65 c65 x67 K0 k A66 l66 c66 (IntKind.i64.wrap (x68 + 1)) h))
    (K0 A63 l63 c63 A64 l64 c64 A65 l65 c65 A66 l66 c66 x67 h)
def quintetref14_Levels_l3_L (Q : Qx) (k : Nat) (tm : Tm) (h : Hp) : Prop :=
  selS (tm 0) fun A63 l63 c63 =>
  selS (tm 4) fun A64 l64 c64 =>
  selS (tm 5) fun A65 l65 c65 =>
  selS (tm 6) fun A66 l66 c66 =>
  selI .i64 (tm 7) fun x67 =>
  selI .i64 (tm 8) fun x68 =>
  quintetref14_Levels_l3 A63 l63 c63 A64 l64 c64 A65 l65 c65 x67 (fun (A83 : Option Addr) (l83 : Nat) (c83 : Nat) (A84 : Option Addr) (l84 : Nat) (c84 : Nat) (A85 : Option Addr) (l85 : Nat) (c85 : Nat) (A86 : Option Addr) (l86 : Nat) (c86 : Nat) (x87 : Int) h => Q (.exit 2) (mkTm [(0, some (.slice A83 l83 c83)), (4, some (.slice A84 l84 c84)), (5, some (.slice A85 l85 c85)), (6, some (.slice A86 l86 c86)), (7, some (.int .i64 x87))]) h) k A66 l66 c66 x68 h
def quintetref14_Levels_l2 (A11 : Option Addr) (l11 : Nat) (c11 : Nat) (A12 : Option Addr) (l12 : Nat) (c12 : Nat) (A13 : Option Addr) (l13 : Nat) (c13 : Nat) (K0 : (Option Addr) → Nat → Nat → Hp → Prop)  : Nat → (Option Addr) → Nat → Nat → Int → Hp → Prop
  | 0, _, _, _, _, _ => False
  | k + 1, A14, l14, c14, x15, h =>
    br (decide (x15 < (l11 : Int)))
    (∃ k108, quintetref14_Levels_l3 A11 l11 c11 A12 l12 c12 A13 l13 c13 x15
    (fun (A102 : Option Addr) (l102 : Nat) (c102 : Nat) (A103 : Option Addr) (l103 : Nat) (c103 : Nat) (A104 : Option Addr) (l104 : Nat) (c104 : Nat) (A105 : Option Addr) (l105 : Nat) (c105 : Nat) (x106 : Int) (h107 : Hp) =>
    quintetref14_Levels_l2 A11 l11 c11 A12 l12 c12 A13 l13 c13 K0 k A105 l105 c105 (IntKind.i64.wrap (x106 + 1)) h107)
    k108 A14 l14 c14 0 h)
    (K0 A14 l14 c14 h)
def quintetref14_Levels_l2_L (Q : Qx) (k : Nat) (tm : Tm) (h : Hp) : Prop :=
  selS (tm 0) fun A11 l11 c11 =>
  selS (tm 4) fun A12 l12 c12 =>
  selS (tm 5) fun A13 l13 c13 =>
  selS (tm 6) fun A14 l14 c14 =>
  selI .i64 (tm 7) fun x15 =>
  quintetref14_Levels_l2 A11 l11 c11 A12 l12 c12 A13 l13 c13 (fun (A62 : Option Addr) (l62 : Nat) (c62 : Nat) h => Q (.exit 0) (mkTm [(6, some (.slice A62 l62 c62))]) h) k A14 l14 c14 x15 h
def quintetref14_Levels (A1 : Option Addr) (l1 : Nat) (c1 : Nat) (h : Hp) (K : Value → Hp → Prop) : Prop :=
  CallsH Try.prog 19 #[(.slice A1 l1 c1)] h fun r3 h2 =>
  ∃ b4 : Bool, r3 = (.bool b4) ∧ 
  br b4
  (K (.tuple #[(.slice none 0 0), (.int .i64 30)]) h2)
  (CallsH Try.prog 28 #[(.slice A1 l1 c1)] h2 fun r6 h5 =>
  ∃ A7 : Option Addr, ∃ l7 : Nat, ∃ c7 : Nat, r6 = (.slice A7 l7 c7) ∧ 
  CallsH Try.prog 29 #[(.slice A7 l7 c7)] h5 fun r9 h8 =>
  ∃ A10 : Option Addr, ∃ l10 : Nat, ∃ c10 : Nat, r9 = (.slice A10 l10 c10) ∧ 
  ∃ k111, quintetref14_Levels_l2 A1 l1 c1 A7 l7 c7 A10 l10 c10
  (fun (A109 : Option Addr) (l109 : Nat) (c109 : Nat) (h110 : Hp) =>
  K (.tuple #[(.slice A109 l109 c109), (.int .i64 0)]) h110)
  k111 none 0 0 0 h8)
def quintetref14_Levels_lp (i : Nat) (Q : Qx) (tm : Tm) (h : Hp) : Prop := match Nat.beq i 32402 with
  | true => ∃ k, quintetref14_Levels_l3_L Q k tm h
  | false => match Nat.beq i 506 with
  | true => ∃ k, quintetref14_Levels_l2_L Q k tm h
  | false => False
def quintetref14_Levels_cut (i : Nat) : Option (List Nat) := none
set_option maxRecDepth 100000 in
theorem quintetref14_Levels_l3_step (Q : Qx) (k : Nat) (A63 : Option Addr) (l63 : Nat) (c63 : Nat) (A64 : Option Addr) (l64 : Nat) (c64 : Nat) (A65 : Option Addr) (l65 : Nat) (c65 : Nat) (A66 : Option Addr) (l66 : Nat) (c66 : Nat) (x67 : Int) (x68 : Int) (h : Hp) : quintetref14_Levels_l3_L Q (k + 1) (mkTm [(0, some (.slice A63 l63 c63)), (4, some (.slice A64 l64 c64)), (5, some (.slice A65 l65 c65)), (6, some (.slice A66 l66 c66)), (7, some (.int .i64 x67)), (8, some (.int .i64 x68))]) h =
    codeWp Try.prog 44 quintetref14_Levels_lp quintetref14_Levels_cut (sub (bodyOf Try.f12) [true, true, true, true, true, false, true, false, false, true, false, false, true, false, false]) 64804 (thenQ (fun tm h => quintetref14_Levels_l3_L Q k (mask [0, 4, 5, 6, 7, 8] tm) h) (maskQ (fun e => match e with | .exit 2 => [0, 4, 5, 6, 7] | _ => []) Q)) (mkTm [(0, some (.slice A63 l63 c63)), (4, some (.slice A64 l64 c64)), (5, some (.slice A65 l65 c65)), (6, some (.slice A66 l66 c66)), (7, some (.int .i64 x67)), (8, some (.int .i64 x68))]) h := by kernel_rfl
theorem quintetref14_Levels_l3_mask (Q : Qx) (k : Nat) (tm : Tm) (h : Hp) : quintetref14_Levels_l3_L Q k tm h ↔ quintetref14_Levels_l3_L Q k (mask [0, 4, 5, 6, 7, 8] tm) h := Iff.rfl
set_option maxRecDepth 100000 in
theorem quintetref14_Levels_l3_snd : SndAt Try.prog 44 none (sub (bodyOf Try.f12) [true, true, true, true, true, false, true, false, false, true, false, false, true, false]) (quintetref14_Levels_lp 32402) := by
  refine loop_sound (lp := quintetref14_Levels_lp) (cut := quintetref14_Levels_cut) (i := 32402) (c := (sub (bodyOf Try.f12) [true, true, true, true, true, false, true, false, false, true, false, false, true, false, false])) [0, 4, 5, 6, 7, 8] (fun e => match e with | .exit 2 => [0, 4, 5, 6, 7] | _ => []) quintetref14_Levels_l3_L ?_ ?_ ?_
  · exact good_by (c := (sub (bodyOf Try.f12) [true, true, true, true, true, false, true, false, false, true, false, false, true, false, false])) (i := 64804) (l := []) (by kernel_rfl) (fun _ h => by cases h)
  · intro Q tm h H
    obtain ⟨A63, l63, c63, e0, H⟩ := selS_ex H
    obtain ⟨A64, l64, c64, e4, H⟩ := selS_ex H
    obtain ⟨A65, l65, c65, e5, H⟩ := selS_ex H
    obtain ⟨A66, l66, c66, e6, H⟩ := selS_ex H
    obtain ⟨x67, e7, H⟩ := selI_ex H
    obtain ⟨x68, e8, H⟩ := selI_ex H
    exact H
  · intro Q k tm h H
    have H0 := H
    obtain ⟨A63, l63, c63, e0, H⟩ := selS_ex H
    obtain ⟨A64, l64, c64, e4, H⟩ := selS_ex H
    obtain ⟨A65, l65, c65, e5, H⟩ := selS_ex H
    obtain ⟨A66, l66, c66, e6, H⟩ := selS_ex H
    obtain ⟨x67, e7, H⟩ := selI_ex H
    obtain ⟨x68, e8, H⟩ := selI_ex H
    have e : mask [0, 4, 5, 6, 7, 8] tm = mkTm [(0, some (.slice A63 l63 c63)), (4, some (.slice A64 l64 c64)), (5, some (.slice A65 l65 c65)), (6, some (.slice A66 l66 c66)), (7, some (.int .i64 x67)), (8, some (.int .i64 x68))] := by simp only [mask, List.map_cons, List.map_nil, e0, e4, e5, e6, e7, e8] <;> rfl
    rw [e]
    refine Eq.mp (quintetref14_Levels_l3_step Q k A63 l63 c63 A64 l64 c64 A65 l65 c65 A66 l66 c66 x67 x68 h) ?_
    rw [← e]
    exact (quintetref14_Levels_l3_mask Q (k + 1) tm h).mp H0
set_option maxRecDepth 100000 in
theorem quintetref14_Levels_l2_step (Q : Qx) (k : Nat) (A11 : Option Addr) (l11 : Nat) (c11 : Nat) (A12 : Option Addr) (l12 : Nat) (c12 : Nat) (A13 : Option Addr) (l13 : Nat) (c13 : Nat) (A14 : Option Addr) (l14 : Nat) (c14 : Nat) (x15 : Int) (h : Hp) : quintetref14_Levels_l2_L Q (k + 1) (mkTm [(0, some (.slice A11 l11 c11)), (4, some (.slice A12 l12 c12)), (5, some (.slice A13 l13 c13)), (6, some (.slice A14 l14 c14)), (7, some (.int .i64 x15))]) h =
    codeWp Try.prog 44 quintetref14_Levels_lp quintetref14_Levels_cut (sub (bodyOf Try.f12) [true, true, true, true, true, false, true, false, false]) 1012 (thenQ (fun tm h => quintetref14_Levels_l2_L Q k (mask [0, 4, 5, 6, 7] tm) h) (maskQ (fun e => match e with | .exit 0 => [6] | _ => []) Q)) (mkTm [(0, some (.slice A11 l11 c11)), (4, some (.slice A12 l12 c12)), (5, some (.slice A13 l13 c13)), (6, some (.slice A14 l14 c14)), (7, some (.int .i64 x15))]) h := by kernel_rfl
theorem quintetref14_Levels_l2_mask (Q : Qx) (k : Nat) (tm : Tm) (h : Hp) : quintetref14_Levels_l2_L Q k tm h ↔ quintetref14_Levels_l2_L Q k (mask [0, 4, 5, 6, 7] tm) h := Iff.rfl
set_option maxRecDepth 100000 in
theorem quintetref14_Levels_l2_snd : SndAt Try.prog 44 none (sub (bodyOf Try.f12) [true, true, true, true, true, false, true, false]) (quintetref14_Levels_lp 506) := by
  refine loop_sound (lp := quintetref14_Levels_lp) (cut := quintetref14_Levels_cut) (i := 506) (c := (sub (bodyOf Try.f12) [true, true, true, true, true, false, true, false, false])) [0, 4, 5, 6, 7] (fun e => match e with | .exit 0 => [6] | _ => []) quintetref14_Levels_l2_L ?_ ?_ ?_
  · exact good_by (c := (sub (bodyOf Try.f12) [true, true, true, true, true, false, true, false, false])) (i := 1012) (l := [(32402, (sub (bodyOf Try.f12) [true, true, true, true, true, false, true, false, false, true, false, false, true, false]))]) (by kernel_rfl) (List.forall_mem_cons.2 ⟨quintetref14_Levels_l3_snd, (fun _ h => by cases h)⟩)
  · intro Q tm h H
    obtain ⟨A11, l11, c11, e0, H⟩ := selS_ex H
    obtain ⟨A12, l12, c12, e4, H⟩ := selS_ex H
    obtain ⟨A13, l13, c13, e5, H⟩ := selS_ex H
    obtain ⟨A14, l14, c14, e6, H⟩ := selS_ex H
    obtain ⟨x15, e7, H⟩ := selI_ex H
    exact H
  · intro Q k tm h H
    have H0 := H
    obtain ⟨A11, l11, c11, e0, H⟩ := selS_ex H
    obtain ⟨A12, l12, c12, e4, H⟩ := selS_ex H
    obtain ⟨A13, l13, c13, e5, H⟩ := selS_ex H
    obtain ⟨A14, l14, c14, e6, H⟩ := selS_ex H
    obtain ⟨x15, e7, H⟩ := selI_ex H
    have e : mask [0, 4, 5, 6, 7] tm = mkTm [(0, some (.slice A11 l11 c11)), (4, some (.slice A12 l12 c12)), (5, some (.slice A13 l13 c13)), (6, some (.slice A14 l14 c14)), (7, some (.int .i64 x15))] := by simp only [mask, List.map_cons, List.map_nil, e0, e4, e5, e6, e7] <;> rfl
    rw [e]
    refine Eq.mp (quintetref14_Levels_l2_step Q k A11 l11 c11 A12 l12 c12 A13 l13 c13 A14 l14 c14 x15 h) ?_
    rw [← e]
    exact (quintetref14_Levels_l2_mask Q (k + 1) tm h).mp H0
set_option maxRecDepth 100000 in
theorem quintetref14_Levels_eq (A1 : Option Addr) (l1 : Nat) (c1 : Nat) (h : Hp) (K : Value → Hp → Prop) : quintetref14_Levels A1 l1 c1 h K =
    codeWp Try.prog 44 quintetref14_Levels_lp quintetref14_Levels_cut (bodyOf Try.f12) 1 (endQ Try.prog Try.f12.results.toList K) (argTm [(.slice A1 l1 c1)]) h := by kernel_rfl
set_option maxRecDepth 100000 in
theorem quintetref14_Levels_ok (A1 : Option Addr) (l1 : Nat) (c1 : Nat) {h : Hp} {K : Value → Hp → Prop} (H : quintetref14_Levels A1 l1 c1 h K) : CallsH Try.prog 12 #[(.slice A1 l1 c1)] h K :=
  calls_of (args := [(.slice A1 l1 c1)]) (n := 44) (lp := quintetref14_Levels_lp) (cut := quintetref14_Levels_cut) Try.func12 (c := bodyOf Try.f12) (by kernel_rfl) (by kernel_rfl) (by kernel_rfl) (good_by (c := (bodyOf Try.f12)) (i := 1) (l := [(506, (sub (bodyOf Try.f12) [true, true, true, true, true, false, true, false]))]) (by kernel_rfl) (List.forall_mem_cons.2 ⟨quintetref14_Levels_l2_snd, (fun _ h => by cases h)⟩))
    (Eq.mp (quintetref14_Levels_eq A1 l1 c1 h K) H)

/-! ### quintet/quintetkeep.Ints: function 13 -/
def quintetkeep_Ints_l1 (A3 : Option Addr) (l3 : Nat) (c3 : Nat) (A4 : Option Addr) (l4 : Nat) (c4 : Nat) (K0 : Bool → Hp → Prop) (K1 : Hp → Prop)  : Nat → Int → Hp → Prop
  | 0, _, _ => False
  | k + 1, x5, h =>
    br (decide (x5 < (l3 : Int)))
    (∃ a11 : Addr, PV Try.prog (Instr.indexAt 25 (.slice A3 l3 c3) (.int .i64 x5)) (.pointer (some a11)) ∧
    ∃ x12 : Int, HV Try.prog (Instr.loadAt 3 (.pointer (some a11))) h (.int .i64 x12) ∧ 
    ∃ a13 : Addr, PV Try.prog (Instr.indexAt 25 (.slice A4 l4 c4) (.int .i64 x5)) (.pointer (some a13)) ∧
    ∃ x14 : Int, HV Try.prog (Instr.loadAt 3 (.pointer (some a13))) h (.int .i64 x14) ∧ 
    br (x12 != x14)
    (K0 false h)
    (quintetkeep_Ints_l1 A3 l3 c3 A4 l4 c4 K0 K1 k (IntKind.i64.wrap (x5 + 1)) h))
    (K1 h)
def quintetkeep_Ints_l1_L (Q : Qx) (k : Nat) (tm : Tm) (h : Hp) : Prop :=
  selS (tm 0) fun A3 l3 c3 =>
  selS (tm 1) fun A4 l4 c4 =>
  selI .i64 (tm 5) fun x5 =>
  quintetkeep_Ints_l1 A3 l3 c3 A4 l4 c4 (fun (b10 : Bool) h => Q (.ret) (mkTm [(4, some (.bool b10))]) h) (fun  h => Q (.exit 0) (mkTm []) h) k x5 h
def quintetkeep_Ints (A1 : Option Addr) (l1 : Nat) (c1 : Nat) (A2 : Option Addr) (l2 : Nat) (c2 : Nat) (h : Hp) (K : Value → Hp → Prop) : Prop :=
  br ((l1 : Int) != (l2 : Int))
  (K (.bool false) h)
  (∃ k18, quintetkeep_Ints_l1 A1 l1 c1 A2 l2 c2
  (fun (b15 : Bool) (h16 : Hp) =>
  K (.bool b15) h16)
  (fun  (h17 : Hp) =>
  K (.bool true) h17)
  k18 0 h)
def quintetkeep_Ints_lp (i : Nat) (Q : Qx) (tm : Tm) (h : Hp) : Prop := match Nat.beq i 58 with
  | true => ∃ k, quintetkeep_Ints_l1_L Q k tm h
  | false => False
def quintetkeep_Ints_cut (i : Nat) : Option (List Nat) := none
set_option maxRecDepth 100000 in
theorem quintetkeep_Ints_l1_step (Q : Qx) (k : Nat) (A3 : Option Addr) (l3 : Nat) (c3 : Nat) (A4 : Option Addr) (l4 : Nat) (c4 : Nat) (x5 : Int) (h : Hp) : quintetkeep_Ints_l1_L Q (k + 1) (mkTm [(0, some (.slice A3 l3 c3)), (1, some (.slice A4 l4 c4)), (5, some (.int .i64 x5))]) h =
    codeWp Try.prog 26 quintetkeep_Ints_lp quintetkeep_Ints_cut (sub (bodyOf Try.f13) [true, true, false, true, false, false]) 116 (thenQ (fun tm h => quintetkeep_Ints_l1_L Q k (mask [0, 1, 5] tm) h) (maskQ (fun e => match e with | .ret => [4] | .exit 0 => [] | _ => []) Q)) (mkTm [(0, some (.slice A3 l3 c3)), (1, some (.slice A4 l4 c4)), (5, some (.int .i64 x5))]) h := by kernel_rfl
theorem quintetkeep_Ints_l1_mask (Q : Qx) (k : Nat) (tm : Tm) (h : Hp) : quintetkeep_Ints_l1_L Q k tm h ↔ quintetkeep_Ints_l1_L Q k (mask [0, 1, 5] tm) h := Iff.rfl
set_option maxRecDepth 100000 in
theorem quintetkeep_Ints_l1_snd : SndAt Try.prog 26 none (sub (bodyOf Try.f13) [true, true, false, true, false]) (quintetkeep_Ints_lp 58) := by
  refine loop_sound (lp := quintetkeep_Ints_lp) (cut := quintetkeep_Ints_cut) (i := 58) (c := (sub (bodyOf Try.f13) [true, true, false, true, false, false])) [0, 1, 5] (fun e => match e with | .ret => [4] | .exit 0 => [] | _ => []) quintetkeep_Ints_l1_L ?_ ?_ ?_
  · exact good_by (c := (sub (bodyOf Try.f13) [true, true, false, true, false, false])) (i := 116) (l := []) (by kernel_rfl) (fun _ h => by cases h)
  · intro Q tm h H
    obtain ⟨A3, l3, c3, e0, H⟩ := selS_ex H
    obtain ⟨A4, l4, c4, e1, H⟩ := selS_ex H
    obtain ⟨x5, e5, H⟩ := selI_ex H
    exact H
  · intro Q k tm h H
    have H0 := H
    obtain ⟨A3, l3, c3, e0, H⟩ := selS_ex H
    obtain ⟨A4, l4, c4, e1, H⟩ := selS_ex H
    obtain ⟨x5, e5, H⟩ := selI_ex H
    have e : mask [0, 1, 5] tm = mkTm [(0, some (.slice A3 l3 c3)), (1, some (.slice A4 l4 c4)), (5, some (.int .i64 x5))] := by simp only [mask, List.map_cons, List.map_nil, e0, e1, e5] <;> rfl
    rw [e]
    refine Eq.mp (quintetkeep_Ints_l1_step Q k A3 l3 c3 A4 l4 c4 x5 h) ?_
    rw [← e]
    exact (quintetkeep_Ints_l1_mask Q (k + 1) tm h).mp H0
set_option maxRecDepth 100000 in
theorem quintetkeep_Ints_eq (A1 : Option Addr) (l1 : Nat) (c1 : Nat) (A2 : Option Addr) (l2 : Nat) (c2 : Nat) (h : Hp) (K : Value → Hp → Prop) : quintetkeep_Ints A1 l1 c1 A2 l2 c2 h K =
    codeWp Try.prog 26 quintetkeep_Ints_lp quintetkeep_Ints_cut (bodyOf Try.f13) 1 (endQ Try.prog Try.f13.results.toList K) (argTm [(.slice A1 l1 c1), (.slice A2 l2 c2)]) h := by kernel_rfl
set_option maxRecDepth 100000 in
theorem quintetkeep_Ints_ok (A1 : Option Addr) (l1 : Nat) (c1 : Nat) (A2 : Option Addr) (l2 : Nat) (c2 : Nat) {h : Hp} {K : Value → Hp → Prop} (H : quintetkeep_Ints A1 l1 c1 A2 l2 c2 h K) : CallsH Try.prog 13 #[(.slice A1 l1 c1), (.slice A2 l2 c2)] h K :=
  calls_of (args := [(.slice A1 l1 c1), (.slice A2 l2 c2)]) (n := 26) (lp := quintetkeep_Ints_lp) (cut := quintetkeep_Ints_cut) Try.func13 (c := bodyOf Try.f13) (by kernel_rfl) (by kernel_rfl) (by kernel_rfl) (good_by (c := (bodyOf Try.f13)) (i := 1) (l := [(58, (sub (bodyOf Try.f13) [true, true, false, true, false]))]) (by kernel_rfl) (List.forall_mem_cons.2 ⟨quintetkeep_Ints_l1_snd, (fun _ h => by cases h)⟩))
    (Eq.mp (quintetkeep_Ints_eq A1 l1 c1 A2 l2 c2 h K) H)

/-! ### quintet/quintetref14.Depth: function 15 -/
def quintetref14_Depth_l1 (A6 : Option Addr) (l6 : Nat) (c6 : Nat) (x7 : Int) (K0 : Int → Int → Hp → Prop)  : Nat → Int → Int → Hp → Prop
  | 0, _, _, _ => False
  | k + 1, x8, x9, h =>
    br (decide (x9 < (l6 : Int)))
    (∃ a15 : Addr, PV Try.prog (Instr.indexAt 25 (.slice A6 l6 c6) (.int .i64 x9)) (.pointer (some a15)) ∧
    ∃ x16 : Int, HV Try.prog (Instr.loadAt 3 (.pointer (some a15))) h (.int .i64 x16) ∧ 
    ∃ x17 : Int, PV Try.prog (Builtin.max_ #[3, 3] 3 #[(.int .i64 x8), (.int .i64 (IntKind.i64.wrap (x16 + 1)))]) (.int .i64 x17) ∧
    quintetref14_Depth_l1 A6 l6 c6 x7 K0 k x17 (IntKind.i64.wrap (x9 + 1)) h)
    (K0 x7 x8 h)
def quintetref14_Depth_l1_L (Q : Qx) (k : Nat) (tm : Tm) (h : Hp) : Prop :=
  selS (tm 4) fun A6 l6 c6 =>
  selI .i64 (tm 5) fun x7 =>
  selI .i64 (tm 6) fun x8 =>
  selI .i64 (tm 7) fun x9 =>
  quintetref14_Depth_l1 A6 l6 c6 x7 (fun (x13 : Int) (x14 : Int) h => Q (.exit 0) (mkTm [(5, some (.int .i64 x13)), (6, some (.int .i64 x14))]) h) k x8 x9 h
def quintetref14_Depth (A1 : Option Addr) (l1 : Nat) (c1 : Nat) (h : Hp) (K : Value → Hp → Prop) : Prop :=
  CallsH Try.prog 12 #[(.slice A1 l1 c1)] h fun r3 h2 =>
  ∃ A4 : Option Addr, ∃ l4 : Nat, ∃ c4 : Nat, ∃ x5 : Int, r3 = (.tuple #[(.slice A4 l4 c4), (.int .i64 x5)]) ∧ 
  ∃ k21, quintetref14_Depth_l1 A4 l4 c4 x5
  (fun (x18 : Int) (x19 : Int) (h20 : Hp) =>
  K (.tuple #[(.int .i64 x19), (.int .i64 x18)]) h20)
  k21 0 0 h2
def quintetref14_Depth_lp (i : Nat) (Q : Qx) (tm : Tm) (h : Hp) : Prop := match Nat.beq i 122 with
  | true => ∃ k, quintetref14_Depth_l1_L Q k tm h
  | false => False
def quintetref14_Depth_cut (i : Nat) : Option (List Nat) := none
set_option maxRecDepth 100000 in
theorem quintetref14_Depth_l1_step (Q : Qx) (k : Nat) (A6 : Option Addr) (l6 : Nat) (c6 : Nat) (x7 : Int) (x8 : Int) (x9 : Int) (h : Hp) : quintetref14_Depth_l1_L Q (k + 1) (mkTm [(4, some (.slice A6 l6 c6)), (5, some (.int .i64 x7)), (6, some (.int .i64 x8)), (7, some (.int .i64 x9))]) h =
    codeWp Try.prog 28 quintetref14_Depth_lp quintetref14_Depth_cut (sub (bodyOf Try.f15) [true, true, true, false, true, false, false]) 244 (thenQ (fun tm h => quintetref14_Depth_l1_L Q k (mask [4, 5, 6, 7] tm) h) (maskQ (fun e => match e with | .exit 0 => [5, 6] | _ => []) Q)) (mkTm [(4, some (.slice A6 l6 c6)), (5, some (.int .i64 x7)), (6, some (.int .i64 x8)), (7, some (.int .i64 x9))]) h := by kernel_rfl
theorem quintetref14_Depth_l1_mask (Q : Qx) (k : Nat) (tm : Tm) (h : Hp) : quintetref14_Depth_l1_L Q k tm h ↔ quintetref14_Depth_l1_L Q k (mask [4, 5, 6, 7] tm) h := Iff.rfl
set_option maxRecDepth 100000 in
theorem quintetref14_Depth_l1_snd : SndAt Try.prog 28 none (sub (bodyOf Try.f15) [true, true, true, false, true, false]) (quintetref14_Depth_lp 122) := by
  refine loop_sound (lp := quintetref14_Depth_lp) (cut := quintetref14_Depth_cut) (i := 122) (c := (sub (bodyOf Try.f15) [true, true, true, false, true, false, false])) [4, 5, 6, 7] (fun e => match e with | .exit 0 => [5, 6] | _ => []) quintetref14_Depth_l1_L ?_ ?_ ?_
  · exact good_by (c := (sub (bodyOf Try.f15) [true, true, true, false, true, false, false])) (i := 244) (l := []) (by kernel_rfl) (fun _ h => by cases h)
  · intro Q tm h H
    obtain ⟨A6, l6, c6, e4, H⟩ := selS_ex H
    obtain ⟨x7, e5, H⟩ := selI_ex H
    obtain ⟨x8, e6, H⟩ := selI_ex H
    obtain ⟨x9, e7, H⟩ := selI_ex H
    exact H
  · intro Q k tm h H
    have H0 := H
    obtain ⟨A6, l6, c6, e4, H⟩ := selS_ex H
    obtain ⟨x7, e5, H⟩ := selI_ex H
    obtain ⟨x8, e6, H⟩ := selI_ex H
    obtain ⟨x9, e7, H⟩ := selI_ex H
    have e : mask [4, 5, 6, 7] tm = mkTm [(4, some (.slice A6 l6 c6)), (5, some (.int .i64 x7)), (6, some (.int .i64 x8)), (7, some (.int .i64 x9))] := by simp only [mask, List.map_cons, List.map_nil, e4, e5, e6, e7] <;> rfl
    rw [e]
    refine Eq.mp (quintetref14_Depth_l1_step Q k A6 l6 c6 x7 x8 x9 h) ?_
    rw [← e]
    exact (quintetref14_Depth_l1_mask Q (k + 1) tm h).mp H0
set_option maxRecDepth 100000 in
theorem quintetref14_Depth_eq (A1 : Option Addr) (l1 : Nat) (c1 : Nat) (h : Hp) (K : Value → Hp → Prop) : quintetref14_Depth A1 l1 c1 h K =
    codeWp Try.prog 28 quintetref14_Depth_lp quintetref14_Depth_cut (bodyOf Try.f15) 1 (endQ Try.prog Try.f15.results.toList K) (argTm [(.slice A1 l1 c1)]) h := by kernel_rfl
set_option maxRecDepth 100000 in
theorem quintetref14_Depth_ok (A1 : Option Addr) (l1 : Nat) (c1 : Nat) {h : Hp} {K : Value → Hp → Prop} (H : quintetref14_Depth A1 l1 c1 h K) : CallsH Try.prog 15 #[(.slice A1 l1 c1)] h K :=
  calls_of (args := [(.slice A1 l1 c1)]) (n := 28) (lp := quintetref14_Depth_lp) (cut := quintetref14_Depth_cut) Try.func15 (c := bodyOf Try.f15) (by kernel_rfl) (by kernel_rfl) (by kernel_rfl) (good_by (c := (bodyOf Try.f15)) (i := 1) (l := [(122, (sub (bodyOf Try.f15) [true, true, true, false, true, false]))]) (by kernel_rfl) (List.forall_mem_cons.2 ⟨quintetref14_Depth_l1_snd, (fun _ h => by cases h)⟩))
    (Eq.mp (quintetref14_Depth_eq A1 l1 c1 h K) H)

/-! ### quintet/quintetlaw14.kept: function 16 -/
def quintetlaw14_kept_l1 (A8 : Option Addr) (l8 : Nat) (c8 : Nat) (A9 : Option Addr) (l9 : Nat) (c9 : Nat) (K0 : Bool → Hp → Prop)  : Nat → Bool → Int → Hp → Prop
  | 0, _, _, _ => False
  | k + 1, b10, x11, h =>
    br (decide (x11 < (l9 : Int)))
    (br b10
    (∃ a20 : Addr, PV Try.prog (Instr.indexAt 22 (.slice A8 l8 c8) (.int .i64 x11)) (.pointer (some a20)) ∧
    ∃ x21 : Int, ∃ x22 : Int, HV Try.prog (Instr.loadAt 38 (.pointer (some a20))) h (.agg #[(.int .u16 x21), (.int .u16 x22)]) ∧ 
    ∃ a23 : Addr, PV Try.prog (Instr.indexAt 22 (.slice A9 l9 c9) (.int .i64 x11)) (.pointer (some a23)) ∧
    ∃ x24 : Int, ∃ x25 : Int, HV Try.prog (Instr.loadAt 38 (.pointer (some a23))) h (.agg #[(.int .u16 x24), (.int .u16 x25)]) ∧ 
    ∃ b26 : Bool, PV Try.prog (binOp .eql 38 (.agg #[(.int .u16 x21), (.int .u16 x22)]) (.agg #[(.int .u16 x24), (.int .u16 x25)])) (.bool b26) ∧
    quintetlaw14_kept_l1 A8 l8 c8 A9 l9 c9 K0 k b26 (IntKind.i64.wrap (x11 + 1)) h)
    (quintetlaw14_kept_l1 A8 l8 c8 A9 l9 c9 K0 k false (IntKind.i64.wrap (x11 + 1)) h))
    (K0 b10 h)
def quintetlaw14_kept_l1_L (Q : Qx) (k : Nat) (tm : Tm) (h : Hp) : Prop :=
  selS (tm 0) fun A8 l8 c8 =>
  selS (tm 1) fun A9 l9 c9 =>
  selB (tm 6) fun b10 =>
  selI .i64 (tm 7) fun x11 =>
  quintetlaw14_kept_l1 A8 l8 c8 A9 l9 c9 (fun (b19 : Bool) h => Q (.exit 0) (mkTm [(6, some (.bool b19))]) h) k b10 x11 h
def quintetlaw14_kept (A1 : Option Addr) (l1 : Nat) (c1 : Nat) (A2 : Option Addr) (l2 : Nat) (c2 : Nat) (h : Hp) (K : Value → Hp → Prop) : Prop :=
  ∃ A3 : Option Addr, ∃ l3 : Nat, ∃ c3 : Nat, PV Try.prog (Instr.sliceAt 22 (.slice A1 l1 c1) none (some (.int .i64 (IntKind.i64.wrap ((l2 : Int) + 1)))) none) (.slice A3 l3 c3) ∧
  ∃ a4 : Addr, PV Try.prog (Instr.indexAt 22 (.slice A3 l3 c3) (.int .i64 (l2 : Int))) (.pointer (some a4)) ∧
  ∃ x5 : Int, ∃ x6 : Int, HV Try.prog (Instr.loadAt 38 (.pointer (some a4))) h (.agg #[(.int .u16 x5), (.int .u16 x6)]) ∧ 
  ∃ b7 : Bool, PV Try.prog (binOp .eql 38 (.agg #[(.int .u16 x5), (.int .u16 x6)]) (.agg #[(.int .u16 7), (.int .u16 3)])) (.bool b7) ∧
  ∃ k29, quintetlaw14_kept_l1 A1 l1 c1 A2 l2 c2
  (fun (b27 : Bool) (h28 : Hp) =>
  K (.bool b27) h28)
  k29 b7 0 h
def quintetlaw14_kept_lp (i : Nat) (Q : Qx) (tm : Tm) (h : Hp) : Prop := match Nat.beq i 122 with
  | true => ∃ k, quintetlaw14_kept_l1_L Q k tm h
  | false => False
def quintetlaw14_kept_cut (i : Nat) : Option (List Nat) := none
set_option maxRecDepth 100000 in
theorem quintetlaw14_kept_l1_step (Q : Qx) (k : Nat) (A8 : Option Addr) (l8 : Nat) (c8 : Nat) (A9 : Option Addr) (l9 : Nat) (c9 : Nat) (b10 : Bool) (x11 : Int) (h : Hp) : quintetlaw14_kept_l1_L Q (k + 1) (mkTm [(0, some (.slice A8 l8 c8)), (1, some (.slice A9 l9 c9)), (6, some (.bool b10)), (7, some (.int .i64 x11))]) h =
    codeWp Try.prog 39 quintetlaw14_kept_lp quintetlaw14_kept_cut (sub (bodyOf Try.f16) [true, true, true, false, true, false, false]) 244 (thenQ (fun tm h => quintetlaw14_kept_l1_L Q k (mask [0, 1, 6, 7] tm) h) (maskQ (fun e => match e with | .exit 0 => [6] | _ => []) Q)) (mkTm [(0, some (.slice A8 l8 c8)), (1, some (.slice A9 l9 c9)), (6, some (.bool b10)), (7, some (.int .i64 x11))]) h := by kernel_rfl
theorem quintetlaw14_kept_l1_mask (Q : Qx) (k : Nat) (tm : Tm) (h : Hp) : quintetlaw14_kept_l1_L Q k tm h ↔ quintetlaw14_kept_l1_L Q k (mask [0, 1, 6, 7] tm) h := Iff.rfl
set_option maxRecDepth 100000 in
theorem quintetlaw14_kept_l1_snd : SndAt Try.prog 39 none (sub (bodyOf Try.f16) [true, true, true, false, true, false]) (quintetlaw14_kept_lp 122) := by
  refine loop_sound (lp := quintetlaw14_kept_lp) (cut := quintetlaw14_kept_cut) (i := 122) (c := (sub (bodyOf Try.f16) [true, true, true, false, true, false, false])) [0, 1, 6, 7] (fun e => match e with | .exit 0 => [6] | _ => []) quintetlaw14_kept_l1_L ?_ ?_ ?_
  · exact good_by (c := (sub (bodyOf Try.f16) [true, true, true, false, true, false, false])) (i := 244) (l := []) (by kernel_rfl) (fun _ h => by cases h)
  · intro Q tm h H
    obtain ⟨A8, l8, c8, e0, H⟩ := selS_ex H
    obtain ⟨A9, l9, c9, e1, H⟩ := selS_ex H
    obtain ⟨b10, e6, H⟩ := selB_ex H
    obtain ⟨x11, e7, H⟩ := selI_ex H
    exact H
  · intro Q k tm h H
    have H0 := H
    obtain ⟨A8, l8, c8, e0, H⟩ := selS_ex H
    obtain ⟨A9, l9, c9, e1, H⟩ := selS_ex H
    obtain ⟨b10, e6, H⟩ := selB_ex H
    obtain ⟨x11, e7, H⟩ := selI_ex H
    have e : mask [0, 1, 6, 7] tm = mkTm [(0, some (.slice A8 l8 c8)), (1, some (.slice A9 l9 c9)), (6, some (.bool b10)), (7, some (.int .i64 x11))] := by simp only [mask, List.map_cons, List.map_nil, e0, e1, e6, e7] <;> rfl
    rw [e]
    refine Eq.mp (quintetlaw14_kept_l1_step Q k A8 l8 c8 A9 l9 c9 b10 x11 h) ?_
    rw [← e]
    exact (quintetlaw14_kept_l1_mask Q (k + 1) tm h).mp H0
set_option maxRecDepth 100000 in
theorem quintetlaw14_kept_eq (A1 : Option Addr) (l1 : Nat) (c1 : Nat) (A2 : Option Addr) (l2 : Nat) (c2 : Nat) (h : Hp) (K : Value → Hp → Prop) : quintetlaw14_kept A1 l1 c1 A2 l2 c2 h K =
    codeWp Try.prog 39 quintetlaw14_kept_lp quintetlaw14_kept_cut (bodyOf Try.f16) 1 (endQ Try.prog Try.f16.results.toList K) (argTm [(.slice A1 l1 c1), (.slice A2 l2 c2)]) h := by kernel_rfl
set_option maxRecDepth 100000 in
theorem quintetlaw14_kept_ok (A1 : Option Addr) (l1 : Nat) (c1 : Nat) (A2 : Option Addr) (l2 : Nat) (c2 : Nat) {h : Hp} {K : Value → Hp → Prop} (H : quintetlaw14_kept A1 l1 c1 A2 l2 c2 h K) : CallsH Try.prog 16 #[(.slice A1 l1 c1), (.slice A2 l2 c2)] h K :=
  calls_of (args := [(.slice A1 l1 c1), (.slice A2 l2 c2)]) (n := 39) (lp := quintetlaw14_kept_lp) (cut := quintetlaw14_kept_cut) Try.func16 (c := bodyOf Try.f16) (by kernel_rfl) (by kernel_rfl) (by kernel_rfl) (good_by (c := (bodyOf Try.f16)) (i := 1) (l := [(122, (sub (bodyOf Try.f16) [true, true, true, false, true, false]))]) (by kernel_rfl) (List.forall_mem_cons.2 ⟨quintetlaw14_kept_l1_snd, (fun _ h => by cases h)⟩))
    (Eq.mp (quintetlaw14_kept_eq A1 l1 c1 A2 l2 c2 h K) H)

/-! ### quintet/quintetref14.Find: function 18 -/
def quintetref14_Find_l3 (A64 : Option Addr) (l64 : Nat) (c64 : Nat) (x65 : Int) (A66 : Option Addr) (l66 : Nat) (c66 : Nat) (x67 : Int) (x68 : Int) (A69 : Option Addr) (l69 : Nat) (c69 : Nat) (x70 : Int) (K0 : (Option Addr) → Nat → Nat → Int → (Option Addr) → Nat → Nat → Int → Int → (Option Addr) → Nat → Nat → Int → Int → Hp → Prop)  : Nat → Int → Int → Hp → Prop
  | 0, _, _, _ => False
  | k + 1, x71, x72, h =>
    br (decide (x72 < (l64 : Int)))
    (br (decide (x71 < 0))
    (∃ a87 : Addr, PV Try.prog (Instr.indexAt 25 (.slice A66 l66 c66) (.int .i64 x72)) (.pointer (some a87)) ∧
    ∃ x88 : Int, HV Try.prog (Instr.loadAt 3 (.pointer (some a87))) h (.int .i64 x88) ∧ 
    br (x88 == x70)
    (∃ a89 : Addr, PV Try.prog (Instr.indexAt 22 (.slice A64 l64 c64) (.int .i64 x72)) (.pointer (some a89)) ∧
    ∃ x90 : Int, HV Try.prog (Instr.loadAt 34 (.pointer (some a89))) h (.int .u16 x90) ∧ 
    br (decide (x90 ≤ x65))
    (∃ a91 : Addr, PV Try.prog (Instr.indexAt 22 (.slice A64 l64 c64) (.int .i64 x72)) (.pointer (some a91)) ∧
    ∃ x92 : Int, HV Try.prog (Instr.loadAt 34 (.pointer (some (a91.add 1)))) h (.int .u16 x92) ∧ 
    br (decide (x65 ≤ x92))
    (quintetref14_Find_l3 A64 l64 c64 x65 A66 l66 c66 x67 x68 A69 l69 c69 x70 K0 k x72 (IntKind.i64.wrap (x72 + 1)) h)
    (quintetref14_Find_l3 A64 l64 c64 x65 A66 l66 c66 x67 x68 A69 l69 c69 x70 K0 k x71 (IntKind.i64.wrap (x72 + 1)) h))
    (quintetref14_Find_l3 A64 l64 c64 x65 A66 l66 c66 x67 x68 A69 l69 c69 x70 K0 k x71 (IntKind.i64.wrap (x72 + 1)) h))
    (quintetref14_Find_l3 A64 l64 c64 x65 A66 l66 c66 x67 x68 A69 l69 c69 x70 K0 k x71 (IntKind.i64.wrap (x72 + 1)) h))
    (quintetref14_Find_l3 A64 l64 c64 x65 A66 l66 c66 x67 x68 A69 l69 c69 x70 K0 k x71 (IntKind.i64.wrap (x72 + 1)) h))
    (K0 A64 l64 c64 x65 A66 l66 c66 x67 x68 A69 l69 c69 x70 x71 h)
def quintetref14_Find_l3_L (Q : Qx) (k : Nat) (tm : Tm) (h : Hp) : Prop :=
  selS (tm 0) fun A64 l64 c64 =>
  selI .u16 (tm 1) fun x65 =>
  selS (tm 6) fun A66 l66 c66 =>
  selI .i64 (tm 7) fun x67 =>
  selI .i64 (tm 8) fun x68 =>
  selS (tm 10) fun A69 l69 c69 =>
  selI .i64 (tm 11) fun x70 =>
  selI .i64 (tm 12) fun x71 =>
  selI .i64 (tm 13) fun x72 =>
  quintetref14_Find_l3 A64 l64 c64 x65 A66 l66 c66 x67 x68 A69 l69 c69 x70 (fun (A79 : Option Addr) (l79 : Nat) (c79 : Nat) (x80 : Int) (A81 : Option Addr) (l81 : Nat) (c81 : Nat) (x82 : Int) (x83 : Int) (A84 : Option Addr) (l84 : Nat) (c84 : Nat) (x85 : Int) (x86 : Int) h => Q (.exit 2) (mkTm [(0, some (.slice A79 l79 c79)), (1, some (.int .u16 x80)), (6, some (.slice A81 l81 c81)), (7, some (.int .i64 x82)), (8, some (.int .i64 x83)), (10, some (.slice A84 l84 c84)), (11, some (.int .i64 x85)), (12, some (.int .i64 x86))]) h) k x71 x72 h
def quintetref14_Find_l2 (A11 : Option Addr) (l11 : Nat) (c11 : Nat) (x12 : Int) (A13 : Option Addr) (l13 : Nat) (c13 : Nat) (x14 : Int) (x15 : Int) (K0 : Int → (Option Addr) → Nat → Nat → Hp → Prop)  : Nat → (Option Addr) → Nat → Nat → Int → Hp → Prop
  | 0, _, _, _, _, _ => False
  | k + 1, A16, l16, c16, x17, h =>
    br (decide (x17 < x15))
    (∃ k107, quintetref14_Find_l3 A11 l11 c11 x12 A13 l13 c13 x14 x15 A16 l16 c16 x17
    (fun (A93 : Option Addr) (l93 : Nat) (c93 : Nat) (x94 : Int) (A95 : Option Addr) (l95 : Nat) (c95 : Nat) (x96 : Int) (x97 : Int) (A98 : Option Addr) (l98 : Nat) (c98 : Nat) (x99 : Int) (x100 : Int) (h101 : Hp) =>
    newC h101 (.cells #[(.int .i64 x100)] 3 (0, 0)) fun a103 h102 => 
    HW Try.prog (Builtin.append_ #[25, 25] 25 #[(.slice A98 l98 c98), (.slice (some a103) 1 1)]) h102 fun r105 h104 =>
    ∃ A106 : Option Addr, ∃ l106 : Nat, ∃ c106 : Nat, r105 = (.slice A106 l106 c106) ∧ 
    quintetref14_Find_l2 A11 l11 c11 x12 A13 l13 c13 x14 x15 K0 k A106 l106 c106 (IntKind.i64.wrap (x99 + 1)) h104)
    k107 (-1) 0 h)
    (K0 x14 A16 l16 c16 h)
def quintetref14_Find_l2_L (Q : Qx) (k : Nat) (tm : Tm) (h : Hp) : Prop :=
  selS (tm 0) fun A11 l11 c11 =>
  selI .u16 (tm 1) fun x12 =>
  selS (tm 6) fun A13 l13 c13 =>
  selI .i64 (tm 7) fun x14 =>
  selI .i64 (tm 8) fun x15 =>
  selS (tm 10) fun A16 l16 c16 =>
  selI .i64 (tm 11) fun x17 =>
  quintetref14_Find_l2 A11 l11 c11 x12 A13 l13 c13 x14 x15 (fun (x62 : Int) (A63 : Option Addr) (l63 : Nat) (c63 : Nat) h => Q (.exit 0) (mkTm [(7, some (.int .i64 x62)), (10, some (.slice A63 l63 c63))]) h) k A16 l16 c16 x17 h
def quintetref14_Find (A1 : Option Addr) (l1 : Nat) (c1 : Nat) (x2 : Int) (h : Hp) (K : Value → Hp → Prop) : Prop :=
  CallsH Try.prog 12 #[(.slice A1 l1 c1)] h fun r4 h3 =>
  ∃ A5 : Option Addr, ∃ l5 : Nat, ∃ c5 : Nat, ∃ x6 : Int, r4 = (.tuple #[(.slice A5 l5 c5), (.int .i64 x6)]) ∧ 
  CallsH Try.prog 15 #[(.slice A1 l1 c1)] h3 fun r8 h7 =>
  ∃ x9 : Int, ∃ x10 : Int, r8 = (.tuple #[(.int .i64 x9), (.int .i64 x10)]) ∧ 
  ∃ k111, quintetref14_Find_l2 A1 l1 c1 x2 A5 l5 c5 x6 x9
  (fun (x108 : Int) (A109 : Option Addr) (l109 : Nat) (c109 : Nat) (h110 : Hp) =>
  K (.tuple #[(.slice A109 l109 c109), (.int .i64 x108)]) h110)
  k111 none 0 0 0 h7
def quintetref14_Find_lp (i : Nat) (Q : Qx) (tm : Tm) (h : Hp) : Prop := match Nat.beq i 64074 with
  | true => ∃ k, quintetref14_Find_l3_L Q k tm h
  | false => match Nat.beq i 250 with
  | true => ∃ k, quintetref14_Find_l2_L Q k tm h
  | false => False
def quintetref14_Find_cut (i : Nat) : Option (List Nat) := none
set_option maxRecDepth 100000 in
theorem quintetref14_Find_l3_step (Q : Qx) (k : Nat) (A64 : Option Addr) (l64 : Nat) (c64 : Nat) (x65 : Int) (A66 : Option Addr) (l66 : Nat) (c66 : Nat) (x67 : Int) (x68 : Int) (A69 : Option Addr) (l69 : Nat) (c69 : Nat) (x70 : Int) (x71 : Int) (x72 : Int) (h : Hp) : quintetref14_Find_l3_L Q (k + 1) (mkTm [(0, some (.slice A64 l64 c64)), (1, some (.int .u16 x65)), (6, some (.slice A66 l66 c66)), (7, some (.int .i64 x67)), (8, some (.int .i64 x68)), (10, some (.slice A69 l69 c69)), (11, some (.int .i64 x70)), (12, some (.int .i64 x71)), (13, some (.int .i64 x72))]) h =
    codeWp Try.prog 70 quintetref14_Find_lp quintetref14_Find_cut (sub (bodyOf Try.f18) [true, true, true, true, false, true, false, false, true, false, false, true, false, true, false, false]) 128148 (thenQ (fun tm h => quintetref14_Find_l3_L Q k (mask [0, 1, 6, 7, 8, 10, 11, 12, 13] tm) h) (maskQ (fun e => match e with | .exit 2 => [0, 1, 6, 7, 8, 10, 11, 12] | _ => []) Q)) (mkTm [(0, some (.slice A64 l64 c64)), (1, some (.int .u16 x65)), (6, some (.slice A66 l66 c66)), (7, some (.int .i64 x67)), (8, some (.int .i64 x68)), (10, some (.slice A69 l69 c69)), (11, some (.int .i64 x70)), (12, some (.int .i64 x71)), (13, some (.int .i64 x72))]) h := by kernel_rfl
theorem quintetref14_Find_l3_mask (Q : Qx) (k : Nat) (tm : Tm) (h : Hp) : quintetref14_Find_l3_L Q k tm h ↔ quintetref14_Find_l3_L Q k (mask [0, 1, 6, 7, 8, 10, 11, 12, 13] tm) h := Iff.rfl
set_option maxRecDepth 100000 in
theorem quintetref14_Find_l3_snd : SndAt Try.prog 70 none (sub (bodyOf Try.f18) [true, true, true, true, false, true, false, false, true, false, false, true, false, true, false]) (quintetref14_Find_lp 64074) := by
  refine loop_sound (lp := quintetref14_Find_lp) (cut := quintetref14_Find_cut) (i := 64074) (c := (sub (bodyOf Try.f18) [true, true, true, true, false, true, false, false, true, false, false, true, false, true, false, false])) [0, 1, 6, 7, 8, 10, 11, 12, 13] (fun e => match e with | .exit 2 => [0, 1, 6, 7, 8, 10, 11, 12] | _ => []) quintetref14_Find_l3_L ?_ ?_ ?_
  · exact good_by (c := (sub (bodyOf Try.f18) [true, true, true, true, false, true, false, false, true, false, false, true, false, true, false, false])) (i := 128148) (l := []) (by kernel_rfl) (fun _ h => by cases h)
  · intro Q tm h H
    obtain ⟨A64, l64, c64, e0, H⟩ := selS_ex H
    obtain ⟨x65, e1, H⟩ := selI_ex H
    obtain ⟨A66, l66, c66, e6, H⟩ := selS_ex H
    obtain ⟨x67, e7, H⟩ := selI_ex H
    obtain ⟨x68, e8, H⟩ := selI_ex H
    obtain ⟨A69, l69, c69, e10, H⟩ := selS_ex H
    obtain ⟨x70, e11, H⟩ := selI_ex H
    obtain ⟨x71, e12, H⟩ := selI_ex H
    obtain ⟨x72, e13, H⟩ := selI_ex H
    exact H
  · intro Q k tm h H
    have H0 := H
    obtain ⟨A64, l64, c64, e0, H⟩ := selS_ex H
    obtain ⟨x65, e1, H⟩ := selI_ex H
    obtain ⟨A66, l66, c66, e6, H⟩ := selS_ex H
    obtain ⟨x67, e7, H⟩ := selI_ex H
    obtain ⟨x68, e8, H⟩ := selI_ex H
    obtain ⟨A69, l69, c69, e10, H⟩ := selS_ex H
    obtain ⟨x70, e11, H⟩ := selI_ex H
    obtain ⟨x71, e12, H⟩ := selI_ex H
    obtain ⟨x72, e13, H⟩ := selI_ex H
    have e : mask [0, 1, 6, 7, 8, 10, 11, 12, 13] tm = mkTm [(0, some (.slice A64 l64 c64)), (1, some (.int .u16 x65)), (6, some (.slice A66 l66 c66)), (7, some (.int .i64 x67)), (8, some (.int .i64 x68)), (10, some (.slice A69 l69 c69)), (11, some (.int .i64 x70)), (12, some (.int .i64 x71)), (13, some (.int .i64 x72))] := by simp only [mask, List.map_cons, List.map_nil, e0, e1, e6, e7, e8, e10, e11, e12, e13] <;> rfl
    rw [e]
    refine Eq.mp (quintetref14_Find_l3_step Q k A64 l64 c64 x65 A66 l66 c66 x67 x68 A69 l69 c69 x70 x71 x72 h) ?_
    rw [← e]
    exact (quintetref14_Find_l3_mask Q (k + 1) tm h).mp H0
set_option maxRecDepth 100000 in
theorem quintetref14_Find_l2_step (Q : Qx) (k : Nat) (A11 : Option Addr) (l11 : Nat) (c11 : Nat) (x12 : Int) (A13 : Option Addr) (l13 : Nat) (c13 : Nat) (x14 : Int) (x15 : Int) (A16 : Option Addr) (l16 : Nat) (c16 : Nat) (x17 : Int) (h : Hp) : quintetref14_Find_l2_L Q (k + 1) (mkTm [(0, some (.slice A11 l11 c11)), (1, some (.int .u16 x12)), (6, some (.slice A13 l13 c13)), (7, some (.int .i64 x14)), (8, some (.int .i64 x15)), (10, some (.slice A16 l16 c16)), (11, some (.int .i64 x17))]) h =
    codeWp Try.prog 70 quintetref14_Find_lp quintetref14_Find_cut (sub (bodyOf Try.f18) [true, true, true, true, false, true, false, false]) 500 (thenQ (fun tm h => quintetref14_Find_l2_L Q k (mask [0, 1, 6, 7, 8, 10, 11] tm) h) (maskQ (fun e => match e with | .exit 0 => [7, 10] | _ => []) Q)) (mkTm [(0, some (.slice A11 l11 c11)), (1, some (.int .u16 x12)), (6, some (.slice A13 l13 c13)), (7, some (.int .i64 x14)), (8, some (.int .i64 x15)), (10, some (.slice A16 l16 c16)), (11, some (.int .i64 x17))]) h := by kernel_rfl
theorem quintetref14_Find_l2_mask (Q : Qx) (k : Nat) (tm : Tm) (h : Hp) : quintetref14_Find_l2_L Q k tm h ↔ quintetref14_Find_l2_L Q k (mask [0, 1, 6, 7, 8, 10, 11] tm) h := Iff.rfl
set_option maxRecDepth 100000 in
theorem quintetref14_Find_l2_snd : SndAt Try.prog 70 none (sub (bodyOf Try.f18) [true, true, true, true, false, true, false]) (quintetref14_Find_lp 250) := by
  refine loop_sound (lp := quintetref14_Find_lp) (cut := quintetref14_Find_cut) (i := 250) (c := (sub (bodyOf Try.f18) [true, true, true, true, false, true, false, false])) [0, 1, 6, 7, 8, 10, 11] (fun e => match e with | .exit 0 => [7, 10] | _ => []) quintetref14_Find_l2_L ?_ ?_ ?_
  · exact good_by (c := (sub (bodyOf Try.f18) [true, true, true, true, false, true, false, false])) (i := 500) (l := [(64074, (sub (bodyOf Try.f18) [true, true, true, true, false, true, false, false, true, false, false, true, false, true, false]))]) (by kernel_rfl) (List.forall_mem_cons.2 ⟨quintetref14_Find_l3_snd, (fun _ h => by cases h)⟩)
  · intro Q tm h H
    obtain ⟨A11, l11, c11, e0, H⟩ := selS_ex H
    obtain ⟨x12, e1, H⟩ := selI_ex H
    obtain ⟨A13, l13, c13, e6, H⟩ := selS_ex H
    obtain ⟨x14, e7, H⟩ := selI_ex H
    obtain ⟨x15, e8, H⟩ := selI_ex H
    obtain ⟨A16, l16, c16, e10, H⟩ := selS_ex H
    obtain ⟨x17, e11, H⟩ := selI_ex H
    exact H
  · intro Q k tm h H
    have H0 := H
    obtain ⟨A11, l11, c11, e0, H⟩ := selS_ex H
    obtain ⟨x12, e1, H⟩ := selI_ex H
    obtain ⟨A13, l13, c13, e6, H⟩ := selS_ex H
    obtain ⟨x14, e7, H⟩ := selI_ex H
    obtain ⟨x15, e8, H⟩ := selI_ex H
    obtain ⟨A16, l16, c16, e10, H⟩ := selS_ex H
    obtain ⟨x17, e11, H⟩ := selI_ex H
    have e : mask [0, 1, 6, 7, 8, 10, 11] tm = mkTm [(0, some (.slice A11 l11 c11)), (1, some (.int .u16 x12)), (6, some (.slice A13 l13 c13)), (7, some (.int .i64 x14)), (8, some (.int .i64 x15)), (10, some (.slice A16 l16 c16)), (11, some (.int .i64 x17))] := by simp only [mask, List.map_cons, List.map_nil, e0, e1, e6, e7, e8, e10, e11] <;> rfl
    rw [e]
    refine Eq.mp (quintetref14_Find_l2_step Q k A11 l11 c11 x12 A13 l13 c13 x14 x15 A16 l16 c16 x17 h) ?_
    rw [← e]
    exact (quintetref14_Find_l2_mask Q (k + 1) tm h).mp H0
set_option maxRecDepth 100000 in
theorem quintetref14_Find_eq (A1 : Option Addr) (l1 : Nat) (c1 : Nat) (x2 : Int) (h : Hp) (K : Value → Hp → Prop) : quintetref14_Find A1 l1 c1 x2 h K =
    codeWp Try.prog 70 quintetref14_Find_lp quintetref14_Find_cut (bodyOf Try.f18) 1 (endQ Try.prog Try.f18.results.toList K) (argTm [(.slice A1 l1 c1), (.int .u16 x2)]) h := by kernel_rfl
set_option maxRecDepth 100000 in
theorem quintetref14_Find_ok (A1 : Option Addr) (l1 : Nat) (c1 : Nat) (x2 : Int) {h : Hp} {K : Value → Hp → Prop} (H : quintetref14_Find A1 l1 c1 x2 h K) : CallsH Try.prog 18 #[(.slice A1 l1 c1), (.int .u16 x2)] h K :=
  calls_of (args := [(.slice A1 l1 c1), (.int .u16 x2)]) (n := 70) (lp := quintetref14_Find_lp) (cut := quintetref14_Find_cut) Try.func18 (c := bodyOf Try.f18) (by kernel_rfl) (by kernel_rfl) (by kernel_rfl) (good_by (c := (bodyOf Try.f18)) (i := 1) (l := [(250, (sub (bodyOf Try.f18) [true, true, true, true, false, true, false]))]) (by kernel_rfl) (List.forall_mem_cons.2 ⟨quintetref14_Find_l2_snd, (fun _ h => by cases h)⟩))
    (Eq.mp (quintetref14_Find_eq A1 l1 c1 x2 h K) H)

/-! ### quintet/quintetref14.Wrong: function 19 -/
def quintetref14_Wrong_l1 (A2 : Option Addr) (l2 : Nat) (c2 : Nat) (K0 : Bool → Hp → Prop) (K1 : Hp → Prop)  : Nat → Int → Hp → Prop
  | 0, _, _ => False
  | k + 1, x3, h =>
    br (decide (x3 < (l2 : Int)))
    (∃ a9 : Addr, PV Try.prog (Instr.indexAt 22 (.slice A2 l2 c2) (.int .i64 x3)) (.pointer (some a9)) ∧
    ∃ x10 : Int, HV Try.prog (Instr.loadAt 34 (.pointer (some a9))) h (.int .u16 x10) ∧ 
    ∃ a11 : Addr, PV Try.prog (Instr.indexAt 22 (.slice A2 l2 c2) (.int .i64 x3)) (.pointer (some a11)) ∧
    ∃ x12 : Int, HV Try.prog (Instr.loadAt 34 (.pointer (some (a11.add 1)))) h (.int .u16 x12) ∧ 
    br (decide (x10 > x12))
    (K0 true h)
    (quintetref14_Wrong_l1 A2 l2 c2 K0 K1 k (IntKind.i64.wrap (x3 + 1)) h))
    (K1 h)
def quintetref14_Wrong_l1_L (Q : Qx) (k : Nat) (tm : Tm) (h : Hp) : Prop :=
  selS (tm 0) fun A2 l2 c2 =>
  selI .i64 (tm 3) fun x3 =>
  quintetref14_Wrong_l1 A2 l2 c2 (fun (b8 : Bool) h => Q (.ret) (mkTm [(2, some (.bool b8))]) h) (fun  h => Q (.exit 0) (mkTm []) h) k x3 h
def quintetref14_Wrong (A1 : Option Addr) (l1 : Nat) (c1 : Nat) (h : Hp) (K : Value → Hp → Prop) : Prop :=
  ∃ k16, quintetref14_Wrong_l1 A1 l1 c1
  (fun (b13 : Bool) (h14 : Hp) =>
  K (.bool b13) h14)
  (fun  (h15 : Hp) =>
  K (.bool false) h15)
  k16 0 h
def quintetref14_Wrong_lp (i : Nat) (Q : Qx) (tm : Tm) (h : Hp) : Prop := match Nat.beq i 26 with
  | true => ∃ k, quintetref14_Wrong_l1_L Q k tm h
  | false => False
def quintetref14_Wrong_cut (i : Nat) : Option (List Nat) := none
set_option maxRecDepth 100000 in
theorem quintetref14_Wrong_l1_step (Q : Qx) (k : Nat) (A2 : Option Addr) (l2 : Nat) (c2 : Nat) (x3 : Int) (h : Hp) : quintetref14_Wrong_l1_L Q (k + 1) (mkTm [(0, some (.slice A2 l2 c2)), (3, some (.int .i64 x3))]) h =
    codeWp Try.prog 21 quintetref14_Wrong_lp quintetref14_Wrong_cut (sub (bodyOf Try.f19) [true, false, true, false, false]) 52 (thenQ (fun tm h => quintetref14_Wrong_l1_L Q k (mask [0, 3] tm) h) (maskQ (fun e => match e with | .ret => [2] | .exit 0 => [] | _ => []) Q)) (mkTm [(0, some (.slice A2 l2 c2)), (3, some (.int .i64 x3))]) h := by kernel_rfl
theorem quintetref14_Wrong_l1_mask (Q : Qx) (k : Nat) (tm : Tm) (h : Hp) : quintetref14_Wrong_l1_L Q k tm h ↔ quintetref14_Wrong_l1_L Q k (mask [0, 3] tm) h := Iff.rfl
set_option maxRecDepth 100000 in
theorem quintetref14_Wrong_l1_snd : SndAt Try.prog 21 none (sub (bodyOf Try.f19) [true, false, true, false]) (quintetref14_Wrong_lp 26) := by
  refine loop_sound (lp := quintetref14_Wrong_lp) (cut := quintetref14_Wrong_cut) (i := 26) (c := (sub (bodyOf Try.f19) [true, false, true, false, false])) [0, 3] (fun e => match e with | .ret => [2] | .exit 0 => [] | _ => []) quintetref14_Wrong_l1_L ?_ ?_ ?_
  · exact good_by (c := (sub (bodyOf Try.f19) [true, false, true, false, false])) (i := 52) (l := []) (by kernel_rfl) (fun _ h => by cases h)
  · intro Q tm h H
    obtain ⟨A2, l2, c2, e0, H⟩ := selS_ex H
    obtain ⟨x3, e3, H⟩ := selI_ex H
    exact H
  · intro Q k tm h H
    have H0 := H
    obtain ⟨A2, l2, c2, e0, H⟩ := selS_ex H
    obtain ⟨x3, e3, H⟩ := selI_ex H
    have e : mask [0, 3] tm = mkTm [(0, some (.slice A2 l2 c2)), (3, some (.int .i64 x3))] := by simp only [mask, List.map_cons, List.map_nil, e0, e3] <;> rfl
    rw [e]
    refine Eq.mp (quintetref14_Wrong_l1_step Q k A2 l2 c2 x3 h) ?_
    rw [← e]
    exact (quintetref14_Wrong_l1_mask Q (k + 1) tm h).mp H0
set_option maxRecDepth 100000 in
theorem quintetref14_Wrong_eq (A1 : Option Addr) (l1 : Nat) (c1 : Nat) (h : Hp) (K : Value → Hp → Prop) : quintetref14_Wrong A1 l1 c1 h K =
    codeWp Try.prog 21 quintetref14_Wrong_lp quintetref14_Wrong_cut (bodyOf Try.f19) 1 (endQ Try.prog Try.f19.results.toList K) (argTm [(.slice A1 l1 c1)]) h := by kernel_rfl
set_option maxRecDepth 100000 in
theorem quintetref14_Wrong_ok (A1 : Option Addr) (l1 : Nat) (c1 : Nat) {h : Hp} {K : Value → Hp → Prop} (H : quintetref14_Wrong A1 l1 c1 h K) : CallsH Try.prog 19 #[(.slice A1 l1 c1)] h K :=
  calls_of (args := [(.slice A1 l1 c1)]) (n := 21) (lp := quintetref14_Wrong_lp) (cut := quintetref14_Wrong_cut) Try.func19 (c := bodyOf Try.f19) (by kernel_rfl) (by kernel_rfl) (by kernel_rfl) (good_by (c := (bodyOf Try.f19)) (i := 1) (l := [(26, (sub (bodyOf Try.f19) [true, false, true, false]))]) (by kernel_rfl) (List.forall_mem_cons.2 ⟨quintetref14_Wrong_l1_snd, (fun _ h => by cases h)⟩))
    (Eq.mp (quintetref14_Wrong_eq A1 l1 c1 h K) H)

/-! ### quintet/quintetref14.List: function 20 -/
def quintetref14_List_l3 (A59 : Option Addr) (l59 : Nat) (c59 : Nat) (x60 : Int) (K0 : Int → Hp → Prop) (K1 : (Option Addr) → Nat → Nat → Int → Hp → Prop)  : Nat → Int → Hp → Prop
  | 0, _, _ => False
  | k + 1, x61, h =>
    br (decide (x61 < x60))
    (∃ a69 : Addr, PV Try.prog (Instr.indexAt 39 (.slice A59 l59 c59) (.int .i64 x61)) (.pointer (some a69)) ∧
    ∃ x70 : Int, HV Try.prog (Instr.loadAt 3 (.pointer (some a69))) h (.int .i64 x70) ∧ 
    ∃ a71 : Addr, PV Try.prog (Instr.indexAt 39 (.slice A59 l59 c59) (.int .i64 x60)) (.pointer (some a71)) ∧
    ∃ x72 : Int, HV Try.prog (Instr.loadAt 3 (.pointer (some a71))) h (.int .i64 x72) ∧ 
    br (x70 == x72)
    (K0 111 h)
    (quintetref14_List_l3 A59 l59 c59 x60 K0 K1 k (IntKind.i64.wrap (x61 + 1)) h))
    (K1 A59 l59 c59 x60 h)
def quintetref14_List_l3_L (Q : Qx) (k : Nat) (tm : Tm) (h : Hp) : Prop :=
  selS (tm 0) fun A59 l59 c59 =>
  selI .i64 (tm 3) fun x60 =>
  selI .i64 (tm 6) fun x61 =>
  quintetref14_List_l3 A59 l59 c59 x60 (fun (x66 : Int) h => Q (.ret) (mkTm [(2, some (.int .i64 x66))]) h) (fun (A67 : Option Addr) (l67 : Nat) (c67 : Nat) (x68 : Int) h => Q (.exit 2) (mkTm [(0, some (.slice A67 l67 c67)), (3, some (.int .i64 x68))]) h) k x61 h
def quintetref14_List_l2 (A2 : Option Addr) (l2 : Nat) (c2 : Nat) (K0 : Int → Hp → Prop) (K1 : Hp → Prop)  : Nat → Int → Hp → Prop
  | 0, _, _ => False
  | k + 1, x3, h =>
    br (decide (x3 < (l2 : Int)))
    (∃ a42 : Addr, PV Try.prog (Instr.indexAt 39 (.slice A2 l2 c2) (.int .i64 x3)) (.pointer (some a42)) ∧
    ∃ x43 : Int, ∃ x44 : Int, ∃ x45 : Int, ∃ x46 : Int, ∃ x47 : Int, ∃ x48 : Int, ∃ x49 : Int, ∃ x50 : Int, ∃ x51 : Int, ∃ x52 : Int, ∃ x53 : Int, ∃ x54 : Int, HV Try.prog (Instr.loadAt 48 (.pointer (some a42))) h (.agg #[(.int .i64 x43), (.int .u32 x44), (.int .i64 x45), (.int .u32 x46), (.int .i64 x47), (.int .u16 x48), (.int .u16 x49), (.int .u16 x50), (.int .u16 x51), (.int .u8 x52), (.int .u8 x53), (.int .i64 x54)]) ∧ 
    CallsH Try.prog 32 #[(.agg #[(.int .i64 x43), (.int .u32 x44), (.int .i64 x45), (.int .u32 x46), (.int .i64 x47), (.int .u16 x48), (.int .u16 x49), (.int .u16 x50), (.int .u16 x51), (.int .u8 x52), (.int .u8 x53), (.int .i64 x54)])] h fun r56 h55 =>
    ∃ x57 : Int, ∃ x58 : Int, r56 = (.tuple #[(.int .i64 x57), (.int .i64 x58)]) ∧ 
    br (x57 != 0)
    (K0 x57 h55)
    (∃ k78, quintetref14_List_l3 A2 l2 c2 x3
    (fun (x73 : Int) (h74 : Hp) =>
    K0 x73 h74)
    (fun (A75 : Option Addr) (l75 : Nat) (c75 : Nat) (x76 : Int) (h77 : Hp) =>
    br (x76 == 64)
    (K0 113 h77)
    (quintetref14_List_l2 A2 l2 c2 K0 K1 k (IntKind.i64.wrap (x76 + 1)) h77))
    k78 0 h55))
    (K1 h)
def quintetref14_List_l2_L (Q : Qx) (k : Nat) (tm : Tm) (h : Hp) : Prop :=
  selS (tm 0) fun A2 l2 c2 =>
  selI .i64 (tm 3) fun x3 =>
  quintetref14_List_l2 A2 l2 c2 (fun (x41 : Int) h => Q (.ret) (mkTm [(2, some (.int .i64 x41))]) h) (fun  h => Q (.exit 0) (mkTm []) h) k x3 h
def quintetref14_List (A1 : Option Addr) (l1 : Nat) (c1 : Nat) (h : Hp) (K : Value → Hp → Prop) : Prop :=
  ∃ k82, quintetref14_List_l2 A1 l1 c1
  (fun (x79 : Int) (h80 : Hp) =>
  K (.int .i64 x79) h80)
  (fun  (h81 : Hp) =>
  K (.int .i64 0) h81)
  k82 0 h
def quintetref14_List_lp (i : Nat) (Q : Qx) (tm : Tm) (h : Hp) : Prop := match Nat.beq i 13466 with
  | true => ∃ k, quintetref14_List_l3_L Q k tm h
  | false => match Nat.beq i 26 with
  | true => ∃ k, quintetref14_List_l2_L Q k tm h
  | false => False
def quintetref14_List_cut (i : Nat) : Option (List Nat) := none
set_option maxRecDepth 100000 in
theorem quintetref14_List_l3_step (Q : Qx) (k : Nat) (A59 : Option Addr) (l59 : Nat) (c59 : Nat) (x60 : Int) (x61 : Int) (h : Hp) : quintetref14_List_l3_L Q (k + 1) (mkTm [(0, some (.slice A59 l59 c59)), (3, some (.int .i64 x60)), (6, some (.int .i64 x61))]) h =
    codeWp Try.prog 42 quintetref14_List_lp quintetref14_List_cut (sub (bodyOf Try.f20) [true, false, true, false, false, true, false, false, true, true, false, true, false, false]) 26932 (thenQ (fun tm h => quintetref14_List_l3_L Q k (mask [0, 3, 6] tm) h) (maskQ (fun e => match e with | .ret => [2] | .exit 2 => [0, 3] | _ => []) Q)) (mkTm [(0, some (.slice A59 l59 c59)), (3, some (.int .i64 x60)), (6, some (.int .i64 x61))]) h := by kernel_rfl
theorem quintetref14_List_l3_mask (Q : Qx) (k : Nat) (tm : Tm) (h : Hp) : quintetref14_List_l3_L Q k tm h ↔ quintetref14_List_l3_L Q k (mask [0, 3, 6] tm) h := Iff.rfl
set_option maxRecDepth 100000 in
theorem quintetref14_List_l3_snd : SndAt Try.prog 42 none (sub (bodyOf Try.f20) [true, false, true, false, false, true, false, false, true, true, false, true, false]) (quintetref14_List_lp 13466) := by
  refine loop_sound (lp := quintetref14_List_lp) (cut := quintetref14_List_cut) (i := 13466) (c := (sub (bodyOf Try.f20) [true, false, true, false, false, true, false, false, true, true, false, true, false, false])) [0, 3, 6] (fun e => match e with | .ret => [2] | .exit 2 => [0, 3] | _ => []) quintetref14_List_l3_L ?_ ?_ ?_
  · exact good_by (c := (sub (bodyOf Try.f20) [true, false, true, false, false, true, false, false, true, true, false, true, false, false])) (i := 26932) (l := []) (by kernel_rfl) (fun _ h => by cases h)
  · intro Q tm h H
    obtain ⟨A59, l59, c59, e0, H⟩ := selS_ex H
    obtain ⟨x60, e3, H⟩ := selI_ex H
    obtain ⟨x61, e6, H⟩ := selI_ex H
    exact H
  · intro Q k tm h H
    have H0 := H
    obtain ⟨A59, l59, c59, e0, H⟩ := selS_ex H
    obtain ⟨x60, e3, H⟩ := selI_ex H
    obtain ⟨x61, e6, H⟩ := selI_ex H
    have e : mask [0, 3, 6] tm = mkTm [(0, some (.slice A59 l59 c59)), (3, some (.int .i64 x60)), (6, some (.int .i64 x61))] := by simp only [mask, List.map_cons, List.map_nil, e0, e3, e6] <;> rfl
    rw [e]
    refine Eq.mp (quintetref14_List_l3_step Q k A59 l59 c59 x60 x61 h) ?_
    rw [← e]
    exact (quintetref14_List_l3_mask Q (k + 1) tm h).mp H0
set_option maxRecDepth 100000 in
theorem quintetref14_List_l2_step (Q : Qx) (k : Nat) (A2 : Option Addr) (l2 : Nat) (c2 : Nat) (x3 : Int) (h : Hp) : quintetref14_List_l2_L Q (k + 1) (mkTm [(0, some (.slice A2 l2 c2)), (3, some (.int .i64 x3))]) h =
    codeWp Try.prog 42 quintetref14_List_lp quintetref14_List_cut (sub (bodyOf Try.f20) [true, false, true, false, false]) 52 (thenQ (fun tm h => quintetref14_List_l2_L Q k (mask [0, 3] tm) h) (maskQ (fun e => match e with | .ret => [2] | .exit 0 => [] | _ => []) Q)) (mkTm [(0, some (.slice A2 l2 c2)), (3, some (.int .i64 x3))]) h := by kernel_rfl
theorem quintetref14_List_l2_mask (Q : Qx) (k : Nat) (tm : Tm) (h : Hp) : quintetref14_List_l2_L Q k tm h ↔ quintetref14_List_l2_L Q k (mask [0, 3] tm) h := Iff.rfl
set_option maxRecDepth 100000 in
theorem quintetref14_List_l2_snd : SndAt Try.prog 42 none (sub (bodyOf Try.f20) [true, false, true, false]) (quintetref14_List_lp 26) := by
  refine loop_sound (lp := quintetref14_List_lp) (cut := quintetref14_List_cut) (i := 26) (c := (sub (bodyOf Try.f20) [true, false, true, false, false])) [0, 3] (fun e => match e with | .ret => [2] | .exit 0 => [] | _ => []) quintetref14_List_l2_L ?_ ?_ ?_
  · exact good_by (c := (sub (bodyOf Try.f20) [true, false, true, false, false])) (i := 52) (l := [(13466, (sub (bodyOf Try.f20) [true, false, true, false, false, true, false, false, true, true, false, true, false]))]) (by kernel_rfl) (List.forall_mem_cons.2 ⟨quintetref14_List_l3_snd, (fun _ h => by cases h)⟩)
  · intro Q tm h H
    obtain ⟨A2, l2, c2, e0, H⟩ := selS_ex H
    obtain ⟨x3, e3, H⟩ := selI_ex H
    exact H
  · intro Q k tm h H
    have H0 := H
    obtain ⟨A2, l2, c2, e0, H⟩ := selS_ex H
    obtain ⟨x3, e3, H⟩ := selI_ex H
    have e : mask [0, 3] tm = mkTm [(0, some (.slice A2 l2 c2)), (3, some (.int .i64 x3))] := by simp only [mask, List.map_cons, List.map_nil, e0, e3] <;> rfl
    rw [e]
    refine Eq.mp (quintetref14_List_l2_step Q k A2 l2 c2 x3 h) ?_
    rw [← e]
    exact (quintetref14_List_l2_mask Q (k + 1) tm h).mp H0
set_option maxRecDepth 100000 in
theorem quintetref14_List_eq (A1 : Option Addr) (l1 : Nat) (c1 : Nat) (h : Hp) (K : Value → Hp → Prop) : quintetref14_List A1 l1 c1 h K =
    codeWp Try.prog 42 quintetref14_List_lp quintetref14_List_cut (bodyOf Try.f20) 1 (endQ Try.prog Try.f20.results.toList K) (argTm [(.slice A1 l1 c1)]) h := by kernel_rfl
set_option maxRecDepth 100000 in
theorem quintetref14_List_ok (A1 : Option Addr) (l1 : Nat) (c1 : Nat) {h : Hp} {K : Value → Hp → Prop} (H : quintetref14_List A1 l1 c1 h K) : CallsH Try.prog 20 #[(.slice A1 l1 c1)] h K :=
  calls_of (args := [(.slice A1 l1 c1)]) (n := 42) (lp := quintetref14_List_lp) (cut := quintetref14_List_cut) Try.func20 (c := bodyOf Try.f20) (by kernel_rfl) (by kernel_rfl) (by kernel_rfl) (good_by (c := (bodyOf Try.f20)) (i := 1) (l := [(26, (sub (bodyOf Try.f20) [true, false, true, false]))]) (by kernel_rfl) (List.forall_mem_cons.2 ⟨quintetref14_List_l2_snd, (fun _ h => by cases h)⟩))
    (Eq.mp (quintetref14_List_eq A1 l1 c1 h K) H)

/-! ### quintet/quintetref14.unlike: function 28 -/
def quintetref14_unlike_l18 (A481 : Option Addr) (l481 : Nat) (c481 : Nat) (A482 : Option Addr) (l482 : Nat) (c482 : Nat) (x483 : Int) (x484 : Int) (K0 : (Option Addr) → Nat → Nat → (Option Addr) → Nat → Nat → Int → Int → Hp → Prop)  : Nat → Int → Hp → Prop
  | 0, _, _ => False
  | k + 1, x485, h =>
    br (decide (x485 > x484))
    (∃ a495 : Addr, PV Try.prog (Instr.indexAt 22 (.slice A482 l482 c482) (.int .i64 (IntKind.i64.wrap (x485 - 1)))) (.pointer (some a495)) ∧
    ∃ x496 : Int, ∃ x497 : Int, HV Try.prog (Instr.loadAt 38 (.pointer (some a495))) h (.agg #[(.int .u16 x496), (.int .u16 x497)]) ∧ 
    ∃ a498 : Addr, PV Try.prog (Instr.indexAt 22 (.slice A482 l482 c482) (.int .i64 x485)) (.pointer (some a498)) ∧
    HU Try.prog (Instr.storeAt 38 (.pointer (some a498)) (.agg #[(.int .u16 x496), (.int .u16 x497)])) h fun h499 => 
    quintetref14_unlike_l18 A481 l481 c481 A482 l482 c482 x483 x484 K0 k (IntKind.i64.wrap (x485 - 1)) h499)
    (K0 A481 l481 c481 A482 l482 c482 x483 x484 h)
def quintetref14_unlike_l18_L (Q : Qx) (k : Nat) (tm : Tm) (h : Hp) : Prop :=
  selS (tm 0) fun A481 l481 c481 =>
  selS (tm 3) fun A482 l482 c482 =>
  selI .i64 (tm 4) fun x483 =>
  selI .i64 (tm 5) fun x484 =>
  selI .i64 (tm 6) fun x485 =>
  quintetref14_unlike_l18 A481 l481 c481 A482 l482 c482 x483 x484 (fun (A491 : Option Addr) (l491 : Nat) (c491 : Nat) (A492 : Option Addr) (l492 : Nat) (c492 : Nat) (x493 : Int) (x494 : Int) h => Q (.exit 4) (mkTm [(0, some (.slice A491 l491 c491)), (3, some (.slice A492 l492 c492)), (4, some (.int .i64 x493)), (5, some (.int .i64 x494))]) h) k x485 h
def quintetref14_unlike_j17 (K0 : (Option Addr) → Nat → Nat → (Option Addr) → Nat → Nat → Int → Hp → Prop) (A434 : Option Addr) (l434 : Nat) (c434 : Nat) (A435 : Option Addr) (l435 : Nat) (c435 : Nat) (x436 : Int) (x437 : Int) (h : Hp) : Prop :=
  newC h (.cells #[(.int .u16 0), (.int .u16 0)] 38 (0, 0)) fun a477 h476 => 
  HW Try.prog (Builtin.append_ #[22, 22] 22 #[(.slice A435 l435 c435), (.slice (some a477) 1 1)]) h476 fun r479 h478 =>
  ∃ A480 : Option Addr, ∃ l480 : Nat, ∃ c480 : Nat, r479 = (.slice A480 l480 c480) ∧ 
  ∃ k510, quintetref14_unlike_l18 A434 l434 c434 A480 l480 c480 x436 x437
  (fun (A500 : Option Addr) (l500 : Nat) (c500 : Nat) (A501 : Option Addr) (l501 : Nat) (c501 : Nat) (x502 : Int) (x503 : Int) (h504 : Hp) =>
  ∃ a505 : Addr, PV Try.prog (Instr.indexAt 22 (.slice A500 l500 c500) (.int .i64 x502)) (.pointer (some a505)) ∧
  ∃ x506 : Int, ∃ x507 : Int, HV Try.prog (Instr.loadAt 38 (.pointer (some a505))) h504 (.agg #[(.int .u16 x506), (.int .u16 x507)]) ∧ 
  ∃ a508 : Addr, PV Try.prog (Instr.indexAt 22 (.slice A501 l501 c501) (.int .i64 x503)) (.pointer (some a508)) ∧
  HU Try.prog (Instr.storeAt 38 (.pointer (some a508)) (.agg #[(.int .u16 x506), (.int .u16 x507)])) h504 fun h509 => 
  K0 A500 l500 c500 A501 l501 c501 x502 h509)
  k510 (IntKind.i64.wrap ((l480 : Int) - 1)) h478
def quintetref14_unlike_j17_L (Q : Qx) (tm : Tm) (h : Hp) : Prop :=
  selS (tm 0) fun A434 l434 c434 =>
  selS (tm 3) fun A435 l435 c435 =>
  selI .i64 (tm 4) fun x436 =>
  selI .i64 (tm 5) fun x437 =>
  quintetref14_unlike_j17 (fun (A473 : Option Addr) (l473 : Nat) (c473 : Nat) (A474 : Option Addr) (l474 : Nat) (c474 : Nat) (x475 : Int) h => Q (.normal) (mkTm [(0, some (.slice A473 l473 c473)), (3, some (.slice A474 l474 c474)), (4, some (.int .i64 x475))]) h) A434 l434 c434 A435 l435 c435 x436 x437 h
def quintetref14_unlike_j15 (K0 : (Option Addr) → Nat → Nat → (Option Addr) → Nat → Nat → Int → Hp → Prop) (K1 : (Option Addr) → Nat → Nat → (Option Addr) → Nat → Nat → Int → Hp → Prop) (A318 : Option Addr) (l318 : Nat) (c318 : Nat) (A319 : Option Addr) (l319 : Nat) (c319 : Nat) (x320 : Int) (x321 : Int) (h : Hp) : Prop :=
  br (decide (x321 < (l319 : Int)))
  (∃ a511 : Addr, PV Try.prog (Instr.indexAt 22 (.slice A319 l319 c319) (.int .i64 x321)) (.pointer (some a511)) ∧
  ∃ x512 : Int, ∃ x513 : Int, HV Try.prog (Instr.loadAt 38 (.pointer (some a511))) h (.agg #[(.int .u16 x512), (.int .u16 x513)]) ∧ 
  ∃ a514 : Addr, PV Try.prog (Instr.indexAt 22 (.slice A318 l318 c318) (.int .i64 x320)) (.pointer (some a514)) ∧
  ∃ x515 : Int, ∃ x516 : Int, HV Try.prog (Instr.loadAt 38 (.pointer (some a514))) h (.agg #[(.int .u16 x515), (.int .u16 x516)]) ∧ 
  ∃ b517 : Bool, PV Try.prog (binOp .eql 38 (.agg #[(.int .u16 x512), (.int .u16 x513)]) (.agg #[(.int .u16 x515), (.int .u16 x516)])) (.bool b517) ∧
  br b517
  (K0 A318 l318 c318 A319 l319 c319 x320 h)
  (quintetref14_unlike_j17
  (fun (A518 : Option Addr) (l518 : Nat) (c518 : Nat) (A519 : Option Addr) (l519 : Nat) (c519 : Nat) (x520 : Int) (h521 : Hp) =>
  K1 A518 l518 c518 A519 l519 c519 x520 h521)
  A318 l318 c318 A319 l319 c319 x320 x321 h))
  (quintetref14_unlike_j17
  (fun (A522 : Option Addr) (l522 : Nat) (c522 : Nat) (A523 : Option Addr) (l523 : Nat) (c523 : Nat) (x524 : Int) (h525 : Hp) =>
  K1 A522 l522 c522 A523 l523 c523 x524 h525)
  A318 l318 c318 A319 l319 c319 x320 x321 h)
def quintetref14_unlike_j15_L (Q : Qx) (tm : Tm) (h : Hp) : Prop :=
  selS (tm 0) fun A318 l318 c318 =>
  selS (tm 3) fun A319 l319 c319 =>
  selI .i64 (tm 4) fun x320 =>
  selI .i64 (tm 5) fun x321 =>
  quintetref14_unlike_j15 (fun (A421 : Option Addr) (l421 : Nat) (c421 : Nat) (A422 : Option Addr) (l422 : Nat) (c422 : Nat) (x423 : Int) h => Q (.exit 1) (mkTm [(0, some (.slice A421 l421 c421)), (3, some (.slice A422 l422 c422)), (4, some (.int .i64 x423))]) h) (fun (A424 : Option Addr) (l424 : Nat) (c424 : Nat) (A425 : Option Addr) (l425 : Nat) (c425 : Nat) (x426 : Int) h => Q (.normal) (mkTm [(0, some (.slice A424 l424 c424)), (3, some (.slice A425 l425 c425)), (4, some (.int .i64 x426))]) h) A318 l318 c318 A319 l319 c319 x320 x321 h
def quintetref14_unlike_l19 (A526 : Option Addr) (l526 : Nat) (c526 : Nat) (A527 : Option Addr) (l527 : Nat) (c527 : Nat) (x528 : Int) (K0 : (Option Addr) → Nat → Nat → (Option Addr) → Nat → Nat → Int → Int → Hp → Prop)  : Nat → Int → Hp → Prop
  | 0, _, _ => False
  | k + 1, x529, h =>
    br (decide (x529 < (l527 : Int)))
    (∃ a543 : Addr, PV Try.prog (Instr.indexAt 22 (.slice A527 l527 c527) (.int .i64 x529)) (.pointer (some a543)) ∧
    ∃ x544 : Int, ∃ x545 : Int, HV Try.prog (Instr.loadAt 38 (.pointer (some a543))) h (.agg #[(.int .u16 x544), (.int .u16 x545)]) ∧ 
    ∃ a546 : Addr, PV Try.prog (Instr.indexAt 22 (.slice A526 l526 c526) (.int .i64 x528)) (.pointer (some a546)) ∧
    ∃ x547 : Int, ∃ x548 : Int, HV Try.prog (Instr.loadAt 38 (.pointer (some a546))) h (.agg #[(.int .u16 x547), (.int .u16 x548)]) ∧ 
    CallsH Try.prog 51 #[(.agg #[(.int .u16 x544), (.int .u16 x545)]), (.agg #[(.int .u16 x547), (.int .u16 x548)])] h fun r550 h549 =>
    ∃ b551 : Bool, r550 = (.bool b551) ∧ 
    br b551
    (quintetref14_unlike_l19 A526 l526 c526 A527 l527 c527 x528 K0 k (IntKind.i64.wrap (x529 + 1)) h549)
    (K0 A526 l526 c526 A527 l527 c527 x528 x529 h549))
    (K0 A526 l526 c526 A527 l527 c527 x528 x529 h)
def quintetref14_unlike_l19_L (Q : Qx) (k : Nat) (tm : Tm) (h : Hp) : Prop :=
  selS (tm 0) fun A526 l526 c526 =>
  selS (tm 3) fun A527 l527 c527 =>
  selI .i64 (tm 4) fun x528 =>
  selI .i64 (tm 5) fun x529 =>
  quintetref14_unlike_l19 A526 l526 c526 A527 l527 c527 x528 (fun (A539 : Option Addr) (l539 : Nat) (c539 : Nat) (A540 : Option Addr) (l540 : Nat) (c540 : Nat) (x541 : Int) (x542 : Int) h => Q (.exit 2) (mkTm [(0, some (.slice A539 l539 c539)), (3, some (.slice A540 l540 c540)), (4, some (.int .i64 x541)), (5, some (.int .i64 x542))]) h) k x529 h
def quintetref14_unlike_l10 (A2 : Option Addr) (l2 : Nat) (c2 : Nat) (K0 : (Option Addr) → Nat → Nat → Hp → Prop)  : Nat → (Option Addr) → Nat → Nat → Int → Hp → Prop
  | 0, _, _, _, _, _ => False
  | k + 1, A3, l3, c3, x4, h =>
    br (decide (x4 < (l2 : Int)))
    (∃ k565, quintetref14_unlike_l19 A2 l2 c2 A3 l3 c3 x4
    (fun (A552 : Option Addr) (l552 : Nat) (c552 : Nat) (A553 : Option Addr) (l553 : Nat) (c553 : Nat) (x554 : Int) (x555 : Int) (h556 : Hp) =>
    quintetref14_unlike_j15
    (fun (A557 : Option Addr) (l557 : Nat) (c557 : Nat) (A558 : Option Addr) (l558 : Nat) (c558 : Nat) (x559 : Int) (h560 : Hp) =>
    quintetref14_unlike_l10 A2 l2 c2 K0 k A558 l558 c558 (IntKind.i64.wrap (x559 + 1)) h560)
    (fun (A561 : Option Addr) (l561 : Nat) (c561 : Nat) (A562 : Option Addr) (l562 : Nat) (c562 : Nat) (x563 : Int) (h564 : Hp) =>
    quintetref14_unlike_l10 A2 l2 c2 K0 k A562 l562 c562 (IntKind.i64.wrap (x563 + 1)) h564)
    A552 l552 c552 A553 l553 c553 x554 x555 h556)
    k565 0 h)
    (K0 A3 l3 c3 h)
def quintetref14_unlike_l10_L (Q : Qx) (k : Nat) (tm : Tm) (h : Hp) : Prop :=
  selS (tm 0) fun A2 l2 c2 =>
  selS (tm 3) fun A3 l3 c3 =>
  selI .i64 (tm 4) fun x4 =>
  quintetref14_unlike_l10 A2 l2 c2 (fun (A285 : Option Addr) (l285 : Nat) (c285 : Nat) h => Q (.exit 0) (mkTm [(3, some (.slice A285 l285 c285))]) h) k A3 l3 c3 x4 h
def quintetref14_unlike (A1 : Option Addr) (l1 : Nat) (c1 : Nat) (h : Hp) (K : Value → Hp → Prop) : Prop :=
  ∃ k568, quintetref14_unlike_l10 A1 l1 c1
  (fun (A566 : Option Addr) (l566 : Nat) (c566 : Nat) (h567 : Hp) =>
  K (.slice A566 l566 c566) h567)
  k568 none 0 0 0 h
def quintetref14_unlike_lp (i : Nat) (Q : Qx) (tm : Tm) (h : Hp) : Prop := match Nat.beq i 119418 with
  | true => ∃ k, quintetref14_unlike_l18_L Q k tm h
  | false => match Nat.beq i 3731 with
  | true => quintetref14_unlike_j17_L Q tm h
  | false => match Nat.beq i 1865 with
  | true => quintetref14_unlike_j15_L Q tm h
  | false => match Nat.beq i 7460 with
  | true => ∃ k, quintetref14_unlike_l19_L Q k tm h
  | false => match Nat.beq i 58 with
  | true => ∃ k, quintetref14_unlike_l10_L Q k tm h
  | false => False
def quintetref14_unlike_cut (i : Nat) : Option (List Nat) := match Nat.beq i 1865 with
  | true => some [0, 3, 4, 5]
  | false => match Nat.beq i 3731 with
  | true => some [0, 3, 4, 5]
  | false => none
set_option maxRecDepth 100000 in
theorem quintetref14_unlike_l18_step (Q : Qx) (k : Nat) (A481 : Option Addr) (l481 : Nat) (c481 : Nat) (A482 : Option Addr) (l482 : Nat) (c482 : Nat) (x483 : Int) (x484 : Int) (x485 : Int) (h : Hp) : quintetref14_unlike_l18_L Q (k + 1) (mkTm [(0, some (.slice A481 l481 c481)), (3, some (.slice A482 l482 c482)), (4, some (.int .i64 x483)), (5, some (.int .i64 x484)), (6, some (.int .i64 x485))]) h =
    codeWp Try.prog 73 quintetref14_unlike_lp quintetref14_unlike_cut (sub (bodyOf Try.f28) [true, true, false, true, false, false, true, false, false, true, true, true, true, false, true, false, false]) 238836 (thenQ (fun tm h => quintetref14_unlike_l18_L Q k (mask [0, 3, 4, 5, 6] tm) h) (maskQ (fun e => match e with | .exit 4 => [0, 3, 4, 5] | _ => []) Q)) (mkTm [(0, some (.slice A481 l481 c481)), (3, some (.slice A482 l482 c482)), (4, some (.int .i64 x483)), (5, some (.int .i64 x484)), (6, some (.int .i64 x485))]) h := by kernel_rfl
theorem quintetref14_unlike_l18_mask (Q : Qx) (k : Nat) (tm : Tm) (h : Hp) : quintetref14_unlike_l18_L Q k tm h ↔ quintetref14_unlike_l18_L Q k (mask [0, 3, 4, 5, 6] tm) h := Iff.rfl
set_option maxRecDepth 100000 in
theorem quintetref14_unlike_l18_snd : SndAt Try.prog 73 none (sub (bodyOf Try.f28) [true, true, false, true, false, false, true, false, false, true, true, true, true, false, true, false]) (quintetref14_unlike_lp 119418) := by
  refine loop_sound (lp := quintetref14_unlike_lp) (cut := quintetref14_unlike_cut) (i := 119418) (c := (sub (bodyOf Try.f28) [true, true, false, true, false, false, true, false, false, true, true, true, true, false, true, false, false])) [0, 3, 4, 5, 6] (fun e => match e with | .exit 4 => [0, 3, 4, 5] | _ => []) quintetref14_unlike_l18_L ?_ ?_ ?_
  · exact good_by (c := (sub (bodyOf Try.f28) [true, true, false, true, false, false, true, false, false, true, true, true, true, false, true, false, false])) (i := 238836) (l := []) (by kernel_rfl) (fun _ h => by cases h)
  · intro Q tm h H
    obtain ⟨A481, l481, c481, e0, H⟩ := selS_ex H
    obtain ⟨A482, l482, c482, e3, H⟩ := selS_ex H
    obtain ⟨x483, e4, H⟩ := selI_ex H
    obtain ⟨x484, e5, H⟩ := selI_ex H
    obtain ⟨x485, e6, H⟩ := selI_ex H
    exact H
  · intro Q k tm h H
    have H0 := H
    obtain ⟨A481, l481, c481, e0, H⟩ := selS_ex H
    obtain ⟨A482, l482, c482, e3, H⟩ := selS_ex H
    obtain ⟨x483, e4, H⟩ := selI_ex H
    obtain ⟨x484, e5, H⟩ := selI_ex H
    obtain ⟨x485, e6, H⟩ := selI_ex H
    have e : mask [0, 3, 4, 5, 6] tm = mkTm [(0, some (.slice A481 l481 c481)), (3, some (.slice A482 l482 c482)), (4, some (.int .i64 x483)), (5, some (.int .i64 x484)), (6, some (.int .i64 x485))] := by simp only [mask, List.map_cons, List.map_nil, e0, e3, e4, e5, e6] <;> rfl
    rw [e]
    refine Eq.mp (quintetref14_unlike_l18_step Q k A481 l481 c481 A482 l482 c482 x483 x484 x485 h) ?_
    rw [← e]
    exact (quintetref14_unlike_l18_mask Q (k + 1) tm h).mp H0
set_option maxRecDepth 100000 in
theorem quintetref14_unlike_j17_step (Q : Qx) (A434 : Option Addr) (l434 : Nat) (c434 : Nat) (A435 : Option Addr) (l435 : Nat) (c435 : Nat) (x436 : Int) (x437 : Int) (h : Hp) : quintetref14_unlike_j17_L Q (mkTm [(0, some (.slice A434 l434 c434)), (3, some (.slice A435 l435 c435)), (4, some (.int .i64 x436)), (5, some (.int .i64 x437))]) h =
    codeWp Try.prog 73 quintetref14_unlike_lp quintetref14_unlike_cut (sub (bodyOf Try.f28) [true, true, false, true, false, false, true, false, false, true, true, true]) 7463 (maskQ (fun e => match e with | .normal => [0, 3, 4] | _ => []) Q) (mkTm [(0, some (.slice A434 l434 c434)), (3, some (.slice A435 l435 c435)), (4, some (.int .i64 x436)), (5, some (.int .i64 x437))]) h := by kernel_rfl
theorem quintetref14_unlike_j17_mask (Q : Qx) (tm : Tm) (h : Hp) : quintetref14_unlike_j17_L Q tm h ↔ quintetref14_unlike_j17_L Q (mask [0, 3, 4, 5] tm) h := Iff.rfl
set_option maxRecDepth 100000 in
theorem quintetref14_unlike_j17_snd : SndAt Try.prog 73 none (sub (bodyOf Try.f28) [true, true, false, true, false, false, true, false, false, true, true, true]) (quintetref14_unlike_lp 3731) := by
  refine join_sound (lp := quintetref14_unlike_lp) (cut := quintetref14_unlike_cut) (i := 3731) (c := (sub (bodyOf Try.f28) [true, true, false, true, false, false, true, false, false, true, true, true])) [0, 3, 4, 5] (fun e => match e with | .normal => [0, 3, 4] | _ => []) quintetref14_unlike_j17_L ?_ ?_
  · exact good_by (c := (sub (bodyOf Try.f28) [true, true, false, true, false, false, true, false, false, true, true, true])) (i := 7463) (l := [(119418, (sub (bodyOf Try.f28) [true, true, false, true, false, false, true, false, false, true, true, true, true, false, true, false]))]) (by kernel_rfl) (List.forall_mem_cons.2 ⟨quintetref14_unlike_l18_snd, (fun _ h => by cases h)⟩)
  · intro Q tm h H
    have H0 := H
    obtain ⟨A434, l434, c434, e0, H⟩ := selS_ex H
    obtain ⟨A435, l435, c435, e3, H⟩ := selS_ex H
    obtain ⟨x436, e4, H⟩ := selI_ex H
    obtain ⟨x437, e5, H⟩ := selI_ex H
    have e : mask [0, 3, 4, 5] tm = mkTm [(0, some (.slice A434 l434 c434)), (3, some (.slice A435 l435 c435)), (4, some (.int .i64 x436)), (5, some (.int .i64 x437))] := by simp only [mask, List.map_cons, List.map_nil, e0, e3, e4, e5] <;> rfl
    rw [e]
    refine Eq.mp (quintetref14_unlike_j17_step Q A434 l434 c434 A435 l435 c435 x436 x437 h) ?_
    rw [← e]
    exact (quintetref14_unlike_j17_mask Q tm h).mp H0
set_option maxRecDepth 100000 in
theorem quintetref14_unlike_j15_step (Q : Qx) (A318 : Option Addr) (l318 : Nat) (c318 : Nat) (A319 : Option Addr) (l319 : Nat) (c319 : Nat) (x320 : Int) (x321 : Int) (h : Hp) : quintetref14_unlike_j15_L Q (mkTm [(0, some (.slice A318 l318 c318)), (3, some (.slice A319 l319 c319)), (4, some (.int .i64 x320)), (5, some (.int .i64 x321))]) h =
    codeWp Try.prog 73 quintetref14_unlike_lp quintetref14_unlike_cut (sub (bodyOf Try.f28) [true, true, false, true, false, false, true, false, false, true, true]) 3731 (maskQ (fun e => match e with | .exit 1 => [0, 3, 4] | .normal => [0, 3, 4] | _ => []) Q) (mkTm [(0, some (.slice A318 l318 c318)), (3, some (.slice A319 l319 c319)), (4, some (.int .i64 x320)), (5, some (.int .i64 x321))]) h := by kernel_rfl
theorem quintetref14_unlike_j15_mask (Q : Qx) (tm : Tm) (h : Hp) : quintetref14_unlike_j15_L Q tm h ↔ quintetref14_unlike_j15_L Q (mask [0, 3, 4, 5] tm) h := Iff.rfl
set_option maxRecDepth 100000 in
theorem quintetref14_unlike_j15_snd : SndAt Try.prog 73 none (sub (bodyOf Try.f28) [true, true, false, true, false, false, true, false, false, true, true]) (quintetref14_unlike_lp 1865) := by
  refine join_sound (lp := quintetref14_unlike_lp) (cut := quintetref14_unlike_cut) (i := 1865) (c := (sub (bodyOf Try.f28) [true, true, false, true, false, false, true, false, false, true, true])) [0, 3, 4, 5] (fun e => match e with | .exit 1 => [0, 3, 4] | .normal => [0, 3, 4] | _ => []) quintetref14_unlike_j15_L ?_ ?_
  · exact good_by (c := (sub (bodyOf Try.f28) [true, true, false, true, false, false, true, false, false, true, true])) (i := 3731) (l := [(3731, (sub (bodyOf Try.f28) [true, true, false, true, false, false, true, false, false, true, true, true]))]) (by kernel_rfl) (List.forall_mem_cons.2 ⟨quintetref14_unlike_j17_snd, (fun _ h => by cases h)⟩)
  · intro Q tm h H
    have H0 := H
    obtain ⟨A318, l318, c318, e0, H⟩ := selS_ex H
    obtain ⟨A319, l319, c319, e3, H⟩ := selS_ex H
    obtain ⟨x320, e4, H⟩ := selI_ex H
    obtain ⟨x321, e5, H⟩ := selI_ex H
    have e : mask [0, 3, 4, 5] tm = mkTm [(0, some (.slice A318 l318 c318)), (3, some (.slice A319 l319 c319)), (4, some (.int .i64 x320)), (5, some (.int .i64 x321))] := by simp only [mask, List.map_cons, List.map_nil, e0, e3, e4, e5] <;> rfl
    rw [e]
    refine Eq.mp (quintetref14_unlike_j15_step Q A318 l318 c318 A319 l319 c319 x320 x321 h) ?_
    rw [← e]
    exact (quintetref14_unlike_j15_mask Q tm h).mp H0
set_option maxRecDepth 100000 in
theorem quintetref14_unlike_l19_step (Q : Qx) (k : Nat) (A526 : Option Addr) (l526 : Nat) (c526 : Nat) (A527 : Option Addr) (l527 : Nat) (c527 : Nat) (x528 : Int) (x529 : Int) (h : Hp) : quintetref14_unlike_l19_L Q (k + 1) (mkTm [(0, some (.slice A526 l526 c526)), (3, some (.slice A527 l527 c527)), (4, some (.int .i64 x528)), (5, some (.int .i64 x529))]) h =
    codeWp Try.prog 73 quintetref14_unlike_lp quintetref14_unlike_cut (sub (bodyOf Try.f28) [true, true, false, true, false, false, true, false, false, true, false, false, false]) 14920 (thenQ (fun tm h => quintetref14_unlike_l19_L Q k (mask [0, 3, 4, 5] tm) h) (maskQ (fun e => match e with | .exit 2 => [0, 3, 4, 5] | _ => []) Q)) (mkTm [(0, some (.slice A526 l526 c526)), (3, some (.slice A527 l527 c527)), (4, some (.int .i64 x528)), (5, some (.int .i64 x529))]) h := by kernel_rfl
theorem quintetref14_unlike_l19_mask (Q : Qx) (k : Nat) (tm : Tm) (h : Hp) : quintetref14_unlike_l19_L Q k tm h ↔ quintetref14_unlike_l19_L Q k (mask [0, 3, 4, 5] tm) h := Iff.rfl
set_option maxRecDepth 100000 in
theorem quintetref14_unlike_l19_snd : SndAt Try.prog 73 none (sub (bodyOf Try.f28) [true, true, false, true, false, false, true, false, false, true, false, false]) (quintetref14_unlike_lp 7460) := by
  refine loop_sound (lp := quintetref14_unlike_lp) (cut := quintetref14_unlike_cut) (i := 7460) (c := (sub (bodyOf Try.f28) [true, true, false, true, false, false, true, false, false, true, false, false, false])) [0, 3, 4, 5] (fun e => match e with | .exit 2 => [0, 3, 4, 5] | _ => []) quintetref14_unlike_l19_L ?_ ?_ ?_
  · exact good_by (c := (sub (bodyOf Try.f28) [true, true, false, true, false, false, true, false, false, true, false, false, false])) (i := 14920) (l := []) (by kernel_rfl) (fun _ h => by cases h)
  · intro Q tm h H
    obtain ⟨A526, l526, c526, e0, H⟩ := selS_ex H
    obtain ⟨A527, l527, c527, e3, H⟩ := selS_ex H
    obtain ⟨x528, e4, H⟩ := selI_ex H
    obtain ⟨x529, e5, H⟩ := selI_ex H
    exact H
  · intro Q k tm h H
    have H0 := H
    obtain ⟨A526, l526, c526, e0, H⟩ := selS_ex H
    obtain ⟨A527, l527, c527, e3, H⟩ := selS_ex H
    obtain ⟨x528, e4, H⟩ := selI_ex H
    obtain ⟨x529, e5, H⟩ := selI_ex H
    have e : mask [0, 3, 4, 5] tm = mkTm [(0, some (.slice A526 l526 c526)), (3, some (.slice A527 l527 c527)), (4, some (.int .i64 x528)), (5, some (.int .i64 x529))] := by simp only [mask, List.map_cons, List.map_nil, e0, e3, e4, e5] <;> rfl
    rw [e]
    refine Eq.mp (quintetref14_unlike_l19_step Q k A526 l526 c526 A527 l527 c527 x528 x529 h) ?_
    rw [← e]
    exact (quintetref14_unlike_l19_mask Q (k + 1) tm h).mp H0
set_option maxRecDepth 100000 in
theorem quintetref14_unlike_l10_step (Q : Qx) (k : Nat) (A2 : Option Addr) (l2 : Nat) (c2 : Nat) (A3 : Option Addr) (l3 : Nat) (c3 : Nat) (x4 : Int) (h : Hp) : quintetref14_unlike_l10_L Q (k + 1) (mkTm [(0, some (.slice A2 l2 c2)), (3, some (.slice A3 l3 c3)), (4, some (.int .i64 x4))]) h =
    codeWp Try.prog 73 quintetref14_unlike_lp quintetref14_unlike_cut (sub (bodyOf Try.f28) [true, true, false, true, false, false]) 116 (thenQ (fun tm h => quintetref14_unlike_l10_L Q k (mask [0, 3, 4] tm) h) (maskQ (fun e => match e with | .exit 0 => [3] | _ => []) Q)) (mkTm [(0, some (.slice A2 l2 c2)), (3, some (.slice A3 l3 c3)), (4, some (.int .i64 x4))]) h := by kernel_rfl
theorem quintetref14_unlike_l10_mask (Q : Qx) (k : Nat) (tm : Tm) (h : Hp) : quintetref14_unlike_l10_L Q k tm h ↔ quintetref14_unlike_l10_L Q k (mask [0, 3, 4] tm) h := Iff.rfl
set_option maxRecDepth 100000 in
theorem quintetref14_unlike_l10_snd : SndAt Try.prog 73 none (sub (bodyOf Try.f28) [true, true, false, true, false]) (quintetref14_unlike_lp 58) := by
  refine loop_sound (lp := quintetref14_unlike_lp) (cut := quintetref14_unlike_cut) (i := 58) (c := (sub (bodyOf Try.f28) [true, true, false, true, false, false])) [0, 3, 4] (fun e => match e with | .exit 0 => [3] | _ => []) quintetref14_unlike_l10_L ?_ ?_ ?_
  · exact good_by (c := (sub (bodyOf Try.f28) [true, true, false, true, false, false])) (i := 116) (l := [(7460, (sub (bodyOf Try.f28) [true, true, false, true, false, false, true, false, false, true, false, false])), (1865, (sub (bodyOf Try.f28) [true, true, false, true, false, false, true, false, false, true, true]))]) (by kernel_rfl) (List.forall_mem_cons.2 ⟨quintetref14_unlike_l19_snd, (List.forall_mem_cons.2 ⟨quintetref14_unlike_j15_snd, (fun _ h => by cases h)⟩)⟩)
  · intro Q tm h H
    obtain ⟨A2, l2, c2, e0, H⟩ := selS_ex H
    obtain ⟨A3, l3, c3, e3, H⟩ := selS_ex H
    obtain ⟨x4, e4, H⟩ := selI_ex H
    exact H
  · intro Q k tm h H
    have H0 := H
    obtain ⟨A2, l2, c2, e0, H⟩ := selS_ex H
    obtain ⟨A3, l3, c3, e3, H⟩ := selS_ex H
    obtain ⟨x4, e4, H⟩ := selI_ex H
    have e : mask [0, 3, 4] tm = mkTm [(0, some (.slice A2 l2 c2)), (3, some (.slice A3 l3 c3)), (4, some (.int .i64 x4))] := by simp only [mask, List.map_cons, List.map_nil, e0, e3, e4] <;> rfl
    rw [e]
    refine Eq.mp (quintetref14_unlike_l10_step Q k A2 l2 c2 A3 l3 c3 x4 h) ?_
    rw [← e]
    exact (quintetref14_unlike_l10_mask Q (k + 1) tm h).mp H0
set_option maxRecDepth 100000 in
theorem quintetref14_unlike_eq (A1 : Option Addr) (l1 : Nat) (c1 : Nat) (h : Hp) (K : Value → Hp → Prop) : quintetref14_unlike A1 l1 c1 h K =
    codeWp Try.prog 73 quintetref14_unlike_lp quintetref14_unlike_cut (bodyOf Try.f28) 1 (endQ Try.prog Try.f28.results.toList K) (argTm [(.slice A1 l1 c1)]) h := by kernel_rfl
set_option maxRecDepth 100000 in
theorem quintetref14_unlike_ok (A1 : Option Addr) (l1 : Nat) (c1 : Nat) {h : Hp} {K : Value → Hp → Prop} (H : quintetref14_unlike A1 l1 c1 h K) : CallsH Try.prog 28 #[(.slice A1 l1 c1)] h K :=
  calls_of (args := [(.slice A1 l1 c1)]) (n := 73) (lp := quintetref14_unlike_lp) (cut := quintetref14_unlike_cut) Try.func28 (c := bodyOf Try.f28) (by kernel_rfl) (by kernel_rfl) (by kernel_rfl) (good_by (c := (bodyOf Try.f28)) (i := 1) (l := [(58, (sub (bodyOf Try.f28) [true, true, false, true, false]))]) (by kernel_rfl) (List.forall_mem_cons.2 ⟨quintetref14_unlike_l10_snd, (fun _ h => by cases h)⟩))
    (Eq.mp (quintetref14_unlike_eq A1 l1 c1 h K) H)

/-! ### quintet/quintetref14.levels: function 29 -/
def quintetref14_levels_l3 (A48 : Option Addr) (l48 : Nat) (c48 : Nat) (A49 : Option Addr) (l49 : Nat) (c49 : Nat) (x50 : Int) (K0 : (Option Addr) → Nat → Nat → (Option Addr) → Nat → Nat → Int → Int → Hp → Prop)  : Nat → Int → Int → Hp → Prop
  | 0, _, _, _ => False
  | k + 1, x51, x52, h =>
    br (decide (x52 < x50))
    (∃ a68 : Addr, PV Try.prog (Instr.indexAt 25 (.slice A49 l49 c49) (.int .i64 x52)) (.pointer (some a68)) ∧
    ∃ x69 : Int, HV Try.prog (Instr.loadAt 3 (.pointer (some a68))) h (.int .i64 x69) ∧ 
    br (x69 == x51)
    (∃ a70 : Addr, PV Try.prog (Instr.indexAt 22 (.slice A48 l48 c48) (.int .i64 x52)) (.pointer (some a70)) ∧
    ∃ x71 : Int, ∃ x72 : Int, HV Try.prog (Instr.loadAt 38 (.pointer (some a70))) h (.agg #[(.int .u16 x71), (.int .u16 x72)]) ∧ 
    ∃ a73 : Addr, PV Try.prog (Instr.indexAt 22 (.slice A48 l48 c48) (.int .i64 x50)) (.pointer (some a73)) ∧
    ∃ x74 : Int, ∃ x75 : Int, HV Try.prog (Instr.loadAt 38 (.pointer (some a73))) h (.agg #[(.int .u16 x74), (.int .u16 x75)]) ∧ 
    CallsH Try.prog 52 #[(.agg #[(.int .u16 x71), (.int .u16 x72)]), (.agg #[(.int .u16 x74), (.int .u16 x75)])] h fun r77 h76 =>
    ∃ b78 : Bool, r77 = (.bool b78) ∧ 
    br b78
    (quintetref14_levels_l3 A48 l48 c48 A49 l49 c49 x50 K0 k (IntKind.i64.wrap (x51 + 1)) (IntKind.i64.wrap ((-1) + 1)) h76)
    (quintetref14_levels_l3 A48 l48 c48 A49 l49 c49 x50 K0 k x51 (IntKind.i64.wrap (x52 + 1)) h76))
    (quintetref14_levels_l3 A48 l48 c48 A49 l49 c49 x50 K0 k x51 (IntKind.i64.wrap (x52 + 1)) h))
    (K0 A48 l48 c48 A49 l49 c49 x50 x51 h)
def quintetref14_levels_l3_L (Q : Qx) (k : Nat) (tm : Tm) (h : Hp) : Prop :=
  selS (tm 0) fun A48 l48 c48 =>
  selS (tm 3) fun A49 l49 c49 =>
  selI .i64 (tm 4) fun x50 =>
  selI .i64 (tm 5) fun x51 =>
  selI .i64 (tm 6) fun x52 =>
  quintetref14_levels_l3 A48 l48 c48 A49 l49 c49 x50 (fun (A64 : Option Addr) (l64 : Nat) (c64 : Nat) (A65 : Option Addr) (l65 : Nat) (c65 : Nat) (x66 : Int) (x67 : Int) h => Q (.exit 2) (mkTm [(0, some (.slice A64 l64 c64)), (3, some (.slice A65 l65 c65)), (4, some (.int .i64 x66)), (5, some (.int .i64 x67))]) h) k x51 x52 h
def quintetref14_levels_l2 (A2 : Option Addr) (l2 : Nat) (c2 : Nat) (K0 : (Option Addr) → Nat → Nat → Hp → Prop)  : Nat → (Option Addr) → Nat → Nat → Int → Hp → Prop
  | 0, _, _, _, _, _ => False
  | k + 1, A3, l3, c3, x4, h =>
    br (decide (x4 < (l2 : Int)))
    (∃ k89, quintetref14_levels_l3 A2 l2 c2 A3 l3 c3 x4
    (fun (A79 : Option Addr) (l79 : Nat) (c79 : Nat) (A80 : Option Addr) (l80 : Nat) (c80 : Nat) (x81 : Int) (x82 : Int) (h83 : Hp) =>
    newC h83 (.cells #[(.int .i64 x82)] 3 (0, 0)) fun a85 h84 => 
    HW Try.prog (Builtin.append_ #[25, 25] 25 #[(.slice A80 l80 c80), (.slice (some a85) 1 1)]) h84 fun r87 h86 =>
    ∃ A88 : Option Addr, ∃ l88 : Nat, ∃ c88 : Nat, r87 = (.slice A88 l88 c88) ∧ 
    quintetref14_levels_l2 A2 l2 c2 K0 k A88 l88 c88 (IntKind.i64.wrap (x81 + 1)) h86)
    k89 0 0 h)
    (K0 A3 l3 c3 h)
def quintetref14_levels_l2_L (Q : Qx) (k : Nat) (tm : Tm) (h : Hp) : Prop :=
  selS (tm 0) fun A2 l2 c2 =>
  selS (tm 3) fun A3 l3 c3 =>
  selI .i64 (tm 4) fun x4 =>
  quintetref14_levels_l2 A2 l2 c2 (fun (A47 : Option Addr) (l47 : Nat) (c47 : Nat) h => Q (.exit 0) (mkTm [(3, some (.slice A47 l47 c47))]) h) k A3 l3 c3 x4 h
def quintetref14_levels (A1 : Option Addr) (l1 : Nat) (c1 : Nat) (h : Hp) (K : Value → Hp → Prop) : Prop :=
  ∃ k92, quintetref14_levels_l2 A1 l1 c1
  (fun (A90 : Option Addr) (l90 : Nat) (c90 : Nat) (h91 : Hp) =>
  K (.slice A90 l90 c90) h91)
  k92 none 0 0 0 h
def quintetref14_levels_lp (i : Nat) (Q : Qx) (tm : Tm) (h : Hp) : Prop := match Nat.beq i 14922 with
  | true => ∃ k, quintetref14_levels_l3_L Q k tm h
  | false => match Nat.beq i 58 with
  | true => ∃ k, quintetref14_levels_l2_L Q k tm h
  | false => False
def quintetref14_levels_cut (i : Nat) : Option (List Nat) := none
set_option maxRecDepth 100000 in
theorem quintetref14_levels_l3_step (Q : Qx) (k : Nat) (A48 : Option Addr) (l48 : Nat) (c48 : Nat) (A49 : Option Addr) (l49 : Nat) (c49 : Nat) (x50 : Int) (x51 : Int) (x52 : Int) (h : Hp) : quintetref14_levels_l3_L Q (k + 1) (mkTm [(0, some (.slice A48 l48 c48)), (3, some (.slice A49 l49 c49)), (4, some (.int .i64 x50)), (5, some (.int .i64 x51)), (6, some (.int .i64 x52))]) h =
    codeWp Try.prog 42 quintetref14_levels_lp quintetref14_levels_cut (sub (bodyOf Try.f29) [true, true, false, true, false, false, true, false, false, true, false, true, false, false]) 29844 (thenQ (fun tm h => quintetref14_levels_l3_L Q k (mask [0, 3, 4, 5, 6] tm) h) (maskQ (fun e => match e with | .exit 2 => [0, 3, 4, 5] | _ => []) Q)) (mkTm [(0, some (.slice A48 l48 c48)), (3, some (.slice A49 l49 c49)), (4, some (.int .i64 x50)), (5, some (.int .i64 x51)), (6, some (.int .i64 x52))]) h := by kernel_rfl
theorem quintetref14_levels_l3_mask (Q : Qx) (k : Nat) (tm : Tm) (h : Hp) : quintetref14_levels_l3_L Q k tm h ↔ quintetref14_levels_l3_L Q k (mask [0, 3, 4, 5, 6] tm) h := Iff.rfl
set_option maxRecDepth 100000 in
theorem quintetref14_levels_l3_snd : SndAt Try.prog 42 none (sub (bodyOf Try.f29) [true, true, false, true, false, false, true, false, false, true, false, true, false]) (quintetref14_levels_lp 14922) := by
  refine loop_sound (lp := quintetref14_levels_lp) (cut := quintetref14_levels_cut) (i := 14922) (c := (sub (bodyOf Try.f29) [true, true, false, true, false, false, true, false, false, true, false, true, false, false])) [0, 3, 4, 5, 6] (fun e => match e with | .exit 2 => [0, 3, 4, 5] | _ => []) quintetref14_levels_l3_L ?_ ?_ ?_
  · exact good_by (c := (sub (bodyOf Try.f29) [true, true, false, true, false, false, true, false, false, true, false, true, false, false])) (i := 29844) (l := []) (by kernel_rfl) (fun _ h => by cases h)
  · intro Q tm h H
    obtain ⟨A48, l48, c48, e0, H⟩ := selS_ex H
    obtain ⟨A49, l49, c49, e3, H⟩ := selS_ex H
    obtain ⟨x50, e4, H⟩ := selI_ex H
    obtain ⟨x51, e5, H⟩ := selI_ex H
    obtain ⟨x52, e6, H⟩ := selI_ex H
    exact H
  · intro Q k tm h H
    have H0 := H
    obtain ⟨A48, l48, c48, e0, H⟩ := selS_ex H
    obtain ⟨A49, l49, c49, e3, H⟩ := selS_ex H
    obtain ⟨x50, e4, H⟩ := selI_ex H
    obtain ⟨x51, e5, H⟩ := selI_ex H
    obtain ⟨x52, e6, H⟩ := selI_ex H
    have e : mask [0, 3, 4, 5, 6] tm = mkTm [(0, some (.slice A48 l48 c48)), (3, some (.slice A49 l49 c49)), (4, some (.int .i64 x50)), (5, some (.int .i64 x51)), (6, some (.int .i64 x52))] := by simp only [mask, List.map_cons, List.map_nil, e0, e3, e4, e5, e6] <;> rfl
    rw [e]
    refine Eq.mp (quintetref14_levels_l3_step Q k A48 l48 c48 A49 l49 c49 x50 x51 x52 h) ?_
    rw [← e]
    exact (quintetref14_levels_l3_mask Q (k + 1) tm h).mp H0
set_option maxRecDepth 100000 in
theorem quintetref14_levels_l2_step (Q : Qx) (k : Nat) (A2 : Option Addr) (l2 : Nat) (c2 : Nat) (A3 : Option Addr) (l3 : Nat) (c3 : Nat) (x4 : Int) (h : Hp) : quintetref14_levels_l2_L Q (k + 1) (mkTm [(0, some (.slice A2 l2 c2)), (3, some (.slice A3 l3 c3)), (4, some (.int .i64 x4))]) h =
    codeWp Try.prog 42 quintetref14_levels_lp quintetref14_levels_cut (sub (bodyOf Try.f29) [true, true, false, true, false, false]) 116 (thenQ (fun tm h => quintetref14_levels_l2_L Q k (mask [0, 3, 4] tm) h) (maskQ (fun e => match e with | .exit 0 => [3] | _ => []) Q)) (mkTm [(0, some (.slice A2 l2 c2)), (3, some (.slice A3 l3 c3)), (4, some (.int .i64 x4))]) h := by kernel_rfl
theorem quintetref14_levels_l2_mask (Q : Qx) (k : Nat) (tm : Tm) (h : Hp) : quintetref14_levels_l2_L Q k tm h ↔ quintetref14_levels_l2_L Q k (mask [0, 3, 4] tm) h := Iff.rfl
set_option maxRecDepth 100000 in
theorem quintetref14_levels_l2_snd : SndAt Try.prog 42 none (sub (bodyOf Try.f29) [true, true, false, true, false]) (quintetref14_levels_lp 58) := by
  refine loop_sound (lp := quintetref14_levels_lp) (cut := quintetref14_levels_cut) (i := 58) (c := (sub (bodyOf Try.f29) [true, true, false, true, false, false])) [0, 3, 4] (fun e => match e with | .exit 0 => [3] | _ => []) quintetref14_levels_l2_L ?_ ?_ ?_
  · exact good_by (c := (sub (bodyOf Try.f29) [true, true, false, true, false, false])) (i := 116) (l := [(14922, (sub (bodyOf Try.f29) [true, true, false, true, false, false, true, false, false, true, false, true, false]))]) (by kernel_rfl) (List.forall_mem_cons.2 ⟨quintetref14_levels_l3_snd, (fun _ h => by cases h)⟩)
  · intro Q tm h H
    obtain ⟨A2, l2, c2, e0, H⟩ := selS_ex H
    obtain ⟨A3, l3, c3, e3, H⟩ := selS_ex H
    obtain ⟨x4, e4, H⟩ := selI_ex H
    exact H
  · intro Q k tm h H
    have H0 := H
    obtain ⟨A2, l2, c2, e0, H⟩ := selS_ex H
    obtain ⟨A3, l3, c3, e3, H⟩ := selS_ex H
    obtain ⟨x4, e4, H⟩ := selI_ex H
    have e : mask [0, 3, 4] tm = mkTm [(0, some (.slice A2 l2 c2)), (3, some (.slice A3 l3 c3)), (4, some (.int .i64 x4))] := by simp only [mask, List.map_cons, List.map_nil, e0, e3, e4] <;> rfl
    rw [e]
    refine Eq.mp (quintetref14_levels_l2_step Q k A2 l2 c2 A3 l3 c3 x4 h) ?_
    rw [← e]
    exact (quintetref14_levels_l2_mask Q (k + 1) tm h).mp H0
set_option maxRecDepth 100000 in
theorem quintetref14_levels_eq (A1 : Option Addr) (l1 : Nat) (c1 : Nat) (h : Hp) (K : Value → Hp → Prop) : quintetref14_levels A1 l1 c1 h K =
    codeWp Try.prog 42 quintetref14_levels_lp quintetref14_levels_cut (bodyOf Try.f29) 1 (endQ Try.prog Try.f29.results.toList K) (argTm [(.slice A1 l1 c1)]) h := by kernel_rfl
set_option maxRecDepth 100000 in
theorem quintetref14_levels_ok (A1 : Option Addr) (l1 : Nat) (c1 : Nat) {h : Hp} {K : Value → Hp → Prop} (H : quintetref14_levels A1 l1 c1 h K) : CallsH Try.prog 29 #[(.slice A1 l1 c1)] h K :=
  calls_of (args := [(.slice A1 l1 c1)]) (n := 42) (lp := quintetref14_levels_lp) (cut := quintetref14_levels_cut) Try.func29 (c := bodyOf Try.f29) (by kernel_rfl) (by kernel_rfl) (by kernel_rfl) (good_by (c := (bodyOf Try.f29)) (i := 1) (l := [(58, (sub (bodyOf Try.f29) [true, true, false, true, false]))]) (by kernel_rfl) (List.forall_mem_cons.2 ⟨quintetref14_levels_l2_snd, (fun _ h => by cases h)⟩))
    (Eq.mp (quintetref14_levels_eq A1 l1 c1 h K) H)

/-! ### quintet/quintetref08.Check: function 32 -/
def quintetref08_Check_l3 (a96 : Addr) (A97 : Option Addr) (l97 : Nat) (c97 : Nat) (K0 : Int → Int → Hp → Prop) (K1 : Addr → Hp → Prop)  : Nat → Int → Hp → Prop
  | 0, _, _ => False
  | k + 1, x98, h =>
    br (decide (x98 < (l97 : Int)))
    (∃ a106 : Addr, PV Try.prog (Instr.indexAt 87 (.slice A97 l97 c97) (.int .i64 x98)) (.pointer (some a106)) ∧
    ∃ x107 : Int, HV Try.prog (Instr.loadAt 26 (.pointer (some a106))) h (.int .i64 x107) ∧ 
    br (x107 != 0)
    (∃ a108 : Addr, PV Try.prog (Instr.indexAt 87 (.slice A97 l97 c97) (.int .i64 x98)) (.pointer (some a108)) ∧
    ∃ x109 : Int, HV Try.prog (Instr.loadAt 26 (.pointer (some a108))) h (.int .i64 x109) ∧ 
    K0 x109 (IntKind.i64.wrap (2 + x98)) h)
    (quintetref08_Check_l3 a96 A97 l97 c97 K0 K1 k (IntKind.i64.wrap (x98 + 1)) h))
    (K1 a96 h)
def quintetref08_Check_l3_L (Q : Qx) (k : Nat) (tm : Tm) (h : Hp) : Prop :=
  selA (tm 1) fun a96 =>
  selS (tm 4) fun A97 l97 c97 =>
  selI .i64 (tm 5) fun x98 =>
  quintetref08_Check_l3 a96 A97 l97 c97 (fun (x103 : Int) (x104 : Int) h => Q (.ret) (mkTm [(2, some (.int .i64 x103)), (3, some (.int .i64 x104))]) h) (fun (a105 : Addr) h => Q (.exit 0) (mkTm [(1, some (.pointer (some a105)))]) h) k x98 h
def quintetref08_Check_j2 (K0 : Int → Int → Hp → Prop) (a17 : Addr) (h : Hp) : Prop :=
  ∃ x69 : Int, ∃ x70 : Int, HV Try.prog (Instr.loadAt 43 (.pointer (some (a17.add 1)))) h (.agg #[(.int .u32 x69), (.int .i64 x70)]) ∧ 
  CallsH Try.prog 54 #[(.agg #[(.int .u32 x69), (.int .i64 x70)])] h fun r72 h71 =>
  ∃ x73 : Int, r72 = (.int .i64 x73) ∧ 
  ∃ x74 : Int, ∃ x75 : Int, HV Try.prog (Instr.loadAt 43 (.pointer (some (a17.add 3)))) h71 (.agg #[(.int .u32 x74), (.int .i64 x75)]) ∧ HV Try.prog (Instr.loadAt 43 (.pointer (some (a17.add 3)))) h (.agg #[(.int .u32 x74), (.int .i64 x75)]) ∧ 
  CallsH Try.prog 54 #[(.agg #[(.int .u32 x74), (.int .i64 x75)])] h71 fun r77 h76 =>
  ∃ x78 : Int, r77 = (.int .i64 x78) ∧ 
  ∃ x79 : Int, ∃ x80 : Int, HV Try.prog (Instr.loadAt 38 (.pointer (some (a17.add 5)))) h76 (.agg #[(.int .u16 x79), (.int .u16 x80)]) ∧ HV Try.prog (Instr.loadAt 38 (.pointer (some (a17.add 5)))) h71 (.agg #[(.int .u16 x79), (.int .u16 x80)]) ∧ HV Try.prog (Instr.loadAt 38 (.pointer (some (a17.add 5)))) h (.agg #[(.int .u16 x79), (.int .u16 x80)]) ∧ 
  CallsH Try.prog 55 #[(.agg #[(.int .u16 x79), (.int .u16 x80)])] h76 fun r82 h81 =>
  ∃ x83 : Int, r82 = (.int .i64 x83) ∧ 
  ∃ x84 : Int, ∃ x85 : Int, HV Try.prog (Instr.loadAt 38 (.pointer (some (a17.add 7)))) h81 (.agg #[(.int .u16 x84), (.int .u16 x85)]) ∧ HV Try.prog (Instr.loadAt 38 (.pointer (some (a17.add 7)))) h76 (.agg #[(.int .u16 x84), (.int .u16 x85)]) ∧ HV Try.prog (Instr.loadAt 38 (.pointer (some (a17.add 7)))) h71 (.agg #[(.int .u16 x84), (.int .u16 x85)]) ∧ HV Try.prog (Instr.loadAt 38 (.pointer (some (a17.add 7)))) h (.agg #[(.int .u16 x84), (.int .u16 x85)]) ∧ 
  CallsH Try.prog 55 #[(.agg #[(.int .u16 x84), (.int .u16 x85)])] h81 fun r87 h86 =>
  ∃ x88 : Int, r87 = (.int .i64 x88) ∧ 
  ∃ x89 : Int, ∃ x90 : Int, HV Try.prog (Instr.loadAt 45 (.pointer (some (a17.add 9)))) h86 (.agg #[(.int .u8 x89), (.int .u8 x90)]) ∧ HV Try.prog (Instr.loadAt 45 (.pointer (some (a17.add 9)))) h81 (.agg #[(.int .u8 x89), (.int .u8 x90)]) ∧ HV Try.prog (Instr.loadAt 45 (.pointer (some (a17.add 9)))) h76 (.agg #[(.int .u8 x89), (.int .u8 x90)]) ∧ HV Try.prog (Instr.loadAt 45 (.pointer (some (a17.add 9)))) h71 (.agg #[(.int .u8 x89), (.int .u8 x90)]) ∧ HV Try.prog (Instr.loadAt 45 (.pointer (some (a17.add 9)))) h (.agg #[(.int .u8 x89), (.int .u8 x90)]) ∧ 
  CallsH Try.prog 56 #[(.agg #[(.int .u8 x89), (.int .u8 x90)])] h86 fun r92 h91 =>
  ∃ x93 : Int, r92 = (.int .i64 x93) ∧ 
  newC h91 (.cells #[(.int .i64 x73), (.int .i64 x78), (.int .i64 x83), (.int .i64 x88), (.int .i64 x93)] 26 (0, 0)) fun a95 h94 => 
  ∃ k117, quintetref08_Check_l3 a17 (some a95) 5 5
  (fun (x110 : Int) (x111 : Int) (h112 : Hp) =>
  K0 x110 x111 h112)
  (fun (a113 : Addr) (h114 : Hp) =>
  ∃ x115 : Int, HV Try.prog (Instr.loadAt 46 (.pointer (some (a113.add 11)))) h114 (.int .i64 x115) ∧ 
  br (decide (x115 < 1))
  (K0 81 7 h114)
  (∃ x116 : Int, HV Try.prog (Instr.loadAt 46 (.pointer (some (a113.add 11)))) h114 (.int .i64 x116) ∧ 
  br (decide (x116 > 4))
  (K0 81 7 h114)
  (K0 0 0 h114)))
  k117 0 h94
def quintetref08_Check_j2_L (Q : Qx) (tm : Tm) (h : Hp) : Prop :=
  selA (tm 1) fun a17 =>
  quintetref08_Check_j2 (fun (x67 : Int) (x68 : Int) h => Q (.ret) (mkTm [(2, some (.int .i64 x67)), (3, some (.int .i64 x68))]) h) a17 h
def quintetref08_Check (x1 : Int) (x2 : Int) (x3 : Int) (x4 : Int) (x5 : Int) (x6 : Int) (x7 : Int) (x8 : Int) (x9 : Int) (x10 : Int) (x11 : Int) (x12 : Int) (h : Hp) (K : Value → Hp → Prop) : Prop :=
  newC h (.cells #[(.int .i64 x1), (.int .u32 x2), (.int .i64 x3), (.int .u32 x4), (.int .i64 x5), (.int .u16 x6), (.int .u16 x7), (.int .u16 x8), (.int .u16 x9), (.int .u8 x10), (.int .u8 x11), (.int .i64 x12)] 48 (0, 0)) fun a14 h13 => 
  ∃ x118 : Int, HV Try.prog (Instr.loadAt 3 (.pointer (some a14))) h13 (.int .i64 x118) ∧ 
  br (decide (x118 < 1))
  (K (.tuple #[(.int .i64 80), (.int .i64 1)]) h13)
  (∃ x119 : Int, HV Try.prog (Instr.loadAt 3 (.pointer (some a14))) h13 (.int .i64 x119) ∧ 
  br (decide (x119 > 999999))
  (K (.tuple #[(.int .i64 80), (.int .i64 1)]) h13)
  (quintetref08_Check_j2
  (fun (x120 : Int) (x121 : Int) (h122 : Hp) =>
  K (.tuple #[(.int .i64 x120), (.int .i64 x121)]) h122)
  a14 h13))
def quintetref08_Check_lp (i : Nat) (Q : Qx) (tm : Tm) (h : Hp) : Prop := match Nat.beq i 122 with
  | true => ∃ k, quintetref08_Check_l3_L Q k tm h
  | false => match Nat.beq i 3 with
  | true => quintetref08_Check_j2_L Q tm h
  | false => False
def quintetref08_Check_cut (i : Nat) : Option (List Nat) := match Nat.beq i 3 with
  | true => some [1]
  | false => none
set_option maxRecDepth 100000 in
theorem quintetref08_Check_l3_step (Q : Qx) (k : Nat) (a96 : Addr) (A97 : Option Addr) (l97 : Nat) (c97 : Nat) (x98 : Int) (h : Hp) : quintetref08_Check_l3_L Q (k + 1) (mkTm [(1, some (.pointer (some a96))), (4, some (.slice A97 l97 c97)), (5, some (.int .i64 x98))]) h =
    codeWp Try.prog 55 quintetref08_Check_lp quintetref08_Check_cut (sub (bodyOf Try.f32) [true, true, true, false, true, false, false]) 244 (thenQ (fun tm h => quintetref08_Check_l3_L Q k (mask [1, 4, 5] tm) h) (maskQ (fun e => match e with | .ret => [2, 3] | .exit 0 => [1] | _ => []) Q)) (mkTm [(1, some (.pointer (some a96))), (4, some (.slice A97 l97 c97)), (5, some (.int .i64 x98))]) h := by kernel_rfl
theorem quintetref08_Check_l3_mask (Q : Qx) (k : Nat) (tm : Tm) (h : Hp) : quintetref08_Check_l3_L Q k tm h ↔ quintetref08_Check_l3_L Q k (mask [1, 4, 5] tm) h := Iff.rfl
set_option maxRecDepth 100000 in
theorem quintetref08_Check_l3_snd : SndAt Try.prog 55 none (sub (bodyOf Try.f32) [true, true, true, false, true, false]) (quintetref08_Check_lp 122) := by
  refine loop_sound (lp := quintetref08_Check_lp) (cut := quintetref08_Check_cut) (i := 122) (c := (sub (bodyOf Try.f32) [true, true, true, false, true, false, false])) [1, 4, 5] (fun e => match e with | .ret => [2, 3] | .exit 0 => [1] | _ => []) quintetref08_Check_l3_L ?_ ?_ ?_
  · exact good_by (c := (sub (bodyOf Try.f32) [true, true, true, false, true, false, false])) (i := 244) (l := []) (by kernel_rfl) (fun _ h => by cases h)
  · intro Q tm h H
    obtain ⟨a96, e1, H⟩ := selA_ex H
    obtain ⟨A97, l97, c97, e4, H⟩ := selS_ex H
    obtain ⟨x98, e5, H⟩ := selI_ex H
    exact H
  · intro Q k tm h H
    have H0 := H
    obtain ⟨a96, e1, H⟩ := selA_ex H
    obtain ⟨A97, l97, c97, e4, H⟩ := selS_ex H
    obtain ⟨x98, e5, H⟩ := selI_ex H
    have e : mask [1, 4, 5] tm = mkTm [(1, some (.pointer (some a96))), (4, some (.slice A97 l97 c97)), (5, some (.int .i64 x98))] := by simp only [mask, List.map_cons, List.map_nil, e1, e4, e5] <;> rfl
    rw [e]
    refine Eq.mp (quintetref08_Check_l3_step Q k a96 A97 l97 c97 x98 h) ?_
    rw [← e]
    exact (quintetref08_Check_l3_mask Q (k + 1) tm h).mp H0
set_option maxRecDepth 100000 in
theorem quintetref08_Check_j2_step (Q : Qx) (a17 : Addr) (h : Hp) : quintetref08_Check_j2_L Q (mkTm [(1, some (.pointer (some a17)))]) h =
    codeWp Try.prog 55 quintetref08_Check_lp quintetref08_Check_cut (sub (bodyOf Try.f32) [true, true]) 7 (maskQ (fun e => match e with | .ret => [2, 3] | _ => []) Q) (mkTm [(1, some (.pointer (some a17)))]) h := by kernel_rfl
theorem quintetref08_Check_j2_mask (Q : Qx) (tm : Tm) (h : Hp) : quintetref08_Check_j2_L Q tm h ↔ quintetref08_Check_j2_L Q (mask [1] tm) h := Iff.rfl
set_option maxRecDepth 100000 in
theorem quintetref08_Check_j2_snd : SndAt Try.prog 55 none (sub (bodyOf Try.f32) [true, true]) (quintetref08_Check_lp 3) := by
  refine join_sound (lp := quintetref08_Check_lp) (cut := quintetref08_Check_cut) (i := 3) (c := (sub (bodyOf Try.f32) [true, true])) [1] (fun e => match e with | .ret => [2, 3] | _ => []) quintetref08_Check_j2_L ?_ ?_
  · exact good_by (c := (sub (bodyOf Try.f32) [true, true])) (i := 7) (l := [(122, (sub (bodyOf Try.f32) [true, true, true, false, true, false]))]) (by kernel_rfl) (List.forall_mem_cons.2 ⟨quintetref08_Check_l3_snd, (fun _ h => by cases h)⟩)
  · intro Q tm h H
    have H0 := H
    obtain ⟨a17, e1, H⟩ := selA_ex H
    have e : mask [1] tm = mkTm [(1, some (.pointer (some a17)))] := by simp only [mask, List.map_cons, List.map_nil, e1] <;> rfl
    rw [e]
    refine Eq.mp (quintetref08_Check_j2_step Q a17 h) ?_
    rw [← e]
    exact (quintetref08_Check_j2_mask Q tm h).mp H0
set_option maxRecDepth 100000 in
theorem quintetref08_Check_eq (x1 : Int) (x2 : Int) (x3 : Int) (x4 : Int) (x5 : Int) (x6 : Int) (x7 : Int) (x8 : Int) (x9 : Int) (x10 : Int) (x11 : Int) (x12 : Int) (h : Hp) (K : Value → Hp → Prop) : quintetref08_Check x1 x2 x3 x4 x5 x6 x7 x8 x9 x10 x11 x12 h K =
    codeWp Try.prog 55 quintetref08_Check_lp quintetref08_Check_cut (bodyOf Try.f32) 1 (endQ Try.prog Try.f32.results.toList K) (argTm [(.agg #[(.int .i64 x1), (.int .u32 x2), (.int .i64 x3), (.int .u32 x4), (.int .i64 x5), (.int .u16 x6), (.int .u16 x7), (.int .u16 x8), (.int .u16 x9), (.int .u8 x10), (.int .u8 x11), (.int .i64 x12)])]) h := by kernel_rfl
set_option maxRecDepth 100000 in
theorem quintetref08_Check_ok (x1 : Int) (x2 : Int) (x3 : Int) (x4 : Int) (x5 : Int) (x6 : Int) (x7 : Int) (x8 : Int) (x9 : Int) (x10 : Int) (x11 : Int) (x12 : Int) {h : Hp} {K : Value → Hp → Prop} (H : quintetref08_Check x1 x2 x3 x4 x5 x6 x7 x8 x9 x10 x11 x12 h K) : CallsH Try.prog 32 #[(.agg #[(.int .i64 x1), (.int .u32 x2), (.int .i64 x3), (.int .u32 x4), (.int .i64 x5), (.int .u16 x6), (.int .u16 x7), (.int .u16 x8), (.int .u16 x9), (.int .u8 x10), (.int .u8 x11), (.int .i64 x12)])] h K :=
  calls_of (args := [(.agg #[(.int .i64 x1), (.int .u32 x2), (.int .i64 x3), (.int .u32 x4), (.int .i64 x5), (.int .u16 x6), (.int .u16 x7), (.int .u16 x8), (.int .u16 x9), (.int .u8 x10), (.int .u8 x11), (.int .i64 x12)])]) (n := 55) (lp := quintetref08_Check_lp) (cut := quintetref08_Check_cut) Try.func32 (c := bodyOf Try.f32) (by kernel_rfl) (by kernel_rfl) (by kernel_rfl) (good_by (c := (bodyOf Try.f32)) (i := 1) (l := [(3, (sub (bodyOf Try.f32) [true, true]))]) (by kernel_rfl) (List.forall_mem_cons.2 ⟨quintetref08_Check_j2_snd, (fun _ h => by cases h)⟩))
    (Eq.mp (quintetref08_Check_eq x1 x2 x3 x4 x5 x6 x7 x8 x9 x10 x11 x12 h K) H)

/-! ### quintet/quintetref14.ahead: function 51 -/
def quintetref14_ahead (x1 : Int) (x2 : Int) (x3 : Int) (x4 : Int) (h : Hp) (K : Value → Hp → Prop) : Prop :=
  newC h (.cells #[(.int .u16 x1), (.int .u16 x2)] 38 (0, 0)) fun a6 h5 => 
  newC h5 (.cells #[(.int .u16 x3), (.int .u16 x4)] 38 (0, 0)) fun a8 h7 => 
  ∃ x9 : Int, HV Try.prog (Instr.loadAt 34 (.pointer (some a6))) h7 (.int .u16 x9) ∧ 
  ∃ x10 : Int, HV Try.prog (Instr.loadAt 34 (.pointer (some a8))) h7 (.int .u16 x10) ∧ 
  br (decide (x9 < x10))
  (K (.bool true) h7)
  (∃ x11 : Int, HV Try.prog (Instr.loadAt 34 (.pointer (some a6))) h7 (.int .u16 x11) ∧ 
  ∃ x12 : Int, HV Try.prog (Instr.loadAt 34 (.pointer (some a8))) h7 (.int .u16 x12) ∧ 
  br (x11 == x12)
  (∃ x13 : Int, HV Try.prog (Instr.loadAt 34 (.pointer (some (a6.add 1)))) h7 (.int .u16 x13) ∧ 
  ∃ x14 : Int, HV Try.prog (Instr.loadAt 34 (.pointer (some (a8.add 1)))) h7 (.int .u16 x14) ∧ 
  K (.bool (decide (x13 > x14))) h7)
  (K (.bool false) h7))
def quintetref14_ahead_lp (i : Nat) (Q : Qx) (tm : Tm) (h : Hp) : Prop := False
def quintetref14_ahead_cut (i : Nat) : Option (List Nat) := none
set_option maxRecDepth 100000 in
theorem quintetref14_ahead_eq (x1 : Int) (x2 : Int) (x3 : Int) (x4 : Int) (h : Hp) (K : Value → Hp → Prop) : quintetref14_ahead x1 x2 x3 x4 h K =
    codeWp Try.prog 24 quintetref14_ahead_lp quintetref14_ahead_cut (bodyOf Try.f51) 1 (endQ Try.prog Try.f51.results.toList K) (argTm [(.agg #[(.int .u16 x1), (.int .u16 x2)]), (.agg #[(.int .u16 x3), (.int .u16 x4)])]) h := by kernel_rfl
set_option maxRecDepth 100000 in
theorem quintetref14_ahead_ok (x1 : Int) (x2 : Int) (x3 : Int) (x4 : Int) {h : Hp} {K : Value → Hp → Prop} (H : quintetref14_ahead x1 x2 x3 x4 h K) : CallsH Try.prog 51 #[(.agg #[(.int .u16 x1), (.int .u16 x2)]), (.agg #[(.int .u16 x3), (.int .u16 x4)])] h K :=
  calls_of (args := [(.agg #[(.int .u16 x1), (.int .u16 x2)]), (.agg #[(.int .u16 x3), (.int .u16 x4)])]) (n := 24) (lp := quintetref14_ahead_lp) (cut := quintetref14_ahead_cut) Try.func51 (c := bodyOf Try.f51) (by kernel_rfl) (by kernel_rfl) (by kernel_rfl) (good_by (c := (bodyOf Try.f51)) (i := 1) (l := []) (by kernel_rfl) (fun _ h => by cases h))
    (Eq.mp (quintetref14_ahead_eq x1 x2 x3 x4 h K) H)

/-! ### quintet/quintetref14.meet: function 52 -/
def quintetref14_meet (x1 : Int) (x2 : Int) (x3 : Int) (x4 : Int) (h : Hp) (K : Value → Hp → Prop) : Prop :=
  newC h (.cells #[(.int .u16 x1), (.int .u16 x2)] 38 (0, 0)) fun a6 h5 => 
  newC h5 (.cells #[(.int .u16 x3), (.int .u16 x4)] 38 (0, 0)) fun a8 h7 => 
  ∃ x9 : Int, HV Try.prog (Instr.loadAt 34 (.pointer (some a6))) h7 (.int .u16 x9) ∧ 
  ∃ x10 : Int, HV Try.prog (Instr.loadAt 34 (.pointer (some (a8.add 1)))) h7 (.int .u16 x10) ∧ 
  br (decide (x9 ≤ x10))
  (∃ x11 : Int, HV Try.prog (Instr.loadAt 34 (.pointer (some a8))) h7 (.int .u16 x11) ∧ 
  ∃ x12 : Int, HV Try.prog (Instr.loadAt 34 (.pointer (some (a6.add 1)))) h7 (.int .u16 x12) ∧ 
  K (.bool (decide (x11 ≤ x12))) h7)
  (K (.bool false) h7)
def quintetref14_meet_lp (i : Nat) (Q : Qx) (tm : Tm) (h : Hp) : Prop := False
def quintetref14_meet_cut (i : Nat) : Option (List Nat) := none
set_option maxRecDepth 100000 in
theorem quintetref14_meet_eq (x1 : Int) (x2 : Int) (x3 : Int) (x4 : Int) (h : Hp) (K : Value → Hp → Prop) : quintetref14_meet x1 x2 x3 x4 h K =
    codeWp Try.prog 17 quintetref14_meet_lp quintetref14_meet_cut (bodyOf Try.f52) 1 (endQ Try.prog Try.f52.results.toList K) (argTm [(.agg #[(.int .u16 x1), (.int .u16 x2)]), (.agg #[(.int .u16 x3), (.int .u16 x4)])]) h := by kernel_rfl
set_option maxRecDepth 100000 in
theorem quintetref14_meet_ok (x1 : Int) (x2 : Int) (x3 : Int) (x4 : Int) {h : Hp} {K : Value → Hp → Prop} (H : quintetref14_meet x1 x2 x3 x4 h K) : CallsH Try.prog 52 #[(.agg #[(.int .u16 x1), (.int .u16 x2)]), (.agg #[(.int .u16 x3), (.int .u16 x4)])] h K :=
  calls_of (args := [(.agg #[(.int .u16 x1), (.int .u16 x2)]), (.agg #[(.int .u16 x3), (.int .u16 x4)])]) (n := 17) (lp := quintetref14_meet_lp) (cut := quintetref14_meet_cut) Try.func52 (c := bodyOf Try.f52) (by kernel_rfl) (by kernel_rfl) (by kernel_rfl) (good_by (c := (bodyOf Try.f52)) (i := 1) (l := []) (by kernel_rfl) (fun _ h => by cases h))
    (Eq.mp (quintetref14_meet_eq x1 x2 x3 x4 h K) H)

/-! ### quintet/quintetref02.Check: function 54 -/
def quintetref02_Check_l3 (a26 : Addr) (K0 : Int → Hp → Prop) (K1 : Hp → Prop)  : Nat → Int → Hp → Prop
  | 0, _, _ => False
  | k + 1, x27, h =>
    br (decide (x27 < 32))
    (∃ x33 : Int, HV Try.prog (Instr.loadAt 41 (.pointer (some a26))) h (.int .u32 x33) ∧ 
    CallsH Try.prog 71 #[(.int .u32 x33), (.int .i64 x27)] h fun r35 h34 =>
    ∃ x36 : Int, r35 = (.int .i64 x36) ∧ 
    br (x36 == 1)
    (K0 21 h34)
    (quintetref02_Check_l3 a26 K0 K1 k (IntKind.i64.wrap (x27 + 1)) h34))
    (K1 h)
def quintetref02_Check_l3_L (Q : Qx) (k : Nat) (tm : Tm) (h : Hp) : Prop :=
  selA (tm 1) fun a26 =>
  selI .i64 (tm 3) fun x27 =>
  quintetref02_Check_l3 a26 (fun (x32 : Int) h => Q (.ret) (mkTm [(2, some (.int .i64 x32))]) h) (fun  h => Q (.exit 0) (mkTm []) h) k x27 h
def quintetref02_Check_j2 (K0 : Int → Hp → Prop) (a7 : Addr) (h : Hp) : Prop :=
  ∃ x25 : Int, HV Try.prog (Instr.loadAt 3 (.pointer (some (a7.add 1)))) h (.int .i64 x25) ∧ 
  ∃ k40, quintetref02_Check_l3 a7
  (fun (x37 : Int) (h38 : Hp) =>
  K0 x37 h38)
  (fun  (h39 : Hp) =>
  K0 0 h39)
  k40 x25 h
def quintetref02_Check_j2_L (Q : Qx) (tm : Tm) (h : Hp) : Prop :=
  selA (tm 1) fun a7 =>
  quintetref02_Check_j2 (fun (x24 : Int) h => Q (.ret) (mkTm [(2, some (.int .i64 x24))]) h) a7 h
def quintetref02_Check (x1 : Int) (x2 : Int) (h : Hp) (K : Value → Hp → Prop) : Prop :=
  newC h (.cells #[(.int .u32 x1), (.int .i64 x2)] 43 (0, 0)) fun a4 h3 => 
  ∃ x41 : Int, HV Try.prog (Instr.loadAt 3 (.pointer (some (a4.add 1)))) h3 (.int .i64 x41) ∧ 
  br (decide (x41 < 0))
  (K (.int .i64 20) h3)
  (∃ x42 : Int, HV Try.prog (Instr.loadAt 3 (.pointer (some (a4.add 1)))) h3 (.int .i64 x42) ∧ 
  br (decide (x42 > 32))
  (K (.int .i64 20) h3)
  (quintetref02_Check_j2
  (fun (x43 : Int) (h44 : Hp) =>
  K (.int .i64 x43) h44)
  a4 h3))
def quintetref02_Check_lp (i : Nat) (Q : Qx) (tm : Tm) (h : Hp) : Prop := match Nat.beq i 58 with
  | true => ∃ k, quintetref02_Check_l3_L Q k tm h
  | false => match Nat.beq i 3 with
  | true => quintetref02_Check_j2_L Q tm h
  | false => False
def quintetref02_Check_cut (i : Nat) : Option (List Nat) := match Nat.beq i 3 with
  | true => some [1]
  | false => none
set_option maxRecDepth 100000 in
theorem quintetref02_Check_l3_step (Q : Qx) (k : Nat) (a26 : Addr) (x27 : Int) (h : Hp) : quintetref02_Check_l3_L Q (k + 1) (mkTm [(1, some (.pointer (some a26))), (3, some (.int .i64 x27))]) h =
    codeWp Try.prog 23 quintetref02_Check_lp quintetref02_Check_cut (sub (bodyOf Try.f54) [true, true, false, true, false, false]) 116 (thenQ (fun tm h => quintetref02_Check_l3_L Q k (mask [1, 3] tm) h) (maskQ (fun e => match e with | .ret => [2] | .exit 0 => [] | _ => []) Q)) (mkTm [(1, some (.pointer (some a26))), (3, some (.int .i64 x27))]) h := by kernel_rfl
theorem quintetref02_Check_l3_mask (Q : Qx) (k : Nat) (tm : Tm) (h : Hp) : quintetref02_Check_l3_L Q k tm h ↔ quintetref02_Check_l3_L Q k (mask [1, 3] tm) h := Iff.rfl
set_option maxRecDepth 100000 in
theorem quintetref02_Check_l3_snd : SndAt Try.prog 23 none (sub (bodyOf Try.f54) [true, true, false, true, false]) (quintetref02_Check_lp 58) := by
  refine loop_sound (lp := quintetref02_Check_lp) (cut := quintetref02_Check_cut) (i := 58) (c := (sub (bodyOf Try.f54) [true, true, false, true, false, false])) [1, 3] (fun e => match e with | .ret => [2] | .exit 0 => [] | _ => []) quintetref02_Check_l3_L ?_ ?_ ?_
  · exact good_by (c := (sub (bodyOf Try.f54) [true, true, false, true, false, false])) (i := 116) (l := []) (by kernel_rfl) (fun _ h => by cases h)
  · intro Q tm h H
    obtain ⟨a26, e1, H⟩ := selA_ex H
    obtain ⟨x27, e3, H⟩ := selI_ex H
    exact H
  · intro Q k tm h H
    have H0 := H
    obtain ⟨a26, e1, H⟩ := selA_ex H
    obtain ⟨x27, e3, H⟩ := selI_ex H
    have e : mask [1, 3] tm = mkTm [(1, some (.pointer (some a26))), (3, some (.int .i64 x27))] := by simp only [mask, List.map_cons, List.map_nil, e1, e3] <;> rfl
    rw [e]
    refine Eq.mp (quintetref02_Check_l3_step Q k a26 x27 h) ?_
    rw [← e]
    exact (quintetref02_Check_l3_mask Q (k + 1) tm h).mp H0
set_option maxRecDepth 100000 in
theorem quintetref02_Check_j2_step (Q : Qx) (a7 : Addr) (h : Hp) : quintetref02_Check_j2_L Q (mkTm [(1, some (.pointer (some a7)))]) h =
    codeWp Try.prog 23 quintetref02_Check_lp quintetref02_Check_cut (sub (bodyOf Try.f54) [true, true]) 7 (maskQ (fun e => match e with | .ret => [2] | _ => []) Q) (mkTm [(1, some (.pointer (some a7)))]) h := by kernel_rfl
theorem quintetref02_Check_j2_mask (Q : Qx) (tm : Tm) (h : Hp) : quintetref02_Check_j2_L Q tm h ↔ quintetref02_Check_j2_L Q (mask [1] tm) h := Iff.rfl
set_option maxRecDepth 100000 in
theorem quintetref02_Check_j2_snd : SndAt Try.prog 23 none (sub (bodyOf Try.f54) [true, true]) (quintetref02_Check_lp 3) := by
  refine join_sound (lp := quintetref02_Check_lp) (cut := quintetref02_Check_cut) (i := 3) (c := (sub (bodyOf Try.f54) [true, true])) [1] (fun e => match e with | .ret => [2] | _ => []) quintetref02_Check_j2_L ?_ ?_
  · exact good_by (c := (sub (bodyOf Try.f54) [true, true])) (i := 7) (l := [(58, (sub (bodyOf Try.f54) [true, true, false, true, false]))]) (by kernel_rfl) (List.forall_mem_cons.2 ⟨quintetref02_Check_l3_snd, (fun _ h => by cases h)⟩)
  · intro Q tm h H
    have H0 := H
    obtain ⟨a7, e1, H⟩ := selA_ex H
    have e : mask [1] tm = mkTm [(1, some (.pointer (some a7)))] := by simp only [mask, List.map_cons, List.map_nil, e1] <;> rfl
    rw [e]
    refine Eq.mp (quintetref02_Check_j2_step Q a7 h) ?_
    rw [← e]
    exact (quintetref02_Check_j2_mask Q tm h).mp H0
set_option maxRecDepth 100000 in
theorem quintetref02_Check_eq (x1 : Int) (x2 : Int) (h : Hp) (K : Value → Hp → Prop) : quintetref02_Check x1 x2 h K =
    codeWp Try.prog 23 quintetref02_Check_lp quintetref02_Check_cut (bodyOf Try.f54) 1 (endQ Try.prog Try.f54.results.toList K) (argTm [(.agg #[(.int .u32 x1), (.int .i64 x2)])]) h := by kernel_rfl
set_option maxRecDepth 100000 in
theorem quintetref02_Check_ok (x1 : Int) (x2 : Int) {h : Hp} {K : Value → Hp → Prop} (H : quintetref02_Check x1 x2 h K) : CallsH Try.prog 54 #[(.agg #[(.int .u32 x1), (.int .i64 x2)])] h K :=
  calls_of (args := [(.agg #[(.int .u32 x1), (.int .i64 x2)])]) (n := 23) (lp := quintetref02_Check_lp) (cut := quintetref02_Check_cut) Try.func54 (c := bodyOf Try.f54) (by kernel_rfl) (by kernel_rfl) (by kernel_rfl) (good_by (c := (bodyOf Try.f54)) (i := 1) (l := [(3, (sub (bodyOf Try.f54) [true, true]))]) (by kernel_rfl) (List.forall_mem_cons.2 ⟨quintetref02_Check_j2_snd, (fun _ h => by cases h)⟩))
    (Eq.mp (quintetref02_Check_eq x1 x2 h K) H)

/-! ### quintet/quintetref08.ends: function 55 -/
def quintetref08_ends (x1 : Int) (x2 : Int) (h : Hp) (K : Value → Hp → Prop) : Prop :=
  newC h (.cells #[(.int .u16 x1), (.int .u16 x2)] 38 (0, 0)) fun a4 h3 => 
  ∃ x5 : Int, HV Try.prog (Instr.loadAt 34 (.pointer (some a4))) h3 (.int .u16 x5) ∧ 
  ∃ x6 : Int, HV Try.prog (Instr.loadAt 34 (.pointer (some (a4.add 1)))) h3 (.int .u16 x6) ∧ 
  br (decide (x5 > x6))
  (K (.int .i64 30) h3)
  (K (.int .i64 0) h3)
def quintetref08_ends_lp (i : Nat) (Q : Qx) (tm : Tm) (h : Hp) : Prop := False
def quintetref08_ends_cut (i : Nat) : Option (List Nat) := none
set_option maxRecDepth 100000 in
theorem quintetref08_ends_eq (x1 : Int) (x2 : Int) (h : Hp) (K : Value → Hp → Prop) : quintetref08_ends x1 x2 h K =
    codeWp Try.prog 8 quintetref08_ends_lp quintetref08_ends_cut (bodyOf Try.f55) 1 (endQ Try.prog Try.f55.results.toList K) (argTm [(.agg #[(.int .u16 x1), (.int .u16 x2)])]) h := by kernel_rfl
set_option maxRecDepth 100000 in
theorem quintetref08_ends_ok (x1 : Int) (x2 : Int) {h : Hp} {K : Value → Hp → Prop} (H : quintetref08_ends x1 x2 h K) : CallsH Try.prog 55 #[(.agg #[(.int .u16 x1), (.int .u16 x2)])] h K :=
  calls_of (args := [(.agg #[(.int .u16 x1), (.int .u16 x2)])]) (n := 8) (lp := quintetref08_ends_lp) (cut := quintetref08_ends_cut) Try.func55 (c := bodyOf Try.f55) (by kernel_rfl) (by kernel_rfl) (by kernel_rfl) (good_by (c := (bodyOf Try.f55)) (i := 1) (l := []) (by kernel_rfl) (fun _ h => by cases h))
    (Eq.mp (quintetref08_ends_eq x1 x2 h K) H)

/-! ### quintet/quintetref04.Check: function 56 -/
def quintetref04_Check_l1 (a5 : Addr) (K0 : Int → Hp → Prop) (K1 : Hp → Prop)  : Nat → Int → Hp → Prop
  | 0, _, _ => False
  | k + 1, x6, h =>
    br (decide (x6 < 8))
    (∃ x16 : Int, HV Try.prog (Instr.loadAt 5 (.pointer (some a5))) h (.int .u8 x16) ∧ 
    CallsH Try.prog 72 #[(.int .u8 x16), (.int .i64 x6)] h fun r18 h17 =>
    ∃ x19 : Int, r18 = (.int .i64 x19) ∧ 
    br (x19 == 1)
    (∃ x20 : Int, HV Try.prog (Instr.loadAt 5 (.pointer (some (a5.add 1)))) h17 (.int .u8 x20) ∧ 
    CallsH Try.prog 72 #[(.int .u8 x20), (.int .i64 x6)] h17 fun r22 h21 =>
    ∃ x23 : Int, r22 = (.int .i64 x23) ∧ 
    br (x23 == 0)
    (K0 40 h21)
    (quintetref04_Check_l1 a5 K0 K1 k (IntKind.i64.wrap (x6 + 1)) h21))
    (quintetref04_Check_l1 a5 K0 K1 k (IntKind.i64.wrap (x6 + 1)) h17))
    (K1 h)
def quintetref04_Check_l1_L (Q : Qx) (k : Nat) (tm : Tm) (h : Hp) : Prop :=
  selA (tm 1) fun a5 =>
  selI .i64 (tm 3) fun x6 =>
  quintetref04_Check_l1 a5 (fun (x15 : Int) h => Q (.ret) (mkTm [(2, some (.int .i64 x15))]) h) (fun  h => Q (.exit 0) (mkTm []) h) k x6 h
def quintetref04_Check (x1 : Int) (x2 : Int) (h : Hp) (K : Value → Hp → Prop) : Prop :=
  newC h (.cells #[(.int .u8 x1), (.int .u8 x2)] 45 (0, 0)) fun a4 h3 => 
  ∃ k27, quintetref04_Check_l1 a4
  (fun (x24 : Int) (h25 : Hp) =>
  K (.int .i64 x24) h25)
  (fun  (h26 : Hp) =>
  K (.int .i64 0) h26)
  k27 0 h3
def quintetref04_Check_lp (i : Nat) (Q : Qx) (tm : Tm) (h : Hp) : Prop := match Nat.beq i 26 with
  | true => ∃ k, quintetref04_Check_l1_L Q k tm h
  | false => False
def quintetref04_Check_cut (i : Nat) : Option (List Nat) := none
set_option maxRecDepth 100000 in
theorem quintetref04_Check_l1_step (Q : Qx) (k : Nat) (a5 : Addr) (x6 : Int) (h : Hp) : quintetref04_Check_l1_L Q (k + 1) (mkTm [(1, some (.pointer (some a5))), (3, some (.int .i64 x6))]) h =
    codeWp Try.prog 20 quintetref04_Check_lp quintetref04_Check_cut (sub (bodyOf Try.f56) [true, false, true, false, false]) 52 (thenQ (fun tm h => quintetref04_Check_l1_L Q k (mask [1, 3] tm) h) (maskQ (fun e => match e with | .ret => [2] | .exit 0 => [] | _ => []) Q)) (mkTm [(1, some (.pointer (some a5))), (3, some (.int .i64 x6))]) h := by kernel_rfl
theorem quintetref04_Check_l1_mask (Q : Qx) (k : Nat) (tm : Tm) (h : Hp) : quintetref04_Check_l1_L Q k tm h ↔ quintetref04_Check_l1_L Q k (mask [1, 3] tm) h := Iff.rfl
set_option maxRecDepth 100000 in
theorem quintetref04_Check_l1_snd : SndAt Try.prog 20 none (sub (bodyOf Try.f56) [true, false, true, false]) (quintetref04_Check_lp 26) := by
  refine loop_sound (lp := quintetref04_Check_lp) (cut := quintetref04_Check_cut) (i := 26) (c := (sub (bodyOf Try.f56) [true, false, true, false, false])) [1, 3] (fun e => match e with | .ret => [2] | .exit 0 => [] | _ => []) quintetref04_Check_l1_L ?_ ?_ ?_
  · exact good_by (c := (sub (bodyOf Try.f56) [true, false, true, false, false])) (i := 52) (l := []) (by kernel_rfl) (fun _ h => by cases h)
  · intro Q tm h H
    obtain ⟨a5, e1, H⟩ := selA_ex H
    obtain ⟨x6, e3, H⟩ := selI_ex H
    exact H
  · intro Q k tm h H
    have H0 := H
    obtain ⟨a5, e1, H⟩ := selA_ex H
    obtain ⟨x6, e3, H⟩ := selI_ex H
    have e : mask [1, 3] tm = mkTm [(1, some (.pointer (some a5))), (3, some (.int .i64 x6))] := by simp only [mask, List.map_cons, List.map_nil, e1, e3] <;> rfl
    rw [e]
    refine Eq.mp (quintetref04_Check_l1_step Q k a5 x6 h) ?_
    rw [← e]
    exact (quintetref04_Check_l1_mask Q (k + 1) tm h).mp H0
set_option maxRecDepth 100000 in
theorem quintetref04_Check_eq (x1 : Int) (x2 : Int) (h : Hp) (K : Value → Hp → Prop) : quintetref04_Check x1 x2 h K =
    codeWp Try.prog 20 quintetref04_Check_lp quintetref04_Check_cut (bodyOf Try.f56) 1 (endQ Try.prog Try.f56.results.toList K) (argTm [(.agg #[(.int .u8 x1), (.int .u8 x2)])]) h := by kernel_rfl
set_option maxRecDepth 100000 in
theorem quintetref04_Check_ok (x1 : Int) (x2 : Int) {h : Hp} {K : Value → Hp → Prop} (H : quintetref04_Check x1 x2 h K) : CallsH Try.prog 56 #[(.agg #[(.int .u8 x1), (.int .u8 x2)])] h K :=
  calls_of (args := [(.agg #[(.int .u8 x1), (.int .u8 x2)])]) (n := 20) (lp := quintetref04_Check_lp) (cut := quintetref04_Check_cut) Try.func56 (c := bodyOf Try.f56) (by kernel_rfl) (by kernel_rfl) (by kernel_rfl) (good_by (c := (bodyOf Try.f56)) (i := 1) (l := [(26, (sub (bodyOf Try.f56) [true, false, true, false]))]) (by kernel_rfl) (List.forall_mem_cons.2 ⟨quintetref04_Check_l1_snd, (fun _ h => by cases h)⟩))
    (Eq.mp (quintetref04_Check_eq x1 x2 h K) H)

/-! ### quintet/quintetref02.Bit: function 71 -/
def quintetref02_Bit (x1 : Int) (x2 : Int) (h : Hp) (K : Value → Hp → Prop) : Prop :=
  ∃ x3 : Int, PV Try.prog (binOp .shr 41 (.int .u32 x1) (.int .u64 (IntKind.u64.wrap (IntKind.i64.wrap (31 - x2))))) (.int .u32 x3) ∧
  K (.int .i64 (Int.tmod (IntKind.i64.wrap (x3)) 2)) h
def quintetref02_Bit_lp (i : Nat) (Q : Qx) (tm : Tm) (h : Hp) : Prop := False
def quintetref02_Bit_cut (i : Nat) : Option (List Nat) := none
set_option maxRecDepth 100000 in
theorem quintetref02_Bit_eq (x1 : Int) (x2 : Int) (h : Hp) (K : Value → Hp → Prop) : quintetref02_Bit x1 x2 h K =
    codeWp Try.prog 12 quintetref02_Bit_lp quintetref02_Bit_cut (bodyOf Try.f71) 1 (endQ Try.prog Try.f71.results.toList K) (argTm [(.int .u32 x1), (.int .i64 x2)]) h := by kernel_rfl
set_option maxRecDepth 100000 in
theorem quintetref02_Bit_ok (x1 : Int) (x2 : Int) {h : Hp} {K : Value → Hp → Prop} (H : quintetref02_Bit x1 x2 h K) : CallsH Try.prog 71 #[(.int .u32 x1), (.int .i64 x2)] h K :=
  calls_of (args := [(.int .u32 x1), (.int .i64 x2)]) (n := 12) (lp := quintetref02_Bit_lp) (cut := quintetref02_Bit_cut) Try.func71 (c := bodyOf Try.f71) (by kernel_rfl) (by kernel_rfl) (by kernel_rfl) (good_by (c := (bodyOf Try.f71)) (i := 1) (l := []) (by kernel_rfl) (fun _ h => by cases h))
    (Eq.mp (quintetref02_Bit_eq x1 x2 h K) H)

/-! ### quintet/quintetref04.Bit: function 72 -/
def quintetref04_Bit (x1 : Int) (x2 : Int) (h : Hp) (K : Value → Hp → Prop) : Prop :=
  ∃ x3 : Int, PV Try.prog (binOp .shr 5 (.int .u8 x1) (.int .u64 (IntKind.u64.wrap (IntKind.i64.wrap (7 - x2))))) (.int .u8 x3) ∧
  K (.int .i64 (Int.tmod (IntKind.i64.wrap (x3)) 2)) h
def quintetref04_Bit_lp (i : Nat) (Q : Qx) (tm : Tm) (h : Hp) : Prop := False
def quintetref04_Bit_cut (i : Nat) : Option (List Nat) := none
set_option maxRecDepth 100000 in
theorem quintetref04_Bit_eq (x1 : Int) (x2 : Int) (h : Hp) (K : Value → Hp → Prop) : quintetref04_Bit x1 x2 h K =
    codeWp Try.prog 12 quintetref04_Bit_lp quintetref04_Bit_cut (bodyOf Try.f72) 1 (endQ Try.prog Try.f72.results.toList K) (argTm [(.int .u8 x1), (.int .i64 x2)]) h := by kernel_rfl
set_option maxRecDepth 100000 in
theorem quintetref04_Bit_ok (x1 : Int) (x2 : Int) {h : Hp} {K : Value → Hp → Prop} (H : quintetref04_Bit x1 x2 h K) : CallsH Try.prog 72 #[(.int .u8 x1), (.int .i64 x2)] h K :=
  calls_of (args := [(.int .u8 x1), (.int .i64 x2)]) (n := 12) (lp := quintetref04_Bit_lp) (cut := quintetref04_Bit_cut) Try.func72 (c := bodyOf Try.f72) (by kernel_rfl) (by kernel_rfl) (by kernel_rfl) (good_by (c := (bodyOf Try.f72)) (i := 1) (l := []) (by kernel_rfl) (fun _ h => by cases h))
    (Eq.mp (quintetref04_Bit_eq x1 x2 h K) H)

end Go.Proofs.Ytmgbbedbilefaaa.Fs
