/- Printed by sx.py: words over the heap alone for Go functions, and that each call does what its word says. -/
import Derived.Test.YtmgbbedbilefaaaSxSel
import Derived.Test.YtmgbbedbilefaaaSxRound
import Derived.Test.YtmgbbedbilefaaaProg
namespace Go.Proofs.Ytmgbbedbilefaaa.Fs
open Go Go.RowKit Go.Proofs.Ytmgbbedbilefaaa.Sx
set_option linter.unusedVariables false

/-! ### quintet/quintetlaw14.NestLevels: function 3 -/
def quintetlaw14_NestLevels_l1 (A27 : Option Addr) (l27 : Nat) (c27 : Nat) (A28 : Option Addr) (l28 : Nat) (c28 : Nat) (A29 : Option Addr) (l29 : Nat) (c29 : Nat) (x30 : Int) (A31 : Option Addr) (l31 : Nat) (c31 : Nat) (x32 : Int) (b33 : Bool) (x34 : Int) (x35 : Int) (x36 : Int) (x37 : Int) (K0 : (Option Addr) → Nat → Nat → (Option Addr) → Nat → Nat → Int → (Option Addr) → Nat → Nat → Int → Bool → Int → Int → Int → Int → Hp → Prop)  : Nat → Int → Hp → Prop
  | 0, _, _ => False
  | k + 1, x38, h =>
    br (decide (x38 < (l29 : Int)))
    (∃ a51 : Addr, PV Try.prog (Instr.indexAt 25 (.slice A29 l29 c29) (.int .i64 x38)) (.pointer (some a51)) ∧
    HU Try.prog (Instr.storeAt 3 (.pointer (some a51)) (.int .i64 77)) h fun h52 => 
    quintetlaw14_NestLevels_l1 A27 l27 c27 A28 l28 c28 A29 l29 c29 x30 A31 l31 c31 x32 b33 x34 x35 x36 x37 K0 k (IntKind.i64.wrap (x38 + 1)) h52)
    (K0 A27 l27 c27 A28 l28 c28 x30 A31 l31 c31 x32 b33 x34 x35 x36 x37 h)
def quintetlaw14_NestLevels_l1_L (Q : Qx) (k : Nat) (tm : Tm) (h : Hp) : Prop :=
  selS (tm 0) fun A27 l27 c27 =>
  selS (tm 3) fun A28 l28 c28 =>
  selS (tm 4) fun A29 l29 c29 =>
  selI .i64 (tm 5) fun x30 =>
  selS (tm 6) fun A31 l31 c31 =>
  selI .i64 (tm 7) fun x32 =>
  selB (tm 8) fun b33 =>
  selI .i64 (tm 9) fun x34 =>
  selI .i64 (tm 10) fun x35 =>
  selI .i64 (tm 11) fun x36 =>
  selI .i64 (tm 12) fun x37 =>
  selI .i64 (tm 13) fun x38 =>
  quintetlaw14_NestLevels_l1 A27 l27 c27 A28 l28 c28 A29 l29 c29 x30 A31 l31 c31 x32 b33 x34 x35 x36 x37 (fun (A41 : Option Addr) (l41 : Nat) (c41 : Nat) (A42 : Option Addr) (l42 : Nat) (c42 : Nat) (x43 : Int) (A44 : Option Addr) (l44 : Nat) (c44 : Nat) (x45 : Int) (b46 : Bool) (x47 : Int) (x48 : Int) (x49 : Int) (x50 : Int) h => Q (.exit 0) (mkTm [(0, some (.slice A41 l41 c41)), (3, some (.slice A42 l42 c42)), (5, some (.int .i64 x43)), (6, some (.slice A44 l44 c44)), (7, some (.int .i64 x45)), (8, some (.bool b46)), (9, some (.int .i64 x47)), (10, some (.int .i64 x48)), (11, some (.int .i64 x49)), (12, some (.int .i64 x50))]) h) k x38 h
def quintetlaw14_NestLevels (A1 : Option Addr) (l1 : Nat) (c1 : Nat) (h : Hp) (K : Value → Hp → Prop) : Prop :=
  br (decide ((l1 : Int) > 16777216))
  (CallsH Try.prog 9 #[] h fun r3 h2 =>
  ∃ b4 : Bool, r3 = (.bool b4) ∧ 
  K (.bool b4) h2)
  (CallsH Try.prog 10 #[(.slice A1 l1 c1)] h fun r6 h5 =>
  ∃ A7 : Option Addr, ∃ l7 : Nat, ∃ c7 : Nat, r6 = (.slice A7 l7 c7) ∧ 
  CallsH Try.prog 11 #[(.slice A7 l7 c7)] h5 fun r9 h8 =>
  ∃ A10 : Option Addr, ∃ l10 : Nat, ∃ c10 : Nat, ∃ x11 : Int, r9 = (.tuple #[(.slice A10 l10 c10), (.int .i64 x11)]) ∧ 
  CallsH Try.prog 12 #[(.slice A1 l1 c1)] h8 fun r13 h12 =>
  ∃ A14 : Option Addr, ∃ l14 : Nat, ∃ c14 : Nat, ∃ x15 : Int, r13 = (.tuple #[(.slice A14 l14 c14), (.int .i64 x15)]) ∧ 
  CallsH Try.prog 13 #[(.slice A10 l10 c10), (.slice A14 l14 c14)] h12 fun r17 h16 =>
  ∃ b18 : Bool, r17 = (.bool b18) ∧ 
  CallsH Try.prog 14 #[(.slice A7 l7 c7)] h16 fun r20 h19 =>
  ∃ x21 : Int, ∃ x22 : Int, r20 = (.tuple #[(.int .i64 x21), (.int .i64 x22)]) ∧ 
  CallsH Try.prog 15 #[(.slice A1 l1 c1)] h19 fun r24 h23 =>
  ∃ x25 : Int, ∃ x26 : Int, r24 = (.tuple #[(.int .i64 x25), (.int .i64 x26)]) ∧ 
  ∃ k77, quintetlaw14_NestLevels_l1 A1 l1 c1 A7 l7 c7 A10 l10 c10 x11 A14 l14 c14 x15 b18 x21 x22 x25 x26
  (fun (A53 : Option Addr) (l53 : Nat) (c53 : Nat) (A54 : Option Addr) (l54 : Nat) (c54 : Nat) (x55 : Int) (A56 : Option Addr) (l56 : Nat) (c56 : Nat) (x57 : Int) (b58 : Bool) (x59 : Int) (x60 : Int) (x61 : Int) (x62 : Int) (h63 : Hp) =>
  CallsH Try.prog 11 #[(.slice A54 l54 c54)] h63 fun r65 h64 =>
  ∃ A66 : Option Addr, ∃ l66 : Nat, ∃ c66 : Nat, ∃ x67 : Int, r65 = (.tuple #[(.slice A66 l66 c66), (.int .i64 x67)]) ∧ 
  CallsH Try.prog 13 #[(.slice A66 l66 c66), (.slice A56 l56 c56)] h64 fun r69 h68 =>
  ∃ b70 : Bool, r69 = (.bool b70) ∧ 
  CallsH Try.prog 9 #[] h68 fun r72 h71 =>
  ∃ b73 : Bool, r72 = (.bool b73) ∧ 
  br b73
  (br b58
  (br b70
  (br (x55 == x57)
  (br (x67 == x57)
  (br (x59 == x61)
  (br (x60 == x62)
  (CallsH Try.prog 16 #[(.slice A54 l54 c54), (.slice A53 l53 c53)] h71 fun r75 h74 =>
  ∃ b76 : Bool, r75 = (.bool b76) ∧ 
  K (.bool b76) h74)
  (K (.bool false) h71))
  (K (.bool false) h71))
  (K (.bool false) h71))
  (K (.bool false) h71))
  (K (.bool false) h71))
  (K (.bool false) h71))
  (K (.bool false) h71))
  k77 0 h23)
def quintetlaw14_NestLevels_lp (i : Nat) (Q : Qx) (tm : Tm) (h : Hp) : Prop := match Nat.beq i 4090 with
  | true => ∃ k, quintetlaw14_NestLevels_l1_L Q k tm h
  | false => False
def quintetlaw14_NestLevels_cut (i : Nat) : Option (List Nat) := none
set_option maxRecDepth 100000 in
theorem quintetlaw14_NestLevels_l1_step (Q : Qx) (k : Nat) (A27 : Option Addr) (l27 : Nat) (c27 : Nat) (A28 : Option Addr) (l28 : Nat) (c28 : Nat) (A29 : Option Addr) (l29 : Nat) (c29 : Nat) (x30 : Int) (A31 : Option Addr) (l31 : Nat) (c31 : Nat) (x32 : Int) (b33 : Bool) (x34 : Int) (x35 : Int) (x36 : Int) (x37 : Int) (x38 : Int) (h : Hp) : quintetlaw14_NestLevels_l1_L Q (k + 1) (mkTm [(0, some (.slice A27 l27 c27)), (3, some (.slice A28 l28 c28)), (4, some (.slice A29 l29 c29)), (5, some (.int .i64 x30)), (6, some (.slice A31 l31 c31)), (7, some (.int .i64 x32)), (8, some (.bool b33)), (9, some (.int .i64 x34)), (10, some (.int .i64 x35)), (11, some (.int .i64 x36)), (12, some (.int .i64 x37)), (13, some (.int .i64 x38))]) h =
    codeWp Try.prog 95 quintetlaw14_NestLevels_lp quintetlaw14_NestLevels_cut (sub (bodyOf Try.f3) [true, true, true, true, true, true, true, true, false, true, false, false]) 8180 (thenQ (fun tm h => quintetlaw14_NestLevels_l1_L Q k (mask [0, 3, 4, 5, 6, 7, 8, 9, 10, 11, 12, 13] tm) h) (maskQ (fun e => match e with | .exit 0 => [0, 3, 5, 6, 7, 8, 9, 10, 11, 12] | _ => []) Q)) (mkTm [(0, some (.slice A27 l27 c27)), (3, some (.slice A28 l28 c28)), (4, some (.slice A29 l29 c29)), (5, some (.int .i64 x30)), (6, some (.slice A31 l31 c31)), (7, some (.int .i64 x32)), (8, some (.bool b33)), (9, some (.int .i64 x34)), (10, some (.int .i64 x35)), (11, some (.int .i64 x36)), (12, some (.int .i64 x37)), (13, some (.int .i64 x38))]) h := by kernel_rfl
theorem quintetlaw14_NestLevels_l1_mask (Q : Qx) (k : Nat) (tm : Tm) (h : Hp) : quintetlaw14_NestLevels_l1_L Q k tm h ↔ quintetlaw14_NestLevels_l1_L Q k (mask [0, 3, 4, 5, 6, 7, 8, 9, 10, 11, 12, 13] tm) h := Iff.rfl
set_option maxRecDepth 100000 in
theorem quintetlaw14_NestLevels_l1_snd : SndAt Try.prog 95 none (sub (bodyOf Try.f3) [true, true, true, true, true, true, true, true, false, true, false]) (quintetlaw14_NestLevels_lp 4090) := by
  refine loop_sound (lp := quintetlaw14_NestLevels_lp) (cut := quintetlaw14_NestLevels_cut) (i := 4090) (c := (sub (bodyOf Try.f3) [true, true, true, true, true, true, true, true, false, true, false, false])) [0, 3, 4, 5, 6, 7, 8, 9, 10, 11, 12, 13] (fun e => match e with | .exit 0 => [0, 3, 5, 6, 7, 8, 9, 10, 11, 12] | _ => []) quintetlaw14_NestLevels_l1_L ?_ ?_ ?_
  · exact good_by (c := (sub (bodyOf Try.f3) [true, true, true, true, true, true, true, true, false, true, false, false])) (i := 8180) (l := []) (by kernel_rfl) (fun _ h => by cases h)
  · intro Q tm h H
    obtain ⟨A27, l27, c27, e0, H⟩ := selS_ex H
    obtain ⟨A28, l28, c28, e3, H⟩ := selS_ex H
    obtain ⟨A29, l29, c29, e4, H⟩ := selS_ex H
    obtain ⟨x30, e5, H⟩ := selI_ex H
    obtain ⟨A31, l31, c31, e6, H⟩ := selS_ex H
    obtain ⟨x32, e7, H⟩ := selI_ex H
    obtain ⟨b33, e8, H⟩ := selB_ex H
    obtain ⟨x34, e9, H⟩ := selI_ex H
    obtain ⟨x35, e10, H⟩ := selI_ex H
    obtain ⟨x36, e11, H⟩ := selI_ex H
    obtain ⟨x37, e12, H⟩ := selI_ex H
    obtain ⟨x38, e13, H⟩ := selI_ex H
    exact H
  · intro Q k tm h H
    have H0 := H
    obtain ⟨A27, l27, c27, e0, H⟩ := selS_ex H
    obtain ⟨A28, l28, c28, e3, H⟩ := selS_ex H
    obtain ⟨A29, l29, c29, e4, H⟩ := selS_ex H
    obtain ⟨x30, e5, H⟩ := selI_ex H
    obtain ⟨A31, l31, c31, e6, H⟩ := selS_ex H
    obtain ⟨x32, e7, H⟩ := selI_ex H
    obtain ⟨b33, e8, H⟩ := selB_ex H
    obtain ⟨x34, e9, H⟩ := selI_ex H
    obtain ⟨x35, e10, H⟩ := selI_ex H
    obtain ⟨x36, e11, H⟩ := selI_ex H
    obtain ⟨x37, e12, H⟩ := selI_ex H
    obtain ⟨x38, e13, H⟩ := selI_ex H
    have e : mask [0, 3, 4, 5, 6, 7, 8, 9, 10, 11, 12, 13] tm = mkTm [(0, some (.slice A27 l27 c27)), (3, some (.slice A28 l28 c28)), (4, some (.slice A29 l29 c29)), (5, some (.int .i64 x30)), (6, some (.slice A31 l31 c31)), (7, some (.int .i64 x32)), (8, some (.bool b33)), (9, some (.int .i64 x34)), (10, some (.int .i64 x35)), (11, some (.int .i64 x36)), (12, some (.int .i64 x37)), (13, some (.int .i64 x38))] := by simp only [mask, List.map_cons, List.map_nil, e0, e3, e4, e5, e6, e7, e8, e9, e10, e11, e12, e13] <;> rfl
    rw [e]
    refine Eq.mp (quintetlaw14_NestLevels_l1_step Q k A27 l27 c27 A28 l28 c28 A29 l29 c29 x30 A31 l31 c31 x32 b33 x34 x35 x36 x37 x38 h) ?_
    rw [← e]
    exact (quintetlaw14_NestLevels_l1_mask Q (k + 1) tm h).mp H0
set_option maxRecDepth 100000 in
theorem quintetlaw14_NestLevels_eq (A1 : Option Addr) (l1 : Nat) (c1 : Nat) (h : Hp) (K : Value → Hp → Prop) : quintetlaw14_NestLevels A1 l1 c1 h K =
    codeWp Try.prog 95 quintetlaw14_NestLevels_lp quintetlaw14_NestLevels_cut (bodyOf Try.f3) 1 (endQ Try.prog Try.f3.results.toList K) (argTm [(.slice A1 l1 c1)]) h := by kernel_rfl
set_option maxRecDepth 100000 in
theorem quintetlaw14_NestLevels_ok (A1 : Option Addr) (l1 : Nat) (c1 : Nat) {h : Hp} {K : Value → Hp → Prop} (H : quintetlaw14_NestLevels A1 l1 c1 h K) : CallsH Try.prog 3 #[(.slice A1 l1 c1)] h K :=
  calls_of (args := [(.slice A1 l1 c1)]) (n := 95) (lp := quintetlaw14_NestLevels_lp) (cut := quintetlaw14_NestLevels_cut) Try.func3 (c := bodyOf Try.f3) (by kernel_rfl) (by kernel_rfl) (by kernel_rfl) (good_by (c := (bodyOf Try.f3)) (i := 1) (l := [(4090, (sub (bodyOf Try.f3) [true, true, true, true, true, true, true, true, false, true, false]))]) (by kernel_rfl) (List.forall_mem_cons.2 ⟨quintetlaw14_NestLevels_l1_snd, (fun _ h => by cases h)⟩))
    (Eq.mp (quintetlaw14_NestLevels_eq A1 l1 c1 h K) H)

/-! ### quintet/quintetlaw14.NestFinds: function 4 -/
def quintetlaw14_NestFinds_l1 (A20 : Option Addr) (l20 : Nat) (c20 : Nat) (x21 : Int) (A22 : Option Addr) (l22 : Nat) (c22 : Nat) (A23 : Option Addr) (l23 : Nat) (c23 : Nat) (x24 : Int) (A25 : Option Addr) (l25 : Nat) (c25 : Nat) (x26 : Int) (b27 : Bool) (K0 : (Option Addr) → Nat → Nat → Int → (Option Addr) → Nat → Nat → Int → (Option Addr) → Nat → Nat → Int → Bool → Hp → Prop)  : Nat → Int → Hp → Prop
  | 0, _, _ => False
  | k + 1, x28, h =>
    br (decide (x28 < (l23 : Int)))
    (∃ a38 : Addr, PV Try.prog (Instr.indexAt 25 (.slice A23 l23 c23) (.int .i64 x28)) (.pointer (some a38)) ∧
    HU Try.prog (Instr.storeAt 3 (.pointer (some a38)) (.int .i64 77)) h fun h39 => 
    quintetlaw14_NestFinds_l1 A20 l20 c20 x21 A22 l22 c22 A23 l23 c23 x24 A25 l25 c25 x26 b27 K0 k (IntKind.i64.wrap (x28 + 1)) h39)
    (K0 A20 l20 c20 x21 A22 l22 c22 x24 A25 l25 c25 x26 b27 h)
def quintetlaw14_NestFinds_l1_L (Q : Qx) (k : Nat) (tm : Tm) (h : Hp) : Prop :=
  selS (tm 0) fun A20 l20 c20 =>
  selI .u16 (tm 1) fun x21 =>
  selS (tm 5) fun A22 l22 c22 =>
  selS (tm 6) fun A23 l23 c23 =>
  selI .i64 (tm 7) fun x24 =>
  selS (tm 8) fun A25 l25 c25 =>
  selI .i64 (tm 9) fun x26 =>
  selB (tm 10) fun b27 =>
  selI .i64 (tm 11) fun x28 =>
  quintetlaw14_NestFinds_l1 A20 l20 c20 x21 A22 l22 c22 A23 l23 c23 x24 A25 l25 c25 x26 b27 (fun (A31 : Option Addr) (l31 : Nat) (c31 : Nat) (x32 : Int) (A33 : Option Addr) (l33 : Nat) (c33 : Nat) (x34 : Int) (A35 : Option Addr) (l35 : Nat) (c35 : Nat) (x36 : Int) (b37 : Bool) h => Q (.exit 0) (mkTm [(0, some (.slice A31 l31 c31)), (1, some (.int .u16 x32)), (5, some (.slice A33 l33 c33)), (7, some (.int .i64 x34)), (8, some (.slice A35 l35 c35)), (9, some (.int .i64 x36)), (10, some (.bool b37))]) h) k x28 h
def quintetlaw14_NestFinds (A1 : Option Addr) (l1 : Nat) (c1 : Nat) (x2 : Int) (h : Hp) (K : Value → Hp → Prop) : Prop :=
  br (decide ((l1 : Int) > 16777216))
  (CallsH Try.prog 9 #[] h fun r4 h3 =>
  ∃ b5 : Bool, r4 = (.bool b5) ∧ 
  K (.bool b5) h3)
  (CallsH Try.prog 10 #[(.slice A1 l1 c1)] h fun r7 h6 =>
  ∃ A8 : Option Addr, ∃ l8 : Nat, ∃ c8 : Nat, r7 = (.slice A8 l8 c8) ∧ 
  CallsH Try.prog 17 #[(.slice A8 l8 c8), (.int .u16 x2)] h6 fun r10 h9 =>
  ∃ A11 : Option Addr, ∃ l11 : Nat, ∃ c11 : Nat, ∃ x12 : Int, r10 = (.tuple #[(.slice A11 l11 c11), (.int .i64 x12)]) ∧ 
  CallsH Try.prog 18 #[(.slice A1 l1 c1), (.int .u16 x2)] h9 fun r14 h13 =>
  ∃ A15 : Option Addr, ∃ l15 : Nat, ∃ c15 : Nat, ∃ x16 : Int, r14 = (.tuple #[(.slice A15 l15 c15), (.int .i64 x16)]) ∧ 
  CallsH Try.prog 13 #[(.slice A11 l11 c11), (.slice A15 l15 c15)] h13 fun r18 h17 =>
  ∃ b19 : Bool, r18 = (.bool b19) ∧ 
  ∃ k61, quintetlaw14_NestFinds_l1 A1 l1 c1 x2 A8 l8 c8 A11 l11 c11 x12 A15 l15 c15 x16 b19
  (fun (A40 : Option Addr) (l40 : Nat) (c40 : Nat) (x41 : Int) (A42 : Option Addr) (l42 : Nat) (c42 : Nat) (x43 : Int) (A44 : Option Addr) (l44 : Nat) (c44 : Nat) (x45 : Int) (b46 : Bool) (h47 : Hp) =>
  CallsH Try.prog 17 #[(.slice A42 l42 c42), (.int .u16 x41)] h47 fun r49 h48 =>
  ∃ A50 : Option Addr, ∃ l50 : Nat, ∃ c50 : Nat, ∃ x51 : Int, r49 = (.tuple #[(.slice A50 l50 c50), (.int .i64 x51)]) ∧ 
  CallsH Try.prog 13 #[(.slice A50 l50 c50), (.slice A44 l44 c44)] h48 fun r53 h52 =>
  ∃ b54 : Bool, r53 = (.bool b54) ∧ 
  CallsH Try.prog 9 #[] h52 fun r56 h55 =>
  ∃ b57 : Bool, r56 = (.bool b57) ∧ 
  br b57
  (br b46
  (br b54
  (br (x43 == x45)
  (br (x51 == x45)
  (CallsH Try.prog 16 #[(.slice A42 l42 c42), (.slice A40 l40 c40)] h55 fun r59 h58 =>
  ∃ b60 : Bool, r59 = (.bool b60) ∧ 
  K (.bool b60) h58)
  (K (.bool false) h55))
  (K (.bool false) h55))
  (K (.bool false) h55))
  (K (.bool false) h55))
  (K (.bool false) h55))
  k61 0 h17)
def quintetlaw14_NestFinds_lp (i : Nat) (Q : Qx) (tm : Tm) (h : Hp) : Prop := match Nat.beq i 1018 with
  | true => ∃ k, quintetlaw14_NestFinds_l1_L Q k tm h
  | false => False
def quintetlaw14_NestFinds_cut (i : Nat) : Option (List Nat) := none
set_option maxRecDepth 100000 in
theorem quintetlaw14_NestFinds_l1_step (Q : Qx) (k : Nat) (A20 : Option Addr) (l20 : Nat) (c20 : Nat) (x21 : Int) (A22 : Option Addr) (l22 : Nat) (c22 : Nat) (A23 : Option Addr) (l23 : Nat) (c23 : Nat) (x24 : Int) (A25 : Option Addr) (l25 : Nat) (c25 : Nat) (x26 : Int) (b27 : Bool) (x28 : Int) (h : Hp) : quintetlaw14_NestFinds_l1_L Q (k + 1) (mkTm [(0, some (.slice A20 l20 c20)), (1, some (.int .u16 x21)), (5, some (.slice A22 l22 c22)), (6, some (.slice A23 l23 c23)), (7, some (.int .i64 x24)), (8, some (.slice A25 l25 c25)), (9, some (.int .i64 x26)), (10, some (.bool b27)), (11, some (.int .i64 x28))]) h =
    codeWp Try.prog 76 quintetlaw14_NestFinds_lp quintetlaw14_NestFinds_cut (sub (bodyOf Try.f4) [true, true, true, true, true, true, false, true, false, false]) 2036 (thenQ (fun tm h => quintetlaw14_NestFinds_l1_L Q k (mask [0, 1, 5, 6, 7, 8, 9, 10, 11] tm) h) (maskQ (fun e => match e with | .exit 0 => [0, 1, 5, 7, 8, 9, 10] | _ => []) Q)) (mkTm [(0, some (.slice A20 l20 c20)), (1, some (.int .u16 x21)), (5, some (.slice A22 l22 c22)), (6, some (.slice A23 l23 c23)), (7, some (.int .i64 x24)), (8, some (.slice A25 l25 c25)), (9, some (.int .i64 x26)), (10, some (.bool b27)), (11, some (.int .i64 x28))]) h := by kernel_rfl
theorem quintetlaw14_NestFinds_l1_mask (Q : Qx) (k : Nat) (tm : Tm) (h : Hp) : quintetlaw14_NestFinds_l1_L Q k tm h ↔ quintetlaw14_NestFinds_l1_L Q k (mask [0, 1, 5, 6, 7, 8, 9, 10, 11] tm) h := Iff.rfl
set_option maxRecDepth 100000 in
theorem quintetlaw14_NestFinds_l1_snd : SndAt Try.prog 76 none (sub (bodyOf Try.f4) [true, true, true, true, true, true, false, true, false]) (quintetlaw14_NestFinds_lp 1018) := by
  refine loop_sound (lp := quintetlaw14_NestFinds_lp) (cut := quintetlaw14_NestFinds_cut) (i := 1018) (c := (sub (bodyOf Try.f4) [true, true, true, true, true, true, false, true, false, false])) [0, 1, 5, 6, 7, 8, 9, 10, 11] (fun e => match e with | .exit 0 => [0, 1, 5, 7, 8, 9, 10] | _ => []) quintetlaw14_NestFinds_l1_L ?_ ?_ ?_
  · exact good_by (c := (sub (bodyOf Try.f4) [true, true, true, true, true, true, false, true, false, false])) (i := 2036) (l := []) (by kernel_rfl) (fun _ h => by cases h)
  · intro Q tm h H
    obtain ⟨A20, l20, c20, e0, H⟩ := selS_ex H
    obtain ⟨x21, e1, H⟩ := selI_ex H
    obtain ⟨A22, l22, c22, e5, H⟩ := selS_ex H
    obtain ⟨A23, l23, c23, e6, H⟩ := selS_ex H
    obtain ⟨x24, e7, H⟩ := selI_ex H
    obtain ⟨A25, l25, c25, e8, H⟩ := selS_ex H
    obtain ⟨x26, e9, H⟩ := selI_ex H
    obtain ⟨b27, e10, H⟩ := selB_ex H
    obtain ⟨x28, e11, H⟩ := selI_ex H
    exact H
  · intro Q k tm h H
    have H0 := H
    obtain ⟨A20, l20, c20, e0, H⟩ := selS_ex H
    obtain ⟨x21, e1, H⟩ := selI_ex H
    obtain ⟨A22, l22, c22, e5, H⟩ := selS_ex H
    obtain ⟨A23, l23, c23, e6, H⟩ := selS_ex H
    obtain ⟨x24, e7, H⟩ := selI_ex H
    obtain ⟨A25, l25, c25, e8, H⟩ := selS_ex H
    obtain ⟨x26, e9, H⟩ := selI_ex H
    obtain ⟨b27, e10, H⟩ := selB_ex H
    obtain ⟨x28, e11, H⟩ := selI_ex H
    have e : mask [0, 1, 5, 6, 7, 8, 9, 10, 11] tm = mkTm [(0, some (.slice A20 l20 c20)), (1, some (.int .u16 x21)), (5, some (.slice A22 l22 c22)), (6, some (.slice A23 l23 c23)), (7, some (.int .i64 x24)), (8, some (.slice A25 l25 c25)), (9, some (.int .i64 x26)), (10, some (.bool b27)), (11, some (.int .i64 x28))] := by simp only [mask, List.map_cons, List.map_nil, e0, e1, e5, e6, e7, e8, e9, e10, e11] <;> rfl
    rw [e]
    refine Eq.mp (quintetlaw14_NestFinds_l1_step Q k A20 l20 c20 x21 A22 l22 c22 A23 l23 c23 x24 A25 l25 c25 x26 b27 x28 h) ?_
    rw [← e]
    exact (quintetlaw14_NestFinds_l1_mask Q (k + 1) tm h).mp H0
set_option maxRecDepth 100000 in
theorem quintetlaw14_NestFinds_eq (A1 : Option Addr) (l1 : Nat) (c1 : Nat) (x2 : Int) (h : Hp) (K : Value → Hp → Prop) : quintetlaw14_NestFinds A1 l1 c1 x2 h K =
    codeWp Try.prog 76 quintetlaw14_NestFinds_lp quintetlaw14_NestFinds_cut (bodyOf Try.f4) 1 (endQ Try.prog Try.f4.results.toList K) (argTm [(.slice A1 l1 c1), (.int .u16 x2)]) h := by kernel_rfl
set_option maxRecDepth 100000 in
theorem quintetlaw14_NestFinds_ok (A1 : Option Addr) (l1 : Nat) (c1 : Nat) (x2 : Int) {h : Hp} {K : Value → Hp → Prop} (H : quintetlaw14_NestFinds A1 l1 c1 x2 h K) : CallsH Try.prog 4 #[(.slice A1 l1 c1), (.int .u16 x2)] h K :=
  calls_of (args := [(.slice A1 l1 c1), (.int .u16 x2)]) (n := 76) (lp := quintetlaw14_NestFinds_lp) (cut := quintetlaw14_NestFinds_cut) Try.func4 (c := bodyOf Try.f4) (by kernel_rfl) (by kernel_rfl) (by kernel_rfl) (good_by (c := (bodyOf Try.f4)) (i := 1) (l := [(1018, (sub (bodyOf Try.f4) [true, true, true, true, true, true, false, true, false]))]) (by kernel_rfl) (List.forall_mem_cons.2 ⟨quintetlaw14_NestFinds_l1_snd, (fun _ h => by cases h)⟩))
    (Eq.mp (quintetlaw14_NestFinds_eq A1 l1 c1 x2 h K) H)

/-! ### quintet/quintetlaw14.NestApart: function 5 -/
def quintetlaw14_NestApart_l108 (A5584 : Option Addr) (l5584 : Nat) (c5584 : Nat) (A5585 : Option Addr) (l5585 : Nat) (c5585 : Nat) (x5586 : Int) (x5587 : Int) (x5588 : Int) (x5589 : Int) (K0 : (Option Addr) → Nat → Nat → (Option Addr) → Nat → Nat → Int → Int → Int → Int → Bool → Hp → Prop)  : Nat → Bool → Int → Hp → Prop
  | 0, _, _, _ => False
  | k + 1, b5590, x5591, h =>
    br (decide (x5591 < (l5584 : Int)))
    (br b5590
    (quintetlaw14_NestApart_l108 A5584 l5584 c5584 A5585 l5585 c5585 x5586 x5587 x5588 x5589 K0 k true (IntKind.i64.wrap (x5591 + 1)) h)
    (∃ a5609 : Addr, PV Try.prog (Instr.indexAt 25 (.slice A5585 l5585 c5585) (.int .i64 x5591)) (.pointer (some a5609)) ∧
    ∃ x5610 : Int, HV Try.prog (Instr.loadAt 3 (.pointer (some a5609))) h (.int .i64 x5610) ∧ 
    br (x5610 == x5589)
    (∃ a5611 : Addr, PV Try.prog (Instr.indexAt 22 (.slice A5584 l5584 c5584) (.int .i64 x5591)) (.pointer (some a5611)) ∧
    ∃ x5612 : Int, HV Try.prog (Instr.loadAt 34 (.pointer (some a5611))) h (.int .u16 x5612) ∧ 
    ∃ a5613 : Addr, PV Try.prog (Instr.indexAt 22 (.slice A5584 l5584 c5584) (.int .i64 x5587)) (.pointer (some a5613)) ∧
    ∃ x5614 : Int, HV Try.prog (Instr.loadAt 34 (.pointer (some (a5613.add 1)))) h (.int .u16 x5614) ∧ 
    br (decide (x5612 ≤ x5614))
    (∃ a5615 : Addr, PV Try.prog (Instr.indexAt 22 (.slice A5584 l5584 c5584) (.int .i64 x5587)) (.pointer (some a5615)) ∧
    ∃ x5616 : Int, HV Try.prog (Instr.loadAt 34 (.pointer (some a5615))) h (.int .u16 x5616) ∧ 
    ∃ a5617 : Addr, PV Try.prog (Instr.indexAt 22 (.slice A5584 l5584 c5584) (.int .i64 x5591)) (.pointer (some a5617)) ∧
    ∃ x5618 : Int, HV Try.prog (Instr.loadAt 34 (.pointer (some (a5617.add 1)))) h (.int .u16 x5618) ∧ 
    quintetlaw14_NestApart_l108 A5584 l5584 c5584 A5585 l5585 c5585 x5586 x5587 x5588 x5589 K0 k (decide (x5616 ≤ x5618)) (IntKind.i64.wrap (x5591 + 1)) h)
    (quintetlaw14_NestApart_l108 A5584 l5584 c5584 A5585 l5585 c5585 x5586 x5587 x5588 x5589 K0 k false (IntKind.i64.wrap (x5591 + 1)) h))
    (quintetlaw14_NestApart_l108 A5584 l5584 c5584 A5585 l5585 c5585 x5586 x5587 x5588 x5589 K0 k false (IntKind.i64.wrap (x5591 + 1)) h)))
    (K0 A5584 l5584 c5584 A5585 l5585 c5585 x5586 x5587 x5588 x5589 b5590 h)
def quintetlaw14_NestApart_l108_L (Q : Qx) (k : Nat) (tm : Tm) (h : Hp) : Prop :=
  selS (tm 0) fun A5584 l5584 c5584 =>
  selS (tm 3) fun A5585 l5585 c5585 =>
  selI .i64 (tm 5) fun x5586 =>
  selI .i64 (tm 7) fun x5587 =>
  selI .i64 (tm 8) fun x5588 =>
  selI .i64 (tm 9) fun x5589 =>
  selB (tm 10) fun b5590 =>
  selI .i64 (tm 11) fun x5591 =>
  quintetlaw14_NestApart_l108 A5584 l5584 c5584 A5585 l5585 c5585 x5586 x5587 x5588 x5589 (fun (A5602 : Option Addr) (l5602 : Nat) (c5602 : Nat) (A5603 : Option Addr) (l5603 : Nat) (c5603 : Nat) (x5604 : Int) (x5605 : Int) (x5606 : Int) (x5607 : Int) (b5608 : Bool) h => Q (.exit 4) (mkTm [(0, some (.slice A5602 l5602 c5602)), (3, some (.slice A5603 l5603 c5603)), (5, some (.int .i64 x5604)), (7, some (.int .i64 x5605)), (8, some (.int .i64 x5606)), (9, some (.int .i64 x5607)), (10, some (.bool b5608))]) h) k b5590 x5591 h
def quintetlaw14_NestApart_l107 (A5525 : Option Addr) (l5525 : Nat) (c5525 : Nat) (A5526 : Option Addr) (l5526 : Nat) (c5526 : Nat) (x5527 : Int) (x5528 : Int) (K0 : (Option Addr) → Nat → Nat → (Option Addr) → Nat → Nat → Int → Int → Int → Hp → Prop)  : Nat → Int → Int → Hp → Prop
  | 0, _, _, _ => False
  | k + 1, x5529, x5530, h =>
    ∃ a5582 : Addr, PV Try.prog (Instr.indexAt 25 (.slice A5526 l5526 c5526) (.int .i64 x5528)) (.pointer (some a5582)) ∧
    ∃ x5583 : Int, HV Try.prog (Instr.loadAt 3 (.pointer (some a5582))) h (.int .i64 x5583) ∧ 
    br (decide (x5530 < x5583))
    (∃ k5627, quintetlaw14_NestApart_l108 A5525 l5525 c5525 A5526 l5526 c5526 x5527 x5528 x5529 x5530
    (fun (A5619 : Option Addr) (l5619 : Nat) (c5619 : Nat) (A5620 : Option Addr) (l5620 : Nat) (c5620 : Nat) (x5621 : Int) (x5622 : Int) (x5623 : Int) (x5624 : Int) (b5625 : Bool) (h5626 : Hp) =>
    br b5625
    (quintetlaw14_NestApart_l107 A5525 l5525 c5525 A5526 l5526 c5526 x5527 x5528 K0 k (IntKind.i64.wrap (x5623 + 1)) (IntKind.i64.wrap (x5624 + 1)) h5626)
    (quintetlaw14_NestApart_l107 A5525 l5525 c5525 A5526 l5526 c5526 x5527 x5528 K0 k x5623 (IntKind.i64.wrap (x5624 + 1)) h5626))
    k5627 false 0 h)
    (K0 A5525 l5525 c5525 A5526 l5526 c5526 x5527 x5528 x5529 h)
def quintetlaw14_NestApart_l107_L (Q : Qx) (k : Nat) (tm : Tm) (h : Hp) : Prop :=
  selS (tm 0) fun A5525 l5525 c5525 =>
  selS (tm 3) fun A5526 l5526 c5526 =>
  selI .i64 (tm 5) fun x5527 =>
  selI .i64 (tm 7) fun x5528 =>
  selI .i64 (tm 8) fun x5529 =>
  selI .i64 (tm 9) fun x5530 =>
  quintetlaw14_NestApart_l107 A5525 l5525 c5525 A5526 l5526 c5526 x5527 x5528 (fun (A5577 : Option Addr) (l5577 : Nat) (c5577 : Nat) (A5578 : Option Addr) (l5578 : Nat) (c5578 : Nat) (x5579 : Int) (x5580 : Int) (x5581 : Int) h => Q (.exit 2) (mkTm [(0, some (.slice A5577 l5577 c5577)), (3, some (.slice A5578 l5578 c5578)), (5, some (.int .i64 x5579)), (7, some (.int .i64 x5580)), (8, some (.int .i64 x5581))]) h) k x5529 x5530 h
def quintetlaw14_NestApart_j111 (K0 : Bool → Hp → Prop) (K1 : (Option Addr) → Nat → Nat → (Option Addr) → Nat → Nat → Int → Int → Int → Hp → Prop) (A5764 : Option Addr) (l5764 : Nat) (c5764 : Nat) (A5765 : Option Addr) (l5765 : Nat) (c5765 : Nat) (x5766 : Int) (x5767 : Int) (x5768 : Int) (b5769 : Bool) (h : Hp) : Prop :=
  ∃ a5809 : Addr, PV Try.prog (Instr.indexAt 22 (.slice A5764 l5764 c5764) (.int .i64 x5768)) (.pointer (some a5809)) ∧
  ∃ x5810 : Int, ∃ x5811 : Int, HV Try.prog (Instr.loadAt 38 (.pointer (some a5809))) h (.agg #[(.int .u16 x5810), (.int .u16 x5811)]) ∧ 
  ∃ a5812 : Addr, PV Try.prog (Instr.indexAt 22 (.slice A5764 l5764 c5764) (.int .i64 x5767)) (.pointer (some a5812)) ∧
  ∃ x5813 : Int, ∃ x5814 : Int, HV Try.prog (Instr.loadAt 38 (.pointer (some a5812))) h (.agg #[(.int .u16 x5813), (.int .u16 x5814)]) ∧ 
  ∃ b5815 : Bool, PV Try.prog (binOp .eql 38 (.agg #[(.int .u16 x5810), (.int .u16 x5811)]) (.agg #[(.int .u16 x5813), (.int .u16 x5814)])) (.bool b5815) ∧
  br b5815
  (∃ a5816 : Addr, PV Try.prog (Instr.indexAt 25 (.slice A5765 l5765 c5765) (.int .i64 x5768)) (.pointer (some a5816)) ∧
  ∃ x5817 : Int, HV Try.prog (Instr.loadAt 3 (.pointer (some a5816))) h (.int .i64 x5817) ∧ 
  ∃ a5818 : Addr, PV Try.prog (Instr.indexAt 25 (.slice A5765 l5765 c5765) (.int .i64 x5767)) (.pointer (some a5818)) ∧
  ∃ x5819 : Int, HV Try.prog (Instr.loadAt 3 (.pointer (some a5818))) h (.int .i64 x5819) ∧ 
  br (x5817 != x5819)
  (K0 false h)
  (∃ a5820 : Addr, PV Try.prog (Instr.indexAt 22 (.slice A5764 l5764 c5764) (.int .i64 x5768)) (.pointer (some a5820)) ∧
  ∃ x5821 : Int, ∃ x5822 : Int, HV Try.prog (Instr.loadAt 38 (.pointer (some a5820))) h (.agg #[(.int .u16 x5821), (.int .u16 x5822)]) ∧ 
  ∃ a5823 : Addr, PV Try.prog (Instr.indexAt 22 (.slice A5764 l5764 c5764) (.int .i64 x5767)) (.pointer (some a5823)) ∧
  ∃ x5824 : Int, ∃ x5825 : Int, HV Try.prog (Instr.loadAt 38 (.pointer (some a5823))) h (.agg #[(.int .u16 x5824), (.int .u16 x5825)]) ∧ 
  ∃ b5826 : Bool, PV Try.prog (binOp .neq 38 (.agg #[(.int .u16 x5821), (.int .u16 x5822)]) (.agg #[(.int .u16 x5824), (.int .u16 x5825)])) (.bool b5826) ∧
  br b5826
  (br b5769
  (∃ a5827 : Addr, PV Try.prog (Instr.indexAt 25 (.slice A5765 l5765 c5765) (.int .i64 x5768)) (.pointer (some a5827)) ∧
  ∃ x5828 : Int, HV Try.prog (Instr.loadAt 3 (.pointer (some a5827))) h (.int .i64 x5828) ∧ 
  ∃ a5829 : Addr, PV Try.prog (Instr.indexAt 25 (.slice A5765 l5765 c5765) (.int .i64 x5767)) (.pointer (some a5829)) ∧
  ∃ x5830 : Int, HV Try.prog (Instr.loadAt 3 (.pointer (some a5829))) h (.int .i64 x5830) ∧ 
  br (x5828 == x5830)
  (K0 false h)
  (K1 A5764 l5764 c5764 A5765 l5765 c5765 x5766 x5767 x5768 h))
  (K1 A5764 l5764 c5764 A5765 l5765 c5765 x5766 x5767 x5768 h))
  (K1 A5764 l5764 c5764 A5765 l5765 c5765 x5766 x5767 x5768 h)))
  (∃ a5831 : Addr, PV Try.prog (Instr.indexAt 22 (.slice A5764 l5764 c5764) (.int .i64 x5768)) (.pointer (some a5831)) ∧
  ∃ x5832 : Int, ∃ x5833 : Int, HV Try.prog (Instr.loadAt 38 (.pointer (some a5831))) h (.agg #[(.int .u16 x5832), (.int .u16 x5833)]) ∧ 
  ∃ a5834 : Addr, PV Try.prog (Instr.indexAt 22 (.slice A5764 l5764 c5764) (.int .i64 x5767)) (.pointer (some a5834)) ∧
  ∃ x5835 : Int, ∃ x5836 : Int, HV Try.prog (Instr.loadAt 38 (.pointer (some a5834))) h (.agg #[(.int .u16 x5835), (.int .u16 x5836)]) ∧ 
  ∃ b5837 : Bool, PV Try.prog (binOp .neq 38 (.agg #[(.int .u16 x5832), (.int .u16 x5833)]) (.agg #[(.int .u16 x5835), (.int .u16 x5836)])) (.bool b5837) ∧
  br b5837
  (br b5769
  (∃ a5838 : Addr, PV Try.prog (Instr.indexAt 25 (.slice A5765 l5765 c5765) (.int .i64 x5768)) (.pointer (some a5838)) ∧
  ∃ x5839 : Int, HV Try.prog (Instr.loadAt 3 (.pointer (some a5838))) h (.int .i64 x5839) ∧ 
  ∃ a5840 : Addr, PV Try.prog (Instr.indexAt 25 (.slice A5765 l5765 c5765) (.int .i64 x5767)) (.pointer (some a5840)) ∧
  ∃ x5841 : Int, HV Try.prog (Instr.loadAt 3 (.pointer (some a5840))) h (.int .i64 x5841) ∧ 
  br (x5839 == x5841)
  (K0 false h)
  (K1 A5764 l5764 c5764 A5765 l5765 c5765 x5766 x5767 x5768 h))
  (K1 A5764 l5764 c5764 A5765 l5765 c5765 x5766 x5767 x5768 h))
  (K1 A5764 l5764 c5764 A5765 l5765 c5765 x5766 x5767 x5768 h))
def quintetlaw14_NestApart_j111_L (Q : Qx) (tm : Tm) (h : Hp) : Prop :=
  selS (tm 0) fun A5764 l5764 c5764 =>
  selS (tm 3) fun A5765 l5765 c5765 =>
  selI .i64 (tm 5) fun x5766 =>
  selI .i64 (tm 7) fun x5767 =>
  selI .i64 (tm 12) fun x5768 =>
  selB (tm 13) fun b5769 =>
  quintetlaw14_NestApart_j111 (fun (b5803 : Bool) h => Q (.ret) (mkTm [(2, some (.bool b5803))]) h) (fun (A5804 : Option Addr) (l5804 : Nat) (c5804 : Nat) (A5805 : Option Addr) (l5805 : Nat) (c5805 : Nat) (x5806 : Int) (x5807 : Int) (x5808 : Int) h => Q (.normal) (mkTm [(0, some (.slice A5804 l5804 c5804)), (3, some (.slice A5805 l5805 c5805)), (5, some (.int .i64 x5806)), (7, some (.int .i64 x5807)), (12, some (.int .i64 x5808))]) h) A5764 l5764 c5764 A5765 l5765 c5765 x5766 x5767 x5768 b5769 h
def quintetlaw14_NestApart_l110 (A5636 : Option Addr) (l5636 : Nat) (c5636 : Nat) (A5637 : Option Addr) (l5637 : Nat) (c5637 : Nat) (x5638 : Int) (x5639 : Int) (K0 : Bool → Hp → Prop) (K1 : (Option Addr) → Nat → Nat → (Option Addr) → Nat → Nat → Int → Int → Hp → Prop)  : Nat → Int → Hp → Prop
  | 0, _, _ => False
  | k + 1, x5640, h =>
    br (decide (x5640 < x5639))
    (∃ a5842 : Addr, PV Try.prog (Instr.indexAt 22 (.slice A5636 l5636 c5636) (.int .i64 x5640)) (.pointer (some a5842)) ∧
    ∃ x5843 : Int, HV Try.prog (Instr.loadAt 34 (.pointer (some a5842))) h (.int .u16 x5843) ∧ 
    ∃ a5844 : Addr, PV Try.prog (Instr.indexAt 22 (.slice A5636 l5636 c5636) (.int .i64 x5639)) (.pointer (some a5844)) ∧
    ∃ x5845 : Int, HV Try.prog (Instr.loadAt 34 (.pointer (some (a5844.add 1)))) h (.int .u16 x5845) ∧ 
    br (decide (x5843 ≤ x5845))
    (∃ a5846 : Addr, PV Try.prog (Instr.indexAt 22 (.slice A5636 l5636 c5636) (.int .i64 x5639)) (.pointer (some a5846)) ∧
    ∃ x5847 : Int, HV Try.prog (Instr.loadAt 34 (.pointer (some a5846))) h (.int .u16 x5847) ∧ 
    ∃ a5848 : Addr, PV Try.prog (Instr.indexAt 22 (.slice A5636 l5636 c5636) (.int .i64 x5640)) (.pointer (some a5848)) ∧
    ∃ x5849 : Int, HV Try.prog (Instr.loadAt 34 (.pointer (some (a5848.add 1)))) h (.int .u16 x5849) ∧ 
    quintetlaw14_NestApart_j111
    (fun (b5850 : Bool) (h5851 : Hp) =>
    K0 b5850 h5851)
    (fun (A5852 : Option Addr) (l5852 : Nat) (c5852 : Nat) (A5853 : Option Addr) (l5853 : Nat) (c5853 : Nat) (x5854 : Int) (x5855 : Int) (x5856 : Int) (h5857 : Hp) =>
    quintetlaw14_NestApart_l110 A5636 l5636 c5636 A5637 l5637 c5637 x5638 x5639 K0 K1 k (IntKind.i64.wrap (x5856 + 1)) h5857)
    A5636 l5636 c5636 A5637 l5637 c5637 x5638 x5639 x5640 (decide (x5847 ≤ x5849)) h)
    (quintetlaw14_NestApart_j111
    (fun (b5858 : Bool) (h5859 : Hp) =>
    K0 b5858 h5859)
    (fun (A5860 : Option Addr) (l5860 : Nat) (c5860 : Nat) (A5861 : Option Addr) (l5861 : Nat) (c5861 : Nat) (x5862 : Int) (x5863 : Int) (x5864 : Int) (h5865 : Hp) =>
    quintetlaw14_NestApart_l110 A5636 l5636 c5636 A5637 l5637 c5637 x5638 x5639 K0 K1 k (IntKind.i64.wrap (x5864 + 1)) h5865)
    A5636 l5636 c5636 A5637 l5637 c5637 x5638 x5639 x5640 false h))
    (K1 A5636 l5636 c5636 A5637 l5637 c5637 x5638 x5639 h)
def quintetlaw14_NestApart_l110_L (Q : Qx) (k : Nat) (tm : Tm) (h : Hp) : Prop :=
  selS (tm 0) fun A5636 l5636 c5636 =>
  selS (tm 3) fun A5637 l5637 c5637 =>
  selI .i64 (tm 5) fun x5638 =>
  selI .i64 (tm 7) fun x5639 =>
  selI .i64 (tm 12) fun x5640 =>
  quintetlaw14_NestApart_l110 A5636 l5636 c5636 A5637 l5637 c5637 x5638 x5639 (fun (b5751 : Bool) h => Q (.ret) (mkTm [(2, some (.bool b5751))]) h) (fun (A5752 : Option Addr) (l5752 : Nat) (c5752 : Nat) (A5753 : Option Addr) (l5753 : Nat) (c5753 : Nat) (x5754 : Int) (x5755 : Int) h => Q (.exit 6) (mkTm [(0, some (.slice A5752 l5752 c5752)), (3, some (.slice A5753 l5753 c5753)), (5, some (.int .i64 x5754)), (7, some (.int .i64 x5755))]) h) k x5640 h
def quintetlaw14_NestApart_j105 (K0 : Bool → Hp → Prop) (K1 : (Option Addr) → Nat → Nat → (Option Addr) → Nat → Nat → Int → Int → Hp → Prop) (A5166 : Option Addr) (l5166 : Nat) (c5166 : Nat) (A5167 : Option Addr) (l5167 : Nat) (c5167 : Nat) (x5168 : Int) (x5169 : Int) (h : Hp) : Prop :=
  ∃ k5874, quintetlaw14_NestApart_l107 A5166 l5166 c5166 A5167 l5167 c5167 x5168 x5169
  (fun (A5628 : Option Addr) (l5628 : Nat) (c5628 : Nat) (A5629 : Option Addr) (l5629 : Nat) (c5629 : Nat) (x5630 : Int) (x5631 : Int) (x5632 : Int) (h5633 : Hp) =>
  ∃ a5634 : Addr, PV Try.prog (Instr.indexAt 25 (.slice A5629 l5629 c5629) (.int .i64 x5631)) (.pointer (some a5634)) ∧
  ∃ x5635 : Int, HV Try.prog (Instr.loadAt 3 (.pointer (some a5634))) h5633 (.int .i64 x5635) ∧ 
  br (x5632 != x5635)
  (K0 false h5633)
  (∃ k5873, quintetlaw14_NestApart_l110 A5628 l5628 c5628 A5629 l5629 c5629 x5630 x5631
  (fun (b5866 : Bool) (h5867 : Hp) =>
  K0 b5866 h5867)
  (fun (A5868 : Option Addr) (l5868 : Nat) (c5868 : Nat) (A5869 : Option Addr) (l5869 : Nat) (c5869 : Nat) (x5870 : Int) (x5871 : Int) (h5872 : Hp) =>
  K1 A5868 l5868 c5868 A5869 l5869 c5869 x5870 x5871 h5872)
  k5873 0 h5633))
  k5874 0 0 h
def quintetlaw14_NestApart_j105_L (Q : Qx) (tm : Tm) (h : Hp) : Prop :=
  selS (tm 0) fun A5166 l5166 c5166 =>
  selS (tm 3) fun A5167 l5167 c5167 =>
  selI .i64 (tm 5) fun x5168 =>
  selI .i64 (tm 7) fun x5169 =>
  quintetlaw14_NestApart_j105 (fun (b5520 : Bool) h => Q (.ret) (mkTm [(2, some (.bool b5520))]) h) (fun (A5521 : Option Addr) (l5521 : Nat) (c5521 : Nat) (A5522 : Option Addr) (l5522 : Nat) (c5522 : Nat) (x5523 : Int) (x5524 : Int) h => Q (.normal) (mkTm [(0, some (.slice A5521 l5521 c5521)), (3, some (.slice A5522 l5522 c5522)), (5, some (.int .i64 x5523)), (7, some (.int .i64 x5524))]) h) A5166 l5166 c5166 A5167 l5167 c5167 x5168 x5169 h
def quintetlaw14_NestApart_l98 (A4431 : Option Addr) (l4431 : Nat) (c4431 : Nat) (A4432 : Option Addr) (l4432 : Nat) (c4432 : Nat) (x4433 : Int) (K0 : Bool → Hp → Prop) (K1 : (Option Addr) → Nat → Nat → Int → Hp → Prop)  : Nat → Int → Hp → Prop
  | 0, _, _ => False
  | k + 1, x4434, h =>
    br (decide (x4434 < (l4431 : Int)))
    (∃ a5875 : Addr, PV Try.prog (Instr.indexAt 25 (.slice A4432 l4432 c4432) (.int .i64 x4434)) (.pointer (some a5875)) ∧
    ∃ x5876 : Int, HV Try.prog (Instr.loadAt 3 (.pointer (some a5875))) h (.int .i64 x5876) ∧ 
    br (decide (x5876 < 0))
    (K0 false h)
    (∃ a5877 : Addr, PV Try.prog (Instr.indexAt 25 (.slice A4432 l4432 c4432) (.int .i64 x4434)) (.pointer (some a5877)) ∧
    ∃ x5878 : Int, HV Try.prog (Instr.loadAt 3 (.pointer (some a5877))) h (.int .i64 x5878) ∧ 
    br (decide (x5878 ≥ x4433))
    (K0 false h)
    (quintetlaw14_NestApart_j105
    (fun (b5879 : Bool) (h5880 : Hp) =>
    K0 b5879 h5880)
    (fun (A5881 : Option Addr) (l5881 : Nat) (c5881 : Nat) (A5882 : Option Addr) (l5882 : Nat) (c5882 : Nat) (x5883 : Int) (x5884 : Int) (h5885 : Hp) =>
    quintetlaw14_NestApart_l98 A4431 l4431 c4431 A4432 l4432 c4432 x4433 K0 K1 k (IntKind.i64.wrap (x5884 + 1)) h5885)
    A4431 l4431 c4431 A4432 l4432 c4432 x4433 x4434 h)))
    (K1 A4431 l4431 c4431 x4433 h)
def quintetlaw14_NestApart_l98_L (Q : Qx) (k : Nat) (tm : Tm) (h : Hp) : Prop :=
  selS (tm 0) fun A4431 l4431 c4431 =>
  selS (tm 3) fun A4432 l4432 c4432 =>
  selI .i64 (tm 5) fun x4433 =>
  selI .i64 (tm 7) fun x4434 =>
  quintetlaw14_NestApart_l98 A4431 l4431 c4431 A4432 l4432 c4432 x4433 (fun (b5159 : Bool) h => Q (.ret) (mkTm [(2, some (.bool b5159))]) h) (fun (A5160 : Option Addr) (l5160 : Nat) (c5160 : Nat) (x5161 : Int) h => Q (.exit 0) (mkTm [(0, some (.slice A5160 l5160 c5160)), (5, some (.int .i64 x5161))]) h) k x4434 h
def quintetlaw14_NestApart_j84 (K0 : Bool → Hp → Prop) (A2963 : Option Addr) (l2963 : Nat) (c2963 : Nat) (A2964 : Option Addr) (l2964 : Nat) (c2964 : Nat) (x2965 : Int) (h : Hp) : Prop :=
  ∃ k5894, quintetlaw14_NestApart_l98 A2963 l2963 c2963 A2964 l2964 c2964 x2965
  (fun (b5886 : Bool) (h5887 : Hp) =>
  K0 b5886 h5887)
  (fun (A5888 : Option Addr) (l5888 : Nat) (c5888 : Nat) (x5889 : Int) (h5890 : Hp) =>
  CallsH Try.prog 9 #[] h5890 fun r5892 h5891 =>
  ∃ b5893 : Bool, r5892 = (.bool b5893) ∧ 
  br b5893
  (K0 ((decide (x5889 > 0)) == (decide ((l5888 : Int) > 0))) h5891)
  (K0 false h5891))
  k5894 0 h
def quintetlaw14_NestApart_j84_L (Q : Qx) (tm : Tm) (h : Hp) : Prop :=
  selS (tm 0) fun A2963 l2963 c2963 =>
  selS (tm 3) fun A2964 l2964 c2964 =>
  selI .i64 (tm 5) fun x2965 =>
  quintetlaw14_NestApart_j84 (fun (b4430 : Bool) h => Q (.ret) (mkTm [(2, some (.bool b4430))]) h) A2963 l2963 c2963 A2964 l2964 c2964 x2965 h
def quintetlaw14_NestApart_j56 (K0 : Bool → Hp → Prop) (A11 : Option Addr) (l11 : Nat) (c11 : Nat) (h : Hp) : Prop :=
  CallsH Try.prog 11 #[(.slice A11 l11 c11)] h fun r2956 h2955 =>
  ∃ A2957 : Option Addr, ∃ l2957 : Nat, ∃ c2957 : Nat, ∃ x2958 : Int, r2956 = (.tuple #[(.slice A2957 l2957 c2957), (.int .i64 x2958)]) ∧ 
  CallsH Try.prog 14 #[(.slice A11 l11 c11)] h2955 fun r2960 h2959 =>
  ∃ x2961 : Int, ∃ x2962 : Int, r2960 = (.tuple #[(.int .i64 x2961), (.int .i64 x2962)]) ∧ 
  br (x2958 != 0)
  (K0 false h2959)
  (br (x2962 != 0)
  (K0 false h2959)
  (br ((l2957 : Int) != (l11 : Int))
  (K0 false h2959)
  (quintetlaw14_NestApart_j84
  (fun (b5895 : Bool) (h5896 : Hp) =>
  K0 b5895 h5896)
  A11 l11 c11 A2957 l2957 c2957 x2961 h2959)))
def quintetlaw14_NestApart_j56_L (Q : Qx) (tm : Tm) (h : Hp) : Prop :=
  selS (tm 0) fun A11 l11 c11 =>
  quintetlaw14_NestApart_j56 (fun (b2954 : Bool) h => Q (.ret) (mkTm [(2, some (.bool b2954))]) h) A11 l11 c11 h
def quintetlaw14_NestApart (A1 : Option Addr) (l1 : Nat) (c1 : Nat) (h : Hp) (K : Value → Hp → Prop) : Prop :=
  CallsH Try.prog 19 #[(.slice A1 l1 c1)] h fun r5898 h5897 =>
  ∃ b5899 : Bool, r5898 = (.bool b5899) ∧ 
  br b5899
  (CallsH Try.prog 9 #[] h5897 fun r5901 h5900 =>
  ∃ b5902 : Bool, r5901 = (.bool b5902) ∧ 
  K (.bool b5902) h5900)
  (br (decide ((l1 : Int) > 4000))
  (CallsH Try.prog 9 #[] h5897 fun r5904 h5903 =>
  ∃ b5905 : Bool, r5904 = (.bool b5905) ∧ 
  K (.bool b5905) h5903)
  (quintetlaw14_NestApart_j56
  (fun (b5906 : Bool) (h5907 : Hp) =>
  K (.bool b5906) h5907)
  A1 l1 c1 h5897))
def quintetlaw14_NestApart_lp (i : Nat) (Q : Qx) (tm : Tm) (h : Hp) : Prop := match Nat.beq i 66361930 with
  | true => ∃ k, quintetlaw14_NestApart_l108_L Q k tm h
  | false => match Nat.beq i 259226 with
  | true => ∃ k, quintetlaw14_NestApart_l107_L Q k tm h
  | false => match Nat.beq i 8295396 with
  | true => quintetlaw14_NestApart_j111_L Q tm h
  | false => match Nat.beq i 518462 with
  | true => ∃ k, quintetlaw14_NestApart_l110_L Q k tm h
  | false => match Nat.beq i 8100 with
  | true => quintetlaw14_NestApart_j105_L Q tm h
  | false => match Nat.beq i 506 with
  | true => ∃ k, quintetlaw14_NestApart_l98_L Q k tm h
  | false => match Nat.beq i 31 with
  | true => quintetlaw14_NestApart_j84_L Q tm h
  | false => match Nat.beq i 3 with
  | true => quintetlaw14_NestApart_j56_L Q tm h
  | false => False
def quintetlaw14_NestApart_cut (i : Nat) : Option (List Nat) := match Nat.beq i 3 with
  | true => some [0]
  | false => match Nat.beq i 31 with
  | true => some [0, 3, 5]
  | false => match Nat.beq i 8100 with
  | true => some [0, 3, 5, 7]
  | false => match Nat.beq i 8295396 with
  | true => some [0, 3, 5, 7, 12, 13]
  | false => none
set_option maxRecDepth 100000 in
theorem quintetlaw14_NestApart_l108_step (Q : Qx) (k : Nat) (A5584 : Option Addr) (l5584 : Nat) (c5584 : Nat) (A5585 : Option Addr) (l5585 : Nat) (c5585 : Nat) (x5586 : Int) (x5587 : Int) (x5588 : Int) (x5589 : Int) (b5590 : Bool) (x5591 : Int) (h : Hp) : quintetlaw14_NestApart_l108_L Q (k + 1) (mkTm [(0, some (.slice A5584 l5584 c5584)), (3, some (.slice A5585 l5585 c5585)), (5, some (.int .i64 x5586)), (7, some (.int .i64 x5587)), (8, some (.int .i64 x5588)), (9, some (.int .i64 x5589)), (10, some (.bool b5590)), (11, some (.int .i64 x5591))]) h =
    codeWp Try.prog 205 quintetlaw14_NestApart_lp quintetlaw14_NestApart_cut (sub (bodyOf Try.f5) [true, true, true, true, true, false, true, false, false, true, false, false, true, true, false, true, false, false, true, false, false, true, false, true, false, false]) 132723860 (thenQ (fun tm h => quintetlaw14_NestApart_l108_L Q k (mask [0, 3, 5, 7, 8, 9, 10, 11] tm) h) (maskQ (fun e => match e with | .exit 4 => [0, 3, 5, 7, 8, 9, 10] | _ => []) Q)) (mkTm [(0, some (.slice A5584 l5584 c5584)), (3, some (.slice A5585 l5585 c5585)), (5, some (.int .i64 x5586)), (7, some (.int .i64 x5587)), (8, some (.int .i64 x5588)), (9, some (.int .i64 x5589)), (10, some (.bool b5590)), (11, some (.int .i64 x5591))]) h := by kernel_rfl
theorem quintetlaw14_NestApart_l108_mask (Q : Qx) (k : Nat) (tm : Tm) (h : Hp) : quintetlaw14_NestApart_l108_L Q k tm h ↔ quintetlaw14_NestApart_l108_L Q k (mask [0, 3, 5, 7, 8, 9, 10, 11] tm) h := Iff.rfl
set_option maxRecDepth 100000 in
theorem quintetlaw14_NestApart_l108_snd : SndAt Try.prog 205 none (sub (bodyOf Try.f5) [true, true, true, true, true, false, true, false, false, true, false, false, true, true, false, true, false, false, true, false, false, true, false, true, false]) (quintetlaw14_NestApart_lp 66361930) := by
  refine loop_sound (lp := quintetlaw14_NestApart_lp) (cut := quintetlaw14_NestApart_cut) (i := 66361930) (c := (sub (bodyOf Try.f5) [true, true, true, true, true, false, true, false, false, true, false, false, true, true, false, true, false, false, true, false, false, true, false, true, false, false])) [0, 3, 5, 7, 8, 9, 10, 11] (fun e => match e with | .exit 4 => [0, 3, 5, 7, 8, 9, 10] | _ => []) quintetlaw14_NestApart_l108_L ?_ ?_ ?_
  · exact good_by (c := (sub (bodyOf Try.f5) [true, true, true, true, true, false, true, false, false, true, false, false, true, true, false, true, false, false, true, false, false, true, false, true, false, false])) (i := 132723860) (l := []) (by kernel_rfl) (fun _ h => by cases h)
  · intro Q tm h H
    obtain ⟨A5584, l5584, c5584, e0, H⟩ := selS_ex H
    obtain ⟨A5585, l5585, c5585, e3, H⟩ := selS_ex H
    obtain ⟨x5586, e5, H⟩ := selI_ex H
    obtain ⟨x5587, e7, H⟩ := selI_ex H
    obtain ⟨x5588, e8, H⟩ := selI_ex H
    obtain ⟨x5589, e9, H⟩ := selI_ex H
    obtain ⟨b5590, e10, H⟩ := selB_ex H
    obtain ⟨x5591, e11, H⟩ := selI_ex H
    exact H
  · intro Q k tm h H
    have H0 := H
    obtain ⟨A5584, l5584, c5584, e0, H⟩ := selS_ex H
    obtain ⟨A5585, l5585, c5585, e3, H⟩ := selS_ex H
    obtain ⟨x5586, e5, H⟩ := selI_ex H
    obtain ⟨x5587, e7, H⟩ := selI_ex H
    obtain ⟨x5588, e8, H⟩ := selI_ex H
    obtain ⟨x5589, e9, H⟩ := selI_ex H
    obtain ⟨b5590, e10, H⟩ := selB_ex H
    obtain ⟨x5591, e11, H⟩ := selI_ex H
    have e : mask [0, 3, 5, 7, 8, 9, 10, 11] tm = mkTm [(0, some (.slice A5584 l5584 c5584)), (3, some (.slice A5585 l5585 c5585)), (5, some (.int .i64 x5586)), (7, some (.int .i64 x5587)), (8, some (.int .i64 x5588)), (9, some (.int .i64 x5589)), (10, some (.bool b5590)), (11, some (.int .i64 x5591))] := by simp only [mask, List.map_cons, List.map_nil, e0, e3, e5, e7, e8, e9, e10, e11] <;> rfl
    rw [e]
    refine Eq.mp (quintetlaw14_NestApart_l108_step Q k A5584 l5584 c5584 A5585 l5585 c5585 x5586 x5587 x5588 x5589 b5590 x5591 h) ?_
    rw [← e]
    exact (quintetlaw14_NestApart_l108_mask Q (k + 1) tm h).mp H0
set_option maxRecDepth 100000 in
theorem quintetlaw14_NestApart_l107_step (Q : Qx) (k : Nat) (A5525 : Option Addr) (l5525 : Nat) (c5525 : Nat) (A5526 : Option Addr) (l5526 : Nat) (c5526 : Nat) (x5527 : Int) (x5528 : Int) (x5529 : Int) (x5530 : Int) (h : Hp) : quintetlaw14_NestApart_l107_L Q (k + 1) (mkTm [(0, some (.slice A5525 l5525 c5525)), (3, some (.slice A5526 l5526 c5526)), (5, some (.int .i64 x5527)), (7, some (.int .i64 x5528)), (8, some (.int .i64 x5529)), (9, some (.int .i64 x5530))]) h =
    codeWp Try.prog 205 quintetlaw14_NestApart_lp quintetlaw14_NestApart_cut (sub (bodyOf Try.f5) [true, true, true, true, true, false, true, false, false, true, false, false, true, true, false, true, false, false]) 518452 (thenQ (fun tm h => quintetlaw14_NestApart_l107_L Q k (mask [0, 3, 5, 7, 8, 9] tm) h) (maskQ (fun e => match e with | .exit 2 => [0, 3, 5, 7, 8] | _ => []) Q)) (mkTm [(0, some (.slice A5525 l5525 c5525)), (3, some (.slice A5526 l5526 c5526)), (5, some (.int .i64 x5527)), (7, some (.int .i64 x5528)), (8, some (.int .i64 x5529)), (9, some (.int .i64 x5530))]) h := by kernel_rfl
theorem quintetlaw14_NestApart_l107_mask (Q : Qx) (k : Nat) (tm : Tm) (h : Hp) : quintetlaw14_NestApart_l107_L Q k tm h ↔ quintetlaw14_NestApart_l107_L Q k (mask [0, 3, 5, 7, 8, 9] tm) h := Iff.rfl
set_option maxRecDepth 100000 in
theorem quintetlaw14_NestApart_l107_snd : SndAt Try.prog 205 none (sub (bodyOf Try.f5) [true, true, true, true, true, false, true, false, false, true, false, false, true, true, false, true, false]) (quintetlaw14_NestApart_lp 259226) := by
  refine loop_sound (lp := quintetlaw14_NestApart_lp) (cut := quintetlaw14_NestApart_cut) (i := 259226) (c := (sub (bodyOf Try.f5) [true, true, true, true, true, false, true, false, false, true, false, false, true, true, false, true, false, false])) [0, 3, 5, 7, 8, 9] (fun e => match e with | .exit 2 => [0, 3, 5, 7, 8] | _ => []) quintetlaw14_NestApart_l107_L ?_ ?_ ?_
  · exact good_by (c := (sub (bodyOf Try.f5) [true, true, true, true, true, false, true, false, false, true, false, false, true, true, false, true, false, false])) (i := 518452) (l := [(66361930, (sub (bodyOf Try.f5) [true, true, true, true, true, false, true, false, false, true, false, false, true, true, false, true, false, false, true, false, false, true, false, true, false]))]) (by kernel_rfl) (List.forall_mem_cons.2 ⟨quintetlaw14_NestApart_l108_snd, (fun _ h => by cases h)⟩)
  · intro Q tm h H
    obtain ⟨A5525, l5525, c5525, e0, H⟩ := selS_ex H
    obtain ⟨A5526, l5526, c5526, e3, H⟩ := selS_ex H
    obtain ⟨x5527, e5, H⟩ := selI_ex H
    obtain ⟨x5528, e7, H⟩ := selI_ex H
    obtain ⟨x5529, e8, H⟩ := selI_ex H
    obtain ⟨x5530, e9, H⟩ := selI_ex H
    exact H
  · intro Q k tm h H
    have H0 := H
    obtain ⟨A5525, l5525, c5525, e0, H⟩ := selS_ex H
    obtain ⟨A5526, l5526, c5526, e3, H⟩ := selS_ex H
    obtain ⟨x5527, e5, H⟩ := selI_ex H
    obtain ⟨x5528, e7, H⟩ := selI_ex H
    obtain ⟨x5529, e8, H⟩ := selI_ex H
    obtain ⟨x5530, e9, H⟩ := selI_ex H
    have e : mask [0, 3, 5, 7, 8, 9] tm = mkTm [(0, some (.slice A5525 l5525 c5525)), (3, some (.slice A5526 l5526 c5526)), (5, some (.int .i64 x5527)), (7, some (.int .i64 x5528)), (8, some (.int .i64 x5529)), (9, some (.int .i64 x5530))] := by simp only [mask, List.map_cons, List.map_nil, e0, e3, e5, e7, e8, e9] <;> rfl
    rw [e]
    refine Eq.mp (quintetlaw14_NestApart_l107_step Q k A5525 l5525 c5525 A5526 l5526 c5526 x5527 x5528 x5529 x5530 h) ?_
    rw [← e]
    exact (quintetlaw14_NestApart_l107_mask Q (k + 1) tm h).mp H0
set_option maxRecDepth 100000 in
theorem quintetlaw14_NestApart_j111_step (Q : Qx) (A5764 : Option Addr) (l5764 : Nat) (c5764 : Nat) (A5765 : Option Addr) (l5765 : Nat) (c5765 : Nat) (x5766 : Int) (x5767 : Int) (x5768 : Int) (b5769 : Bool) (h : Hp) : quintetlaw14_NestApart_j111_L Q (mkTm [(0, some (.slice A5764 l5764 c5764)), (3, some (.slice A5765 l5765 c5765)), (5, some (.int .i64 x5766)), (7, some (.int .i64 x5767)), (12, some (.int .i64 x5768)), (13, some (.bool b5769))]) h =
    codeWp Try.prog 205 quintetlaw14_NestApart_lp quintetlaw14_NestApart_cut (sub (bodyOf Try.f5) [true, true, true, true, true, false, true, false, false, true, false, false, true, true, true, true, true, false, false, true, false, false, true]) 16590793 (maskQ (fun e => match e with | .ret => [2] | .normal => [0, 3, 5, 7, 12] | _ => []) Q) (mkTm [(0, some (.slice A5764 l5764 c5764)), (3, some (.slice A5765 l5765 c5765)), (5, some (.int .i64 x5766)), (7, some (.int .i64 x5767)), (12, some (.int .i64 x5768)), (13, some (.bool b5769))]) h := by kernel_rfl
theorem quintetlaw14_NestApart_j111_mask (Q : Qx) (tm : Tm) (h : Hp) : quintetlaw14_NestApart_j111_L Q tm h ↔ quintetlaw14_NestApart_j111_L Q (mask [0, 3, 5, 7, 12, 13] tm) h := Iff.rfl
set_option maxRecDepth 100000 in
theorem quintetlaw14_NestApart_j111_snd : SndAt Try.prog 205 none (sub (bodyOf Try.f5) [true, true, true, true, true, false, true, false, false, true, false, false, true, true, true, true, true, false, false, true, false, false, true]) (quintetlaw14_NestApart_lp 8295396) := by
  refine join_sound (lp := quintetlaw14_NestApart_lp) (cut := quintetlaw14_NestApart_cut) (i := 8295396) (c := (sub (bodyOf Try.f5) [true, true, true, true, true, false, true, false, false, true, false, false, true, true, true, true, true, false, false, true, false, false, true])) [0, 3, 5, 7, 12, 13] (fun e => match e with | .ret => [2] | .normal => [0, 3, 5, 7, 12] | _ => []) quintetlaw14_NestApart_j111_L ?_ ?_
  · exact good_by (c := (sub (bodyOf Try.f5) [true, true, true, true, true, false, true, false, false, true, false, false, true, true, true, true, true, false, false, true, false, false, true])) (i := 16590793) (l := []) (by kernel_rfl) (fun _ h => by cases h)
  · intro Q tm h H
    have H0 := H
    obtain ⟨A5764, l5764, c5764, e0, H⟩ := selS_ex H
    obtain ⟨A5765, l5765, c5765, e3, H⟩ := selS_ex H
    obtain ⟨x5766, e5, H⟩ := selI_ex H
    obtain ⟨x5767, e7, H⟩ := selI_ex H
    obtain ⟨x5768, e12, H⟩ := selI_ex H
    obtain ⟨b5769, e13, H⟩ := selB_ex H
    have e : mask [0, 3, 5, 7, 12, 13] tm = mkTm [(0, some (.slice A5764 l5764 c5764)), (3, some (.slice A5765 l5765 c5765)), (5, some (.int .i64 x5766)), (7, some (.int .i64 x5767)), (12, some (.int .i64 x5768)), (13, some (.bool b5769))] := by simp only [mask, List.map_cons, List.map_nil, e0, e3, e5, e7, e12, e13] <;> rfl
    rw [e]
    refine Eq.mp (quintetlaw14_NestApart_j111_step Q A5764 l5764 c5764 A5765 l5765 c5765 x5766 x5767 x5768 b5769 h) ?_
    rw [← e]
    exact (quintetlaw14_NestApart_j111_mask Q tm h).mp H0
set_option maxRecDepth 100000 in
theorem quintetlaw14_NestApart_l110_step (Q : Qx) (k : Nat) (A5636 : Option Addr) (l5636 : Nat) (c5636 : Nat) (A5637 : Option Addr) (l5637 : Nat) (c5637 : Nat) (x5638 : Int) (x5639 : Int) (x5640 : Int) (h : Hp) : quintetlaw14_NestApart_l110_L Q (k + 1) (mkTm [(0, some (.slice A5636 l5636 c5636)), (3, some (.slice A5637 l5637 c5637)), (5, some (.int .i64 x5638)), (7, some (.int .i64 x5639)), (12, some (.int .i64 x5640))]) h =
    codeWp Try.prog 205 quintetlaw14_NestApart_lp quintetlaw14_NestApart_cut (sub (bodyOf Try.f5) [true, true, true, true, true, false, true, false, false, true, false, false, true, true, true, true, true, false, false]) 1036924 (thenQ (fun tm h => quintetlaw14_NestApart_l110_L Q k (mask [0, 3, 5, 7, 12] tm) h) (maskQ (fun e => match e with | .ret => [2] | .exit 6 => [0, 3, 5, 7] | _ => []) Q)) (mkTm [(0, some (.slice A5636 l5636 c5636)), (3, some (.slice A5637 l5637 c5637)), (5, some (.int .i64 x5638)), (7, some (.int .i64 x5639)), (12, some (.int .i64 x5640))]) h := by kernel_rfl
theorem quintetlaw14_NestApart_l110_mask (Q : Qx) (k : Nat) (tm : Tm) (h : Hp) : quintetlaw14_NestApart_l110_L Q k tm h ↔ quintetlaw14_NestApart_l110_L Q k (mask [0, 3, 5, 7, 12] tm) h := Iff.rfl
set_option maxRecDepth 100000 in
theorem quintetlaw14_NestApart_l110_snd : SndAt Try.prog 205 none (sub (bodyOf Try.f5) [true, true, true, true, true, false, true, false, false, true, false, false, true, true, true, true, true, false]) (quintetlaw14_NestApart_lp 518462) := by
  refine loop_sound (lp := quintetlaw14_NestApart_lp) (cut := quintetlaw14_NestApart_cut) (i := 518462) (c := (sub (bodyOf Try.f5) [true, true, true, true, true, false, true, false, false, true, false, false, true, true, true, true, true, false, false])) [0, 3, 5, 7, 12] (fun e => match e with | .ret => [2] | .exit 6 => [0, 3, 5, 7] | _ => []) quintetlaw14_NestApart_l110_L ?_ ?_ ?_
  · exact good_by (c := (sub (bodyOf Try.f5) [true, true, true, true, true, false, true, false, false, true, false, false, true, true, true, true, true, false, false])) (i := 1036924) (l := [(8295396, (sub (bodyOf Try.f5) [true, true, true, true, true, false, true, false, false, true, false, false, true, true, true, true, true, false, false, true, false, false, true]))]) (by kernel_rfl) (List.forall_mem_cons.2 ⟨quintetlaw14_NestApart_j111_snd, (fun _ h => by cases h)⟩)
  · intro Q tm h H
    obtain ⟨A5636, l5636, c5636, e0, H⟩ := selS_ex H
    obtain ⟨A5637, l5637, c5637, e3, H⟩ := selS_ex H
    obtain ⟨x5638, e5, H⟩ := selI_ex H
    obtain ⟨x5639, e7, H⟩ := selI_ex H
    obtain ⟨x5640, e12, H⟩ := selI_ex H
    exact H
  · intro Q k tm h H
    have H0 := H
    obtain ⟨A5636, l5636, c5636, e0, H⟩ := selS_ex H
    obtain ⟨A5637, l5637, c5637, e3, H⟩ := selS_ex H
    obtain ⟨x5638, e5, H⟩ := selI_ex H
    obtain ⟨x5639, e7, H⟩ := selI_ex H
    obtain ⟨x5640, e12, H⟩ := selI_ex H
    have e : mask [0, 3, 5, 7, 12] tm = mkTm [(0, some (.slice A5636 l5636 c5636)), (3, some (.slice A5637 l5637 c5637)), (5, some (.int .i64 x5638)), (7, some (.int .i64 x5639)), (12, some (.int .i64 x5640))] := by simp only [mask, List.map_cons, List.map_nil, e0, e3, e5, e7, e12] <;> rfl
    rw [e]
    refine Eq.mp (quintetlaw14_NestApart_l110_step Q k A5636 l5636 c5636 A5637 l5637 c5637 x5638 x5639 x5640 h) ?_
    rw [← e]
    exact (quintetlaw14_NestApart_l110_mask Q (k + 1) tm h).mp H0
set_option maxRecDepth 100000 in
theorem quintetlaw14_NestApart_j105_step (Q : Qx) (A5166 : Option Addr) (l5166 : Nat) (c5166 : Nat) (A5167 : Option Addr) (l5167 : Nat) (c5167 : Nat) (x5168 : Int) (x5169 : Int) (h : Hp) : quintetlaw14_NestApart_j105_L Q (mkTm [(0, some (.slice A5166 l5166 c5166)), (3, some (.slice A5167 l5167 c5167)), (5, some (.int .i64 x5168)), (7, some (.int .i64 x5169))]) h =
    codeWp Try.prog 205 quintetlaw14_NestApart_lp quintetlaw14_NestApart_cut (sub (bodyOf Try.f5) [true, true, true, true, true, false, true, false, false, true, false, false, true]) 16201 (maskQ (fun e => match e with | .ret => [2] | .normal => [0, 3, 5, 7] | _ => []) Q) (mkTm [(0, some (.slice A5166 l5166 c5166)), (3, some (.slice A5167 l5167 c5167)), (5, some (.int .i64 x5168)), (7, some (.int .i64 x5169))]) h := by kernel_rfl
theorem quintetlaw14_NestApart_j105_mask (Q : Qx) (tm : Tm) (h : Hp) : quintetlaw14_NestApart_j105_L Q tm h ↔ quintetlaw14_NestApart_j105_L Q (mask [0, 3, 5, 7] tm) h := Iff.rfl
set_option maxRecDepth 100000 in
theorem quintetlaw14_NestApart_j105_snd : SndAt Try.prog 205 none (sub (bodyOf Try.f5) [true, true, true, true, true, false, true, false, false, true, false, false, true]) (quintetlaw14_NestApart_lp 8100) := by
  refine join_sound (lp := quintetlaw14_NestApart_lp) (cut := quintetlaw14_NestApart_cut) (i := 8100) (c := (sub (bodyOf Try.f5) [true, true, true, true, true, false, true, false, false, true, false, false, true])) [0, 3, 5, 7] (fun e => match e with | .ret => [2] | .normal => [0, 3, 5, 7] | _ => []) quintetlaw14_NestApart_j105_L ?_ ?_
  · exact good_by (c := (sub (bodyOf Try.f5) [true, true, true, true, true, false, true, false, false, true, false, false, true])) (i := 16201) (l := [(259226, (sub (bodyOf Try.f5) [true, true, true, true, true, false, true, false, false, true, false, false, true, true, false, true, false])), (518462, (sub (bodyOf Try.f5) [true, true, true, true, true, false, true, false, false, true, false, false, true, true, true, true, true, false]))]) (by kernel_rfl) (List.forall_mem_cons.2 ⟨quintetlaw14_NestApart_l107_snd, (List.forall_mem_cons.2 ⟨quintetlaw14_NestApart_l110_snd, (fun _ h => by cases h)⟩)⟩)
  · intro Q tm h H
    have H0 := H
    obtain ⟨A5166, l5166, c5166, e0, H⟩ := selS_ex H
    obtain ⟨A5167, l5167, c5167, e3, H⟩ := selS_ex H
    obtain ⟨x5168, e5, H⟩ := selI_ex H
    obtain ⟨x5169, e7, H⟩ := selI_ex H
    have e : mask [0, 3, 5, 7] tm = mkTm [(0, some (.slice A5166 l5166 c5166)), (3, some (.slice A5167 l5167 c5167)), (5, some (.int .i64 x5168)), (7, some (.int .i64 x5169))] := by simp only [mask, List.map_cons, List.map_nil, e0, e3, e5, e7] <;> rfl
    rw [e]
    refine Eq.mp (quintetlaw14_NestApart_j105_step Q A5166 l5166 c5166 A5167 l5167 c5167 x5168 x5169 h) ?_
    rw [← e]
    exact (quintetlaw14_NestApart_j105_mask Q tm h).mp H0
set_option maxRecDepth 100000 in
theorem quintetlaw14_NestApart_l98_step (Q : Qx) (k : Nat) (A4431 : Option Addr) (l4431 : Nat) (c4431 : Nat) (A4432 : Option Addr) (l4432 : Nat) (c4432 : Nat) (x4433 : Int) (x4434 : Int) (h : Hp) : quintetlaw14_NestApart_l98_L Q (k + 1) (mkTm [(0, some (.slice A4431 l4431 c4431)), (3, some (.slice A4432 l4432 c4432)), (5, some (.int .i64 x4433)), (7, some (.int .i64 x4434))]) h =
    codeWp Try.prog 205 quintetlaw14_NestApart_lp quintetlaw14_NestApart_cut (sub (bodyOf Try.f5) [true, true, true, true, true, false, true, false, false]) 1012 (thenQ (fun tm h => quintetlaw14_NestApart_l98_L Q k (mask [0, 3, 5, 7] tm) h) (maskQ (fun e => match e with | .ret => [2] | .exit 0 => [0, 5] | _ => []) Q)) (mkTm [(0, some (.slice A4431 l4431 c4431)), (3, some (.slice A4432 l4432 c4432)), (5, some (.int .i64 x4433)), (7, some (.int .i64 x4434))]) h := by kernel_rfl
theorem quintetlaw14_NestApart_l98_mask (Q : Qx) (k : Nat) (tm : Tm) (h : Hp) : quintetlaw14_NestApart_l98_L Q k tm h ↔ quintetlaw14_NestApart_l98_L Q k (mask [0, 3, 5, 7] tm) h := Iff.rfl
set_option maxRecDepth 100000 in
theorem quintetlaw14_NestApart_l98_snd : SndAt Try.prog 205 none (sub (bodyOf Try.f5) [true, true, true, true, true, false, true, false]) (quintetlaw14_NestApart_lp 506) := by
  refine loop_sound (lp := quintetlaw14_NestApart_lp) (cut := quintetlaw14_NestApart_cut) (i := 506) (c := (sub (bodyOf Try.f5) [true, true, true, true, true, false, true, false, false])) [0, 3, 5, 7] (fun e => match e with | .ret => [2] | .exit 0 => [0, 5] | _ => []) quintetlaw14_NestApart_l98_L ?_ ?_ ?_
  · exact good_by (c := (sub (bodyOf Try.f5) [true, true, true, true, true, false, true, false, false])) (i := 1012) (l := [(8100, (sub (bodyOf Try.f5) [true, true, true, true, true, false, true, false, false, true, false, false, true]))]) (by kernel_rfl) (List.forall_mem_cons.2 ⟨quintetlaw14_NestApart_j105_snd, (fun _ h => by cases h)⟩)
  · intro Q tm h H
    obtain ⟨A4431, l4431, c4431, e0, H⟩ := selS_ex H
    obtain ⟨A4432, l4432, c4432, e3, H⟩ := selS_ex H
    obtain ⟨x4433, e5, H⟩ := selI_ex H
    obtain ⟨x4434, e7, H⟩ := selI_ex H
    exact H
  · intro Q k tm h H
    have H0 := H
    obtain ⟨A4431, l4431, c4431, e0, H⟩ := selS_ex H
    obtain ⟨A4432, l4432, c4432, e3, H⟩ := selS_ex H
    obtain ⟨x4433, e5, H⟩ := selI_ex H
    obtain ⟨x4434, e7, H⟩ := selI_ex H
    have e : mask [0, 3, 5, 7] tm = mkTm [(0, some (.slice A4431 l4431 c4431)), (3, some (.slice A4432 l4432 c4432)), (5, some (.int .i64 x4433)), (7, some (.int .i64 x4434))] := by simp only [mask, List.map_cons, List.map_nil, e0, e3, e5, e7] <;> rfl
    rw [e]
    refine Eq.mp (quintetlaw14_NestApart_l98_step Q k A4431 l4431 c4431 A4432 l4432 c4432 x4433 x4434 h) ?_
    rw [← e]
    exact (quintetlaw14_NestApart_l98_mask Q (k + 1) tm h).mp H0
set_option maxRecDepth 100000 in
theorem quintetlaw14_NestApart_j84_step (Q : Qx) (A2963 : Option Addr) (l2963 : Nat) (c2963 : Nat) (A2964 : Option Addr) (l2964 : Nat) (c2964 : Nat) (x2965 : Int) (h : Hp) : quintetlaw14_NestApart_j84_L Q (mkTm [(0, some (.slice A2963 l2963 c2963)), (3, some (.slice A2964 l2964 c2964)), (5, some (.int .i64 x2965))]) h =
    codeWp Try.prog 205 quintetlaw14_NestApart_lp quintetlaw14_NestApart_cut (sub (bodyOf Try.f5) [true, true, true, true, true]) 63 (maskQ (fun e => match e with | .ret => [2] | _ => []) Q) (mkTm [(0, some (.slice A2963 l2963 c2963)), (3, some (.slice A2964 l2964 c2964)), (5, some (.int .i64 x2965))]) h := by kernel_rfl
theorem quintetlaw14_NestApart_j84_mask (Q : Qx) (tm : Tm) (h : Hp) : quintetlaw14_NestApart_j84_L Q tm h ↔ quintetlaw14_NestApart_j84_L Q (mask [0, 3, 5] tm) h := Iff.rfl
set_option maxRecDepth 100000 in
theorem quintetlaw14_NestApart_j84_snd : SndAt Try.prog 205 none (sub (bodyOf Try.f5) [true, true, true, true, true]) (quintetlaw14_NestApart_lp 31) := by
  refine join_sound (lp := quintetlaw14_NestApart_lp) (cut := quintetlaw14_NestApart_cut) (i := 31) (c := (sub (bodyOf Try.f5) [true, true, true, true, true])) [0, 3, 5] (fun e => match e with | .ret => [2] | _ => []) quintetlaw14_NestApart_j84_L ?_ ?_
  · exact good_by (c := (sub (bodyOf Try.f5) [true, true, true, true, true])) (i := 63) (l := [(506, (sub (bodyOf Try.f5) [true, true, true, true, true, false, true, false]))]) (by kernel_rfl) (List.forall_mem_cons.2 ⟨quintetlaw14_NestApart_l98_snd, (fun _ h => by cases h)⟩)
  · intro Q tm h H
    have H0 := H
    obtain ⟨A2963, l2963, c2963, e0, H⟩ := selS_ex H
    obtain ⟨A2964, l2964, c2964, e3, H⟩ := selS_ex H
    obtain ⟨x2965, e5, H⟩ := selI_ex H
    have e : mask [0, 3, 5] tm = mkTm [(0, some (.slice A2963 l2963 c2963)), (3, some (.slice A2964 l2964 c2964)), (5, some (.int .i64 x2965))] := by simp only [mask, List.map_cons, List.map_nil, e0, e3, e5] <;> rfl
    rw [e]
    refine Eq.mp (quintetlaw14_NestApart_j84_step Q A2963 l2963 c2963 A2964 l2964 c2964 x2965 h) ?_
    rw [← e]
    exact (quintetlaw14_NestApart_j84_mask Q tm h).mp H0
set_option maxRecDepth 100000 in
theorem quintetlaw14_NestApart_j56_step (Q : Qx) (A11 : Option Addr) (l11 : Nat) (c11 : Nat) (h : Hp) : quintetlaw14_NestApart_j56_L Q (mkTm [(0, some (.slice A11 l11 c11))]) h =
    codeWp Try.prog 205 quintetlaw14_NestApart_lp quintetlaw14_NestApart_cut (sub (bodyOf Try.f5) [true, true]) 7 (maskQ (fun e => match e with | .ret => [2] | _ => []) Q) (mkTm [(0, some (.slice A11 l11 c11))]) h := by kernel_rfl
theorem quintetlaw14_NestApart_j56_mask (Q : Qx) (tm : Tm) (h : Hp) : quintetlaw14_NestApart_j56_L Q tm h ↔ quintetlaw14_NestApart_j56_L Q (mask [0] tm) h := Iff.rfl
set_option maxRecDepth 100000 in
theorem quintetlaw14_NestApart_j56_snd : SndAt Try.prog 205 none (sub (bodyOf Try.f5) [true, true]) (quintetlaw14_NestApart_lp 3) := by
  refine join_sound (lp := quintetlaw14_NestApart_lp) (cut := quintetlaw14_NestApart_cut) (i := 3) (c := (sub (bodyOf Try.f5) [true, true])) [0] (fun e => match e with | .ret => [2] | _ => []) quintetlaw14_NestApart_j56_L ?_ ?_
  · exact good_by (c := (sub (bodyOf Try.f5) [true, true])) (i := 7) (l := [(31, (sub (bodyOf Try.f5) [true, true, true, true, true]))]) (by kernel_rfl) (List.forall_mem_cons.2 ⟨quintetlaw14_NestApart_j84_snd, (fun _ h => by cases h)⟩)
  · intro Q tm h H
    have H0 := H
    obtain ⟨A11, l11, c11, e0, H⟩ := selS_ex H
    have e : mask [0] tm = mkTm [(0, some (.slice A11 l11 c11))] := by simp only [mask, List.map_cons, List.map_nil, e0] <;> rfl
    rw [e]
    refine Eq.mp (quintetlaw14_NestApart_j56_step Q A11 l11 c11 h) ?_
    rw [← e]
    exact (quintetlaw14_NestApart_j56_mask Q tm h).mp H0
set_option maxRecDepth 100000 in
theorem quintetlaw14_NestApart_eq (A1 : Option Addr) (l1 : Nat) (c1 : Nat) (h : Hp) (K : Value → Hp → Prop) : quintetlaw14_NestApart A1 l1 c1 h K =
    codeWp Try.prog 205 quintetlaw14_NestApart_lp quintetlaw14_NestApart_cut (bodyOf Try.f5) 1 (endQ Try.prog Try.f5.results.toList K) (argTm [(.slice A1 l1 c1)]) h := by kernel_rfl
set_option maxRecDepth 100000 in
theorem quintetlaw14_NestApart_ok (A1 : Option Addr) (l1 : Nat) (c1 : Nat) {h : Hp} {K : Value → Hp → Prop} (H : quintetlaw14_NestApart A1 l1 c1 h K) : CallsH Try.prog 5 #[(.slice A1 l1 c1)] h K :=
  calls_of (args := [(.slice A1 l1 c1)]) (n := 205) (lp := quintetlaw14_NestApart_lp) (cut := quintetlaw14_NestApart_cut) Try.func5 (c := bodyOf Try.f5) (by kernel_rfl) (by kernel_rfl) (by kernel_rfl) (good_by (c := (bodyOf Try.f5)) (i := 1) (l := [(3, (sub (bodyOf Try.f5) [true, true]))]) (by kernel_rfl) (List.forall_mem_cons.2 ⟨quintetlaw14_NestApart_j56_snd, (fun _ h => by cases h)⟩))
    (Eq.mp (quintetlaw14_NestApart_eq A1 l1 c1 h K) H)

/-! ### quintet/quintetlaw14.NestHolds: function 6 -/
def quintetlaw14_NestHolds_l28 (A1010 : Option Addr) (l1010 : Nat) (c1010 : Nat) (x1011 : Int) (A1012 : Option Addr) (l1012 : Nat) (c1012 : Nat) (A1013 : Option Addr) (l1013 : Nat) (c1013 : Nat) (x1014 : Int) (K0 : Bool → Hp → Prop) (K1 : (Option Addr) → Nat → Nat → Int → (Option Addr) → Nat → Nat → (Option Addr) → Nat → Nat → Int → Hp → Prop)  : Nat → Int → Hp → Prop
  | 0, _, _ => False
  | k + 1, x1015, h =>
    br (decide (x1015 < x1014))
    (∃ a1030 : Addr, PV Try.prog (Instr.indexAt 25 (.slice A1013 l1013 c1013) (.int .i64 x1015)) (.pointer (some a1030)) ∧
    ∃ x1031 : Int, HV Try.prog (Instr.loadAt 3 (.pointer (some a1030))) h (.int .i64 x1031) ∧ 
    br (decide (x1031 < (-1)))
    (K0 false h)
    (br (decide (x1031 ≥ (l1010 : Int)))
    (K0 false h)
    (br (decide (x1031 ≥ 0))
    (∃ a1032 : Addr, PV Try.prog (Instr.indexAt 25 (.slice A1012 l1012 c1012) (.int .i64 x1031)) (.pointer (some a1032)) ∧
    ∃ x1033 : Int, HV Try.prog (Instr.loadAt 3 (.pointer (some a1032))) h (.int .i64 x1033) ∧ 
    br (x1033 != x1015)
    (K0 false h)
    (∃ a1034 : Addr, PV Try.prog (Instr.indexAt 22 (.slice A1010 l1010 c1010) (.int .i64 x1031)) (.pointer (some a1034)) ∧
    ∃ x1035 : Int, HV Try.prog (Instr.loadAt 34 (.pointer (some a1034))) h (.int .u16 x1035) ∧ 
    br (decide (x1011 < x1035))
    (K0 false h)
    (∃ a1036 : Addr, PV Try.prog (Instr.indexAt 22 (.slice A1010 l1010 c1010) (.int .i64 x1031)) (.pointer (some a1036)) ∧
    ∃ x1037 : Int, HV Try.prog (Instr.loadAt 34 (.pointer (some (a1036.add 1)))) h (.int .u16 x1037) ∧ 
    br (decide (x1011 > x1037))
    (K0 false h)
    (quintetlaw14_NestHolds_l28 A1010 l1010 c1010 x1011 A1012 l1012 c1012 A1013 l1013 c1013 x1014 K0 K1 k (IntKind.i64.wrap (x1015 + 1)) h))))
    (quintetlaw14_NestHolds_l28 A1010 l1010 c1010 x1011 A1012 l1012 c1012 A1013 l1013 c1013 x1014 K0 K1 k (IntKind.i64.wrap (x1015 + 1)) h))))
    (K1 A1010 l1010 c1010 x1011 A1012 l1012 c1012 A1013 l1013 c1013 x1014 h)
def quintetlaw14_NestHolds_l28_L (Q : Qx) (k : Nat) (tm : Tm) (h : Hp) : Prop :=
  selS (tm 0) fun A1010 l1010 c1010 =>
  selI .u16 (tm 1) fun x1011 =>
  selS (tm 5) fun A1012 l1012 c1012 =>
  selS (tm 7) fun A1013 l1013 c1013 =>
  selI .i64 (tm 9) fun x1014 =>
  selI .i64 (tm 11) fun x1015 =>
  quintetlaw14_NestHolds_l28 A1010 l1010 c1010 x1011 A1012 l1012 c1012 A1013 l1013 c1013 x1014 (fun (b1024 : Bool) h => Q (.ret) (mkTm [(4, some (.bool b1024))]) h) (fun (A1025 : Option Addr) (l1025 : Nat) (c1025 : Nat) (x1026 : Int) (A1027 : Option Addr) (l1027 : Nat) (c1027 : Nat) (A1028 : Option Addr) (l1028 : Nat) (c1028 : Nat) (x1029 : Int) h => Q (.exit 0) (mkTm [(0, some (.slice A1025 l1025 c1025)), (1, some (.int .u16 x1026)), (5, some (.slice A1027 l1027 c1027)), (7, some (.slice A1028 l1028 c1028)), (9, some (.int .i64 x1029))]) h) k x1015 h
def quintetlaw14_NestHolds_j35 (K0 : Bool → Hp → Prop) (K1 : (Option Addr) → Nat → Nat → Int → (Option Addr) → Nat → Nat → (Option Addr) → Nat → Nat → Int → Int → Hp → Prop) (A1260 : Option Addr) (l1260 : Nat) (c1260 : Nat) (x1261 : Int) (A1262 : Option Addr) (l1262 : Nat) (c1262 : Nat) (A1263 : Option Addr) (l1263 : Nat) (c1263 : Nat) (x1264 : Int) (x1265 : Int) (h : Hp) : Prop :=
  ∃ a1284 : Addr, PV Try.prog (Instr.indexAt 25 (.slice A1262 l1262 c1262) (.int .i64 x1265)) (.pointer (some a1284)) ∧
  ∃ x1285 : Int, HV Try.prog (Instr.loadAt 3 (.pointer (some a1284))) h (.int .i64 x1285) ∧ 
  ∃ a1286 : Addr, PV Try.prog (Instr.indexAt 25 (.slice A1263 l1263 c1263) (.int .i64 x1285)) (.pointer (some a1286)) ∧
  ∃ x1287 : Int, HV Try.prog (Instr.loadAt 3 (.pointer (some a1286))) h (.int .i64 x1287) ∧ 
  br (decide (x1287 < 0))
  (K0 false h)
  (br (decide (x1287 > x1265))
  (K0 false h)
  (∃ a1288 : Addr, PV Try.prog (Instr.indexAt 22 (.slice A1260 l1260 c1260) (.int .i64 x1287)) (.pointer (some a1288)) ∧
  ∃ x1289 : Int, ∃ x1290 : Int, HV Try.prog (Instr.loadAt 38 (.pointer (some a1288))) h (.agg #[(.int .u16 x1289), (.int .u16 x1290)]) ∧ 
  ∃ a1291 : Addr, PV Try.prog (Instr.indexAt 22 (.slice A1260 l1260 c1260) (.int .i64 x1265)) (.pointer (some a1291)) ∧
  ∃ x1292 : Int, ∃ x1293 : Int, HV Try.prog (Instr.loadAt 38 (.pointer (some a1291))) h (.agg #[(.int .u16 x1292), (.int .u16 x1293)]) ∧ 
  ∃ b1294 : Bool, PV Try.prog (binOp .neq 38 (.agg #[(.int .u16 x1289), (.int .u16 x1290)]) (.agg #[(.int .u16 x1292), (.int .u16 x1293)])) (.bool b1294) ∧
  br b1294
  (K0 false h)
  (K1 A1260 l1260 c1260 x1261 A1262 l1262 c1262 A1263 l1263 c1263 x1264 x1265 h)))
def quintetlaw14_NestHolds_j35_L (Q : Qx) (tm : Tm) (h : Hp) : Prop :=
  selS (tm 0) fun A1260 l1260 c1260 =>
  selI .u16 (tm 1) fun x1261 =>
  selS (tm 5) fun A1262 l1262 c1262 =>
  selS (tm 7) fun A1263 l1263 c1263 =>
  selI .i64 (tm 9) fun x1264 =>
  selI .i64 (tm 13) fun x1265 =>
  quintetlaw14_NestHolds_j35 (fun (b1277 : Bool) h => Q (.ret) (mkTm [(4, some (.bool b1277))]) h) (fun (A1278 : Option Addr) (l1278 : Nat) (c1278 : Nat) (x1279 : Int) (A1280 : Option Addr) (l1280 : Nat) (c1280 : Nat) (A1281 : Option Addr) (l1281 : Nat) (c1281 : Nat) (x1282 : Int) (x1283 : Int) h => Q (.normal) (mkTm [(0, some (.slice A1278 l1278 c1278)), (1, some (.int .u16 x1279)), (5, some (.slice A1280 l1280 c1280)), (7, some (.slice A1281 l1281 c1281)), (9, some (.int .i64 x1282)), (13, some (.int .i64 x1283))]) h) A1260 l1260 c1260 x1261 A1262 l1262 c1262 A1263 l1263 c1263 x1264 x1265 h
def quintetlaw14_NestHolds_j34 (K0 : Bool → Hp → Prop) (K1 : (Option Addr) → Nat → Nat → Int → (Option Addr) → Nat → Nat → (Option Addr) → Nat → Nat → Int → Int → Hp → Prop) (A1191 : Option Addr) (l1191 : Nat) (c1191 : Nat) (x1192 : Int) (A1193 : Option Addr) (l1193 : Nat) (c1193 : Nat) (A1194 : Option Addr) (l1194 : Nat) (c1194 : Nat) (x1195 : Int) (x1196 : Int) (h : Hp) : Prop :=
  ∃ a1295 : Addr, PV Try.prog (Instr.indexAt 25 (.slice A1193 l1193 c1193) (.int .i64 x1196)) (.pointer (some a1295)) ∧
  ∃ x1296 : Int, HV Try.prog (Instr.loadAt 3 (.pointer (some a1295))) h (.int .i64 x1296) ∧ 
  br (decide (x1296 < 0))
  (K0 false h)
  (∃ a1297 : Addr, PV Try.prog (Instr.indexAt 25 (.slice A1193 l1193 c1193) (.int .i64 x1196)) (.pointer (some a1297)) ∧
  ∃ x1298 : Int, HV Try.prog (Instr.loadAt 3 (.pointer (some a1297))) h (.int .i64 x1298) ∧ 
  br (decide (x1298 ≥ x1195))
  (K0 false h)
  (quintetlaw14_NestHolds_j35
  (fun (b1299 : Bool) (h1300 : Hp) =>
  K0 b1299 h1300)
  (fun (A1301 : Option Addr) (l1301 : Nat) (c1301 : Nat) (x1302 : Int) (A1303 : Option Addr) (l1303 : Nat) (c1303 : Nat) (A1304 : Option Addr) (l1304 : Nat) (c1304 : Nat) (x1305 : Int) (x1306 : Int) (h1307 : Hp) =>
  K1 A1301 l1301 c1301 x1302 A1303 l1303 c1303 A1304 l1304 c1304 x1305 x1306 h1307)
  A1191 l1191 c1191 x1192 A1193 l1193 c1193 A1194 l1194 c1194 x1195 x1196 h))
def quintetlaw14_NestHolds_j34_L (Q : Qx) (tm : Tm) (h : Hp) : Prop :=
  selS (tm 0) fun A1191 l1191 c1191 =>
  selI .u16 (tm 1) fun x1192 =>
  selS (tm 5) fun A1193 l1193 c1193 =>
  selS (tm 7) fun A1194 l1194 c1194 =>
  selI .i64 (tm 9) fun x1195 =>
  selI .i64 (tm 13) fun x1196 =>
  quintetlaw14_NestHolds_j34 (fun (b1249 : Bool) h => Q (.ret) (mkTm [(4, some (.bool b1249))]) h) (fun (A1250 : Option Addr) (l1250 : Nat) (c1250 : Nat) (x1251 : Int) (A1252 : Option Addr) (l1252 : Nat) (c1252 : Nat) (A1253 : Option Addr) (l1253 : Nat) (c1253 : Nat) (x1254 : Int) (x1255 : Int) h => Q (.normal) (mkTm [(0, some (.slice A1250 l1250 c1250)), (1, some (.int .u16 x1251)), (5, some (.slice A1252 l1252 c1252)), (7, some (.slice A1253 l1253 c1253)), (9, some (.int .i64 x1254)), (13, some (.int .i64 x1255))]) h) A1191 l1191 c1191 x1192 A1193 l1193 c1193 A1194 l1194 c1194 x1195 x1196 h
def quintetlaw14_NestHolds_l32 (A1046 : Option Addr) (l1046 : Nat) (c1046 : Nat) (x1047 : Int) (A1048 : Option Addr) (l1048 : Nat) (c1048 : Nat) (A1049 : Option Addr) (l1049 : Nat) (c1049 : Nat) (x1050 : Int) (K0 : Bool → Hp → Prop) (K1 : Hp → Prop)  : Nat → Int → Hp → Prop
  | 0, _, _ => False
  | k + 1, x1051, h =>
    br (decide (x1051 < (l1046 : Int)))
    (∃ a1308 : Addr, PV Try.prog (Instr.indexAt 22 (.slice A1046 l1046 c1046) (.int .i64 x1051)) (.pointer (some a1308)) ∧
    ∃ x1309 : Int, HV Try.prog (Instr.loadAt 34 (.pointer (some a1308))) h (.int .u16 x1309) ∧ 
    br (decide (x1047 < x1309))
    (quintetlaw14_NestHolds_l32 A1046 l1046 c1046 x1047 A1048 l1048 c1048 A1049 l1049 c1049 x1050 K0 K1 k (IntKind.i64.wrap (x1051 + 1)) h)
    (∃ a1310 : Addr, PV Try.prog (Instr.indexAt 22 (.slice A1046 l1046 c1046) (.int .i64 x1051)) (.pointer (some a1310)) ∧
    ∃ x1311 : Int, HV Try.prog (Instr.loadAt 34 (.pointer (some (a1310.add 1)))) h (.int .u16 x1311) ∧ 
    br (decide (x1047 > x1311))
    (quintetlaw14_NestHolds_l32 A1046 l1046 c1046 x1047 A1048 l1048 c1048 A1049 l1049 c1049 x1050 K0 K1 k (IntKind.i64.wrap (x1051 + 1)) h)
    (quintetlaw14_NestHolds_j34
    (fun (b1312 : Bool) (h1313 : Hp) =>
    K0 b1312 h1313)
    (fun (A1314 : Option Addr) (l1314 : Nat) (c1314 : Nat) (x1315 : Int) (A1316 : Option Addr) (l1316 : Nat) (c1316 : Nat) (A1317 : Option Addr) (l1317 : Nat) (c1317 : Nat) (x1318 : Int) (x1319 : Int) (h1320 : Hp) =>
    quintetlaw14_NestHolds_l32 A1046 l1046 c1046 x1047 A1048 l1048 c1048 A1049 l1049 c1049 x1050 K0 K1 k (IntKind.i64.wrap (x1319 + 1)) h1320)
    A1046 l1046 c1046 x1047 A1048 l1048 c1048 A1049 l1049 c1049 x1050 x1051 h)))
    (K1 h)
def quintetlaw14_NestHolds_l32_L (Q : Qx) (k : Nat) (tm : Tm) (h : Hp) : Prop :=
  selS (tm 0) fun A1046 l1046 c1046 =>
  selI .u16 (tm 1) fun x1047 =>
  selS (tm 5) fun A1048 l1048 c1048 =>
  selS (tm 7) fun A1049 l1049 c1049 =>
  selI .i64 (tm 9) fun x1050 =>
  selI .i64 (tm 13) fun x1051 =>
  quintetlaw14_NestHolds_l32 A1046 l1046 c1046 x1047 A1048 l1048 c1048 A1049 l1049 c1049 x1050 (fun (b1186 : Bool) h => Q (.ret) (mkTm [(4, some (.bool b1186))]) h) (fun  h => Q (.exit 2) (mkTm []) h) k x1051 h
def quintetlaw14_NestHolds_j27 (K0 : Bool → Hp → Prop) (A685 : Option Addr) (l685 : Nat) (c685 : Nat) (x686 : Int) (A687 : Option Addr) (l687 : Nat) (c687 : Nat) (A688 : Option Addr) (l688 : Nat) (c688 : Nat) (x689 : Int) (h : Hp) : Prop :=
  ∃ k1328, quintetlaw14_NestHolds_l28 A685 l685 c685 x686 A687 l687 c687 A688 l688 c688 x689
  (fun (b1038 : Bool) (h1039 : Hp) =>
  K0 b1038 h1039)
  (fun (A1040 : Option Addr) (l1040 : Nat) (c1040 : Nat) (x1041 : Int) (A1042 : Option Addr) (l1042 : Nat) (c1042 : Nat) (A1043 : Option Addr) (l1043 : Nat) (c1043 : Nat) (x1044 : Int) (h1045 : Hp) =>
  ∃ k1327, quintetlaw14_NestHolds_l32 A1040 l1040 c1040 x1041 A1042 l1042 c1042 A1043 l1043 c1043 x1044
  (fun (b1321 : Bool) (h1322 : Hp) =>
  K0 b1321 h1322)
  (fun  (h1323 : Hp) =>
  CallsH Try.prog 9 #[] h1323 fun r1325 h1324 =>
  ∃ b1326 : Bool, r1325 = (.bool b1326) ∧ 
  K0 b1326 h1324)
  k1327 0 h1045)
  k1328 0 h
def quintetlaw14_NestHolds_j27_L (Q : Qx) (tm : Tm) (h : Hp) : Prop :=
  selS (tm 0) fun A685 l685 c685 =>
  selI .u16 (tm 1) fun x686 =>
  selS (tm 5) fun A687 l687 c687 =>
  selS (tm 7) fun A688 l688 c688 =>
  selI .i64 (tm 9) fun x689 =>
  quintetlaw14_NestHolds_j27 (fun (b1009 : Bool) h => Q (.ret) (mkTm [(4, some (.bool b1009))]) h) A685 l685 c685 x686 A687 l687 c687 A688 l688 c688 x689 h
def quintetlaw14_NestHolds_j18 (K0 : Bool → Hp → Prop) (A12 : Option Addr) (l12 : Nat) (c12 : Nat) (x13 : Int) (h : Hp) : Prop :=
  CallsH Try.prog 11 #[(.slice A12 l12 c12)] h fun r674 h673 =>
  ∃ A675 : Option Addr, ∃ l675 : Nat, ∃ c675 : Nat, ∃ x676 : Int, r674 = (.tuple #[(.slice A675 l675 c675), (.int .i64 x676)]) ∧ 
  CallsH Try.prog 17 #[(.slice A12 l12 c12), (.int .u16 x13)] h673 fun r678 h677 =>
  ∃ A679 : Option Addr, ∃ l679 : Nat, ∃ c679 : Nat, ∃ x680 : Int, r678 = (.tuple #[(.slice A679 l679 c679), (.int .i64 x680)]) ∧ 
  CallsH Try.prog 14 #[(.slice A12 l12 c12)] h677 fun r682 h681 =>
  ∃ x683 : Int, ∃ x684 : Int, r682 = (.tuple #[(.int .i64 x683), (.int .i64 x684)]) ∧ 
  br (x676 != 0)
  (K0 false h681)
  (br (x680 != 0)
  (K0 false h681)
  (br (x684 != 0)
  (K0 false h681)
  (br ((l679 : Int) != x683)
  (K0 false h681)
  (br ((l675 : Int) != (l12 : Int))
  (K0 false h681)
  (quintetlaw14_NestHolds_j27
  (fun (b1329 : Bool) (h1330 : Hp) =>
  K0 b1329 h1330)
  A12 l12 c12 x13 A675 l675 c675 A679 l679 c679 x683 h681)))))
def quintetlaw14_NestHolds_j18_L (Q : Qx) (tm : Tm) (h : Hp) : Prop :=
  selS (tm 0) fun A12 l12 c12 =>
  selI .u16 (tm 1) fun x13 =>
  quintetlaw14_NestHolds_j18 (fun (b672 : Bool) h => Q (.ret) (mkTm [(4, some (.bool b672))]) h) A12 l12 c12 x13 h
def quintetlaw14_NestHolds (A1 : Option Addr) (l1 : Nat) (c1 : Nat) (x2 : Int) (h : Hp) (K : Value → Hp → Prop) : Prop :=
  CallsH Try.prog 19 #[(.slice A1 l1 c1)] h fun r1332 h1331 =>
  ∃ b1333 : Bool, r1332 = (.bool b1333) ∧ 
  br b1333
  (CallsH Try.prog 9 #[] h1331 fun r1335 h1334 =>
  ∃ b1336 : Bool, r1335 = (.bool b1336) ∧ 
  K (.bool b1336) h1334)
  (br (decide ((l1 : Int) > 4000))
  (CallsH Try.prog 9 #[] h1331 fun r1338 h1337 =>
  ∃ b1339 : Bool, r1338 = (.bool b1339) ∧ 
  K (.bool b1339) h1337)
  (quintetlaw14_NestHolds_j18
  (fun (b1340 : Bool) (h1341 : Hp) =>
  K (.bool b1340) h1341)
  A1 l1 c1 x2 h1331))
def quintetlaw14_NestHolds_lp (i : Nat) (Q : Qx) (tm : Tm) (h : Hp) : Prop := match Nat.beq i 1018 with
  | true => ∃ k, quintetlaw14_NestHolds_l28_L Q k tm h
  | false => match Nat.beq i 65353 with
  | true => quintetlaw14_NestHolds_j35_L Q tm h
  | false => match Nat.beq i 32676 with
  | true => quintetlaw14_NestHolds_j34_L Q tm h
  | false => match Nat.beq i 2042 with
  | true => ∃ k, quintetlaw14_NestHolds_l32_L Q k tm h
  | false => match Nat.beq i 63 with
  | true => quintetlaw14_NestHolds_j27_L Q tm h
  | false => match Nat.beq i 3 with
  | true => quintetlaw14_NestHolds_j18_L Q tm h
  | false => False
def quintetlaw14_NestHolds_cut (i : Nat) : Option (List Nat) := match Nat.beq i 3 with
  | true => some [0, 1]
  | false => match Nat.beq i 63 with
  | true => some [0, 1, 5, 7, 9]
  | false => match Nat.beq i 32676 with
  | true => some [0, 1, 5, 7, 9, 13]
  | false => match Nat.beq i 65353 with
  | true => some [0, 1, 5, 7, 9, 13]
  | false => none
set_option maxRecDepth 100000 in
theorem quintetlaw14_NestHolds_l28_step (Q : Qx) (k : Nat) (A1010 : Option Addr) (l1010 : Nat) (c1010 : Nat) (x1011 : Int) (A1012 : Option Addr) (l1012 : Nat) (c1012 : Nat) (A1013 : Option Addr) (l1013 : Nat) (c1013 : Nat) (x1014 : Int) (x1015 : Int) (h : Hp) : quintetlaw14_NestHolds_l28_L Q (k + 1) (mkTm [(0, some (.slice A1010 l1010 c1010)), (1, some (.int .u16 x1011)), (5, some (.slice A1012 l1012 c1012)), (7, some (.slice A1013 l1013 c1013)), (9, some (.int .i64 x1014)), (11, some (.int .i64 x1015))]) h =
    codeWp Try.prog 170 quintetlaw14_NestHolds_lp quintetlaw14_NestHolds_cut (sub (bodyOf Try.f6) [true, true, true, true, true, true, false, true, false, false]) 2036 (thenQ (fun tm h => quintetlaw14_NestHolds_l28_L Q k (mask [0, 1, 5, 7, 9, 11] tm) h) (maskQ (fun e => match e with | .ret => [4] | .exit 0 => [0, 1, 5, 7, 9] | _ => []) Q)) (mkTm [(0, some (.slice A1010 l1010 c1010)), (1, some (.int .u16 x1011)), (5, some (.slice A1012 l1012 c1012)), (7, some (.slice A1013 l1013 c1013)), (9, some (.int .i64 x1014)), (11, some (.int .i64 x1015))]) h := by kernel_rfl
theorem quintetlaw14_NestHolds_l28_mask (Q : Qx) (k : Nat) (tm : Tm) (h : Hp) : quintetlaw14_NestHolds_l28_L Q k tm h ↔ quintetlaw14_NestHolds_l28_L Q k (mask [0, 1, 5, 7, 9, 11] tm) h := Iff.rfl
set_option maxRecDepth 100000 in
theorem quintetlaw14_NestHolds_l28_snd : SndAt Try.prog 170 none (sub (bodyOf Try.f6) [true, true, true, true, true, true, false, true, false]) (quintetlaw14_NestHolds_lp 1018) := by
  refine loop_sound (lp := quintetlaw14_NestHolds_lp) (cut := quintetlaw14_NestHolds_cut) (i := 1018) (c := (sub (bodyOf Try.f6) [true, true, true, true, true, true, false, true, false, false])) [0, 1, 5, 7, 9, 11] (fun e => match e with | .ret => [4] | .exit 0 => [0, 1, 5, 7, 9] | _ => []) quintetlaw14_NestHolds_l28_L ?_ ?_ ?_
  · exact good_by (c := (sub (bodyOf Try.f6) [true, true, true, true, true, true, false, true, false, false])) (i := 2036) (l := []) (by kernel_rfl) (fun _ h => by cases h)
  · intro Q tm h H
    obtain ⟨A1010, l1010, c1010, e0, H⟩ := selS_ex H
    obtain ⟨x1011, e1, H⟩ := selI_ex H
    obtain ⟨A1012, l1012, c1012, e5, H⟩ := selS_ex H
    obtain ⟨A1013, l1013, c1013, e7, H⟩ := selS_ex H
    obtain ⟨x1014, e9, H⟩ := selI_ex H
    obtain ⟨x1015, e11, H⟩ := selI_ex H
    exact H
  · intro Q k tm h H
    have H0 := H
    obtain ⟨A1010, l1010, c1010, e0, H⟩ := selS_ex H
    obtain ⟨x1011, e1, H⟩ := selI_ex H
    obtain ⟨A1012, l1012, c1012, e5, H⟩ := selS_ex H
    obtain ⟨A1013, l1013, c1013, e7, H⟩ := selS_ex H
    obtain ⟨x1014, e9, H⟩ := selI_ex H
    obtain ⟨x1015, e11, H⟩ := selI_ex H
    have e : mask [0, 1, 5, 7, 9, 11] tm = mkTm [(0, some (.slice A1010 l1010 c1010)), (1, some (.int .u16 x1011)), (5, some (.slice A1012 l1012 c1012)), (7, some (.slice A1013 l1013 c1013)), (9, some (.int .i64 x1014)), (11, some (.int .i64 x1015))] := by simp only [mask, List.map_cons, List.map_nil, e0, e1, e5, e7, e9, e11] <;> rfl
    rw [e]
    refine Eq.mp (quintetlaw14_NestHolds_l28_step Q k A1010 l1010 c1010 x1011 A1012 l1012 c1012 A1013 l1013 c1013 x1014 x1015 h) ?_
    rw [← e]
    exact (quintetlaw14_NestHolds_l28_mask Q (k + 1) tm h).mp H0
set_option maxRecDepth 100000 in
theorem quintetlaw14_NestHolds_j35_step (Q : Qx) (A1260 : Option Addr) (l1260 : Nat) (c1260 : Nat) (x1261 : Int) (A1262 : Option Addr) (l1262 : Nat) (c1262 : Nat) (A1263 : Option Addr) (l1263 : Nat) (c1263 : Nat) (x1264 : Int) (x1265 : Int) (h : Hp) : quintetlaw14_NestHolds_j35_L Q (mkTm [(0, some (.slice A1260 l1260 c1260)), (1, some (.int .u16 x1261)), (5, some (.slice A1262 l1262 c1262)), (7, some (.slice A1263 l1263 c1263)), (9, some (.int .i64 x1264)), (13, some (.int .i64 x1265))]) h =
    codeWp Try.prog 170 quintetlaw14_NestHolds_lp quintetlaw14_NestHolds_cut (sub (bodyOf Try.f6) [true, true, true, true, true, true, true, false, true, false, false, true, false, false, true, true]) 130707 (maskQ (fun e => match e with | .ret => [4] | .normal => [0, 1, 5, 7, 9, 13] | _ => []) Q) (mkTm [(0, some (.slice A1260 l1260 c1260)), (1, some (.int .u16 x1261)), (5, some (.slice A1262 l1262 c1262)), (7, some (.slice A1263 l1263 c1263)), (9, some (.int .i64 x1264)), (13, some (.int .i64 x1265))]) h := by kernel_rfl
theorem quintetlaw14_NestHolds_j35_mask (Q : Qx) (tm : Tm) (h : Hp) : quintetlaw14_NestHolds_j35_L Q tm h ↔ quintetlaw14_NestHolds_j35_L Q (mask [0, 1, 5, 7, 9, 13] tm) h := Iff.rfl
set_option maxRecDepth 100000 in
theorem quintetlaw14_NestHolds_j35_snd : SndAt Try.prog 170 none (sub (bodyOf Try.f6) [true, true, true, true, true, true, true, false, true, false, false, true, false, false, true, true]) (quintetlaw14_NestHolds_lp 65353) := by
  refine join_sound (lp := quintetlaw14_NestHolds_lp) (cut := quintetlaw14_NestHolds_cut) (i := 65353) (c := (sub (bodyOf Try.f6) [true, true, true, true, true, true, true, false, true, false, false, true, false, false, true, true])) [0, 1, 5, 7, 9, 13] (fun e => match e with | .ret => [4] | .normal => [0, 1, 5, 7, 9, 13] | _ => []) quintetlaw14_NestHolds_j35_L ?_ ?_
  · exact good_by (c := (sub (bodyOf Try.f6) [true, true, true, true, true, true, true, false, true, false, false, true, false, false, true, true])) (i := 130707) (l := []) (by kernel_rfl) (fun _ h => by cases h)
  · intro Q tm h H
    have H0 := H
    obtain ⟨A1260, l1260, c1260, e0, H⟩ := selS_ex H
    obtain ⟨x1261, e1, H⟩ := selI_ex H
    obtain ⟨A1262, l1262, c1262, e5, H⟩ := selS_ex H
    obtain ⟨A1263, l1263, c1263, e7, H⟩ := selS_ex H
    obtain ⟨x1264, e9, H⟩ := selI_ex H
    obtain ⟨x1265, e13, H⟩ := selI_ex H
    have e : mask [0, 1, 5, 7, 9, 13] tm = mkTm [(0, some (.slice A1260 l1260 c1260)), (1, some (.int .u16 x1261)), (5, some (.slice A1262 l1262 c1262)), (7, some (.slice A1263 l1263 c1263)), (9, some (.int .i64 x1264)), (13, some (.int .i64 x1265))] := by simp only [mask, List.map_cons, List.map_nil, e0, e1, e5, e7, e9, e13] <;> rfl
    rw [e]
    refine Eq.mp (quintetlaw14_NestHolds_j35_step Q A1260 l1260 c1260 x1261 A1262 l1262 c1262 A1263 l1263 c1263 x1264 x1265 h) ?_
    rw [← e]
    exact (quintetlaw14_NestHolds_j35_mask Q tm h).mp H0
set_option maxRecDepth 100000 in
theorem quintetlaw14_NestHolds_j34_step (Q : Qx) (A1191 : Option Addr) (l1191 : Nat) (c1191 : Nat) (x1192 : Int) (A1193 : Option Addr) (l1193 : Nat) (c1193 : Nat) (A1194 : Option Addr) (l1194 : Nat) (c1194 : Nat) (x1195 : Int) (x1196 : Int) (h : Hp) : quintetlaw14_NestHolds_j34_L Q (mkTm [(0, some (.slice A1191 l1191 c1191)), (1, some (.int .u16 x1192)), (5, some (.slice A1193 l1193 c1193)), (7, some (.slice A1194 l1194 c1194)), (9, some (.int .i64 x1195)), (13, some (.int .i64 x1196))]) h =
    codeWp Try.prog 170 quintetlaw14_NestHolds_lp quintetlaw14_NestHolds_cut (sub (bodyOf Try.f6) [true, true, true, true, true, true, true, false, true, false, false, true, false, false, true]) 65353 (maskQ (fun e => match e with | .ret => [4] | .normal => [0, 1, 5, 7, 9, 13] | _ => []) Q) (mkTm [(0, some (.slice A1191 l1191 c1191)), (1, some (.int .u16 x1192)), (5, some (.slice A1193 l1193 c1193)), (7, some (.slice A1194 l1194 c1194)), (9, some (.int .i64 x1195)), (13, some (.int .i64 x1196))]) h := by kernel_rfl
theorem quintetlaw14_NestHolds_j34_mask (Q : Qx) (tm : Tm) (h : Hp) : quintetlaw14_NestHolds_j34_L Q tm h ↔ quintetlaw14_NestHolds_j34_L Q (mask [0, 1, 5, 7, 9, 13] tm) h := Iff.rfl
set_option maxRecDepth 100000 in
theorem quintetlaw14_NestHolds_j34_snd : SndAt Try.prog 170 none (sub (bodyOf Try.f6) [true, true, true, true, true, true, true, false, true, false, false, true, false, false, true]) (quintetlaw14_NestHolds_lp 32676) := by
  refine join_sound (lp := quintetlaw14_NestHolds_lp) (cut := quintetlaw14_NestHolds_cut) (i := 32676) (c := (sub (bodyOf Try.f6) [true, true, true, true, true, true, true, false, true, false, false, true, false, false, true])) [0, 1, 5, 7, 9, 13] (fun e => match e with | .ret => [4] | .normal => [0, 1, 5, 7, 9, 13] | _ => []) quintetlaw14_NestHolds_j34_L ?_ ?_
  · exact good_by (c := (sub (bodyOf Try.f6) [true, true, true, true, true, true, true, false, true, false, false, true, false, false, true])) (i := 65353) (l := [(65353, (sub (bodyOf Try.f6) [true, true, true, true, true, true, true, false, true, false, false, true, false, false, true, true]))]) (by kernel_rfl) (List.forall_mem_cons.2 ⟨quintetlaw14_NestHolds_j35_snd, (fun _ h => by cases h)⟩)
  · intro Q tm h H
    have H0 := H
    obtain ⟨A1191, l1191, c1191, e0, H⟩ := selS_ex H
    obtain ⟨x1192, e1, H⟩ := selI_ex H
    obtain ⟨A1193, l1193, c1193, e5, H⟩ := selS_ex H
    obtain ⟨A1194, l1194, c1194, e7, H⟩ := selS_ex H
    obtain ⟨x1195, e9, H⟩ := selI_ex H
    obtain ⟨x1196, e13, H⟩ := selI_ex H
    have e : mask [0, 1, 5, 7, 9, 13] tm = mkTm [(0, some (.slice A1191 l1191 c1191)), (1, some (.int .u16 x1192)), (5, some (.slice A1193 l1193 c1193)), (7, some (.slice A1194 l1194 c1194)), (9, some (.int .i64 x1195)), (13, some (.int .i64 x1196))] := by simp only [mask, List.map_cons, List.map_nil, e0, e1, e5, e7, e9, e13] <;> rfl
    rw [e]
    refine Eq.mp (quintetlaw14_NestHolds_j34_step Q A1191 l1191 c1191 x1192 A1193 l1193 c1193 A1194 l1194 c1194 x1195 x1196 h) ?_
    rw [← e]
    exact (quintetlaw14_NestHolds_j34_mask Q tm h).mp H0
set_option maxRecDepth 100000 in
theorem quintetlaw14_NestHolds_l32_step (Q : Qx) (k : Nat) (A1046 : Option Addr) (l1046 : Nat) (c1046 : Nat) (x1047 : Int) (A1048 : Option Addr) (l1048 : Nat) (c1048 : Nat) (A1049 : Option Addr) (l1049 : Nat) (c1049 : Nat) (x1050 : Int) (x1051 : Int) (h : Hp) : quintetlaw14_NestHolds_l32_L Q (k + 1) (mkTm [(0, some (.slice A1046 l1046 c1046)), (1, some (.int .u16 x1047)), (5, some (.slice A1048 l1048 c1048)), (7, some (.slice A1049 l1049 c1049)), (9, some (.int .i64 x1050)), (13, some (.int .i64 x1051))]) h =
    codeWp Try.prog 170 quintetlaw14_NestHolds_lp quintetlaw14_NestHolds_cut (sub (bodyOf Try.f6) [true, true, true, true, true, true, true, false, true, false, false]) 4084 (thenQ (fun tm h => quintetlaw14_NestHolds_l32_L Q k (mask [0, 1, 5, 7, 9, 13] tm) h) (maskQ (fun e => match e with | .ret => [4] | .exit 2 => [] | _ => []) Q)) (mkTm [(0, some (.slice A1046 l1046 c1046)), (1, some (.int .u16 x1047)), (5, some (.slice A1048 l1048 c1048)), (7, some (.slice A1049 l1049 c1049)), (9, some (.int .i64 x1050)), (13, some (.int .i64 x1051))]) h := by kernel_rfl
theorem quintetlaw14_NestHolds_l32_mask (Q : Qx) (k : Nat) (tm : Tm) (h : Hp) : quintetlaw14_NestHolds_l32_L Q k tm h ↔ quintetlaw14_NestHolds_l32_L Q k (mask [0, 1, 5, 7, 9, 13] tm) h := Iff.rfl
set_option maxRecDepth 100000 in
theorem quintetlaw14_NestHolds_l32_snd : SndAt Try.prog 170 none (sub (bodyOf Try.f6) [true, true, true, true, true, true, true, false, true, false]) (quintetlaw14_NestHolds_lp 2042) := by
  refine loop_sound (lp := quintetlaw14_NestHolds_lp) (cut := quintetlaw14_NestHolds_cut) (i := 2042) (c := (sub (bodyOf Try.f6) [true, true, true, true, true, true, true, false, true, false, false])) [0, 1, 5, 7, 9, 13] (fun e => match e with | .ret => [4] | .exit 2 => [] | _ => []) quintetlaw14_NestHolds_l32_L ?_ ?_ ?_
  · exact good_by (c := (sub (bodyOf Try.f6) [true, true, true, true, true, true, true, false, true, false, false])) (i := 4084) (l := [(32676, (sub (bodyOf Try.f6) [true, true, true, true, true, true, true, false, true, false, false, true, false, false, true]))]) (by kernel_rfl) (List.forall_mem_cons.2 ⟨quintetlaw14_NestHolds_j34_snd, (fun _ h => by cases h)⟩)
  · intro Q tm h H
    obtain ⟨A1046, l1046, c1046, e0, H⟩ := selS_ex H
    obtain ⟨x1047, e1, H⟩ := selI_ex H
    obtain ⟨A1048, l1048, c1048, e5, H⟩ := selS_ex H
    obtain ⟨A1049, l1049, c1049, e7, H⟩ := selS_ex H
    obtain ⟨x1050, e9, H⟩ := selI_ex H
    obtain ⟨x1051, e13, H⟩ := selI_ex H
    exact H
  · intro Q k tm h H
    have H0 := H
    obtain ⟨A1046, l1046, c1046, e0, H⟩ := selS_ex H
    obtain ⟨x1047, e1, H⟩ := selI_ex H
    obtain ⟨A1048, l1048, c1048, e5, H⟩ := selS_ex H
    obtain ⟨A1049, l1049, c1049, e7, H⟩ := selS_ex H
    obtain ⟨x1050, e9, H⟩ := selI_ex H
    obtain ⟨x1051, e13, H⟩ := selI_ex H
    have e : mask [0, 1, 5, 7, 9, 13] tm = mkTm [(0, some (.slice A1046 l1046 c1046)), (1, some (.int .u16 x1047)), (5, some (.slice A1048 l1048 c1048)), (7, some (.slice A1049 l1049 c1049)), (9, some (.int .i64 x1050)), (13, some (.int .i64 x1051))] := by simp only [mask, List.map_cons, List.map_nil, e0, e1, e5, e7, e9, e13] <;> rfl
    rw [e]
    refine Eq.mp (quintetlaw14_NestHolds_l32_step Q k A1046 l1046 c1046 x1047 A1048 l1048 c1048 A1049 l1049 c1049 x1050 x1051 h) ?_
    rw [← e]
    exact (quintetlaw14_NestHolds_l32_mask Q (k + 1) tm h).mp H0
set_option maxRecDepth 100000 in
theorem quintetlaw14_NestHolds_j27_step (Q : Qx) (A685 : Option Addr) (l685 : Nat) (c685 : Nat) (x686 : Int) (A687 : Option Addr) (l687 : Nat) (c687 : Nat) (A688 : Option Addr) (l688 : Nat) (c688 : Nat) (x689 : Int) (h : Hp) : quintetlaw14_NestHolds_j27_L Q (mkTm [(0, some (.slice A685 l685 c685)), (1, some (.int .u16 x686)), (5, some (.slice A687 l687 c687)), (7, some (.slice A688 l688 c688)), (9, some (.int .i64 x689))]) h =
    codeWp Try.prog 170 quintetlaw14_NestHolds_lp quintetlaw14_NestHolds_cut (sub (bodyOf Try.f6) [true, true, true, true, true, true]) 127 (maskQ (fun e => match e with | .ret => [4] | _ => []) Q) (mkTm [(0, some (.slice A685 l685 c685)), (1, some (.int .u16 x686)), (5, some (.slice A687 l687 c687)), (7, some (.slice A688 l688 c688)), (9, some (.int .i64 x689))]) h := by kernel_rfl
theorem quintetlaw14_NestHolds_j27_mask (Q : Qx) (tm : Tm) (h : Hp) : quintetlaw14_NestHolds_j27_L Q tm h ↔ quintetlaw14_NestHolds_j27_L Q (mask [0, 1, 5, 7, 9] tm) h := Iff.rfl
set_option maxRecDepth 100000 in
theorem quintetlaw14_NestHolds_j27_snd : SndAt Try.prog 170 none (sub (bodyOf Try.f6) [true, true, true, true, true, true]) (quintetlaw14_NestHolds_lp 63) := by
  refine join_sound (lp := quintetlaw14_NestHolds_lp) (cut := quintetlaw14_NestHolds_cut) (i := 63) (c := (sub (bodyOf Try.f6) [true, true, true, true, true, true])) [0, 1, 5, 7, 9] (fun e => match e with | .ret => [4] | _ => []) quintetlaw14_NestHolds_j27_L ?_ ?_
  · exact good_by (c := (sub (bodyOf Try.f6) [true, true, true, true, true, true])) (i := 127) (l := [(1018, (sub (bodyOf Try.f6) [true, true, true, true, true, true, false, true, false])), (2042, (sub (bodyOf Try.f6) [true, true, true, true, true, true, true, false, true, false]))]) (by kernel_rfl) (List.forall_mem_cons.2 ⟨quintetlaw14_NestHolds_l28_snd, (List.forall_mem_cons.2 ⟨quintetlaw14_NestHolds_l32_snd, (fun _ h => by cases h)⟩)⟩)
  · intro Q tm h H
    have H0 := H
    obtain ⟨A685, l685, c685, e0, H⟩ := selS_ex H
    obtain ⟨x686, e1, H⟩ := selI_ex H
    obtain ⟨A687, l687, c687, e5, H⟩ := selS_ex H
    obtain ⟨A688, l688, c688, e7, H⟩ := selS_ex H
    obtain ⟨x689, e9, H⟩ := selI_ex H
    have e : mask [0, 1, 5, 7, 9] tm = mkTm [(0, some (.slice A685 l685 c685)), (1, some (.int .u16 x686)), (5, some (.slice A687 l687 c687)), (7, some (.slice A688 l688 c688)), (9, some (.int .i64 x689))] := by simp only [mask, List.map_cons, List.map_nil, e0, e1, e5, e7, e9] <;> rfl
    rw [e]
    refine Eq.mp (quintetlaw14_NestHolds_j27_step Q A685 l685 c685 x686 A687 l687 c687 A688 l688 c688 x689 h) ?_
    rw [← e]
    exact (quintetlaw14_NestHolds_j27_mask Q tm h).mp H0
set_option maxRecDepth 100000 in
theorem quintetlaw14_NestHolds_j18_step (Q : Qx) (A12 : Option Addr) (l12 : Nat) (c12 : Nat) (x13 : Int) (h : Hp) : quintetlaw14_NestHolds_j18_L Q (mkTm [(0, some (.slice A12 l12 c12)), (1, some (.int .u16 x13))]) h =
    codeWp Try.prog 170 quintetlaw14_NestHolds_lp quintetlaw14_NestHolds_cut (sub (bodyOf Try.f6) [true, true]) 7 (maskQ (fun e => match e with | .ret => [4] | _ => []) Q) (mkTm [(0, some (.slice A12 l12 c12)), (1, some (.int .u16 x13))]) h := by kernel_rfl
theorem quintetlaw14_NestHolds_j18_mask (Q : Qx) (tm : Tm) (h : Hp) : quintetlaw14_NestHolds_j18_L Q tm h ↔ quintetlaw14_NestHolds_j18_L Q (mask [0, 1] tm) h := Iff.rfl
set_option maxRecDepth 100000 in
theorem quintetlaw14_NestHolds_j18_snd : SndAt Try.prog 170 none (sub (bodyOf Try.f6) [true, true]) (quintetlaw14_NestHolds_lp 3) := by
  refine join_sound (lp := quintetlaw14_NestHolds_lp) (cut := quintetlaw14_NestHolds_cut) (i := 3) (c := (sub (bodyOf Try.f6) [true, true])) [0, 1] (fun e => match e with | .ret => [4] | _ => []) quintetlaw14_NestHolds_j18_L ?_ ?_
  · exact good_by (c := (sub (bodyOf Try.f6) [true, true])) (i := 7) (l := [(63, (sub (bodyOf Try.f6) [true, true, true, true, true, true]))]) (by kernel_rfl) (List.forall_mem_cons.2 ⟨quintetlaw14_NestHolds_j27_snd, (fun _ h => by cases h)⟩)
  · intro Q tm h H
    have H0 := H
    obtain ⟨A12, l12, c12, e0, H⟩ := selS_ex H
    obtain ⟨x13, e1, H⟩ := selI_ex H
    have e : mask [0, 1] tm = mkTm [(0, some (.slice A12 l12 c12)), (1, some (.int .u16 x13))] := by simp only [mask, List.map_cons, List.map_nil, e0, e1] <;> rfl
    rw [e]
    refine Eq.mp (quintetlaw14_NestHolds_j18_step Q A12 l12 c12 x13 h) ?_
    rw [← e]
    exact (quintetlaw14_NestHolds_j18_mask Q tm h).mp H0
set_option maxRecDepth 100000 in
theorem quintetlaw14_NestHolds_eq (A1 : Option Addr) (l1 : Nat) (c1 : Nat) (x2 : Int) (h : Hp) (K : Value → Hp → Prop) : quintetlaw14_NestHolds A1 l1 c1 x2 h K =
    codeWp Try.prog 170 quintetlaw14_NestHolds_lp quintetlaw14_NestHolds_cut (bodyOf Try.f6) 1 (endQ Try.prog Try.f6.results.toList K) (argTm [(.slice A1 l1 c1), (.int .u16 x2)]) h := by kernel_rfl
set_option maxRecDepth 100000 in
theorem quintetlaw14_NestHolds_ok (A1 : Option Addr) (l1 : Nat) (c1 : Nat) (x2 : Int) {h : Hp} {K : Value → Hp → Prop} (H : quintetlaw14_NestHolds A1 l1 c1 x2 h K) : CallsH Try.prog 6 #[(.slice A1 l1 c1), (.int .u16 x2)] h K :=
  calls_of (args := [(.slice A1 l1 c1), (.int .u16 x2)]) (n := 170) (lp := quintetlaw14_NestHolds_lp) (cut := quintetlaw14_NestHolds_cut) Try.func6 (c := bodyOf Try.f6) (by kernel_rfl) (by kernel_rfl) (by kernel_rfl) (good_by (c := (bodyOf Try.f6)) (i := 1) (l := [(3, (sub (bodyOf Try.f6) [true, true]))]) (by kernel_rfl) (List.forall_mem_cons.2 ⟨quintetlaw14_NestHolds_j18_snd, (fun _ h => by cases h)⟩))
    (Eq.mp (quintetlaw14_NestHolds_eq A1 l1 c1 x2 h K) H)

/-! ### quintet/quintetlaw14.NestShrinks: function 7 -/
def quintetlaw14_NestShrinks_j18 (K0 : (Option Addr) → Nat → Nat → Int → (Option Addr) → Nat → Nat → (Option Addr) → Nat → Nat → Int → Hp → Prop) (A1206 : Option Addr) (l1206 : Nat) (c1206 : Nat) (x1207 : Int) (A1208 : Option Addr) (l1208 : Nat) (c1208 : Nat) (A1209 : Option Addr) (l1209 : Nat) (c1209 : Nat) (x1210 : Int) (h : Hp) : Prop :=
  ∃ a1251 : Addr, PV Try.prog (Instr.indexAt 39 (.slice A1206 l1206 c1206) (.int .i64 (IntKind.i64.wrap ((IntKind.i64.wrap ((l1206 : Int) - 1)) - x1210)))) (.pointer (some a1251)) ∧
  ∃ x1252 : Int, ∃ x1253 : Int, ∃ x1254 : Int, ∃ x1255 : Int, ∃ x1256 : Int, ∃ x1257 : Int, ∃ x1258 : Int, ∃ x1259 : Int, ∃ x1260 : Int, ∃ x1261 : Int, ∃ x1262 : Int, ∃ x1263 : Int, HV Try.prog (Instr.loadAt 48 (.pointer (some a1251))) h (.agg #[(.int .i64 x1252), (.int .u32 x1253), (.int .i64 x1254), (.int .u32 x1255), (.int .i64 x1256), (.int .u16 x1257), (.int .u16 x1258), (.int .u16 x1259), (.int .u16 x1260), (.int .u8 x1261), (.int .u8 x1262), (.int .i64 x1263)]) ∧ 
  newC h (.cells #[(.int .i64 0), (.int .u32 0), (.int .i64 0), (.int .u32 0), (.int .i64 0), (.int .u16 0), (.int .u16 0), (.int .u16 0), (.int .u16 0), (.int .u8 0), (.int .u8 0), (.int .i64 0)] 48 (0, 0)) fun a1265 h1264 => 
  HU Try.prog (Instr.storeAt 48 (.pointer (some a1265)) (.agg #[(.int .i64 x1252), (.int .u32 x1253), (.int .i64 x1254), (.int .u32 x1255), (.int .i64 x1256), (.int .u16 x1257), (.int .u16 x1258), (.int .u16 x1259), (.int .u16 x1260), (.int .u8 x1261), (.int .u8 x1262), (.int .i64 x1263)])) h1264 fun h1266 => 
  HU Try.prog (Instr.storeAt 3 (.pointer (some a1265)) (.int .i64 (IntKind.i64.wrap (x1210 + 1)))) h1266 fun h1267 => 
  HU Try.prog (Instr.storeAt 46 (.pointer (some (a1265.add 11))) (.int .i64 4)) h1267 fun h1268 => 
  ∃ x1269 : Int, ∃ x1270 : Int, ∃ x1271 : Int, ∃ x1272 : Int, ∃ x1273 : Int, ∃ x1274 : Int, ∃ x1275 : Int, ∃ x1276 : Int, ∃ x1277 : Int, ∃ x1278 : Int, ∃ x1279 : Int, ∃ x1280 : Int, HV Try.prog (Instr.loadAt 48 (.pointer (some a1265))) h1268 (.agg #[(.int .i64 x1269), (.int .u32 x1270), (.int .i64 x1271), (.int .u32 x1272), (.int .i64 x1273), (.int .u16 x1274), (.int .u16 x1275), (.int .u16 x1276), (.int .u16 x1277), (.int .u8 x1278), (.int .u8 x1279), (.int .i64 x1280)]) ∧ 
  newC h1268 (.cells #[(.int .i64 x1269), (.int .u32 x1270), (.int .i64 x1271), (.int .u32 x1272), (.int .i64 x1273), (.int .u16 x1274), (.int .u16 x1275), (.int .u16 x1276), (.int .u16 x1277), (.int .u8 x1278), (.int .u8 x1279), (.int .i64 x1280)] 48 (0, 0)) fun a1282 h1281 => 
  HW Try.prog (Builtin.append_ #[39, 39] 39 #[(.slice A1209 l1209 c1209), (.slice (some a1282) 1 1)]) h1281 fun r1284 h1283 =>
  ∃ A1285 : Option Addr, ∃ l1285 : Nat, ∃ c1285 : Nat, r1284 = (.slice A1285 l1285 c1285) ∧ 
  K0 A1206 l1206 c1206 x1207 A1208 l1208 c1208 A1285 l1285 c1285 x1210 h1283
def quintetlaw14_NestShrinks_j18_L (Q : Qx) (tm : Tm) (h : Hp) : Prop :=
  selS (tm 0) fun A1206 l1206 c1206 =>
  selI .i64 (tm 1) fun x1207 =>
  selS (tm 5) fun A1208 l1208 c1208 =>
  selS (tm 6) fun A1209 l1209 c1209 =>
  selI .i64 (tm 7) fun x1210 =>
  quintetlaw14_NestShrinks_j18 (fun (A1246 : Option Addr) (l1246 : Nat) (c1246 : Nat) (x1247 : Int) (A1248 : Option Addr) (l1248 : Nat) (c1248 : Nat) (A1249 : Option Addr) (l1249 : Nat) (c1249 : Nat) (x1250 : Int) h => Q (.normal) (mkTm [(0, some (.slice A1246 l1246 c1246)), (1, some (.int .i64 x1247)), (5, some (.slice A1248 l1248 c1248)), (6, some (.slice A1249 l1249 c1249)), (7, some (.int .i64 x1250))]) h) A1206 l1206 c1206 x1207 A1208 l1208 c1208 A1209 l1209 c1209 x1210 h
def quintetlaw14_NestShrinks_l17 (A1052 : Option Addr) (l1052 : Nat) (c1052 : Nat) (x1053 : Int) (K0 : (Option Addr) → Nat → Nat → (Option Addr) → Nat → Nat → (Option Addr) → Nat → Nat → Hp → Prop)  : Nat → (Option Addr) → Nat → Nat → (Option Addr) → Nat → Nat → Int → Hp → Prop
  | 0, _, _, _, _, _, _, _, _ => False
  | k + 1, A1054, l1054, c1054, A1055, l1055, c1055, x1056, h =>
    br (decide (x1056 < (l1052 : Int)))
    (br (x1056 != x1053)
    (∃ a1286 : Addr, PV Try.prog (Instr.indexAt 39 (.slice A1052 l1052 c1052) (.int .i64 x1056)) (.pointer (some a1286)) ∧
    ∃ x1287 : Int, ∃ x1288 : Int, ∃ x1289 : Int, ∃ x1290 : Int, ∃ x1291 : Int, ∃ x1292 : Int, ∃ x1293 : Int, ∃ x1294 : Int, ∃ x1295 : Int, ∃ x1296 : Int, ∃ x1297 : Int, ∃ x1298 : Int, HV Try.prog (Instr.loadAt 48 (.pointer (some a1286))) h (.agg #[(.int .i64 x1287), (.int .u32 x1288), (.int .i64 x1289), (.int .u32 x1290), (.int .i64 x1291), (.int .u16 x1292), (.int .u16 x1293), (.int .u16 x1294), (.int .u16 x1295), (.int .u8 x1296), (.int .u8 x1297), (.int .i64 x1298)]) ∧ 
    newC h (.cells #[(.int .i64 x1287), (.int .u32 x1288), (.int .i64 x1289), (.int .u32 x1290), (.int .i64 x1291), (.int .u16 x1292), (.int .u16 x1293), (.int .u16 x1294), (.int .u16 x1295), (.int .u8 x1296), (.int .u8 x1297), (.int .i64 x1298)] 48 (0, 0)) fun a1300 h1299 => 
    HW Try.prog (Builtin.append_ #[39, 39] 39 #[(.slice A1054 l1054 c1054), (.slice (some a1300) 1 1)]) h1299 fun r1302 h1301 =>
    ∃ A1303 : Option Addr, ∃ l1303 : Nat, ∃ c1303 : Nat, r1302 = (.slice A1303 l1303 c1303) ∧ 
    quintetlaw14_NestShrinks_j18
    (fun (A1304 : Option Addr) (l1304 : Nat) (c1304 : Nat) (x1305 : Int) (A1306 : Option Addr) (l1306 : Nat) (c1306 : Nat) (A1307 : Option Addr) (l1307 : Nat) (c1307 : Nat) (x1308 : Int) (h1309 : Hp) =>
    quintetlaw14_NestShrinks_l17 A1052 l1052 c1052 x1053 K0 k A1306 l1306 c1306 A1307 l1307 c1307 (IntKind.i64.wrap (x1308 + 1)) h1309)
    A1052 l1052 c1052 x1053 A1303 l1303 c1303 A1055 l1055 c1055 x1056 h1301)
    (quintetlaw14_NestShrinks_j18
    (fun (A1310 : Option Addr) (l1310 : Nat) (c1310 : Nat) (x1311 : Int) (A1312 : Option Addr) (l1312 : Nat) (c1312 : Nat) (A1313 : Option Addr) (l1313 : Nat) (c1313 : Nat) (x1314 : Int) (h1315 : Hp) =>
    quintetlaw14_NestShrinks_l17 A1052 l1052 c1052 x1053 K0 k A1312 l1312 c1312 A1313 l1313 c1313 (IntKind.i64.wrap (x1314 + 1)) h1315)
    A1052 l1052 c1052 x1053 A1054 l1054 c1054 A1055 l1055 c1055 x1056 h))
    (K0 A1052 l1052 c1052 A1054 l1054 c1054 A1055 l1055 c1055 h)
def quintetlaw14_NestShrinks_l17_L (Q : Qx) (k : Nat) (tm : Tm) (h : Hp) : Prop :=
  selS (tm 0) fun A1052 l1052 c1052 =>
  selI .i64 (tm 1) fun x1053 =>
  selS (tm 5) fun A1054 l1054 c1054 =>
  selS (tm 6) fun A1055 l1055 c1055 =>
  selI .i64 (tm 7) fun x1056 =>
  quintetlaw14_NestShrinks_l17 A1052 l1052 c1052 x1053 (fun (A1185 : Option Addr) (l1185 : Nat) (c1185 : Nat) (A1186 : Option Addr) (l1186 : Nat) (c1186 : Nat) (A1187 : Option Addr) (l1187 : Nat) (c1187 : Nat) h => Q (.exit 0) (mkTm [(0, some (.slice A1185 l1185 c1185)), (5, some (.slice A1186 l1186 c1186)), (6, some (.slice A1187 l1187 c1187))]) h) k A1054 l1054 c1054 A1055 l1055 c1055 x1056 h
def quintetlaw14_NestShrinks_j19 (K0 : Bool → Hp → Prop) (A1356 : Option Addr) (l1356 : Nat) (c1356 : Nat) (x1357 : Int) (x1358 : Int) (x1359 : Int) (x1360 : Int) (x1361 : Int) (x1362 : Int) (x1363 : Int) (x1364 : Int) (x1365 : Int) (b1366 : Bool) (h : Hp) : Prop :=
  CallsH Try.prog 9 #[] h fun r1372 h1371 =>
  ∃ b1373 : Bool, r1372 = (.bool b1373) ∧ 
  br b1373
  (br b1366
  (br (decide (x1360 < x1357))
  (br (decide (x1361 < x1358))
  (br (decide (x1362 < x1359))
  (br (x1363 == x1357)
  (br (x1364 == x1358)
  (br (x1365 == x1359)
  (br (decide (x1358 ≥ (l1356 : Int)))
  (br (decide (x1359 ≥ (l1356 : Int)))
  (K0 (decide (x1357 ≥ x1358)) h1371)
  (K0 false h1371))
  (K0 false h1371))
  (K0 false h1371))
  (K0 false h1371))
  (K0 false h1371))
  (K0 false h1371))
  (K0 false h1371))
  (K0 false h1371))
  (K0 false h1371))
  (K0 false h1371)
def quintetlaw14_NestShrinks_j19_L (Q : Qx) (tm : Tm) (h : Hp) : Prop :=
  selS (tm 0) fun A1356 l1356 c1356 =>
  selI .i64 (tm 9) fun x1357 =>
  selI .i64 (tm 11) fun x1358 =>
  selI .i64 (tm 13) fun x1359 =>
  selI .i64 (tm 15) fun x1360 =>
  selI .i64 (tm 17) fun x1361 =>
  selI .i64 (tm 19) fun x1362 =>
  selI .i64 (tm 21) fun x1363 =>
  selI .i64 (tm 23) fun x1364 =>
  selI .i64 (tm 25) fun x1365 =>
  selB (tm 27) fun b1366 =>
  quintetlaw14_NestShrinks_j19 (fun (b1370 : Bool) h => Q (.ret) (mkTm [(4, some (.bool b1370))]) h) A1356 l1356 c1356 x1357 x1358 x1359 x1360 x1361 x1362 x1363 x1364 x1365 b1366 h
def quintetlaw14_NestShrinks_j15 (K0 : Bool → Hp → Prop) (A706 : Option Addr) (l706 : Nat) (c706 : Nat) (x707 : Int) (h : Hp) : Prop :=
  ∃ x1051 : Int, PV Try.prog (binOp .rem 3 (.int .i64 x707) (.int .i64 (l706 : Int))) (.int .i64 x1051) ∧
  ∃ k1392, quintetlaw14_NestShrinks_l17 A706 l706 c706 x1051
  (fun (A1316 : Option Addr) (l1316 : Nat) (c1316 : Nat) (A1317 : Option Addr) (l1317 : Nat) (c1317 : Nat) (A1318 : Option Addr) (l1318 : Nat) (c1318 : Nat) (h1319 : Hp) =>
  CallsH Try.prog 21 #[(.slice A1316 l1316 c1316)] h1319 fun r1321 h1320 =>
  ∃ x1322 : Int, ∃ x1323 : Int, r1321 = (.tuple #[(.int .i64 x1322), (.int .i64 x1323)]) ∧ 
  CallsH Try.prog 22 #[(.slice A1316 l1316 c1316)] h1320 fun r1325 h1324 =>
  ∃ x1326 : Int, ∃ x1327 : Int, r1325 = (.tuple #[(.int .i64 x1326), (.int .i64 x1327)]) ∧ 
  CallsH Try.prog 23 #[(.slice A1316 l1316 c1316)] h1324 fun r1329 h1328 =>
  ∃ x1330 : Int, ∃ x1331 : Int, r1329 = (.tuple #[(.int .i64 x1330), (.int .i64 x1331)]) ∧ 
  CallsH Try.prog 21 #[(.slice A1317 l1317 c1317)] h1328 fun r1333 h1332 =>
  ∃ x1334 : Int, ∃ x1335 : Int, r1333 = (.tuple #[(.int .i64 x1334), (.int .i64 x1335)]) ∧ 
  CallsH Try.prog 22 #[(.slice A1317 l1317 c1317)] h1332 fun r1337 h1336 =>
  ∃ x1338 : Int, ∃ x1339 : Int, r1337 = (.tuple #[(.int .i64 x1338), (.int .i64 x1339)]) ∧ 
  CallsH Try.prog 23 #[(.slice A1317 l1317 c1317)] h1336 fun r1341 h1340 =>
  ∃ x1342 : Int, ∃ x1343 : Int, r1341 = (.tuple #[(.int .i64 x1342), (.int .i64 x1343)]) ∧ 
  CallsH Try.prog 21 #[(.slice A1318 l1318 c1318)] h1340 fun r1345 h1344 =>
  ∃ x1346 : Int, ∃ x1347 : Int, r1345 = (.tuple #[(.int .i64 x1346), (.int .i64 x1347)]) ∧ 
  CallsH Try.prog 22 #[(.slice A1318 l1318 c1318)] h1344 fun r1349 h1348 =>
  ∃ x1350 : Int, ∃ x1351 : Int, r1349 = (.tuple #[(.int .i64 x1350), (.int .i64 x1351)]) ∧ 
  CallsH Try.prog 23 #[(.slice A1318 l1318 c1318)] h1348 fun r1353 h1352 =>
  ∃ x1354 : Int, ∃ x1355 : Int, r1353 = (.tuple #[(.int .i64 x1354), (.int .i64 x1355)]) ∧ 
  br (x1323 == 0)
  (br (x1327 == 0)
  (br (x1331 == 0)
  (br (x1335 == 0)
  (br (x1339 == 0)
  (br (x1343 == 0)
  (br (x1347 == 0)
  (br (x1351 == 0)
  (quintetlaw14_NestShrinks_j19
  (fun (b1374 : Bool) (h1375 : Hp) =>
  K0 b1374 h1375)
  A1316 l1316 c1316 x1322 x1326 x1330 x1334 x1338 x1342 x1346 x1350 x1354 (x1355 == 0) h1352)
  (quintetlaw14_NestShrinks_j19
  (fun (b1376 : Bool) (h1377 : Hp) =>
  K0 b1376 h1377)
  A1316 l1316 c1316 x1322 x1326 x1330 x1334 x1338 x1342 x1346 x1350 x1354 false h1352))
  (quintetlaw14_NestShrinks_j19
  (fun (b1378 : Bool) (h1379 : Hp) =>
  K0 b1378 h1379)
  A1316 l1316 c1316 x1322 x1326 x1330 x1334 x1338 x1342 x1346 x1350 x1354 false h1352))
  (quintetlaw14_NestShrinks_j19
  (fun (b1380 : Bool) (h1381 : Hp) =>
  K0 b1380 h1381)
  A1316 l1316 c1316 x1322 x1326 x1330 x1334 x1338 x1342 x1346 x1350 x1354 false h1352))
  (quintetlaw14_NestShrinks_j19
  (fun (b1382 : Bool) (h1383 : Hp) =>
  K0 b1382 h1383)
  A1316 l1316 c1316 x1322 x1326 x1330 x1334 x1338 x1342 x1346 x1350 x1354 false h1352))
  (quintetlaw14_NestShrinks_j19
  (fun (b1384 : Bool) (h1385 : Hp) =>
  K0 b1384 h1385)
  A1316 l1316 c1316 x1322 x1326 x1330 x1334 x1338 x1342 x1346 x1350 x1354 false h1352))
  (quintetlaw14_NestShrinks_j19
  (fun (b1386 : Bool) (h1387 : Hp) =>
  K0 b1386 h1387)
  A1316 l1316 c1316 x1322 x1326 x1330 x1334 x1338 x1342 x1346 x1350 x1354 false h1352))
  (quintetlaw14_NestShrinks_j19
  (fun (b1388 : Bool) (h1389 : Hp) =>
  K0 b1388 h1389)
  A1316 l1316 c1316 x1322 x1326 x1330 x1334 x1338 x1342 x1346 x1350 x1354 false h1352))
  (quintetlaw14_NestShrinks_j19
  (fun (b1390 : Bool) (h1391 : Hp) =>
  K0 b1390 h1391)
  A1316 l1316 c1316 x1322 x1326 x1330 x1334 x1338 x1342 x1346 x1350 x1354 false h1352))
  k1392 none 0 0 none 0 0 0 h
def quintetlaw14_NestShrinks_j15_L (Q : Qx) (tm : Tm) (h : Hp) : Prop :=
  selS (tm 0) fun A706 l706 c706 =>
  selI .i64 (tm 1) fun x707 =>
  quintetlaw14_NestShrinks_j15 (fun (b1050 : Bool) h => Q (.ret) (mkTm [(4, some (.bool b1050))]) h) A706 l706 c706 x707 h
def quintetlaw14_NestShrinks_j10 (K0 : Bool → Hp → Prop) (A12 : Option Addr) (l12 : Nat) (c12 : Nat) (x13 : Int) (h : Hp) : Prop :=
  br (decide (x13 < 0))
  (quintetlaw14_NestShrinks_j15
  (fun (b1393 : Bool) (h1394 : Hp) =>
  K0 b1393 h1394)
  A12 l12 c12 (IntKind.i64.wrap (0 - (IntKind.i64.wrap (x13 + 1)))) h)
  (quintetlaw14_NestShrinks_j15
  (fun (b1395 : Bool) (h1396 : Hp) =>
  K0 b1395 h1396)
  A12 l12 c12 x13 h)
def quintetlaw14_NestShrinks_j10_L (Q : Qx) (tm : Tm) (h : Hp) : Prop :=
  selS (tm 0) fun A12 l12 c12 =>
  selI .i64 (tm 1) fun x13 =>
  quintetlaw14_NestShrinks_j10 (fun (b705 : Bool) h => Q (.ret) (mkTm [(4, some (.bool b705))]) h) A12 l12 c12 x13 h
def quintetlaw14_NestShrinks (A1 : Option Addr) (l1 : Nat) (c1 : Nat) (x2 : Int) (h : Hp) (K : Value → Hp → Prop) : Prop :=
  CallsH Try.prog 20 #[(.slice A1 l1 c1)] h fun r1398 h1397 =>
  ∃ x1399 : Int, r1398 = (.int .i64 x1399) ∧ 
  br (x1399 != 0)
  (CallsH Try.prog 9 #[] h1397 fun r1401 h1400 =>
  ∃ b1402 : Bool, r1401 = (.bool b1402) ∧ 
  K (.bool b1402) h1400)
  (br ((l1 : Int) == 0)
  (CallsH Try.prog 9 #[] h1397 fun r1404 h1403 =>
  ∃ b1405 : Bool, r1404 = (.bool b1405) ∧ 
  K (.bool b1405) h1403)
  (quintetlaw14_NestShrinks_j10
  (fun (b1406 : Bool) (h1407 : Hp) =>
  K (.bool b1406) h1407)
  A1 l1 c1 x2 h1397))
def quintetlaw14_NestShrinks_lp (i : Nat) (Q : Qx) (tm : Tm) (h : Hp) : Prop := match Nat.beq i 16292 with
  | true => quintetlaw14_NestShrinks_j18_L Q tm h
  | false => match Nat.beq i 1018 with
  | true => ∃ k, quintetlaw14_NestShrinks_l17_L Q k tm h
  | false => match Nat.beq i 131071 with
  | true => quintetlaw14_NestShrinks_j19_L Q tm h
  | false => match Nat.beq i 7 with
  | true => quintetlaw14_NestShrinks_j15_L Q tm h
  | false => match Nat.beq i 3 with
  | true => quintetlaw14_NestShrinks_j10_L Q tm h
  | false => False
def quintetlaw14_NestShrinks_cut (i : Nat) : Option (List Nat) := match Nat.beq i 3 with
  | true => some [0, 1]
  | false => match Nat.beq i 7 with
  | true => some [0, 1]
  | false => match Nat.beq i 131071 with
  | true => some [0, 9, 11, 13, 15, 17, 19, 21, 23, 25, 27]
  | false => match Nat.beq i 16292 with
  | true => some [0, 1, 5, 6, 7]
  | false => none
set_option maxRecDepth 100000 in
theorem quintetlaw14_NestShrinks_j18_step (Q : Qx) (A1206 : Option Addr) (l1206 : Nat) (c1206 : Nat) (x1207 : Int) (A1208 : Option Addr) (l1208 : Nat) (c1208 : Nat) (A1209 : Option Addr) (l1209 : Nat) (c1209 : Nat) (x1210 : Int) (h : Hp) : quintetlaw14_NestShrinks_j18_L Q (mkTm [(0, some (.slice A1206 l1206 c1206)), (1, some (.int .i64 x1207)), (5, some (.slice A1208 l1208 c1208)), (6, some (.slice A1209 l1209 c1209)), (7, some (.int .i64 x1210))]) h =
    codeWp Try.prog 208 quintetlaw14_NestShrinks_lp quintetlaw14_NestShrinks_cut (sub (bodyOf Try.f7) [true, true, true, true, true, true, false, true, false, false, true, false, false, true]) 32585 (maskQ (fun e => match e with | .normal => [0, 1, 5, 6, 7] | _ => []) Q) (mkTm [(0, some (.slice A1206 l1206 c1206)), (1, some (.int .i64 x1207)), (5, some (.slice A1208 l1208 c1208)), (6, some (.slice A1209 l1209 c1209)), (7, some (.int .i64 x1210))]) h := by kernel_rfl
theorem quintetlaw14_NestShrinks_j18_mask (Q : Qx) (tm : Tm) (h : Hp) : quintetlaw14_NestShrinks_j18_L Q tm h ↔ quintetlaw14_NestShrinks_j18_L Q (mask [0, 1, 5, 6, 7] tm) h := Iff.rfl
set_option maxRecDepth 100000 in
theorem quintetlaw14_NestShrinks_j18_snd : SndAt Try.prog 208 none (sub (bodyOf Try.f7) [true, true, true, true, true, true, false, true, false, false, true, false, false, true]) (quintetlaw14_NestShrinks_lp 16292) := by
  refine join_sound (lp := quintetlaw14_NestShrinks_lp) (cut := quintetlaw14_NestShrinks_cut) (i := 16292) (c := (sub (bodyOf Try.f7) [true, true, true, true, true, true, false, true, false, false, true, false, false, true])) [0, 1, 5, 6, 7] (fun e => match e with | .normal => [0, 1, 5, 6, 7] | _ => []) quintetlaw14_NestShrinks_j18_L ?_ ?_
  · exact good_by (c := (sub (bodyOf Try.f7) [true, true, true, true, true, true, false, true, false, false, true, false, false, true])) (i := 32585) (l := []) (by kernel_rfl) (fun _ h => by cases h)
  · intro Q tm h H
    have H0 := H
    obtain ⟨A1206, l1206, c1206, e0, H⟩ := selS_ex H
    obtain ⟨x1207, e1, H⟩ := selI_ex H
    obtain ⟨A1208, l1208, c1208, e5, H⟩ := selS_ex H
    obtain ⟨A1209, l1209, c1209, e6, H⟩ := selS_ex H
    obtain ⟨x1210, e7, H⟩ := selI_ex H
    have e : mask [0, 1, 5, 6, 7] tm = mkTm [(0, some (.slice A1206 l1206 c1206)), (1, some (.int .i64 x1207)), (5, some (.slice A1208 l1208 c1208)), (6, some (.slice A1209 l1209 c1209)), (7, some (.int .i64 x1210))] := by simp only [mask, List.map_cons, List.map_nil, e0, e1, e5, e6, e7] <;> rfl
    rw [e]
    refine Eq.mp (quintetlaw14_NestShrinks_j18_step Q A1206 l1206 c1206 x1207 A1208 l1208 c1208 A1209 l1209 c1209 x1210 h) ?_
    rw [← e]
    exact (quintetlaw14_NestShrinks_j18_mask Q tm h).mp H0
set_option maxRecDepth 100000 in
theorem quintetlaw14_NestShrinks_l17_step (Q : Qx) (k : Nat) (A1052 : Option Addr) (l1052 : Nat) (c1052 : Nat) (x1053 : Int) (A1054 : Option Addr) (l1054 : Nat) (c1054 : Nat) (A1055 : Option Addr) (l1055 : Nat) (c1055 : Nat) (x1056 : Int) (h : Hp) : quintetlaw14_NestShrinks_l17_L Q (k + 1) (mkTm [(0, some (.slice A1052 l1052 c1052)), (1, some (.int .i64 x1053)), (5, some (.slice A1054 l1054 c1054)), (6, some (.slice A1055 l1055 c1055)), (7, some (.int .i64 x1056))]) h =
    codeWp Try.prog 208 quintetlaw14_NestShrinks_lp quintetlaw14_NestShrinks_cut (sub (bodyOf Try.f7) [true, true, true, true, true, true, false, true, false, false]) 2036 (thenQ (fun tm h => quintetlaw14_NestShrinks_l17_L Q k (mask [0, 1, 5, 6, 7] tm) h) (maskQ (fun e => match e with | .exit 0 => [0, 5, 6] | _ => []) Q)) (mkTm [(0, some (.slice A1052 l1052 c1052)), (1, some (.int .i64 x1053)), (5, some (.slice A1054 l1054 c1054)), (6, some (.slice A1055 l1055 c1055)), (7, some (.int .i64 x1056))]) h := by kernel_rfl
theorem quintetlaw14_NestShrinks_l17_mask (Q : Qx) (k : Nat) (tm : Tm) (h : Hp) : quintetlaw14_NestShrinks_l17_L Q k tm h ↔ quintetlaw14_NestShrinks_l17_L Q k (mask [0, 1, 5, 6, 7] tm) h := Iff.rfl
set_option maxRecDepth 100000 in
theorem quintetlaw14_NestShrinks_l17_snd : SndAt Try.prog 208 none (sub (bodyOf Try.f7) [true, true, true, true, true, true, false, true, false]) (quintetlaw14_NestShrinks_lp 1018) := by
  refine loop_sound (lp := quintetlaw14_NestShrinks_lp) (cut := quintetlaw14_NestShrinks_cut) (i := 1018) (c := (sub (bodyOf Try.f7) [true, true, true, true, true, true, false, true, false, false])) [0, 1, 5, 6, 7] (fun e => match e with | .exit 0 => [0, 5, 6] | _ => []) quintetlaw14_NestShrinks_l17_L ?_ ?_ ?_
  · exact good_by (c := (sub (bodyOf Try.f7) [true, true, true, true, true, true, false, true, false, false])) (i := 2036) (l := [(16292, (sub (bodyOf Try.f7) [true, true, true, true, true, true, false, true, false, false, true, false, false, true]))]) (by kernel_rfl) (List.forall_mem_cons.2 ⟨quintetlaw14_NestShrinks_j18_snd, (fun _ h => by cases h)⟩)
  · intro Q tm h H
    obtain ⟨A1052, l1052, c1052, e0, H⟩ := selS_ex H
    obtain ⟨x1053, e1, H⟩ := selI_ex H
    obtain ⟨A1054, l1054, c1054, e5, H⟩ := selS_ex H
    obtain ⟨A1055, l1055, c1055, e6, H⟩ := selS_ex H
    obtain ⟨x1056, e7, H⟩ := selI_ex H
    exact H
  · intro Q k tm h H
    have H0 := H
    obtain ⟨A1052, l1052, c1052, e0, H⟩ := selS_ex H
    obtain ⟨x1053, e1, H⟩ := selI_ex H
    obtain ⟨A1054, l1054, c1054, e5, H⟩ := selS_ex H
    obtain ⟨A1055, l1055, c1055, e6, H⟩ := selS_ex H
    obtain ⟨x1056, e7, H⟩ := selI_ex H
    have e : mask [0, 1, 5, 6, 7] tm = mkTm [(0, some (.slice A1052 l1052 c1052)), (1, some (.int .i64 x1053)), (5, some (.slice A1054 l1054 c1054)), (6, some (.slice A1055 l1055 c1055)), (7, some (.int .i64 x1056))] := by simp only [mask, List.map_cons, List.map_nil, e0, e1, e5, e6, e7] <;> rfl
    rw [e]
    refine Eq.mp (quintetlaw14_NestShrinks_l17_step Q k A1052 l1052 c1052 x1053 A1054 l1054 c1054 A1055 l1055 c1055 x1056 h) ?_
    rw [← e]
    exact (quintetlaw14_NestShrinks_l17_mask Q (k + 1) tm h).mp H0
set_option maxRecDepth 100000 in
theorem quintetlaw14_NestShrinks_j19_step (Q : Qx) (A1356 : Option Addr) (l1356 : Nat) (c1356 : Nat) (x1357 : Int) (x1358 : Int) (x1359 : Int) (x1360 : Int) (x1361 : Int) (x1362 : Int) (x1363 : Int) (x1364 : Int) (x1365 : Int) (b1366 : Bool) (h : Hp) : quintetlaw14_NestShrinks_j19_L Q (mkTm [(0, some (.slice A1356 l1356 c1356)), (9, some (.int .i64 x1357)), (11, some (.int .i64 x1358)), (13, some (.int .i64 x1359)), (15, some (.int .i64 x1360)), (17, some (.int .i64 x1361)), (19, some (.int .i64 x1362)), (21, some (.int .i64 x1363)), (23, some (.int .i64 x1364)), (25, some (.int .i64 x1365)), (27, some (.bool b1366))]) h =
    codeWp Try.prog 208 quintetlaw14_NestShrinks_lp quintetlaw14_NestShrinks_cut (sub (bodyOf Try.f7) [true, true, true, true, true, true, true, true, true, true, true, true, true, true, true, true, true]) 262143 (maskQ (fun e => match e with | .ret => [4] | _ => []) Q) (mkTm [(0, some (.slice A1356 l1356 c1356)), (9, some (.int .i64 x1357)), (11, some (.int .i64 x1358)), (13, some (.int .i64 x1359)), (15, some (.int .i64 x1360)), (17, some (.int .i64 x1361)), (19, some (.int .i64 x1362)), (21, some (.int .i64 x1363)), (23, some (.int .i64 x1364)), (25, some (.int .i64 x1365)), (27, some (.bool b1366))]) h := by kernel_rfl
theorem quintetlaw14_NestShrinks_j19_mask (Q : Qx) (tm : Tm) (h : Hp) : quintetlaw14_NestShrinks_j19_L Q tm h ↔ quintetlaw14_NestShrinks_j19_L Q (mask [0, 9, 11, 13, 15, 17, 19, 21, 23, 25, 27] tm) h := Iff.rfl
set_option maxRecDepth 100000 in
theorem quintetlaw14_NestShrinks_j19_snd : SndAt Try.prog 208 none (sub (bodyOf Try.f7) [true, true, true, true, true, true, true, true, true, true, true, true, true, true, true, true, true]) (quintetlaw14_NestShrinks_lp 131071) := by
  refine join_sound (lp := quintetlaw14_NestShrinks_lp) (cut := quintetlaw14_NestShrinks_cut) (i := 131071) (c := (sub (bodyOf Try.f7) [true, true, true, true, true, true, true, true, true, true, true, true, true, true, true, true, true])) [0, 9, 11, 13, 15, 17, 19, 21, 23, 25, 27] (fun e => match e with | .ret => [4] | _ => []) quintetlaw14_NestShrinks_j19_L ?_ ?_
  · exact good_by (c := (sub (bodyOf Try.f7) [true, true, true, true, true, true, true, true, true, true, true, true, true, true, true, true, true])) (i := 262143) (l := []) (by kernel_rfl) (fun _ h => by cases h)
  · intro Q tm h H
    have H0 := H
    obtain ⟨A1356, l1356, c1356, e0, H⟩ := selS_ex H
    obtain ⟨x1357, e9, H⟩ := selI_ex H
    obtain ⟨x1358, e11, H⟩ := selI_ex H
    obtain ⟨x1359, e13, H⟩ := selI_ex H
    obtain ⟨x1360, e15, H⟩ := selI_ex H
    obtain ⟨x1361, e17, H⟩ := selI_ex H
    obtain ⟨x1362, e19, H⟩ := selI_ex H
    obtain ⟨x1363, e21, H⟩ := selI_ex H
    obtain ⟨x1364, e23, H⟩ := selI_ex H
    obtain ⟨x1365, e25, H⟩ := selI_ex H
    obtain ⟨b1366, e27, H⟩ := selB_ex H
    have e : mask [0, 9, 11, 13, 15, 17, 19, 21, 23, 25, 27] tm = mkTm [(0, some (.slice A1356 l1356 c1356)), (9, some (.int .i64 x1357)), (11, some (.int .i64 x1358)), (13, some (.int .i64 x1359)), (15, some (.int .i64 x1360)), (17, some (.int .i64 x1361)), (19, some (.int .i64 x1362)), (21, some (.int .i64 x1363)), (23, some (.int .i64 x1364)), (25, some (.int .i64 x1365)), (27, some (.bool b1366))] := by simp only [mask, List.map_cons, List.map_nil, e0, e9, e11, e13, e15, e17, e19, e21, e23, e25, e27] <;> rfl
    rw [e]
    refine Eq.mp (quintetlaw14_NestShrinks_j19_step Q A1356 l1356 c1356 x1357 x1358 x1359 x1360 x1361 x1362 x1363 x1364 x1365 b1366 h) ?_
    rw [← e]
    exact (quintetlaw14_NestShrinks_j19_mask Q tm h).mp H0
set_option maxRecDepth 100000 in
theorem quintetlaw14_NestShrinks_j15_step (Q : Qx) (A706 : Option Addr) (l706 : Nat) (c706 : Nat) (x707 : Int) (h : Hp) : quintetlaw14_NestShrinks_j15_L Q (mkTm [(0, some (.slice A706 l706 c706)), (1, some (.int .i64 x707))]) h =
    codeWp Try.prog 208 quintetlaw14_NestShrinks_lp quintetlaw14_NestShrinks_cut (sub (bodyOf Try.f7) [true, true, true]) 15 (maskQ (fun e => match e with | .ret => [4] | _ => []) Q) (mkTm [(0, some (.slice A706 l706 c706)), (1, some (.int .i64 x707))]) h := by kernel_rfl
theorem quintetlaw14_NestShrinks_j15_mask (Q : Qx) (tm : Tm) (h : Hp) : quintetlaw14_NestShrinks_j15_L Q tm h ↔ quintetlaw14_NestShrinks_j15_L Q (mask [0, 1] tm) h := Iff.rfl
set_option maxRecDepth 100000 in
theorem quintetlaw14_NestShrinks_j15_snd : SndAt Try.prog 208 none (sub (bodyOf Try.f7) [true, true, true]) (quintetlaw14_NestShrinks_lp 7) := by
  refine join_sound (lp := quintetlaw14_NestShrinks_lp) (cut := quintetlaw14_NestShrinks_cut) (i := 7) (c := (sub (bodyOf Try.f7) [true, true, true])) [0, 1] (fun e => match e with | .ret => [4] | _ => []) quintetlaw14_NestShrinks_j15_L ?_ ?_
  · exact good_by (c := (sub (bodyOf Try.f7) [true, true, true])) (i := 15) (l := [(1018, (sub (bodyOf Try.f7) [true, true, true, true, true, true, false, true, false])), (131071, (sub (bodyOf Try.f7) [true, true, true, true, true, true, true, true, true, true, true, true, true, true, true, true, true]))]) (by kernel_rfl) (List.forall_mem_cons.2 ⟨quintetlaw14_NestShrinks_l17_snd, (List.forall_mem_cons.2 ⟨quintetlaw14_NestShrinks_j19_snd, (fun _ h => by cases h)⟩)⟩)
  · intro Q tm h H
    have H0 := H
    obtain ⟨A706, l706, c706, e0, H⟩ := selS_ex H
    obtain ⟨x707, e1, H⟩ := selI_ex H
    have e : mask [0, 1] tm = mkTm [(0, some (.slice A706 l706 c706)), (1, some (.int .i64 x707))] := by simp only [mask, List.map_cons, List.map_nil, e0, e1] <;> rfl
    rw [e]
    refine Eq.mp (quintetlaw14_NestShrinks_j15_step Q A706 l706 c706 x707 h) ?_
    rw [← e]
    exact (quintetlaw14_NestShrinks_j15_mask Q tm h).mp H0
set_option maxRecDepth 100000 in
theorem quintetlaw14_NestShrinks_j10_step (Q : Qx) (A12 : Option Addr) (l12 : Nat) (c12 : Nat) (x13 : Int) (h : Hp) : quintetlaw14_NestShrinks_j10_L Q (mkTm [(0, some (.slice A12 l12 c12)), (1, some (.int .i64 x13))]) h =
    codeWp Try.prog 208 quintetlaw14_NestShrinks_lp quintetlaw14_NestShrinks_cut (sub (bodyOf Try.f7) [true, true]) 7 (maskQ (fun e => match e with | .ret => [4] | _ => []) Q) (mkTm [(0, some (.slice A12 l12 c12)), (1, some (.int .i64 x13))]) h := by kernel_rfl
theorem quintetlaw14_NestShrinks_j10_mask (Q : Qx) (tm : Tm) (h : Hp) : quintetlaw14_NestShrinks_j10_L Q tm h ↔ quintetlaw14_NestShrinks_j10_L Q (mask [0, 1] tm) h := Iff.rfl
set_option maxRecDepth 100000 in
theorem quintetlaw14_NestShrinks_j10_snd : SndAt Try.prog 208 none (sub (bodyOf Try.f7) [true, true]) (quintetlaw14_NestShrinks_lp 3) := by
  refine join_sound (lp := quintetlaw14_NestShrinks_lp) (cut := quintetlaw14_NestShrinks_cut) (i := 3) (c := (sub (bodyOf Try.f7) [true, true])) [0, 1] (fun e => match e with | .ret => [4] | _ => []) quintetlaw14_NestShrinks_j10_L ?_ ?_
  · exact good_by (c := (sub (bodyOf Try.f7) [true, true])) (i := 7) (l := [(7, (sub (bodyOf Try.f7) [true, true, true]))]) (by kernel_rfl) (List.forall_mem_cons.2 ⟨quintetlaw14_NestShrinks_j15_snd, (fun _ h => by cases h)⟩)
  · intro Q tm h H
    have H0 := H
    obtain ⟨A12, l12, c12, e0, H⟩ := selS_ex H
    obtain ⟨x13, e1, H⟩ := selI_ex H
    have e : mask [0, 1] tm = mkTm [(0, some (.slice A12 l12 c12)), (1, some (.int .i64 x13))] := by simp only [mask, List.map_cons, List.map_nil, e0, e1] <;> rfl
    rw [e]
    refine Eq.mp (quintetlaw14_NestShrinks_j10_step Q A12 l12 c12 x13 h) ?_
    rw [← e]
    exact (quintetlaw14_NestShrinks_j10_mask Q tm h).mp H0
set_option maxRecDepth 100000 in
theorem quintetlaw14_NestShrinks_eq (A1 : Option Addr) (l1 : Nat) (c1 : Nat) (x2 : Int) (h : Hp) (K : Value → Hp → Prop) : quintetlaw14_NestShrinks A1 l1 c1 x2 h K =
    codeWp Try.prog 208 quintetlaw14_NestShrinks_lp quintetlaw14_NestShrinks_cut (bodyOf Try.f7) 1 (endQ Try.prog Try.f7.results.toList K) (argTm [(.slice A1 l1 c1), (.int .i64 x2)]) h := by kernel_rfl
set_option maxRecDepth 100000 in
theorem quintetlaw14_NestShrinks_ok (A1 : Option Addr) (l1 : Nat) (c1 : Nat) (x2 : Int) {h : Hp} {K : Value → Hp → Prop} (H : quintetlaw14_NestShrinks A1 l1 c1 x2 h K) : CallsH Try.prog 7 #[(.slice A1 l1 c1), (.int .i64 x2)] h K :=
  calls_of (args := [(.slice A1 l1 c1), (.int .i64 x2)]) (n := 208) (lp := quintetlaw14_NestShrinks_lp) (cut := quintetlaw14_NestShrinks_cut) Try.func7 (c := bodyOf Try.f7) (by kernel_rfl) (by kernel_rfl) (by kernel_rfl) (good_by (c := (bodyOf Try.f7)) (i := 1) (l := [(3, (sub (bodyOf Try.f7) [true, true]))]) (by kernel_rfl) (List.forall_mem_cons.2 ⟨quintetlaw14_NestShrinks_j10_snd, (fun _ h => by cases h)⟩))
    (Eq.mp (quintetlaw14_NestShrinks_eq A1 l1 c1 x2 h K) H)

/-! ### quintet/quintetlaw14.NestPairs: function 8 -/
def quintetlaw14_NestPairs_l1 (A12 : Option Addr) (l12 : Nat) (c12 : Nat) (a13 : Addr) (K0 : (Option Addr) → Nat → Nat → Addr → Int → Hp → Prop)  : Nat → Int → Int → Hp → Prop
  | 0, _, _, _ => False
  | k + 1, x14, x15, h =>
    br (decide (x15 < (l12 : Int)))
    (∃ a40 : Addr, PV Try.prog (Instr.indexAt 39 (.slice A12 l12 c12) (.int .i64 x15)) (.pointer (some a40)) ∧
    ∃ x41 : Int, ∃ x42 : Int, ∃ x43 : Int, ∃ x44 : Int, ∃ x45 : Int, ∃ x46 : Int, ∃ x47 : Int, ∃ x48 : Int, ∃ x49 : Int, ∃ x50 : Int, ∃ x51 : Int, ∃ x52 : Int, HV Try.prog (Instr.loadAt 48 (.pointer (some a40))) h (.agg #[(.int .i64 x41), (.int .u32 x42), (.int .i64 x43), (.int .u32 x44), (.int .i64 x45), (.int .u16 x46), (.int .u16 x47), (.int .u16 x48), (.int .u16 x49), (.int .u8 x50), (.int .u8 x51), (.int .i64 x52)]) ∧ 
    ∃ x53 : Int, ∃ x54 : Int, ∃ x55 : Int, ∃ x56 : Int, ∃ x57 : Int, HV Try.prog (Instr.loadAt 52 (.pointer (some a13))) h (.agg #[(.int .u32 x53), (.int .u32 x54), (.int .u16 x55), (.int .u16 x56), (.int .u8 x57)]) ∧ 
    CallsH Try.prog 24 #[(.agg #[(.int .i64 x41), (.int .u32 x42), (.int .i64 x43), (.int .u32 x44), (.int .i64 x45), (.int .u16 x46), (.int .u16 x47), (.int .u16 x48), (.int .u16 x49), (.int .u8 x50), (.int .u8 x51), (.int .i64 x52)]), (.agg #[(.int .u32 x53), (.int .u32 x54), (.int .u16 x55), (.int .u16 x56), (.int .u8 x57)])] h fun r59 h58 =>
    ∃ b60 : Bool, r59 = (.bool b60) ∧ 
    br b60
    (quintetlaw14_NestPairs_l1 A12 l12 c12 a13 K0 k (IntKind.i64.wrap (x14 + 1)) (IntKind.i64.wrap (x15 + 1)) h58)
    (quintetlaw14_NestPairs_l1 A12 l12 c12 a13 K0 k x14 (IntKind.i64.wrap (x15 + 1)) h58))
    (K0 A12 l12 c12 a13 x14 h)
def quintetlaw14_NestPairs_l1_L (Q : Qx) (k : Nat) (tm : Tm) (h : Hp) : Prop :=
  selS (tm 0) fun A12 l12 c12 =>
  selA (tm 3) fun a13 =>
  selI .i64 (tm 5) fun x14 =>
  selI .i64 (tm 6) fun x15 =>
  quintetlaw14_NestPairs_l1 A12 l12 c12 a13 (fun (A37 : Option Addr) (l37 : Nat) (c37 : Nat) (a38 : Addr) (x39 : Int) h => Q (.exit 0) (mkTm [(0, some (.slice A37 l37 c37)), (3, some (.pointer (some a38))), (5, some (.int .i64 x39))]) h) k x14 x15 h
def quintetlaw14_NestPairs (A1 : Option Addr) (l1 : Nat) (c1 : Nat) (x2 : Int) (x3 : Int) (x4 : Int) (x5 : Int) (x6 : Int) (h : Hp) (K : Value → Hp → Prop) : Prop :=
  newC h (.cells #[(.int .u32 x2), (.int .u32 x3), (.int .u16 x4), (.int .u16 x5), (.int .u8 x6)] 52 (0, 0)) fun a8 h7 => 
  br (decide ((l1 : Int) > 16777216))
  (CallsH Try.prog 9 #[] h7 fun r10 h9 =>
  ∃ b11 : Bool, r10 = (.bool b11) ∧ 
  K (.bool b11) h9)
  (∃ k76, quintetlaw14_NestPairs_l1 A1 l1 c1 a8
  (fun (A61 : Option Addr) (l61 : Nat) (c61 : Nat) (a62 : Addr) (x63 : Int) (h64 : Hp) =>
  ∃ x65 : Int, ∃ x66 : Int, ∃ x67 : Int, ∃ x68 : Int, ∃ x69 : Int, HV Try.prog (Instr.loadAt 52 (.pointer (some a62))) h64 (.agg #[(.int .u32 x65), (.int .u32 x66), (.int .u16 x67), (.int .u16 x68), (.int .u8 x69)]) ∧ 
  CallsH Try.prog 25 #[(.slice A61 l61 c61), (.agg #[(.int .u32 x65), (.int .u32 x66), (.int .u16 x67), (.int .u16 x68), (.int .u8 x69)])] h64 fun r71 h70 =>
  ∃ x72 : Int, r71 = (.int .i64 x72) ∧ 
  CallsH Try.prog 9 #[] h70 fun r74 h73 =>
  ∃ b75 : Bool, r74 = (.bool b75) ∧ 
  br b75
  (br (decide (x63 ≤ x72))
  (K (.bool (decide (x72 ≤ (l61 : Int)))) h73)
  (K (.bool false) h73))
  (K (.bool false) h73))
  k76 0 0 h7)
def quintetlaw14_NestPairs_lp (i : Nat) (Q : Qx) (tm : Tm) (h : Hp) : Prop := match Nat.beq i 122 with
  | true => ∃ k, quintetlaw14_NestPairs_l1_L Q k tm h
  | false => False
def quintetlaw14_NestPairs_cut (i : Nat) : Option (List Nat) := none
set_option maxRecDepth 100000 in
theorem quintetlaw14_NestPairs_l1_step (Q : Qx) (k : Nat) (A12 : Option Addr) (l12 : Nat) (c12 : Nat) (a13 : Addr) (x14 : Int) (x15 : Int) (h : Hp) : quintetlaw14_NestPairs_l1_L Q (k + 1) (mkTm [(0, some (.slice A12 l12 c12)), (3, some (.pointer (some a13))), (5, some (.int .i64 x14)), (6, some (.int .i64 x15))]) h =
    codeWp Try.prog 41 quintetlaw14_NestPairs_lp quintetlaw14_NestPairs_cut (sub (bodyOf Try.f8) [true, true, true, false, true, false, false]) 244 (thenQ (fun tm h => quintetlaw14_NestPairs_l1_L Q k (mask [0, 3, 5, 6] tm) h) (maskQ (fun e => match e with | .exit 0 => [0, 3, 5] | _ => []) Q)) (mkTm [(0, some (.slice A12 l12 c12)), (3, some (.pointer (some a13))), (5, some (.int .i64 x14)), (6, some (.int .i64 x15))]) h := by kernel_rfl
theorem quintetlaw14_NestPairs_l1_mask (Q : Qx) (k : Nat) (tm : Tm) (h : Hp) : quintetlaw14_NestPairs_l1_L Q k tm h ↔ quintetlaw14_NestPairs_l1_L Q k (mask [0, 3, 5, 6] tm) h := Iff.rfl
set_option maxRecDepth 100000 in
theorem quintetlaw14_NestPairs_l1_snd : SndAt Try.prog 41 none (sub (bodyOf Try.f8) [true, true, true, false, true, false]) (quintetlaw14_NestPairs_lp 122) := by
  refine loop_sound (lp := quintetlaw14_NestPairs_lp) (cut := quintetlaw14_NestPairs_cut) (i := 122) (c := (sub (bodyOf Try.f8) [true, true, true, false, true, false, false])) [0, 3, 5, 6] (fun e => match e with | .exit 0 => [0, 3, 5] | _ => []) quintetlaw14_NestPairs_l1_L ?_ ?_ ?_
  · exact good_by (c := (sub (bodyOf Try.f8) [true, true, true, false, true, false, false])) (i := 244) (l := []) (by kernel_rfl) (fun _ h => by cases h)
  · intro Q tm h H
    obtain ⟨A12, l12, c12, e0, H⟩ := selS_ex H
    obtain ⟨a13, e3, H⟩ := selA_ex H
    obtain ⟨x14, e5, H⟩ := selI_ex H
    obtain ⟨x15, e6, H⟩ := selI_ex H
    exact H
  · intro Q k tm h H
    have H0 := H
    obtain ⟨A12, l12, c12, e0, H⟩ := selS_ex H
    obtain ⟨a13, e3, H⟩ := selA_ex H
    obtain ⟨x14, e5, H⟩ := selI_ex H
    obtain ⟨x15, e6, H⟩ := selI_ex H
    have e : mask [0, 3, 5, 6] tm = mkTm [(0, some (.slice A12 l12 c12)), (3, some (.pointer (some a13))), (5, some (.int .i64 x14)), (6, some (.int .i64 x15))] := by simp only [mask, List.map_cons, List.map_nil, e0, e3, e5, e6] <;> rfl
    rw [e]
    refine Eq.mp (quintetlaw14_NestPairs_l1_step Q k A12 l12 c12 a13 x14 x15 h) ?_
    rw [← e]
    exact (quintetlaw14_NestPairs_l1_mask Q (k + 1) tm h).mp H0
set_option maxRecDepth 100000 in
theorem quintetlaw14_NestPairs_eq (A1 : Option Addr) (l1 : Nat) (c1 : Nat) (x2 : Int) (x3 : Int) (x4 : Int) (x5 : Int) (x6 : Int) (h : Hp) (K : Value → Hp → Prop) : quintetlaw14_NestPairs A1 l1 c1 x2 x3 x4 x5 x6 h K =
    codeWp Try.prog 41 quintetlaw14_NestPairs_lp quintetlaw14_NestPairs_cut (bodyOf Try.f8) 1 (endQ Try.prog Try.f8.results.toList K) (argTm [(.slice A1 l1 c1), (.agg #[(.int .u32 x2), (.int .u32 x3), (.int .u16 x4), (.int .u16 x5), (.int .u8 x6)])]) h := by kernel_rfl
set_option maxRecDepth 100000 in
theorem quintetlaw14_NestPairs_ok (A1 : Option Addr) (l1 : Nat) (c1 : Nat) (x2 : Int) (x3 : Int) (x4 : Int) (x5 : Int) (x6 : Int) {h : Hp} {K : Value → Hp → Prop} (H : quintetlaw14_NestPairs A1 l1 c1 x2 x3 x4 x5 x6 h K) : CallsH Try.prog 8 #[(.slice A1 l1 c1), (.agg #[(.int .u32 x2), (.int .u32 x3), (.int .u16 x4), (.int .u16 x5), (.int .u8 x6)])] h K :=
  calls_of (args := [(.slice A1 l1 c1), (.agg #[(.int .u32 x2), (.int .u32 x3), (.int .u16 x4), (.int .u16 x5), (.int .u8 x6)])]) (n := 41) (lp := quintetlaw14_NestPairs_lp) (cut := quintetlaw14_NestPairs_cut) Try.func8 (c := bodyOf Try.f8) (by kernel_rfl) (by kernel_rfl) (by kernel_rfl) (good_by (c := (bodyOf Try.f8)) (i := 1) (l := [(122, (sub (bodyOf Try.f8) [true, true, true, false, true, false]))]) (by kernel_rfl) (List.forall_mem_cons.2 ⟨quintetlaw14_NestPairs_l1_snd, (fun _ h => by cases h)⟩))
    (Eq.mp (quintetlaw14_NestPairs_eq A1 l1 c1 x2 x3 x4 x5 x6 h K) H)

/-! ### quintet/quintetlaw14.awake: function 9 -/
def quintetlaw14_awake (h : Hp) (K : Value → Hp → Prop) : Prop :=
  newC h (.cells #[(.int .u16 3), (.int .u16 5), (.int .u16 0), (.int .u16 3), (.int .u16 0), (.int .u16 9), (.int .u16 4), (.int .u16 4)] 38 (0, 0)) fun a2 h1 => 
  CallsH Try.prog 11 #[(.slice (some a2) 4 4)] h1 fun r4 h3 =>
  ∃ A5 : Option Addr, ∃ l5 : Nat, ∃ c5 : Nat, ∃ x6 : Int, r4 = (.tuple #[(.slice A5 l5 c5), (.int .i64 x6)]) ∧ 
  CallsH Try.prog 14 #[(.slice (some a2) 4 4)] h3 fun r8 h7 =>
  ∃ x9 : Int, ∃ x10 : Int, r8 = (.tuple #[(.int .i64 x9), (.int .i64 x10)]) ∧ 
  CallsH Try.prog 17 #[(.slice (some a2) 4 4), (.int .u16 4)] h7 fun r12 h11 =>
  ∃ A13 : Option Addr, ∃ l13 : Nat, ∃ c13 : Nat, ∃ x14 : Int, r12 = (.tuple #[(.slice A13 l13 c13), (.int .i64 x14)]) ∧ 
  newC h11 (.cells #[(.int .i64 0), (.int .u32 0), (.int .i64 0), (.int .u32 0), (.int .i64 0), (.int .u16 0), (.int .u16 0), (.int .u16 0), (.int .u16 0), (.int .u8 0), (.int .u8 0), (.int .i64 0)] 48 (0, 0)) fun a16 h15 => 
  HU Try.prog (Instr.storeAt 48 (.pointer (some a16)) (.agg #[(.int .i64 1), (.int .u32 0), (.int .i64 0), (.int .u32 0), (.int .i64 0), (.int .u16 0), (.int .u16 65535), (.int .u16 1), (.int .u16 6), (.int .u8 0), (.int .u8 0), (.int .i64 3)])) h15 fun h17 => 
  ∃ x18 : Int, ∃ x19 : Int, ∃ x20 : Int, ∃ x21 : Int, ∃ x22 : Int, ∃ x23 : Int, ∃ x24 : Int, ∃ x25 : Int, ∃ x26 : Int, ∃ x27 : Int, ∃ x28 : Int, ∃ x29 : Int, HV Try.prog (Instr.loadAt 48 (.pointer (some a16))) h17 (.agg #[(.int .i64 x18), (.int .u32 x19), (.int .i64 x20), (.int .u32 x21), (.int .i64 x22), (.int .u16 x23), (.int .u16 x24), (.int .u16 x25), (.int .u16 x26), (.int .u8 x27), (.int .u8 x28), (.int .i64 x29)]) ∧ 
  newC h17 (.cells #[(.int .i64 0), (.int .u32 0), (.int .i64 0), (.int .u32 0), (.int .i64 0), (.int .u16 0), (.int .u16 0), (.int .u16 0), (.int .u16 0), (.int .u8 0), (.int .u8 0), (.int .i64 0)] 48 (0, 0)) fun a31 h30 => 
  HU Try.prog (Instr.storeAt 48 (.pointer (some a31)) (.agg #[(.int .i64 x18), (.int .u32 x19), (.int .i64 x20), (.int .u32 x21), (.int .i64 x22), (.int .u16 x23), (.int .u16 x24), (.int .u16 x25), (.int .u16 x26), (.int .u8 x27), (.int .u8 x28), (.int .i64 x29)])) h30 fun h32 => 
  HU Try.prog (Instr.storeAt 3 (.pointer (some a31)) (.int .i64 2)) h32 fun h33 => 
  HU Try.prog (Instr.storeAt 43 (.pointer (some (a31.add 1))) (.agg #[(.int .u32 167772160), (.int .i64 8)])) h33 fun h34 => 
  ∃ x35 : Int, ∃ x36 : Int, ∃ x37 : Int, ∃ x38 : Int, ∃ x39 : Int, ∃ x40 : Int, ∃ x41 : Int, ∃ x42 : Int, ∃ x43 : Int, ∃ x44 : Int, ∃ x45 : Int, ∃ x46 : Int, HV Try.prog (Instr.loadAt 48 (.pointer (some a16))) h34 (.agg #[(.int .i64 x35), (.int .u32 x36), (.int .i64 x37), (.int .u32 x38), (.int .i64 x39), (.int .u16 x40), (.int .u16 x41), (.int .u16 x42), (.int .u16 x43), (.int .u8 x44), (.int .u8 x45), (.int .i64 x46)]) ∧ 
  ∃ x47 : Int, ∃ x48 : Int, ∃ x49 : Int, ∃ x50 : Int, ∃ x51 : Int, ∃ x52 : Int, ∃ x53 : Int, ∃ x54 : Int, ∃ x55 : Int, ∃ x56 : Int, ∃ x57 : Int, ∃ x58 : Int, HV Try.prog (Instr.loadAt 48 (.pointer (some a31))) h34 (.agg #[(.int .i64 x47), (.int .u32 x48), (.int .i64 x49), (.int .u32 x50), (.int .i64 x51), (.int .u16 x52), (.int .u16 x53), (.int .u16 x54), (.int .u16 x55), (.int .u8 x56), (.int .u8 x57), (.int .i64 x58)]) ∧ 
  newC h34 (.cells #[(.int .i64 x35), (.int .u32 x36), (.int .i64 x37), (.int .u32 x38), (.int .i64 x39), (.int .u16 x40), (.int .u16 x41), (.int .u16 x42), (.int .u16 x43), (.int .u8 x44), (.int .u8 x45), (.int .i64 x46), (.int .i64 x47), (.int .u32 x48), (.int .i64 x49), (.int .u32 x50), (.int .i64 x51), (.int .u16 x52), (.int .u16 x53), (.int .u16 x54), (.int .u16 x55), (.int .u8 x56), (.int .u8 x57), (.int .i64 x58)] 48 (0, 0)) fun a60 h59 => 
  CallsH Try.prog 21 #[(.slice (some a60) 2 2)] h59 fun r62 h61 =>
  ∃ x63 : Int, ∃ x64 : Int, r62 = (.tuple #[(.int .i64 x63), (.int .i64 x64)]) ∧ 
  CallsH Try.prog 22 #[(.slice (some a60) 2 2)] h61 fun r66 h65 =>
  ∃ x67 : Int, ∃ x68 : Int, r66 = (.tuple #[(.int .i64 x67), (.int .i64 x68)]) ∧ 
  CallsH Try.prog 23 #[(.slice (some a60) 2 2)] h65 fun r70 h69 =>
  ∃ x71 : Int, ∃ x72 : Int, r70 = (.tuple #[(.int .i64 x71), (.int .i64 x72)]) ∧ 
  br (x6 == 0)
  (newC h69 (.cells #[(.int .i64 2), (.int .i64 1), (.int .i64 0), (.int .i64 1)] 3 (0, 0)) fun a74 h73 => 
  CallsH Try.prog 13 #[(.slice A5 l5 c5), (.slice (some a74) 4 4)] h73 fun r76 h75 =>
  ∃ b77 : Bool, r76 = (.bool b77) ∧ 
  br b77
  (br (x10 == 0)
  (br (x9 == 3)
  (br (x14 == 0)
  (newC h75 (.cells #[(.int .i64 2), (.int .i64 3), (.int .i64 0)] 3 (0, 0)) fun a79 h78 => 
  CallsH Try.prog 13 #[(.slice A13 l13 c13), (.slice (some a79) 3 3)] h78 fun r81 h80 =>
  ∃ b82 : Bool, r81 = (.bool b82) ∧ 
  br b82
  (br (x64 == 0)
  (br (x63 == 3)
  (br (x68 == 0)
  (br (x67 == 3)
  (br (x72 == 0)
  (br (x71 == 8)
  (CallsH Try.prog 25 #[(.slice (some a60) 2 2), (.agg #[(.int .u32 167772161), (.int .u32 0), (.int .u16 0), (.int .u16 0), (.int .u8 0)])] h80 fun r84 h83 =>
  ∃ x85 : Int, r84 = (.int .i64 x85) ∧ 
  K (.bool (x85 == 2)) h83)
  (K (.bool false) h80))
  (K (.bool false) h80))
  (K (.bool false) h80))
  (K (.bool false) h80))
  (K (.bool false) h80))
  (K (.bool false) h80))
  (K (.bool false) h80))
  (K (.bool false) h75))
  (K (.bool false) h75))
  (K (.bool false) h75))
  (K (.bool false) h75))
  (K (.bool false) h69)
def quintetlaw14_awake_lp (i : Nat) (Q : Qx) (tm : Tm) (h : Hp) : Prop := False
def quintetlaw14_awake_cut (i : Nat) : Option (List Nat) := none
set_option maxRecDepth 100000 in
theorem quintetlaw14_awake_eq (h : Hp) (K : Value → Hp → Prop) : quintetlaw14_awake  h K =
    codeWp Try.prog 116 quintetlaw14_awake_lp quintetlaw14_awake_cut (bodyOf Try.f9) 1 (endQ Try.prog Try.f9.results.toList K) (argTm []) h := by kernel_rfl
set_option maxRecDepth 100000 in
theorem quintetlaw14_awake_ok {h : Hp} {K : Value → Hp → Prop} (H : quintetlaw14_awake  h K) : CallsH Try.prog 9 #[] h K :=
  calls_of (args := []) (n := 116) (lp := quintetlaw14_awake_lp) (cut := quintetlaw14_awake_cut) Try.func9 (c := bodyOf Try.f9) (by kernel_rfl) (by kernel_rfl) (by kernel_rfl) (good_by (c := (bodyOf Try.f9)) (i := 1) (l := []) (by kernel_rfl) (fun _ h => by cases h))
    (Eq.mp (quintetlaw14_awake_eq  h K) H)

end Go.Proofs.Ytmgbbedbilefaaa.Fs
