/- Printed by sx.py: words over the heap alone for Go functions, and that each call does what its word says. -/
import Derived.Test.YtofjbbfnkefoaaaSxSel
import Derived.Test.YtofjbbfnkefoaaaSxRound
import Derived.Test.YtofjbbfnkefoaaaProg
namespace Go.Proofs.Ytofjbbfnkefoaaa.Fs
open Go Go.RowKit Go.Proofs.Ytofjbbfnkefoaaa.Sx
set_option linter.unusedVariables false

/-! ### (*quintet/trie.Trie).Walk$1$1: function 57 -/
def trie_Trie_Walk_1_1_l3 (x64 : Int) (x65 : Int) (a66 : Addr) (a67 : Addr) (x68 : Int) (x69 : Int) (K0 : Bool → Hp → Prop) (K1 : Hp → Prop)  : Nat → Int → Hp → Prop
  | 0, _, _ => False
  | k + 1, x70, h =>
    br (decide (x70 < 2))
    (∃ x81 : Int, PV Try.prog (Instr.index 114 (.agg #[(.int .i32 x68), (.int .i32 x69)]) (.int .i64 x70)) (.int .i32 x81) ∧
    br (decide (x81 > 0))
    (∃ v82 : Value, HV Try.prog (Instr.loadAt 122 (.pointer (some a67))) h v82 ∧ 
    ∃ p83 : Option Addr, HV Try.prog (Instr.loadAt 60 (.pointer (some a66))) h (.pointer p83) ∧ 
    drf p83 fun a84 =>
    ∃ x85 : Int, HV Try.prog (Instr.loadAt 3 (.pointer (some a84))) h (.int .i64 x85) ∧ 
    ∃ x86 : Int, PV Try.prog (binOp .shl 33 (.int .u32 (IntKind.u32.wrap (x70))) (.int .i64 (IntKind.i64.wrap ((IntKind.i64.wrap (x85 - 1)) - x65)))) (.int .u32 x86) ∧
    HN Try.prog (callS v82 #[(.int .i32 x81), (.int .u32 (bOr .u32 x64 x86)), (.int .i64 (IntKind.i64.wrap (x65 + 1)))]) h fun r88 h87 =>
    ∃ b89 : Bool, r88 = (.bool b89) ∧ 
    br (!b89)
    (K0 false h87)
    (trie_Trie_Walk_1_1_l3 x64 x65 a66 a67 x68 x69 K0 K1 k (IntKind.i64.wrap (x70 + 1)) h87))
    (trie_Trie_Walk_1_1_l3 x64 x65 a66 a67 x68 x69 K0 K1 k (IntKind.i64.wrap (x70 + 1)) h))
    (K1 h)
def trie_Trie_Walk_1_1_l3_L (Q : Qx) (k : Nat) (tm : Tm) (h : Hp) : Prop :=
  selI .u32 (tm 1) fun x64 =>
  selI .i64 (tm 2) fun x65 =>
  selA (tm 3) fun a66 =>
  selA (tm 5) fun a67 =>
  selAg (tm 33) fun m33_0 =>
  selC m33_0 fun u33_0 m33_1 =>
  selC m33_1 fun u33_1 m33_2 =>
  selN m33_2
  (selI .i32 (some u33_0) fun x68 =>
  selI .i32 (some u33_1) fun x69 =>
  selI .i64 (tm 34) fun x70 =>
  trie_Trie_Walk_1_1_l3 x64 x65 a66 a67 x68 x69 (fun (b80 : Bool) h => Q (.ret) (mkTm [(9, some (.bool b80))]) h) (fun  h => Q (.exit 0) (mkTm []) h) k x70 h)
def trie_Trie_Walk_1_1_j2 (K0 : Bool → Hp → Prop) (x24 : Int) (x25 : Int) (a26 : Addr) (a27 : Addr) (a28 : Addr) (h : Hp) : Prop :=
  ∃ x62 : Int, ∃ x63 : Int, HV Try.prog (Instr.loadAt 114 (.pointer (some a28))) h (.agg #[(.int .i32 x62), (.int .i32 x63)]) ∧ 
  ∃ k93, trie_Trie_Walk_1_1_l3 x24 x25 a26 a27 x62 x63
  (fun (b90 : Bool) (h91 : Hp) =>
  K0 b90 h91)
  (fun  (h92 : Hp) =>
  K0 true h92)
  k93 0 h
def trie_Trie_Walk_1_1_j2_L (Q : Qx) (tm : Tm) (h : Hp) : Prop :=
  selI .u32 (tm 1) fun x24 =>
  selI .i64 (tm 2) fun x25 =>
  selA (tm 3) fun a26 =>
  selA (tm 5) fun a27 =>
  selA (tm 10) fun a28 =>
  trie_Trie_Walk_1_1_j2 (fun (b61 : Bool) h => Q (.ret) (mkTm [(9, some (.bool b61))]) h) x24 x25 a26 a27 a28 h
def trie_Trie_Walk_1_1 (x1 : Int) (x2 : Int) (x3 : Int) (a4 : Addr) (a5 : Addr) (a6 : Addr) (h : Hp) (K : Value → Hp → Prop) : Prop :=
  ∃ p7 : Option Addr, HV Try.prog (Instr.loadAt 60 (.pointer (some a4))) h (.pointer p7) ∧ 
  drf p7 fun a8 =>
  ∃ A9 : Option Addr, ∃ l9 : Nat, ∃ c9 : Nat, HV Try.prog (Instr.loadAt 108 (.pointer (some (a8.add 2)))) h (.slice A9 l9 c9) ∧ 
  ∃ a10 : Addr, PV Try.prog (Instr.indexAt 108 (.slice A9 l9 c9) (.int .i32 x1)) (.pointer (some a10)) ∧
  ∃ x11 : Int, ∃ x12 : Int, ∃ b13 : Bool, ∃ x14 : Int, HV Try.prog (Instr.loadAt 116 (.pointer (some a10))) h (.agg #[(.int .i32 x11), (.int .i32 x12), (.bool b13), (.int .i64 x14)]) ∧ 
  newC h (.cells #[(.int .i32 0), (.int .i32 0), (.bool false), (.int .i64 0)] 116 (0, 0)) fun a16 h15 => 
  HU Try.prog (Instr.storeAt 116 (.pointer (some a16)) (.agg #[(.int .i32 x11), (.int .i32 x12), (.bool b13), (.int .i64 x14)])) h15 fun h17 => 
  ∃ b94 : Bool, HV Try.prog (Instr.loadAt 4 (.pointer (some (a16.add 2)))) h17 (.bool b94) ∧ 
  br b94
  (∃ v95 : Value, HV Try.prog (Instr.loadAt 121 (.pointer (some a5))) h17 v95 ∧ 
  ∃ x96 : Int, HV Try.prog (Instr.loadAt 3 (.pointer (some (a16.add 3)))) h17 (.int .i64 x96) ∧ 
  HN Try.prog (callS v95 #[(.agg #[(.int .u32 x2), (.int .i64 x3), (.int .i64 x96)])]) h17 fun r98 h97 =>
  ∃ b99 : Bool, r98 = (.bool b99) ∧ 
  br (!b99)
  (K (.bool false) h97)
  (trie_Trie_Walk_1_1_j2
  (fun (b100 : Bool) (h101 : Hp) =>
  K (.bool b100) h101)
  x2 x3 a4 a6 a16 h97))
  (trie_Trie_Walk_1_1_j2
  (fun (b102 : Bool) (h103 : Hp) =>
  K (.bool b102) h103)
  x2 x3 a4 a6 a16 h17)
def trie_Trie_Walk_1_1_lp (i : Nat) (Q : Qx) (tm : Tm) (h : Hp) : Prop := match Nat.beq i 122 with
  | true => ∃ k, trie_Trie_Walk_1_1_l3_L Q k tm h
  | false => match Nat.beq i 7 with
  | true => trie_Trie_Walk_1_1_j2_L Q tm h
  | false => False
def trie_Trie_Walk_1_1_cut (i : Nat) : Option (List Nat) := match Nat.beq i 7 with
  | true => some [1, 2, 3, 5, 10]
  | false => none
set_option maxRecDepth 100000 in
theorem trie_Trie_Walk_1_1_l3_step (Q : Qx) (k : Nat) (x64 : Int) (x65 : Int) (a66 : Addr) (a67 : Addr) (x68 : Int) (x69 : Int) (x70 : Int) (h : Hp) : trie_Trie_Walk_1_1_l3_L Q (k + 1) (mkTm [(1, some (.int .u32 x64)), (2, some (.int .i64 x65)), (3, some (.pointer (some a66))), (5, some (.pointer (some a67))), (33, some (.agg #[(.int .i32 x68), (.int .i32 x69)])), (34, some (.int .i64 x70))]) h =
    codeWp Try.prog 61 trie_Trie_Walk_1_1_lp trie_Trie_Walk_1_1_cut (sub (bodyOf Try.f57) [true, true, true, false, true, false, false]) 244 (thenQ (fun tm h => trie_Trie_Walk_1_1_l3_L Q k (mask [1, 2, 3, 5, 33, 34] tm) h) (maskQ (fun e => match e with | .ret => [9] | .exit 0 => [] | _ => []) Q)) (mkTm [(1, some (.int .u32 x64)), (2, some (.int .i64 x65)), (3, some (.pointer (some a66))), (5, some (.pointer (some a67))), (33, some (.agg #[(.int .i32 x68), (.int .i32 x69)])), (34, some (.int .i64 x70))]) h := by kernel_rfl
theorem trie_Trie_Walk_1_1_l3_mask (Q : Qx) (k : Nat) (tm : Tm) (h : Hp) : trie_Trie_Walk_1_1_l3_L Q k tm h ↔ trie_Trie_Walk_1_1_l3_L Q k (mask [1, 2, 3, 5, 33, 34] tm) h := Iff.rfl
set_option maxRecDepth 100000 in
theorem trie_Trie_Walk_1_1_l3_snd : SndAt Try.prog 61 none (sub (bodyOf Try.f57) [true, true, true, false, true, false]) (trie_Trie_Walk_1_1_lp 122) := by
  refine loop_sound (lp := trie_Trie_Walk_1_1_lp) (cut := trie_Trie_Walk_1_1_cut) (i := 122) (c := (sub (bodyOf Try.f57) [true, true, true, false, true, false, false])) [1, 2, 3, 5, 33, 34] (fun e => match e with | .ret => [9] | .exit 0 => [] | _ => []) trie_Trie_Walk_1_1_l3_L ?_ ?_ ?_
  · exact good_by (c := (sub (bodyOf Try.f57) [true, true, true, false, true, false, false])) (i := 244) (l := []) (by kernel_rfl) (fun _ h => by cases h)
  · intro Q tm h H
    obtain ⟨x64, e1, H⟩ := selI_ex H
    obtain ⟨x65, e2, H⟩ := selI_ex H
    obtain ⟨a66, e3, H⟩ := selA_ex H
    obtain ⟨a67, e5, H⟩ := selA_ex H
    obtain ⟨m33_0, e33, H⟩ := selAg_ex H
    obtain ⟨u33_0, m33_1, f, G⟩ := selC_ex H
    clear H
    subst f
    have H := G
    clear G
    obtain ⟨u33_1, m33_2, f, G⟩ := selC_ex H
    clear H
    subst f
    have H := G
    clear G
    obtain ⟨f, G⟩ := selN_ex H
    clear H
    subst f
    have H := G
    clear G
    obtain ⟨x68, f, G⟩ := selI_ex H
    clear H
    have H := G
    clear G
    obtain rfl := Option.some.inj f
    obtain ⟨x69, f, G⟩ := selI_ex H
    clear H
    have H := G
    clear G
    obtain rfl := Option.some.inj f
    obtain ⟨x70, e34, H⟩ := selI_ex H
    exact H
  · intro Q k tm h H
    have H0 := H
    obtain ⟨x64, e1, H⟩ := selI_ex H
    obtain ⟨x65, e2, H⟩ := selI_ex H
    obtain ⟨a66, e3, H⟩ := selA_ex H
    obtain ⟨a67, e5, H⟩ := selA_ex H
    obtain ⟨m33_0, e33, H⟩ := selAg_ex H
    obtain ⟨u33_0, m33_1, f, G⟩ := selC_ex H
    clear H
    subst f
    have H := G
    clear G
    obtain ⟨u33_1, m33_2, f, G⟩ := selC_ex H
    clear H
    subst f
    have H := G
    clear G
    obtain ⟨f, G⟩ := selN_ex H
    clear H
    subst f
    have H := G
    clear G
    obtain ⟨x68, f, G⟩ := selI_ex H
    clear H
    have H := G
    clear G
    obtain rfl := Option.some.inj f
    obtain ⟨x69, f, G⟩ := selI_ex H
    clear H
    have H := G
    clear G
    obtain rfl := Option.some.inj f
    obtain ⟨x70, e34, H⟩ := selI_ex H
    have e : mask [1, 2, 3, 5, 33, 34] tm = mkTm [(1, some (.int .u32 x64)), (2, some (.int .i64 x65)), (3, some (.pointer (some a66))), (5, some (.pointer (some a67))), (33, some (.agg #[(.int .i32 x68), (.int .i32 x69)])), (34, some (.int .i64 x70))] := by simp only [mask, List.map_cons, List.map_nil, e1, e2, e3, e5, e33, e34] <;> rfl
    rw [e]
    refine Eq.mp (trie_Trie_Walk_1_1_l3_step Q k x64 x65 a66 a67 x68 x69 x70 h) ?_
    rw [← e]
    exact (trie_Trie_Walk_1_1_l3_mask Q (k + 1) tm h).mp H0
set_option maxRecDepth 100000 in
theorem trie_Trie_Walk_1_1_j2_step (Q : Qx) (x24 : Int) (x25 : Int) (a26 : Addr) (a27 : Addr) (a28 : Addr) (h : Hp) : trie_Trie_Walk_1_1_j2_L Q (mkTm [(1, some (.int .u32 x24)), (2, some (.int .i64 x25)), (3, some (.pointer (some a26))), (5, some (.pointer (some a27))), (10, some (.pointer (some a28)))]) h =
    codeWp Try.prog 61 trie_Trie_Walk_1_1_lp trie_Trie_Walk_1_1_cut (sub (bodyOf Try.f57) [true, true, true]) 15 (maskQ (fun e => match e with | .ret => [9] | _ => []) Q) (mkTm [(1, some (.int .u32 x24)), (2, some (.int .i64 x25)), (3, some (.pointer (some a26))), (5, some (.pointer (some a27))), (10, some (.pointer (some a28)))]) h := by kernel_rfl
theorem trie_Trie_Walk_1_1_j2_mask (Q : Qx) (tm : Tm) (h : Hp) : trie_Trie_Walk_1_1_j2_L Q tm h ↔ trie_Trie_Walk_1_1_j2_L Q (mask [1, 2, 3, 5, 10] tm) h := Iff.rfl
set_option maxRecDepth 100000 in
theorem trie_Trie_Walk_1_1_j2_snd : SndAt Try.prog 61 none (sub (bodyOf Try.f57) [true, true, true]) (trie_Trie_Walk_1_1_lp 7) := by
  refine join_sound (lp := trie_Trie_Walk_1_1_lp) (cut := trie_Trie_Walk_1_1_cut) (i := 7) (c := (sub (bodyOf Try.f57) [true, true, true])) [1, 2, 3, 5, 10] (fun e => match e with | .ret => [9] | _ => []) trie_Trie_Walk_1_1_j2_L ?_ ?_
  · exact good_by (c := (sub (bodyOf Try.f57) [true, true, true])) (i := 15) (l := [(122, (sub (bodyOf Try.f57) [true, true, true, false, true, false]))]) (by kernel_rfl) (List.forall_mem_cons.2 ⟨trie_Trie_Walk_1_1_l3_snd, (fun _ h => by cases h)⟩)
  · intro Q tm h H
    have H0 := H
    obtain ⟨x24, e1, H⟩ := selI_ex H
    obtain ⟨x25, e2, H⟩ := selI_ex H
    obtain ⟨a26, e3, H⟩ := selA_ex H
    obtain ⟨a27, e5, H⟩ := selA_ex H
    obtain ⟨a28, e10, H⟩ := selA_ex H
    have e : mask [1, 2, 3, 5, 10] tm = mkTm [(1, some (.int .u32 x24)), (2, some (.int .i64 x25)), (3, some (.pointer (some a26))), (5, some (.pointer (some a27))), (10, some (.pointer (some a28)))] := by simp only [mask, List.map_cons, List.map_nil, e1, e2, e3, e5, e10] <;> rfl
    rw [e]
    refine Eq.mp (trie_Trie_Walk_1_1_j2_step Q x24 x25 a26 a27 a28 h) ?_
    rw [← e]
    exact (trie_Trie_Walk_1_1_j2_mask Q tm h).mp H0
set_option maxRecDepth 100000 in
theorem trie_Trie_Walk_1_1_eq (x1 : Int) (x2 : Int) (x3 : Int) (a4 : Addr) (a5 : Addr) (a6 : Addr) (h : Hp) (K : Value → Hp → Prop) : trie_Trie_Walk_1_1 x1 x2 x3 a4 a5 a6 h K =
    codeWp Try.prog 61 trie_Trie_Walk_1_1_lp trie_Trie_Walk_1_1_cut (bodyOf Try.f57) 1 (endQ Try.prog Try.f57.results.toList K) (argTm [(.int .i32 x1), (.int .u32 x2), (.int .i64 x3), (.pointer (some a4)), (.pointer (some a5)), (.pointer (some a6))]) h := by kernel_rfl
set_option maxRecDepth 100000 in
theorem trie_Trie_Walk_1_1_ok (x1 : Int) (x2 : Int) (x3 : Int) (a4 : Addr) (a5 : Addr) (a6 : Addr) {h : Hp} {K : Value → Hp → Prop} (H : trie_Trie_Walk_1_1 x1 x2 x3 a4 a5 a6 h K) : CallsH Try.prog 57 #[(.int .i32 x1), (.int .u32 x2), (.int .i64 x3), (.pointer (some a4)), (.pointer (some a5)), (.pointer (some a6))] h K :=
  calls_of (args := [(.int .i32 x1), (.int .u32 x2), (.int .i64 x3), (.pointer (some a4)), (.pointer (some a5)), (.pointer (some a6))]) (n := 61) (lp := trie_Trie_Walk_1_1_lp) (cut := trie_Trie_Walk_1_1_cut) Try.func57 (c := bodyOf Try.f57) (by kernel_rfl) (by kernel_rfl) (by kernel_rfl) (good_by (c := (bodyOf Try.f57)) (i := 1) (l := [(7, (sub (bodyOf Try.f57) [true, true, true]))]) (by kernel_rfl) (List.forall_mem_cons.2 ⟨trie_Trie_Walk_1_1_j2_snd, (fun _ h => by cases h)⟩))
    (Eq.mp (trie_Trie_Walk_1_1_eq x1 x2 x3 a4 a5 a6 h K) H)

end Go.Proofs.Ytofjbbfnkefoaaa.Fs
