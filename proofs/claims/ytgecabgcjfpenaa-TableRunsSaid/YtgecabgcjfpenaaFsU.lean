/- Printed by sx.py: words over the heap alone for Go functions, and that each call does what its word says. -/
import Derived.Test.YtgecabgcjfpenaaSxSel
import Derived.Test.YtgecabgcjfpenaaSxRound
import Derived.Test.YtgecabgcjfpenaaProg
namespace Go.Proofs.Ytgecabgcjfpenaa.Fs
open Go Go.RowKit Go.Proofs.Ytgecabgcjfpenaa.Sx
set_option linter.unusedVariables false

/-! ### quintet/quintetkeep.Lend: function 42 -/
def quintetkeep_Lend (A1 : Option Addr) (l1 : Nat) (c1 : Nat) (h : Hp) (K : Value → Hp → Prop) : Prop :=
  HW Try.prog (Instr.makeSlice 32 (.int .i64 (IntKind.i64.wrap ((l1 : Int) + 2))) (.int .i64 (IntKind.i64.wrap ((l1 : Int) + 2)))) h fun r3 h2 =>
  ∃ A4 : Option Addr, ∃ l4 : Nat, ∃ c4 : Nat, r3 = (.slice A4 l4 c4) ∧ 
  HW Try.prog (Builtin.copy_ #[32, 32] 3 #[(.slice A4 l4 c4), (.slice A1 l1 c1)]) h2 fun r6 h5 =>
  ∃ x7 : Int, r6 = (.int .i64 x7) ∧ 
  CallsH Try.prog 58 #[(.int .i64 0)] h5 fun r9 h8 =>
  ∃ x10 : Int, ∃ x11 : Int, ∃ x12 : Int, ∃ x13 : Int, ∃ x14 : Int, ∃ x15 : Int, ∃ x16 : Int, ∃ x17 : Int, ∃ x18 : Int, ∃ x19 : Int, ∃ x20 : Int, ∃ x21 : Int, r9 = (.agg #[(.int .i64 x10), (.int .u32 x11), (.int .i64 x12), (.int .u32 x13), (.int .i64 x14), (.int .u16 x15), (.int .u16 x16), (.int .u16 x17), (.int .u16 x18), (.int .u8 x19), (.int .u8 x20), (.int .i64 x21)]) ∧ 
  ∃ a22 : Addr, PV Try.prog (Instr.indexAt 32 (.slice A4 l4 c4) (.int .i64 (l1 : Int))) (.pointer (some a22)) ∧
  HU Try.prog (Instr.storeAt 55 (.pointer (some a22)) (.agg #[(.int .i64 x10), (.int .u32 x11), (.int .i64 x12), (.int .u32 x13), (.int .i64 x14), (.int .u16 x15), (.int .u16 x16), (.int .u16 x17), (.int .u16 x18), (.int .u8 x19), (.int .u8 x20), (.int .i64 x21)])) h8 fun h23 => 
  CallsH Try.prog 58 #[(.int .i64 1)] h23 fun r25 h24 =>
  ∃ x26 : Int, ∃ x27 : Int, ∃ x28 : Int, ∃ x29 : Int, ∃ x30 : Int, ∃ x31 : Int, ∃ x32 : Int, ∃ x33 : Int, ∃ x34 : Int, ∃ x35 : Int, ∃ x36 : Int, ∃ x37 : Int, r25 = (.agg #[(.int .i64 x26), (.int .u32 x27), (.int .i64 x28), (.int .u32 x29), (.int .i64 x30), (.int .u16 x31), (.int .u16 x32), (.int .u16 x33), (.int .u16 x34), (.int .u8 x35), (.int .u8 x36), (.int .i64 x37)]) ∧ 
  ∃ a38 : Addr, PV Try.prog (Instr.indexAt 32 (.slice A4 l4 c4) (.int .i64 (IntKind.i64.wrap ((l1 : Int) + 1)))) (.pointer (some a38)) ∧
  HU Try.prog (Instr.storeAt 55 (.pointer (some a38)) (.agg #[(.int .i64 x26), (.int .u32 x27), (.int .i64 x28), (.int .u32 x29), (.int .i64 x30), (.int .u16 x31), (.int .u16 x32), (.int .u16 x33), (.int .u16 x34), (.int .u8 x35), (.int .u8 x36), (.int .i64 x37)])) h24 fun h39 => 
  ∃ A40 : Option Addr, ∃ l40 : Nat, ∃ c40 : Nat, PV Try.prog (Instr.sliceAt 32 (.slice A4 l4 c4) none (some (.int .i64 (l1 : Int))) none) (.slice A40 l40 c40) ∧
  K (.slice A40 l40 c40) h39
def quintetkeep_Lend_lp (i : Nat) (Q : Qx) (tm : Tm) (h : Hp) : Prop := False
def quintetkeep_Lend_cut (i : Nat) : Option (List Nat) := none
set_option maxRecDepth 100000 in
theorem quintetkeep_Lend_eq (A1 : Option Addr) (l1 : Nat) (c1 : Nat) (h : Hp) (K : Value → Hp → Prop) : quintetkeep_Lend A1 l1 c1 h K =
    codeWp Try.prog 26 quintetkeep_Lend_lp quintetkeep_Lend_cut (bodyOf Try.f42) 1 (endQ Try.prog Try.f42.results.toList K) (argTm [(.slice A1 l1 c1)]) h := by kernel_rfl
set_option maxRecDepth 100000 in
theorem quintetkeep_Lend_ok (A1 : Option Addr) (l1 : Nat) (c1 : Nat) {h : Hp} {K : Value → Hp → Prop} (H : quintetkeep_Lend A1 l1 c1 h K) : CallsH Try.prog 42 #[(.slice A1 l1 c1)] h K :=
  calls_of (args := [(.slice A1 l1 c1)]) (n := 26) (lp := quintetkeep_Lend_lp) (cut := quintetkeep_Lend_cut) Try.func42 (c := bodyOf Try.f42) (by kernel_rfl) (by kernel_rfl) (by kernel_rfl) (good_by (c := (bodyOf Try.f42)) (i := 1) (l := []) (by kernel_rfl) (fun _ h => by cases h))
    (Eq.mp (quintetkeep_Lend_eq A1 l1 c1 h K) H)

/-! ### quintet/quintetkeep.Back: function 43 -/
def quintetkeep_Back_l3 (A105 : Option Addr) (l105 : Nat) (c105 : Nat) (b106 : Bool) (K0 : Bool → Hp → Prop)  : Nat → Int → Hp → Prop
  | 0, _, _ => False
  | k + 1, x107, h =>
    br (decide (x107 < (l105 : Int)))
    (CallsH Try.prog 58 #[(.int .i64 5)] h fun r126 h125 =>
    ∃ x127 : Int, ∃ x128 : Int, ∃ x129 : Int, ∃ x130 : Int, ∃ x131 : Int, ∃ x132 : Int, ∃ x133 : Int, ∃ x134 : Int, ∃ x135 : Int, ∃ x136 : Int, ∃ x137 : Int, ∃ x138 : Int, r126 = (.agg #[(.int .i64 x127), (.int .u32 x128), (.int .i64 x129), (.int .u32 x130), (.int .i64 x131), (.int .u16 x132), (.int .u16 x133), (.int .u16 x134), (.int .u16 x135), (.int .u8 x136), (.int .u8 x137), (.int .i64 x138)]) ∧ 
    ∃ a139 : Addr, PV Try.prog (Instr.indexAt 32 (.slice A105 l105 c105) (.int .i64 x107)) (.pointer (some a139)) ∧
    HU Try.prog (Instr.storeAt 55 (.pointer (some a139)) (.agg #[(.int .i64 x127), (.int .u32 x128), (.int .i64 x129), (.int .u32 x130), (.int .i64 x131), (.int .u16 x132), (.int .u16 x133), (.int .u16 x134), (.int .u16 x135), (.int .u8 x136), (.int .u8 x137), (.int .i64 x138)])) h125 fun h140 => 
    quintetkeep_Back_l3 A105 l105 c105 b106 K0 k (IntKind.i64.wrap (x107 + 1)) h140)
    (K0 b106 h)
def quintetkeep_Back_l3_L (Q : Qx) (k : Nat) (tm : Tm) (h : Hp) : Prop :=
  selS (tm 5) fun A105 l105 c105 =>
  selB (tm 6) fun b106 =>
  selI .i64 (tm 7) fun x107 =>
  quintetkeep_Back_l3 A105 l105 c105 b106 (fun (b124 : Bool) h => Q (.exit 0) (mkTm [(6, some (.bool b124))]) h) k x107 h
def quintetkeep_Back_j2 (K0 : Bool → Hp → Prop) (A63 : Option Addr) (l63 : Nat) (c63 : Nat) (b64 : Bool) (h : Hp) : Prop :=
  ∃ k143, quintetkeep_Back_l3 A63 l63 c63 b64
  (fun (b141 : Bool) (h142 : Hp) =>
  K0 b141 h142)
  k143 0 h
def quintetkeep_Back_j2_L (Q : Qx) (tm : Tm) (h : Hp) : Prop :=
  selS (tm 5) fun A63 l63 c63 =>
  selB (tm 6) fun b64 =>
  quintetkeep_Back_j2 (fun (b104 : Bool) h => Q (.ret) (mkTm [(4, some (.bool b104))]) h) A63 l63 c63 b64 h
def quintetkeep_Back (A1 : Option Addr) (l1 : Nat) (c1 : Nat) (A2 : Option Addr) (l2 : Nat) (c2 : Nat) (h : Hp) (K : Value → Hp → Prop) : Prop :=
  ∃ A3 : Option Addr, ∃ l3 : Nat, ∃ c3 : Nat, PV Try.prog (Instr.sliceAt 32 (.slice A1 l1 c1) none (some (.int .i64 (IntKind.i64.wrap ((l2 : Int) + 2)))) none) (.slice A3 l3 c3) ∧
  ∃ a144 : Addr, PV Try.prog (Instr.indexAt 32 (.slice A3 l3 c3) (.int .i64 (l2 : Int))) (.pointer (some a144)) ∧
  ∃ x145 : Int, ∃ x146 : Int, ∃ x147 : Int, ∃ x148 : Int, ∃ x149 : Int, ∃ x150 : Int, ∃ x151 : Int, ∃ x152 : Int, ∃ x153 : Int, ∃ x154 : Int, ∃ x155 : Int, ∃ x156 : Int, HV Try.prog (Instr.loadAt 55 (.pointer (some a144))) h (.agg #[(.int .i64 x145), (.int .u32 x146), (.int .i64 x147), (.int .u32 x148), (.int .i64 x149), (.int .u16 x150), (.int .u16 x151), (.int .u16 x152), (.int .u16 x153), (.int .u8 x154), (.int .u8 x155), (.int .i64 x156)]) ∧ 
  CallsH Try.prog 58 #[(.int .i64 0)] h fun r158 h157 =>
  ∃ x159 : Int, ∃ x160 : Int, ∃ x161 : Int, ∃ x162 : Int, ∃ x163 : Int, ∃ x164 : Int, ∃ x165 : Int, ∃ x166 : Int, ∃ x167 : Int, ∃ x168 : Int, ∃ x169 : Int, ∃ x170 : Int, r158 = (.agg #[(.int .i64 x159), (.int .u32 x160), (.int .i64 x161), (.int .u32 x162), (.int .i64 x163), (.int .u16 x164), (.int .u16 x165), (.int .u16 x166), (.int .u16 x167), (.int .u8 x168), (.int .u8 x169), (.int .i64 x170)]) ∧ HV Try.prog (Instr.loadAt 55 (.pointer (some a144))) h157 (.agg #[(.int .i64 x145), (.int .u32 x146), (.int .i64 x147), (.int .u32 x148), (.int .i64 x149), (.int .u16 x150), (.int .u16 x151), (.int .u16 x152), (.int .u16 x153), (.int .u8 x154), (.int .u8 x155), (.int .i64 x156)]) ∧ 
  ∃ b171 : Bool, PV Try.prog (binOp .eql 55 (.agg #[(.int .i64 x145), (.int .u32 x146), (.int .i64 x147), (.int .u32 x148), (.int .i64 x149), (.int .u16 x150), (.int .u16 x151), (.int .u16 x152), (.int .u16 x153), (.int .u8 x154), (.int .u8 x155), (.int .i64 x156)]) (.agg #[(.int .i64 x159), (.int .u32 x160), (.int .i64 x161), (.int .u32 x162), (.int .i64 x163), (.int .u16 x164), (.int .u16 x165), (.int .u16 x166), (.int .u16 x167), (.int .u8 x168), (.int .u8 x169), (.int .i64 x170)])) (.bool b171) ∧
  br b171
  (∃ a172 : Addr, PV Try.prog (Instr.indexAt 32 (.slice A3 l3 c3) (.int .i64 (IntKind.i64.wrap ((l2 : Int) + 1)))) (.pointer (some a172)) ∧
  ∃ x173 : Int, ∃ x174 : Int, ∃ x175 : Int, ∃ x176 : Int, ∃ x177 : Int, ∃ x178 : Int, ∃ x179 : Int, ∃ x180 : Int, ∃ x181 : Int, ∃ x182 : Int, ∃ x183 : Int, ∃ x184 : Int, HV Try.prog (Instr.loadAt 55 (.pointer (some a172))) h157 (.agg #[(.int .i64 x173), (.int .u32 x174), (.int .i64 x175), (.int .u32 x176), (.int .i64 x177), (.int .u16 x178), (.int .u16 x179), (.int .u16 x180), (.int .u16 x181), (.int .u8 x182), (.int .u8 x183), (.int .i64 x184)]) ∧ 
  CallsH Try.prog 58 #[(.int .i64 1)] h157 fun r186 h185 =>
  ∃ x187 : Int, ∃ x188 : Int, ∃ x189 : Int, ∃ x190 : Int, ∃ x191 : Int, ∃ x192 : Int, ∃ x193 : Int, ∃ x194 : Int, ∃ x195 : Int, ∃ x196 : Int, ∃ x197 : Int, ∃ x198 : Int, r186 = (.agg #[(.int .i64 x187), (.int .u32 x188), (.int .i64 x189), (.int .u32 x190), (.int .i64 x191), (.int .u16 x192), (.int .u16 x193), (.int .u16 x194), (.int .u16 x195), (.int .u8 x196), (.int .u8 x197), (.int .i64 x198)]) ∧ HV Try.prog (Instr.loadAt 55 (.pointer (some a172))) h185 (.agg #[(.int .i64 x173), (.int .u32 x174), (.int .i64 x175), (.int .u32 x176), (.int .i64 x177), (.int .u16 x178), (.int .u16 x179), (.int .u16 x180), (.int .u16 x181), (.int .u8 x182), (.int .u8 x183), (.int .i64 x184)]) ∧ 
  ∃ b199 : Bool, PV Try.prog (binOp .eql 55 (.agg #[(.int .i64 x173), (.int .u32 x174), (.int .i64 x175), (.int .u32 x176), (.int .i64 x177), (.int .u16 x178), (.int .u16 x179), (.int .u16 x180), (.int .u16 x181), (.int .u8 x182), (.int .u8 x183), (.int .i64 x184)]) (.agg #[(.int .i64 x187), (.int .u32 x188), (.int .i64 x189), (.int .u32 x190), (.int .i64 x191), (.int .u16 x192), (.int .u16 x193), (.int .u16 x194), (.int .u16 x195), (.int .u8 x196), (.int .u8 x197), (.int .i64 x198)])) (.bool b199) ∧
  br b199
  (CallsH Try.prog 24 #[(.slice A1 l1 c1), (.slice A2 l2 c2)] h185 fun r201 h200 =>
  ∃ b202 : Bool, r201 = (.bool b202) ∧ 
  quintetkeep_Back_j2
  (fun (b203 : Bool) (h204 : Hp) =>
  K (.bool b203) h204)
  A3 l3 c3 b202 h200)
  (quintetkeep_Back_j2
  (fun (b205 : Bool) (h206 : Hp) =>
  K (.bool b205) h206)
  A3 l3 c3 false h185))
  (quintetkeep_Back_j2
  (fun (b207 : Bool) (h208 : Hp) =>
  K (.bool b207) h208)
  A3 l3 c3 false h157)
def quintetkeep_Back_lp (i : Nat) (Q : Qx) (tm : Tm) (h : Hp) : Prop := match Nat.beq i 122 with
  | true => ∃ k, quintetkeep_Back_l3_L Q k tm h
  | false => match Nat.beq i 7 with
  | true => quintetkeep_Back_j2_L Q tm h
  | false => False
def quintetkeep_Back_cut (i : Nat) : Option (List Nat) := match Nat.beq i 7 with
  | true => some [5, 6]
  | false => none
set_option maxRecDepth 100000 in
theorem quintetkeep_Back_l3_step (Q : Qx) (k : Nat) (A105 : Option Addr) (l105 : Nat) (c105 : Nat) (b106 : Bool) (x107 : Int) (h : Hp) : quintetkeep_Back_l3_L Q (k + 1) (mkTm [(5, some (.slice A105 l105 c105)), (6, some (.bool b106)), (7, some (.int .i64 x107))]) h =
    codeWp Try.prog 46 quintetkeep_Back_lp quintetkeep_Back_cut (sub (bodyOf Try.f43) [true, true, true, false, true, false, false]) 244 (thenQ (fun tm h => quintetkeep_Back_l3_L Q k (mask [5, 6, 7] tm) h) (maskQ (fun e => match e with | .exit 0 => [6] | _ => []) Q)) (mkTm [(5, some (.slice A105 l105 c105)), (6, some (.bool b106)), (7, some (.int .i64 x107))]) h := by kernel_rfl
theorem quintetkeep_Back_l3_mask (Q : Qx) (k : Nat) (tm : Tm) (h : Hp) : quintetkeep_Back_l3_L Q k tm h ↔ quintetkeep_Back_l3_L Q k (mask [5, 6, 7] tm) h := Iff.rfl
set_option maxRecDepth 100000 in
theorem quintetkeep_Back_l3_snd : SndAt Try.prog 46 none (sub (bodyOf Try.f43) [true, true, true, false, true, false]) (quintetkeep_Back_lp 122) := by
  refine loop_sound (lp := quintetkeep_Back_lp) (cut := quintetkeep_Back_cut) (i := 122) (c := (sub (bodyOf Try.f43) [true, true, true, false, true, false, false])) [5, 6, 7] (fun e => match e with | .exit 0 => [6] | _ => []) quintetkeep_Back_l3_L ?_ ?_ ?_
  · exact good_by (c := (sub (bodyOf Try.f43) [true, true, true, false, true, false, false])) (i := 244) (l := []) (by kernel_rfl) (fun _ h => by cases h)
  · intro Q tm h H
    obtain ⟨A105, l105, c105, e5, H⟩ := selS_ex H
    obtain ⟨b106, e6, H⟩ := selB_ex H
    obtain ⟨x107, e7, H⟩ := selI_ex H
    exact H
  · intro Q k tm h H
    have H0 := H
    obtain ⟨A105, l105, c105, e5, H⟩ := selS_ex H
    obtain ⟨b106, e6, H⟩ := selB_ex H
    obtain ⟨x107, e7, H⟩ := selI_ex H
    have e : mask [5, 6, 7] tm = mkTm [(5, some (.slice A105 l105 c105)), (6, some (.bool b106)), (7, some (.int .i64 x107))] := by simp only [mask, List.map_cons, List.map_nil, e5, e6, e7] <;> rfl
    rw [e]
    refine Eq.mp (quintetkeep_Back_l3_step Q k A105 l105 c105 b106 x107 h) ?_
    rw [← e]
    exact (quintetkeep_Back_l3_mask Q (k + 1) tm h).mp H0
set_option maxRecDepth 100000 in
theorem quintetkeep_Back_j2_step (Q : Qx) (A63 : Option Addr) (l63 : Nat) (c63 : Nat) (b64 : Bool) (h : Hp) : quintetkeep_Back_j2_L Q (mkTm [(5, some (.slice A63 l63 c63)), (6, some (.bool b64))]) h =
    codeWp Try.prog 46 quintetkeep_Back_lp quintetkeep_Back_cut (sub (bodyOf Try.f43) [true, true, true]) 15 (maskQ (fun e => match e with | .ret => [4] | _ => []) Q) (mkTm [(5, some (.slice A63 l63 c63)), (6, some (.bool b64))]) h := by kernel_rfl
theorem quintetkeep_Back_j2_mask (Q : Qx) (tm : Tm) (h : Hp) : quintetkeep_Back_j2_L Q tm h ↔ quintetkeep_Back_j2_L Q (mask [5, 6] tm) h := Iff.rfl
set_option maxRecDepth 100000 in
theorem quintetkeep_Back_j2_snd : SndAt Try.prog 46 none (sub (bodyOf Try.f43) [true, true, true]) (quintetkeep_Back_lp 7) := by
  refine join_sound (lp := quintetkeep_Back_lp) (cut := quintetkeep_Back_cut) (i := 7) (c := (sub (bodyOf Try.f43) [true, true, true])) [5, 6] (fun e => match e with | .ret => [4] | _ => []) quintetkeep_Back_j2_L ?_ ?_
  · exact good_by (c := (sub (bodyOf Try.f43) [true, true, true])) (i := 15) (l := [(122, (sub (bodyOf Try.f43) [true, true, true, false, true, false]))]) (by kernel_rfl) (List.forall_mem_cons.2 ⟨quintetkeep_Back_l3_snd, (fun _ h => by cases h)⟩)
  · intro Q tm h H
    have H0 := H
    obtain ⟨A63, l63, c63, e5, H⟩ := selS_ex H
    obtain ⟨b64, e6, H⟩ := selB_ex H
    have e : mask [5, 6] tm = mkTm [(5, some (.slice A63 l63 c63)), (6, some (.bool b64))] := by simp only [mask, List.map_cons, List.map_nil, e5, e6] <;> rfl
    rw [e]
    refine Eq.mp (quintetkeep_Back_j2_step Q A63 l63 c63 b64 h) ?_
    rw [← e]
    exact (quintetkeep_Back_j2_mask Q tm h).mp H0
set_option maxRecDepth 100000 in
theorem quintetkeep_Back_eq (A1 : Option Addr) (l1 : Nat) (c1 : Nat) (A2 : Option Addr) (l2 : Nat) (c2 : Nat) (h : Hp) (K : Value → Hp → Prop) : quintetkeep_Back A1 l1 c1 A2 l2 c2 h K =
    codeWp Try.prog 46 quintetkeep_Back_lp quintetkeep_Back_cut (bodyOf Try.f43) 1 (endQ Try.prog Try.f43.results.toList K) (argTm [(.slice A1 l1 c1), (.slice A2 l2 c2)]) h := by kernel_rfl
set_option maxRecDepth 100000 in
theorem quintetkeep_Back_ok (A1 : Option Addr) (l1 : Nat) (c1 : Nat) (A2 : Option Addr) (l2 : Nat) (c2 : Nat) {h : Hp} {K : Value → Hp → Prop} (H : quintetkeep_Back A1 l1 c1 A2 l2 c2 h K) : CallsH Try.prog 43 #[(.slice A1 l1 c1), (.slice A2 l2 c2)] h K :=
  calls_of (args := [(.slice A1 l1 c1), (.slice A2 l2 c2)]) (n := 46) (lp := quintetkeep_Back_lp) (cut := quintetkeep_Back_cut) Try.func43 (c := bodyOf Try.f43) (by kernel_rfl) (by kernel_rfl) (by kernel_rfl) (good_by (c := (bodyOf Try.f43)) (i := 1) (l := [(7, (sub (bodyOf Try.f43) [true, true, true]))]) (by kernel_rfl) (List.forall_mem_cons.2 ⟨quintetkeep_Back_j2_snd, (fun _ h => by cases h)⟩))
    (Eq.mp (quintetkeep_Back_eq A1 l1 c1 A2 l2 c2 h K) H)

/-! ### quintet/quintetkeep.Spoil: function 45 -/
def quintetkeep_Spoil_l1 (A3 : Option Addr) (l3 : Nat) (c3 : Nat) (K0 : Hp → Prop)  : Nat → Int → Hp → Prop
  | 0, _, _ => False
  | k + 1, x4, h =>
    br (decide (x4 < (l3 : Int)))
    (CallsH Try.prog 58 #[(.int .i64 9)] h fun r22 h21 =>
    ∃ x23 : Int, ∃ x24 : Int, ∃ x25 : Int, ∃ x26 : Int, ∃ x27 : Int, ∃ x28 : Int, ∃ x29 : Int, ∃ x30 : Int, ∃ x31 : Int, ∃ x32 : Int, ∃ x33 : Int, ∃ x34 : Int, r22 = (.agg #[(.int .i64 x23), (.int .u32 x24), (.int .i64 x25), (.int .u32 x26), (.int .i64 x27), (.int .u16 x28), (.int .u16 x29), (.int .u16 x30), (.int .u16 x31), (.int .u8 x32), (.int .u8 x33), (.int .i64 x34)]) ∧ 
    ∃ a35 : Addr, PV Try.prog (Instr.indexAt 32 (.slice A3 l3 c3) (.int .i64 x4)) (.pointer (some a35)) ∧
    HU Try.prog (Instr.storeAt 55 (.pointer (some a35)) (.agg #[(.int .i64 x23), (.int .u32 x24), (.int .i64 x25), (.int .u32 x26), (.int .i64 x27), (.int .u16 x28), (.int .u16 x29), (.int .u16 x30), (.int .u16 x31), (.int .u8 x32), (.int .u8 x33), (.int .i64 x34)])) h21 fun h36 => 
    quintetkeep_Spoil_l1 A3 l3 c3 K0 k (IntKind.i64.wrap (x4 + 1)) h36)
    (K0 h)
def quintetkeep_Spoil_l1_L (Q : Qx) (k : Nat) (tm : Tm) (h : Hp) : Prop :=
  selS (tm 0) fun A3 l3 c3 =>
  selI .i64 (tm 2) fun x4 =>
  quintetkeep_Spoil_l1 A3 l3 c3 (fun  h => Q (.exit 0) (mkTm []) h) k x4 h
def quintetkeep_Spoil (A1 : Option Addr) (l1 : Nat) (c1 : Nat) (h : Hp) (K : Value → Hp → Prop) : Prop :=
  ∃ A2 : Option Addr, ∃ l2 : Nat, ∃ c2 : Nat, PV Try.prog (Instr.sliceAt 32 (.slice A1 l1 c1) none (some (.int .i64 (c1 : Int))) none) (.slice A2 l2 c2) ∧
  ∃ k38, quintetkeep_Spoil_l1 A2 l2 c2
  (fun  (h37 : Hp) =>
  K (.tuple #[]) h37)
  k38 0 h
def quintetkeep_Spoil_lp (i : Nat) (Q : Qx) (tm : Tm) (h : Hp) : Prop := match Nat.beq i 14 with
  | true => ∃ k, quintetkeep_Spoil_l1_L Q k tm h
  | false => False
def quintetkeep_Spoil_cut (i : Nat) : Option (List Nat) := none
set_option maxRecDepth 100000 in
theorem quintetkeep_Spoil_l1_step (Q : Qx) (k : Nat) (A3 : Option Addr) (l3 : Nat) (c3 : Nat) (x4 : Int) (h : Hp) : quintetkeep_Spoil_l1_L Q (k + 1) (mkTm [(0, some (.slice A3 l3 c3)), (2, some (.int .i64 x4))]) h =
    codeWp Try.prog 17 quintetkeep_Spoil_lp quintetkeep_Spoil_cut (sub (bodyOf Try.f45) [true, true, false, false]) 28 (thenQ (fun tm h => quintetkeep_Spoil_l1_L Q k (mask [0, 2] tm) h) (maskQ (fun e => match e with | .exit 0 => [] | _ => []) Q)) (mkTm [(0, some (.slice A3 l3 c3)), (2, some (.int .i64 x4))]) h := by kernel_rfl
theorem quintetkeep_Spoil_l1_mask (Q : Qx) (k : Nat) (tm : Tm) (h : Hp) : quintetkeep_Spoil_l1_L Q k tm h ↔ quintetkeep_Spoil_l1_L Q k (mask [0, 2] tm) h := Iff.rfl
set_option maxRecDepth 100000 in
theorem quintetkeep_Spoil_l1_snd : SndAt Try.prog 17 none (sub (bodyOf Try.f45) [true, true, false]) (quintetkeep_Spoil_lp 14) := by
  refine loop_sound (lp := quintetkeep_Spoil_lp) (cut := quintetkeep_Spoil_cut) (i := 14) (c := (sub (bodyOf Try.f45) [true, true, false, false])) [0, 2] (fun e => match e with | .exit 0 => [] | _ => []) quintetkeep_Spoil_l1_L ?_ ?_ ?_
  · exact good_by (c := (sub (bodyOf Try.f45) [true, true, false, false])) (i := 28) (l := []) (by kernel_rfl) (fun _ h => by cases h)
  · intro Q tm h H
    obtain ⟨A3, l3, c3, e0, H⟩ := selS_ex H
    obtain ⟨x4, e2, H⟩ := selI_ex H
    exact H
  · intro Q k tm h H
    have H0 := H
    obtain ⟨A3, l3, c3, e0, H⟩ := selS_ex H
    obtain ⟨x4, e2, H⟩ := selI_ex H
    have e : mask [0, 2] tm = mkTm [(0, some (.slice A3 l3 c3)), (2, some (.int .i64 x4))] := by simp only [mask, List.map_cons, List.map_nil, e0, e2] <;> rfl
    rw [e]
    refine Eq.mp (quintetkeep_Spoil_l1_step Q k A3 l3 c3 x4 h) ?_
    rw [← e]
    exact (quintetkeep_Spoil_l1_mask Q (k + 1) tm h).mp H0
set_option maxRecDepth 100000 in
theorem quintetkeep_Spoil_eq (A1 : Option Addr) (l1 : Nat) (c1 : Nat) (h : Hp) (K : Value → Hp → Prop) : quintetkeep_Spoil A1 l1 c1 h K =
    codeWp Try.prog 17 quintetkeep_Spoil_lp quintetkeep_Spoil_cut (bodyOf Try.f45) 1 (endQ Try.prog Try.f45.results.toList K) (argTm [(.slice A1 l1 c1)]) h := by kernel_rfl
set_option maxRecDepth 100000 in
theorem quintetkeep_Spoil_ok (A1 : Option Addr) (l1 : Nat) (c1 : Nat) {h : Hp} {K : Value → Hp → Prop} (H : quintetkeep_Spoil A1 l1 c1 h K) : CallsH Try.prog 45 #[(.slice A1 l1 c1)] h K :=
  calls_of (args := [(.slice A1 l1 c1)]) (n := 17) (lp := quintetkeep_Spoil_lp) (cut := quintetkeep_Spoil_cut) Try.func45 (c := bodyOf Try.f45) (by kernel_rfl) (by kernel_rfl) (by kernel_rfl) (good_by (c := (bodyOf Try.f45)) (i := 1) (l := [(14, (sub (bodyOf Try.f45) [true, true, false]))]) (by kernel_rfl) (List.forall_mem_cons.2 ⟨quintetkeep_Spoil_l1_snd, (fun _ h => by cases h)⟩))
    (Eq.mp (quintetkeep_Spoil_eq A1 l1 c1 h K) H)

/-! ### quintet/quintetkeep.mark: function 58 -/
def quintetkeep_mark (x1 : Int) (h : Hp) (K : Value → Hp → Prop) : Prop :=
  newC h (.cells #[(.int .i64 0), (.int .u32 0), (.int .i64 0), (.int .u32 0), (.int .i64 0), (.int .u16 0), (.int .u16 0), (.int .u16 0), (.int .u16 0), (.int .u8 0), (.int .u8 0), (.int .i64 0)] 55 (0, 0)) fun a3 h2 => 
  HU Try.prog (Instr.storeAt 55 (.pointer (some a3)) (.agg #[(.int .i64 (IntKind.i64.wrap ((-7) - x1))), (.int .u32 0), (.int .i64 0), (.int .u32 0), (.int .i64 0), (.int .u16 0), (.int .u16 0), (.int .u16 0), (.int .u16 0), (.int .u8 0), (.int .u8 0), (.int .i64 77)])) h2 fun h4 => 
  ∃ x5 : Int, ∃ x6 : Int, ∃ x7 : Int, ∃ x8 : Int, ∃ x9 : Int, ∃ x10 : Int, ∃ x11 : Int, ∃ x12 : Int, ∃ x13 : Int, ∃ x14 : Int, ∃ x15 : Int, ∃ x16 : Int, HV Try.prog (Instr.loadAt 55 (.pointer (some a3))) h4 (.agg #[(.int .i64 x5), (.int .u32 x6), (.int .i64 x7), (.int .u32 x8), (.int .i64 x9), (.int .u16 x10), (.int .u16 x11), (.int .u16 x12), (.int .u16 x13), (.int .u8 x14), (.int .u8 x15), (.int .i64 x16)]) ∧ K (.agg #[(.int .i64 x5), (.int .u32 x6), (.int .i64 x7), (.int .u32 x8), (.int .i64 x9), (.int .u16 x10), (.int .u16 x11), (.int .u16 x12), (.int .u16 x13), (.int .u8 x14), (.int .u8 x15), (.int .i64 x16)]) h4
def quintetkeep_mark_lp (i : Nat) (Q : Qx) (tm : Tm) (h : Hp) : Prop := False
def quintetkeep_mark_cut (i : Nat) : Option (List Nat) := none
set_option maxRecDepth 100000 in
theorem quintetkeep_mark_eq (x1 : Int) (h : Hp) (K : Value → Hp → Prop) : quintetkeep_mark x1 h K =
    codeWp Try.prog 6 quintetkeep_mark_lp quintetkeep_mark_cut (bodyOf Try.f58) 1 (endQ Try.prog Try.f58.results.toList K) (argTm [(.int .i64 x1)]) h := by kernel_rfl
set_option maxRecDepth 100000 in
theorem quintetkeep_mark_ok (x1 : Int) {h : Hp} {K : Value → Hp → Prop} (H : quintetkeep_mark x1 h K) : CallsH Try.prog 58 #[(.int .i64 x1)] h K :=
  calls_of (args := [(.int .i64 x1)]) (n := 6) (lp := quintetkeep_mark_lp) (cut := quintetkeep_mark_cut) Try.func58 (c := bodyOf Try.f58) (by kernel_rfl) (by kernel_rfl) (by kernel_rfl) (good_by (c := (bodyOf Try.f58)) (i := 1) (l := []) (by kernel_rfl) (fun _ h => by cases h))
    (Eq.mp (quintetkeep_mark_eq x1 h K) H)

/-! ### quintet/quintetref11.Insert: function 39 -/
def quintetref11_Insert_j1 (K0 : (Option Addr) → Nat → Nat → Int → Hp → Prop) (A38 : Option Addr) (l38 : Nat) (c38 : Nat) (x39 : Int) (a40 : Addr) (h : Hp) : Prop :=
  ∃ A68 : Option Addr, ∃ l68 : Nat, ∃ c68 : Nat, PV Try.prog (Instr.sliceAt 32 (.slice A38 l38 c38) none (some (.int .i64 x39)) none) (.slice A68 l68 c68) ∧
  HW Try.prog (Builtin.append_ #[32, 32] 32 #[(.slice none 0 0), (.slice A68 l68 c68)]) h fun r70 h69 =>
  ∃ A71 : Option Addr, ∃ l71 : Nat, ∃ c71 : Nat, r70 = (.slice A71 l71 c71) ∧ 
  ∃ x72 : Int, ∃ x73 : Int, ∃ x74 : Int, ∃ x75 : Int, ∃ x76 : Int, ∃ x77 : Int, ∃ x78 : Int, ∃ x79 : Int, ∃ x80 : Int, ∃ x81 : Int, ∃ x82 : Int, ∃ x83 : Int, HV Try.prog (Instr.loadAt 55 (.pointer (some a40))) h69 (.agg #[(.int .i64 x72), (.int .u32 x73), (.int .i64 x74), (.int .u32 x75), (.int .i64 x76), (.int .u16 x77), (.int .u16 x78), (.int .u16 x79), (.int .u16 x80), (.int .u8 x81), (.int .u8 x82), (.int .i64 x83)]) ∧ 
  newC h69 (.cells #[(.int .i64 x72), (.int .u32 x73), (.int .i64 x74), (.int .u32 x75), (.int .i64 x76), (.int .u16 x77), (.int .u16 x78), (.int .u16 x79), (.int .u16 x80), (.int .u8 x81), (.int .u8 x82), (.int .i64 x83)] 55 (0, 0)) fun a85 h84 => 
  HW Try.prog (Builtin.append_ #[32, 32] 32 #[(.slice A71 l71 c71), (.slice (some a85) 1 1)]) h84 fun r87 h86 =>
  ∃ A88 : Option Addr, ∃ l88 : Nat, ∃ c88 : Nat, r87 = (.slice A88 l88 c88) ∧ 
  ∃ A89 : Option Addr, ∃ l89 : Nat, ∃ c89 : Nat, PV Try.prog (Instr.sliceAt 32 (.slice A38 l38 c38) (some (.int .i64 x39)) none none) (.slice A89 l89 c89) ∧
  HW Try.prog (Builtin.append_ #[32, 32] 32 #[(.slice A88 l88 c88), (.slice A89 l89 c89)]) h86 fun r91 h90 =>
  ∃ A92 : Option Addr, ∃ l92 : Nat, ∃ c92 : Nat, r91 = (.slice A92 l92 c92) ∧ 
  K0 A92 l92 c92 0 h90
def quintetref11_Insert_j1_L (Q : Qx) (tm : Tm) (h : Hp) : Prop :=
  selS (tm 0) fun A38 l38 c38 =>
  selI .i64 (tm 2) fun x39 =>
  selA (tm 7) fun a40 =>
  quintetref11_Insert_j1 (fun (A66 : Option Addr) (l66 : Nat) (c66 : Nat) (x67 : Int) h => Q (.ret) (mkTm [(8, some (.slice A66 l66 c66)), (9, some (.int .i64 x67))]) h) A38 l38 c38 x39 a40 h
def quintetref11_Insert (A1 : Option Addr) (l1 : Nat) (c1 : Nat) (x2 : Int) (x3 : Int) (x4 : Int) (x5 : Int) (x6 : Int) (x7 : Int) (x8 : Int) (x9 : Int) (x10 : Int) (x11 : Int) (x12 : Int) (x13 : Int) (x14 : Int) (x15 : Int) (h : Hp) (K : Value → Hp → Prop) : Prop :=
  newC h (.cells #[(.int .i64 x4), (.int .u32 x5), (.int .i64 x6), (.int .u32 x7), (.int .i64 x8), (.int .u16 x9), (.int .u16 x10), (.int .u16 x11), (.int .u16 x12), (.int .u8 x13), (.int .u8 x14), (.int .i64 x15)] 55 (0, 0)) fun a17 h16 => 
  ∃ x18 : Int, ∃ x19 : Int, ∃ x20 : Int, ∃ x21 : Int, ∃ x22 : Int, ∃ x23 : Int, ∃ x24 : Int, ∃ x25 : Int, ∃ x26 : Int, ∃ x27 : Int, ∃ x28 : Int, ∃ x29 : Int, HV Try.prog (Instr.loadAt 55 (.pointer (some a17))) h16 (.agg #[(.int .i64 x18), (.int .u32 x19), (.int .i64 x20), (.int .u32 x21), (.int .i64 x22), (.int .u16 x23), (.int .u16 x24), (.int .u16 x25), (.int .u16 x26), (.int .u8 x27), (.int .u8 x28), (.int .i64 x29)]) ∧ 
  CallsH Try.prog 31 #[(.agg #[(.int .i64 x18), (.int .u32 x19), (.int .i64 x20), (.int .u32 x21), (.int .i64 x22), (.int .u16 x23), (.int .u16 x24), (.int .u16 x25), (.int .u16 x26), (.int .u8 x27), (.int .u8 x28), (.int .i64 x29)])] h16 fun r31 h30 =>
  ∃ x32 : Int, ∃ x33 : Int, r31 = (.tuple #[(.int .i64 x32), (.int .i64 x33)]) ∧ 
  br (x32 != 0)
  (K (.tuple #[(.slice A1 l1 c1), (.int .i64 x32)]) h30)
  (∃ x93 : Int, HV Try.prog (Instr.loadAt 3 (.pointer (some a17))) h30 (.int .i64 x93) ∧ 
  CallsH Try.prog 32 #[(.slice A1 l1 c1), (.int .i64 x93)] h30 fun r95 h94 =>
  ∃ x96 : Int, r95 = (.int .i64 x96) ∧ 
  br (decide (x96 ≥ 0))
  (K (.tuple #[(.slice A1 l1 c1), (.int .i64 111)]) h94)
  (br (decide (x3 < 0))
  (K (.tuple #[(.slice A1 l1 c1), (.int .i64 112)]) h94)
  (br (decide (x3 > (l1 : Int)))
  (K (.tuple #[(.slice A1 l1 c1), (.int .i64 112)]) h94)
  (br (decide ((l1 : Int) ≥ x2))
  (K (.tuple #[(.slice A1 l1 c1), (.int .i64 113)]) h94)
  (quintetref11_Insert_j1
  (fun (A97 : Option Addr) (l97 : Nat) (c97 : Nat) (x98 : Int) (h99 : Hp) =>
  K (.tuple #[(.slice A97 l97 c97), (.int .i64 x98)]) h99)
  A1 l1 c1 x3 a17 h94)))))
def quintetref11_Insert_lp (i : Nat) (Q : Qx) (tm : Tm) (h : Hp) : Prop := match Nat.beq i 7 with
  | true => quintetref11_Insert_j1_L Q tm h
  | false => False
def quintetref11_Insert_cut (i : Nat) : Option (List Nat) := match Nat.beq i 7 with
  | true => some [0, 2, 7]
  | false => none
set_option maxRecDepth 100000 in
theorem quintetref11_Insert_j1_step (Q : Qx) (A38 : Option Addr) (l38 : Nat) (c38 : Nat) (x39 : Int) (a40 : Addr) (h : Hp) : quintetref11_Insert_j1_L Q (mkTm [(0, some (.slice A38 l38 c38)), (2, some (.int .i64 x39)), (7, some (.pointer (some a40)))]) h =
    codeWp Try.prog 60 quintetref11_Insert_lp quintetref11_Insert_cut (sub (bodyOf Try.f39) [true, true, true]) 15 (maskQ (fun e => match e with | .ret => [8, 9] | _ => []) Q) (mkTm [(0, some (.slice A38 l38 c38)), (2, some (.int .i64 x39)), (7, some (.pointer (some a40)))]) h := by kernel_rfl
theorem quintetref11_Insert_j1_mask (Q : Qx) (tm : Tm) (h : Hp) : quintetref11_Insert_j1_L Q tm h ↔ quintetref11_Insert_j1_L Q (mask [0, 2, 7] tm) h := Iff.rfl
set_option maxRecDepth 100000 in
theorem quintetref11_Insert_j1_snd : SndAt Try.prog 60 none (sub (bodyOf Try.f39) [true, true, true]) (quintetref11_Insert_lp 7) := by
  refine join_sound (lp := quintetref11_Insert_lp) (cut := quintetref11_Insert_cut) (i := 7) (c := (sub (bodyOf Try.f39) [true, true, true])) [0, 2, 7] (fun e => match e with | .ret => [8, 9] | _ => []) quintetref11_Insert_j1_L ?_ ?_
  · exact good_by (c := (sub (bodyOf Try.f39) [true, true, true])) (i := 15) (l := []) (by kernel_rfl) (fun _ h => by cases h)
  · intro Q tm h H
    have H0 := H
    obtain ⟨A38, l38, c38, e0, H⟩ := selS_ex H
    obtain ⟨x39, e2, H⟩ := selI_ex H
    obtain ⟨a40, e7, H⟩ := selA_ex H
    have e : mask [0, 2, 7] tm = mkTm [(0, some (.slice A38 l38 c38)), (2, some (.int .i64 x39)), (7, some (.pointer (some a40)))] := by simp only [mask, List.map_cons, List.map_nil, e0, e2, e7] <;> rfl
    rw [e]
    refine Eq.mp (quintetref11_Insert_j1_step Q A38 l38 c38 x39 a40 h) ?_
    rw [← e]
    exact (quintetref11_Insert_j1_mask Q tm h).mp H0
set_option maxRecDepth 100000 in
theorem quintetref11_Insert_eq (A1 : Option Addr) (l1 : Nat) (c1 : Nat) (x2 : Int) (x3 : Int) (x4 : Int) (x5 : Int) (x6 : Int) (x7 : Int) (x8 : Int) (x9 : Int) (x10 : Int) (x11 : Int) (x12 : Int) (x13 : Int) (x14 : Int) (x15 : Int) (h : Hp) (K : Value → Hp → Prop) : quintetref11_Insert A1 l1 c1 x2 x3 x4 x5 x6 x7 x8 x9 x10 x11 x12 x13 x14 x15 h K =
    codeWp Try.prog 60 quintetref11_Insert_lp quintetref11_Insert_cut (bodyOf Try.f39) 1 (endQ Try.prog Try.f39.results.toList K) (argTm [(.slice A1 l1 c1), (.int .i64 x2), (.int .i64 x3), (.agg #[(.int .i64 x4), (.int .u32 x5), (.int .i64 x6), (.int .u32 x7), (.int .i64 x8), (.int .u16 x9), (.int .u16 x10), (.int .u16 x11), (.int .u16 x12), (.int .u8 x13), (.int .u8 x14), (.int .i64 x15)])]) h := by kernel_rfl
set_option maxRecDepth 100000 in
theorem quintetref11_Insert_ok (A1 : Option Addr) (l1 : Nat) (c1 : Nat) (x2 : Int) (x3 : Int) (x4 : Int) (x5 : Int) (x6 : Int) (x7 : Int) (x8 : Int) (x9 : Int) (x10 : Int) (x11 : Int) (x12 : Int) (x13 : Int) (x14 : Int) (x15 : Int) {h : Hp} {K : Value → Hp → Prop} (H : quintetref11_Insert A1 l1 c1 x2 x3 x4 x5 x6 x7 x8 x9 x10 x11 x12 x13 x14 x15 h K) : CallsH Try.prog 39 #[(.slice A1 l1 c1), (.int .i64 x2), (.int .i64 x3), (.agg #[(.int .i64 x4), (.int .u32 x5), (.int .i64 x6), (.int .u32 x7), (.int .i64 x8), (.int .u16 x9), (.int .u16 x10), (.int .u16 x11), (.int .u16 x12), (.int .u8 x13), (.int .u8 x14), (.int .i64 x15)])] h K :=
  calls_of (args := [(.slice A1 l1 c1), (.int .i64 x2), (.int .i64 x3), (.agg #[(.int .i64 x4), (.int .u32 x5), (.int .i64 x6), (.int .u32 x7), (.int .i64 x8), (.int .u16 x9), (.int .u16 x10), (.int .u16 x11), (.int .u16 x12), (.int .u8 x13), (.int .u8 x14), (.int .i64 x15)])]) (n := 60) (lp := quintetref11_Insert_lp) (cut := quintetref11_Insert_cut) Try.func39 (c := bodyOf Try.f39) (by kernel_rfl) (by kernel_rfl) (by kernel_rfl) (good_by (c := (bodyOf Try.f39)) (i := 1) (l := [(7, (sub (bodyOf Try.f39) [true, true, true]))]) (by kernel_rfl) (List.forall_mem_cons.2 ⟨quintetref11_Insert_j1_snd, (fun _ h => by cases h)⟩))
    (Eq.mp (quintetref11_Insert_eq A1 l1 c1 x2 x3 x4 x5 x6 x7 x8 x9 x10 x11 x12 x13 x14 x15 h K) H)

/-! ### quintet/quintetref11.Delete: function 40 -/
def quintetref11_Delete (A1 : Option Addr) (l1 : Nat) (c1 : Nat) (x2 : Int) (h : Hp) (K : Value → Hp → Prop) : Prop :=
  CallsH Try.prog 32 #[(.slice A1 l1 c1), (.int .i64 x2)] h fun r4 h3 =>
  ∃ x5 : Int, r4 = (.int .i64 x5) ∧ 
  br (decide (x5 < 0))
  (K (.tuple #[(.slice A1 l1 c1), (.int .i64 114)]) h3)
  (∃ A6 : Option Addr, ∃ l6 : Nat, ∃ c6 : Nat, PV Try.prog (Instr.sliceAt 32 (.slice A1 l1 c1) none (some (.int .i64 x5)) none) (.slice A6 l6 c6) ∧
  HW Try.prog (Builtin.append_ #[32, 32] 32 #[(.slice none 0 0), (.slice A6 l6 c6)]) h3 fun r8 h7 =>
  ∃ A9 : Option Addr, ∃ l9 : Nat, ∃ c9 : Nat, r8 = (.slice A9 l9 c9) ∧ 
  ∃ A10 : Option Addr, ∃ l10 : Nat, ∃ c10 : Nat, PV Try.prog (Instr.sliceAt 32 (.slice A1 l1 c1) (some (.int .i64 (IntKind.i64.wrap (x5 + 1)))) none none) (.slice A10 l10 c10) ∧
  HW Try.prog (Builtin.append_ #[32, 32] 32 #[(.slice A9 l9 c9), (.slice A10 l10 c10)]) h7 fun r12 h11 =>
  ∃ A13 : Option Addr, ∃ l13 : Nat, ∃ c13 : Nat, r12 = (.slice A13 l13 c13) ∧ 
  K (.tuple #[(.slice A13 l13 c13), (.int .i64 0)]) h11)
def quintetref11_Delete_lp (i : Nat) (Q : Qx) (tm : Tm) (h : Hp) : Prop := False
def quintetref11_Delete_cut (i : Nat) : Option (List Nat) := none
set_option maxRecDepth 100000 in
theorem quintetref11_Delete_eq (A1 : Option Addr) (l1 : Nat) (c1 : Nat) (x2 : Int) (h : Hp) (K : Value → Hp → Prop) : quintetref11_Delete A1 l1 c1 x2 h K =
    codeWp Try.prog 25 quintetref11_Delete_lp quintetref11_Delete_cut (bodyOf Try.f40) 1 (endQ Try.prog Try.f40.results.toList K) (argTm [(.slice A1 l1 c1), (.int .i64 x2)]) h := by kernel_rfl
set_option maxRecDepth 100000 in
theorem quintetref11_Delete_ok (A1 : Option Addr) (l1 : Nat) (c1 : Nat) (x2 : Int) {h : Hp} {K : Value → Hp → Prop} (H : quintetref11_Delete A1 l1 c1 x2 h K) : CallsH Try.prog 40 #[(.slice A1 l1 c1), (.int .i64 x2)] h K :=
  calls_of (args := [(.slice A1 l1 c1), (.int .i64 x2)]) (n := 25) (lp := quintetref11_Delete_lp) (cut := quintetref11_Delete_cut) Try.func40 (c := bodyOf Try.f40) (by kernel_rfl) (by kernel_rfl) (by kernel_rfl) (good_by (c := (bodyOf Try.f40)) (i := 1) (l := []) (by kernel_rfl) (fun _ h => by cases h))
    (Eq.mp (quintetref11_Delete_eq A1 l1 c1 x2 h K) H)

/-! ### quintet/quintetref11.Move: function 41 -/
def quintetref11_Move_j1 (K0 : (Option Addr) → Nat → Nat → Int → Hp → Prop) (A7 : Option Addr) (l7 : Nat) (c7 : Nat) (x8 : Int) (x9 : Int) (x10 : Int) (h : Hp) : Prop :=
  ∃ a58 : Addr, PV Try.prog (Instr.indexAt 32 (.slice A7 l7 c7) (.int .i64 x10)) (.pointer (some a58)) ∧
  ∃ x59 : Int, ∃ x60 : Int, ∃ x61 : Int, ∃ x62 : Int, ∃ x63 : Int, ∃ x64 : Int, ∃ x65 : Int, ∃ x66 : Int, ∃ x67 : Int, ∃ x68 : Int, ∃ x69 : Int, ∃ x70 : Int, HV Try.prog (Instr.loadAt 55 (.pointer (some a58))) h (.agg #[(.int .i64 x59), (.int .u32 x60), (.int .i64 x61), (.int .u32 x62), (.int .i64 x63), (.int .u16 x64), (.int .u16 x65), (.int .u16 x66), (.int .u16 x67), (.int .u8 x68), (.int .u8 x69), (.int .i64 x70)]) ∧ 
  newC h (.cells #[(.int .i64 0), (.int .u32 0), (.int .i64 0), (.int .u32 0), (.int .i64 0), (.int .u16 0), (.int .u16 0), (.int .u16 0), (.int .u16 0), (.int .u8 0), (.int .u8 0), (.int .i64 0)] 55 (0, 0)) fun a72 h71 => 
  HU Try.prog (Instr.storeAt 55 (.pointer (some a72)) (.agg #[(.int .i64 x59), (.int .u32 x60), (.int .i64 x61), (.int .u32 x62), (.int .i64 x63), (.int .u16 x64), (.int .u16 x65), (.int .u16 x66), (.int .u16 x67), (.int .u8 x68), (.int .u8 x69), (.int .i64 x70)])) h71 fun h73 => 
  CallsH Try.prog 40 #[(.slice A7 l7 c7), (.int .i64 x8)] h73 fun r75 h74 =>
  ∃ A76 : Option Addr, ∃ l76 : Nat, ∃ c76 : Nat, ∃ x77 : Int, r75 = (.tuple #[(.slice A76 l76 c76), (.int .i64 x77)]) ∧ 
  ∃ A78 : Option Addr, ∃ l78 : Nat, ∃ c78 : Nat, PV Try.prog (Instr.sliceAt 32 (.slice A76 l76 c76) none (some (.int .i64 x9)) none) (.slice A78 l78 c78) ∧
  HW Try.prog (Builtin.append_ #[32, 32] 32 #[(.slice none 0 0), (.slice A78 l78 c78)]) h74 fun r80 h79 =>
  ∃ A81 : Option Addr, ∃ l81 : Nat, ∃ c81 : Nat, r80 = (.slice A81 l81 c81) ∧ 
  ∃ x82 : Int, ∃ x83 : Int, ∃ x84 : Int, ∃ x85 : Int, ∃ x86 : Int, ∃ x87 : Int, ∃ x88 : Int, ∃ x89 : Int, ∃ x90 : Int, ∃ x91 : Int, ∃ x92 : Int, ∃ x93 : Int, HV Try.prog (Instr.loadAt 55 (.pointer (some a72))) h79 (.agg #[(.int .i64 x82), (.int .u32 x83), (.int .i64 x84), (.int .u32 x85), (.int .i64 x86), (.int .u16 x87), (.int .u16 x88), (.int .u16 x89), (.int .u16 x90), (.int .u8 x91), (.int .u8 x92), (.int .i64 x93)]) ∧ 
  newC h79 (.cells #[(.int .i64 x82), (.int .u32 x83), (.int .i64 x84), (.int .u32 x85), (.int .i64 x86), (.int .u16 x87), (.int .u16 x88), (.int .u16 x89), (.int .u16 x90), (.int .u8 x91), (.int .u8 x92), (.int .i64 x93)] 55 (0, 0)) fun a95 h94 => 
  HW Try.prog (Builtin.append_ #[32, 32] 32 #[(.slice A81 l81 c81), (.slice (some a95) 1 1)]) h94 fun r97 h96 =>
  ∃ A98 : Option Addr, ∃ l98 : Nat, ∃ c98 : Nat, r97 = (.slice A98 l98 c98) ∧ 
  ∃ A99 : Option Addr, ∃ l99 : Nat, ∃ c99 : Nat, PV Try.prog (Instr.sliceAt 32 (.slice A76 l76 c76) (some (.int .i64 x9)) none none) (.slice A99 l99 c99) ∧
  HW Try.prog (Builtin.append_ #[32, 32] 32 #[(.slice A98 l98 c98), (.slice A99 l99 c99)]) h96 fun r101 h100 =>
  ∃ A102 : Option Addr, ∃ l102 : Nat, ∃ c102 : Nat, r101 = (.slice A102 l102 c102) ∧ 
  K0 A102 l102 c102 0 h100
def quintetref11_Move_j1_L (Q : Qx) (tm : Tm) (h : Hp) : Prop :=
  selS (tm 0) fun A7 l7 c7 =>
  selI .i64 (tm 1) fun x8 =>
  selI .i64 (tm 2) fun x9 =>
  selI .i64 (tm 8) fun x10 =>
  quintetref11_Move_j1 (fun (A56 : Option Addr) (l56 : Nat) (c56 : Nat) (x57 : Int) h => Q (.ret) (mkTm [(6, some (.slice A56 l56 c56)), (7, some (.int .i64 x57))]) h) A7 l7 c7 x8 x9 x10 h
def quintetref11_Move (A1 : Option Addr) (l1 : Nat) (c1 : Nat) (x2 : Int) (x3 : Int) (h : Hp) (K : Value → Hp → Prop) : Prop :=
  CallsH Try.prog 32 #[(.slice A1 l1 c1), (.int .i64 x2)] h fun r5 h4 =>
  ∃ x6 : Int, r5 = (.int .i64 x6) ∧ 
  br (decide (x6 < 0))
  (K (.tuple #[(.slice A1 l1 c1), (.int .i64 114)]) h4)
  (br (decide (x3 < 0))
  (K (.tuple #[(.slice A1 l1 c1), (.int .i64 112)]) h4)
  (br (decide (x3 ≥ (l1 : Int)))
  (K (.tuple #[(.slice A1 l1 c1), (.int .i64 112)]) h4)
  (quintetref11_Move_j1
  (fun (A103 : Option Addr) (l103 : Nat) (c103 : Nat) (x104 : Int) (h105 : Hp) =>
  K (.tuple #[(.slice A103 l103 c103), (.int .i64 x104)]) h105)
  A1 l1 c1 x2 x3 x6 h4)))
def quintetref11_Move_lp (i : Nat) (Q : Qx) (tm : Tm) (h : Hp) : Prop := match Nat.beq i 15 with
  | true => quintetref11_Move_j1_L Q tm h
  | false => False
def quintetref11_Move_cut (i : Nat) : Option (List Nat) := match Nat.beq i 15 with
  | true => some [0, 1, 2, 8]
  | false => none
set_option maxRecDepth 100000 in
theorem quintetref11_Move_j1_step (Q : Qx) (A7 : Option Addr) (l7 : Nat) (c7 : Nat) (x8 : Int) (x9 : Int) (x10 : Int) (h : Hp) : quintetref11_Move_j1_L Q (mkTm [(0, some (.slice A7 l7 c7)), (1, some (.int .i64 x8)), (2, some (.int .i64 x9)), (8, some (.int .i64 x10))]) h =
    codeWp Try.prog 52 quintetref11_Move_lp quintetref11_Move_cut (sub (bodyOf Try.f41) [true, true, true, true]) 31 (maskQ (fun e => match e with | .ret => [6, 7] | _ => []) Q) (mkTm [(0, some (.slice A7 l7 c7)), (1, some (.int .i64 x8)), (2, some (.int .i64 x9)), (8, some (.int .i64 x10))]) h := by kernel_rfl
theorem quintetref11_Move_j1_mask (Q : Qx) (tm : Tm) (h : Hp) : quintetref11_Move_j1_L Q tm h ↔ quintetref11_Move_j1_L Q (mask [0, 1, 2, 8] tm) h := Iff.rfl
set_option maxRecDepth 100000 in
theorem quintetref11_Move_j1_snd : SndAt Try.prog 52 none (sub (bodyOf Try.f41) [true, true, true, true]) (quintetref11_Move_lp 15) := by
  refine join_sound (lp := quintetref11_Move_lp) (cut := quintetref11_Move_cut) (i := 15) (c := (sub (bodyOf Try.f41) [true, true, true, true])) [0, 1, 2, 8] (fun e => match e with | .ret => [6, 7] | _ => []) quintetref11_Move_j1_L ?_ ?_
  · exact good_by (c := (sub (bodyOf Try.f41) [true, true, true, true])) (i := 31) (l := []) (by kernel_rfl) (fun _ h => by cases h)
  · intro Q tm h H
    have H0 := H
    obtain ⟨A7, l7, c7, e0, H⟩ := selS_ex H
    obtain ⟨x8, e1, H⟩ := selI_ex H
    obtain ⟨x9, e2, H⟩ := selI_ex H
    obtain ⟨x10, e8, H⟩ := selI_ex H
    have e : mask [0, 1, 2, 8] tm = mkTm [(0, some (.slice A7 l7 c7)), (1, some (.int .i64 x8)), (2, some (.int .i64 x9)), (8, some (.int .i64 x10))] := by simp only [mask, List.map_cons, List.map_nil, e0, e1, e2, e8] <;> rfl
    rw [e]
    refine Eq.mp (quintetref11_Move_j1_step Q A7 l7 c7 x8 x9 x10 h) ?_
    rw [← e]
    exact (quintetref11_Move_j1_mask Q tm h).mp H0
set_option maxRecDepth 100000 in
theorem quintetref11_Move_eq (A1 : Option Addr) (l1 : Nat) (c1 : Nat) (x2 : Int) (x3 : Int) (h : Hp) (K : Value → Hp → Prop) : quintetref11_Move A1 l1 c1 x2 x3 h K =
    codeWp Try.prog 52 quintetref11_Move_lp quintetref11_Move_cut (bodyOf Try.f41) 1 (endQ Try.prog Try.f41.results.toList K) (argTm [(.slice A1 l1 c1), (.int .i64 x2), (.int .i64 x3)]) h := by kernel_rfl
set_option maxRecDepth 100000 in
theorem quintetref11_Move_ok (A1 : Option Addr) (l1 : Nat) (c1 : Nat) (x2 : Int) (x3 : Int) {h : Hp} {K : Value → Hp → Prop} (H : quintetref11_Move A1 l1 c1 x2 x3 h K) : CallsH Try.prog 41 #[(.slice A1 l1 c1), (.int .i64 x2), (.int .i64 x3)] h K :=
  calls_of (args := [(.slice A1 l1 c1), (.int .i64 x2), (.int .i64 x3)]) (n := 52) (lp := quintetref11_Move_lp) (cut := quintetref11_Move_cut) Try.func41 (c := bodyOf Try.f41) (by kernel_rfl) (by kernel_rfl) (by kernel_rfl) (good_by (c := (bodyOf Try.f41)) (i := 1) (l := [(15, (sub (bodyOf Try.f41) [true, true, true, true]))]) (by kernel_rfl) (List.forall_mem_cons.2 ⟨quintetref11_Move_j1_snd, (fun _ h => by cases h)⟩))
    (Eq.mp (quintetref11_Move_eq A1 l1 c1 x2 x3 h K) H)

/-! ### quintet/quintetref11.Copy: function 44 -/
def quintetref11_Copy (A1 : Option Addr) (l1 : Nat) (c1 : Nat) (h : Hp) (K : Value → Hp → Prop) : Prop :=
  HW Try.prog (Instr.makeSlice 32 (.int .i64 (l1 : Int)) (.int .i64 (l1 : Int))) h fun r3 h2 =>
  ∃ A4 : Option Addr, ∃ l4 : Nat, ∃ c4 : Nat, r3 = (.slice A4 l4 c4) ∧ 
  HW Try.prog (Builtin.copy_ #[32, 32] 3 #[(.slice A4 l4 c4), (.slice A1 l1 c1)]) h2 fun r6 h5 =>
  ∃ x7 : Int, r6 = (.int .i64 x7) ∧ 
  K (.slice A4 l4 c4) h5
def quintetref11_Copy_lp (i : Nat) (Q : Qx) (tm : Tm) (h : Hp) : Prop := False
def quintetref11_Copy_cut (i : Nat) : Option (List Nat) := none
set_option maxRecDepth 100000 in
theorem quintetref11_Copy_eq (A1 : Option Addr) (l1 : Nat) (c1 : Nat) (h : Hp) (K : Value → Hp → Prop) : quintetref11_Copy A1 l1 c1 h K =
    codeWp Try.prog 11 quintetref11_Copy_lp quintetref11_Copy_cut (bodyOf Try.f44) 1 (endQ Try.prog Try.f44.results.toList K) (argTm [(.slice A1 l1 c1)]) h := by kernel_rfl
set_option maxRecDepth 100000 in
theorem quintetref11_Copy_ok (A1 : Option Addr) (l1 : Nat) (c1 : Nat) {h : Hp} {K : Value → Hp → Prop} (H : quintetref11_Copy A1 l1 c1 h K) : CallsH Try.prog 44 #[(.slice A1 l1 c1)] h K :=
  calls_of (args := [(.slice A1 l1 c1)]) (n := 11) (lp := quintetref11_Copy_lp) (cut := quintetref11_Copy_cut) Try.func44 (c := bodyOf Try.f44) (by kernel_rfl) (by kernel_rfl) (by kernel_rfl) (good_by (c := (bodyOf Try.f44)) (i := 1) (l := []) (by kernel_rfl) (fun _ h => by cases h))
    (Eq.mp (quintetref11_Copy_eq A1 l1 c1 h K) H)

/-! ### quintet/quintetlaw11.step: function 26 -/
def quintetlaw11_step_j1 (K0 : (Option Addr) → Nat → Nat → Bool → Hp → Prop) (A165 : Option Addr) (l165 : Nat) (c165 : Nat) (a166 : Addr) (a167 : Addr) (x168 : Int) (h : Hp) : Prop :=
  br (x168 == 0)
  (∃ x198 : Int, ∃ x199 : Int, ∃ x200 : Int, ∃ x201 : Int, ∃ x202 : Int, ∃ x203 : Int, ∃ x204 : Int, ∃ x205 : Int, ∃ x206 : Int, ∃ x207 : Int, ∃ x208 : Int, ∃ x209 : Int, HV Try.prog (Instr.loadAt 55 (.pointer (some a167))) h (.agg #[(.int .i64 x198), (.int .u32 x199), (.int .i64 x200), (.int .u32 x201), (.int .i64 x202), (.int .u16 x203), (.int .u16 x204), (.int .u16 x205), (.int .u16 x206), (.int .u8 x207), (.int .u8 x208), (.int .i64 x209)]) ∧ 
  ∃ x210 : Int, HV Try.prog (Instr.loadAt 3 (.pointer (some (a166.add 1)))) h (.int .i64 x210) ∧ 
  ∃ a211 : Addr, PV Try.prog (Instr.indexAt 32 (.slice A165 l165 c165) (.int .i64 x210)) (.pointer (some a211)) ∧
  ∃ x212 : Int, ∃ x213 : Int, ∃ x214 : Int, ∃ x215 : Int, ∃ x216 : Int, ∃ x217 : Int, ∃ x218 : Int, ∃ x219 : Int, ∃ x220 : Int, ∃ x221 : Int, ∃ x222 : Int, ∃ x223 : Int, HV Try.prog (Instr.loadAt 55 (.pointer (some a211))) h (.agg #[(.int .i64 x212), (.int .u32 x213), (.int .i64 x214), (.int .u32 x215), (.int .i64 x216), (.int .u16 x217), (.int .u16 x218), (.int .u16 x219), (.int .u16 x220), (.int .u8 x221), (.int .u8 x222), (.int .i64 x223)]) ∧ 
  ∃ b224 : Bool, PV Try.prog (binOp .eql 55 (.agg #[(.int .i64 x198), (.int .u32 x199), (.int .i64 x200), (.int .u32 x201), (.int .i64 x202), (.int .u16 x203), (.int .u16 x204), (.int .u16 x205), (.int .u16 x206), (.int .u8 x207), (.int .u8 x208), (.int .i64 x209)]) (.agg #[(.int .i64 x212), (.int .u32 x213), (.int .i64 x214), (.int .u32 x215), (.int .i64 x216), (.int .u16 x217), (.int .u16 x218), (.int .u16 x219), (.int .u16 x220), (.int .u8 x221), (.int .u8 x222), (.int .i64 x223)])) (.bool b224) ∧
  K0 A165 l165 c165 b224 h)
  (K0 A165 l165 c165 false h)
def quintetlaw11_step_j1_L (Q : Qx) (tm : Tm) (h : Hp) : Prop :=
  selS (tm 1) fun A165 l165 c165 =>
  selA (tm 7) fun a166 =>
  selA (tm 23) fun a167 =>
  selI .i64 (tm 24) fun x168 =>
  quintetlaw11_step_j1 (fun (A196 : Option Addr) (l196 : Nat) (c196 : Nat) (b197 : Bool) h => Q (.ret) (mkTm [(8, some (.slice A196 l196 c196)), (9, some (.bool b197))]) h) A165 l165 c165 a166 a167 x168 h
def quintetlaw11_step (p1 : Option Addr) (A2 : Option Addr) (l2 : Nat) (c2 : Nat) (x3 : Int) (x4 : Int) (x5 : Int) (x6 : Int) (x7 : Int) (x8 : Int) (x9 : Int) (x10 : Int) (x11 : Int) (x12 : Int) (x13 : Int) (x14 : Int) (x15 : Int) (x16 : Int) (x17 : Int) (x18 : Int) (x19 : Int) (x20 : Int) (x21 : Int) (x22 : Int) (x23 : Int) (x24 : Int) (x25 : Int) (x26 : Int) (x27 : Int) (x28 : Int) (x29 : Int) (A30 : Option Addr) (l30 : Nat) (c30 : Nat) (h : Hp) (K : Value → Hp → Prop) : Prop :=
  newC h (.cells #[(.int .i64 x3), (.int .i64 x4), (.int .i64 x5), (.int .i64 x6), (.int .i64 x7), (.int .i64 x8), (.int .i64 x9)] 24 (0, 0)) fun a32 h31 => 
  newC h31 (.cells #[(.int .i64 x10), (.int .i64 x11), (.int .i64 x12), (.int .i64 x13), (.int .u32 x14), (.int .i64 x15), (.int .u32 x16), (.int .i64 x17), (.int .u16 x18), (.int .u16 x19), (.int .u16 x20), (.int .u16 x21), (.int .u8 x22), (.int .u8 x23), (.int .i64 x24), (.int .u32 x25), (.int .u32 x26), (.int .u16 x27), (.int .u16 x28), (.int .u8 x29), (.slice A30 l30 c30)] 66 (0, 0)) fun a34 h33 => 
  ∃ x35 : Int, HV Try.prog (Instr.loadAt 3 (.pointer (some a34))) h33 (.int .i64 x35) ∧ 
  br (x35 == 1)
  (∃ x36 : Int, HV Try.prog (Instr.loadAt 3 (.pointer (some (a34.add 1)))) h33 (.int .i64 x36) ∧ 
  ∃ x37 : Int, ∃ x38 : Int, ∃ x39 : Int, ∃ x40 : Int, ∃ x41 : Int, ∃ x42 : Int, ∃ x43 : Int, ∃ x44 : Int, ∃ x45 : Int, ∃ x46 : Int, ∃ x47 : Int, ∃ x48 : Int, HV Try.prog (Instr.loadAt 55 (.pointer (some (a34.add 3)))) h33 (.agg #[(.int .i64 x37), (.int .u32 x38), (.int .i64 x39), (.int .u32 x40), (.int .i64 x41), (.int .u16 x42), (.int .u16 x43), (.int .u16 x44), (.int .u16 x45), (.int .u8 x46), (.int .u8 x47), (.int .i64 x48)]) ∧ 
  CallsH Try.prog 19 #[(.pointer p1), (.int .i64 x36), (.agg #[(.int .i64 x37), (.int .u32 x38), (.int .i64 x39), (.int .u32 x40), (.int .i64 x41), (.int .u16 x42), (.int .u16 x43), (.int .u16 x44), (.int .u16 x45), (.int .u8 x46), (.int .u8 x47), (.int .i64 x48)])] h33 fun r50 h49 =>
  ∃ x51 : Int, r50 = (.int .i64 x51) ∧ 
  ∃ x52 : Int, HV Try.prog (Instr.loadAt 3 (.pointer (some a32))) h49 (.int .i64 x52) ∧ 
  ∃ x53 : Int, HV Try.prog (Instr.loadAt 3 (.pointer (some (a34.add 1)))) h49 (.int .i64 x53) ∧ 
  ∃ x54 : Int, ∃ x55 : Int, ∃ x56 : Int, ∃ x57 : Int, ∃ x58 : Int, ∃ x59 : Int, ∃ x60 : Int, ∃ x61 : Int, ∃ x62 : Int, ∃ x63 : Int, ∃ x64 : Int, ∃ x65 : Int, HV Try.prog (Instr.loadAt 55 (.pointer (some (a34.add 3)))) h49 (.agg #[(.int .i64 x54), (.int .u32 x55), (.int .i64 x56), (.int .u32 x57), (.int .i64 x58), (.int .u16 x59), (.int .u16 x60), (.int .u16 x61), (.int .u16 x62), (.int .u8 x63), (.int .u8 x64), (.int .i64 x65)]) ∧ 
  CallsH Try.prog 39 #[(.slice A2 l2 c2), (.int .i64 x52), (.int .i64 x53), (.agg #[(.int .i64 x54), (.int .u32 x55), (.int .i64 x56), (.int .u32 x57), (.int .i64 x58), (.int .u16 x59), (.int .u16 x60), (.int .u16 x61), (.int .u16 x62), (.int .u8 x63), (.int .u8 x64), (.int .i64 x65)])] h49 fun r67 h66 =>
  ∃ A68 : Option Addr, ∃ l68 : Nat, ∃ c68 : Nat, ∃ x69 : Int, r67 = (.tuple #[(.slice A68 l68 c68), (.int .i64 x69)]) ∧ 
  K (.tuple #[(.slice A68 l68 c68), (.bool (x51 == x69))]) h66)
  (br (x35 == 2)
  (∃ x70 : Int, HV Try.prog (Instr.loadAt 3 (.pointer (some (a34.add 2)))) h33 (.int .i64 x70) ∧ 
  CallsH Try.prog 23 #[(.pointer p1), (.int .i64 x70)] h33 fun r72 h71 =>
  ∃ x73 : Int, r72 = (.int .i64 x73) ∧ 
  ∃ x74 : Int, HV Try.prog (Instr.loadAt 3 (.pointer (some (a34.add 2)))) h71 (.int .i64 x74) ∧ 
  CallsH Try.prog 40 #[(.slice A2 l2 c2), (.int .i64 x74)] h71 fun r76 h75 =>
  ∃ A77 : Option Addr, ∃ l77 : Nat, ∃ c77 : Nat, ∃ x78 : Int, r76 = (.tuple #[(.slice A77 l77 c77), (.int .i64 x78)]) ∧ 
  K (.tuple #[(.slice A77 l77 c77), (.bool (x73 == x78))]) h75)
  (br (x35 == 3)
  (∃ x79 : Int, HV Try.prog (Instr.loadAt 3 (.pointer (some (a34.add 2)))) h33 (.int .i64 x79) ∧ 
  ∃ x80 : Int, HV Try.prog (Instr.loadAt 3 (.pointer (some (a34.add 1)))) h33 (.int .i64 x80) ∧ 
  CallsH Try.prog 28 #[(.pointer p1), (.int .i64 x79), (.int .i64 x80)] h33 fun r82 h81 =>
  ∃ x83 : Int, r82 = (.int .i64 x83) ∧ 
  ∃ x84 : Int, HV Try.prog (Instr.loadAt 3 (.pointer (some (a34.add 2)))) h81 (.int .i64 x84) ∧ 
  ∃ x85 : Int, HV Try.prog (Instr.loadAt 3 (.pointer (some (a34.add 1)))) h81 (.int .i64 x85) ∧ 
  CallsH Try.prog 41 #[(.slice A2 l2 c2), (.int .i64 x84), (.int .i64 x85)] h81 fun r87 h86 =>
  ∃ A88 : Option Addr, ∃ l88 : Nat, ∃ c88 : Nat, ∃ x89 : Int, r87 = (.tuple #[(.slice A88 l88 c88), (.int .i64 x89)]) ∧ 
  K (.tuple #[(.slice A88 l88 c88), (.bool (x83 == x89))]) h86)
  (br (x35 == 4)
  (∃ A90 : Option Addr, ∃ l90 : Nat, ∃ c90 : Nat, HV Try.prog (Instr.loadAt 32 (.pointer (some (a34.add 20)))) h33 (.slice A90 l90 c90) ∧ 
  CallsH Try.prog 42 #[(.slice A90 l90 c90)] h33 fun r92 h91 =>
  ∃ A93 : Option Addr, ∃ l93 : Nat, ∃ c93 : Nat, r92 = (.slice A93 l93 c93) ∧ 
  CallsH Try.prog 14 #[(.pointer p1), (.slice A93 l93 c93)] h91 fun r95 h94 =>
  ∃ x96 : Int, r95 = (.int .i64 x96) ∧ 
  ∃ A97 : Option Addr, ∃ l97 : Nat, ∃ c97 : Nat, HV Try.prog (Instr.loadAt 32 (.pointer (some (a34.add 20)))) h94 (.slice A97 l97 c97) ∧ 
  CallsH Try.prog 43 #[(.slice A93 l93 c93), (.slice A97 l97 c97)] h94 fun r99 h98 =>
  ∃ b100 : Bool, r99 = (.bool b100) ∧ 
  ∃ A101 : Option Addr, ∃ l101 : Nat, ∃ c101 : Nat, HV Try.prog (Instr.loadAt 32 (.pointer (some (a34.add 20)))) h98 (.slice A101 l101 c101) ∧ 
  ∃ x102 : Int, HV Try.prog (Instr.loadAt 3 (.pointer (some a32))) h98 (.int .i64 x102) ∧ 
  CallsH Try.prog 13 #[(.slice A101 l101 c101), (.int .i64 x102)] h98 fun r104 h103 =>
  ∃ x105 : Int, r104 = (.int .i64 x105) ∧ 
  br (x105 != 0)
  (br b100
  (K (.tuple #[(.slice A2 l2 c2), (.bool (x96 == x105))]) h103)
  (K (.tuple #[(.slice A2 l2 c2), (.bool false)]) h103))
  (∃ A106 : Option Addr, ∃ l106 : Nat, ∃ c106 : Nat, HV Try.prog (Instr.loadAt 32 (.pointer (some (a34.add 20)))) h103 (.slice A106 l106 c106) ∧ 
  CallsH Try.prog 44 #[(.slice A106 l106 c106)] h103 fun r108 h107 =>
  ∃ A109 : Option Addr, ∃ l109 : Nat, ∃ c109 : Nat, r108 = (.slice A109 l109 c109) ∧ 
  br b100
  (K (.tuple #[(.slice A109 l109 c109), (.bool (x96 == x105))]) h107)
  (K (.tuple #[(.slice A109 l109 c109), (.bool false)]) h107)))
  (br (x35 == 5)
  (∃ x110 : Int, HV Try.prog (Instr.loadAt 3 (.pointer (some (a34.add 2)))) h33 (.int .i64 x110) ∧ 
  CallsH Try.prog 18 #[(.pointer p1), (.int .i64 x110)] h33 fun r112 h111 =>
  ∃ x113 : Int, r112 = (.int .i64 x113) ∧ 
  ∃ x114 : Int, HV Try.prog (Instr.loadAt 3 (.pointer (some (a34.add 2)))) h111 (.int .i64 x114) ∧ HV Try.prog (Instr.loadAt 3 (.pointer (some (a34.add 2)))) h33 (.int .i64 x114) ∧ 
  CallsH Try.prog 32 #[(.slice A2 l2 c2), (.int .i64 x114)] h111 fun r116 h115 =>
  ∃ x117 : Int, r116 = (.int .i64 x117) ∧ 
  K (.tuple #[(.slice A2 l2 c2), (.bool (x113 == x117))]) h115)
  (br (x35 == 6)
  (∃ x118 : Int, HV Try.prog (Instr.loadAt 3 (.pointer (some (a34.add 1)))) h33 (.int .i64 x118) ∧ 
  CallsH Try.prog 21 #[(.pointer p1), (.int .i64 x118)] h33 fun r120 h119 =>
  ∃ x121 : Int, ∃ x122 : Int, ∃ x123 : Int, ∃ x124 : Int, ∃ x125 : Int, ∃ x126 : Int, ∃ x127 : Int, ∃ x128 : Int, ∃ x129 : Int, ∃ x130 : Int, ∃ x131 : Int, ∃ x132 : Int, ∃ x133 : Int, r120 = (.tuple #[(.agg #[(.int .i64 x121), (.int .u32 x122), (.int .i64 x123), (.int .u32 x124), (.int .i64 x125), (.int .u16 x126), (.int .u16 x127), (.int .u16 x128), (.int .u16 x129), (.int .u8 x130), (.int .u8 x131), (.int .i64 x132)]), (.int .i64 x133)]) ∧ 
  newC h119 (.cells #[(.int .i64 0), (.int .u32 0), (.int .i64 0), (.int .u32 0), (.int .i64 0), (.int .u16 0), (.int .u16 0), (.int .u16 0), (.int .u16 0), (.int .u8 0), (.int .u8 0), (.int .i64 0)] 55 (0, 0)) fun a135 h134 => 
  HU Try.prog (Instr.storeAt 55 (.pointer (some a135)) (.agg #[(.int .i64 x121), (.int .u32 x122), (.int .i64 x123), (.int .u32 x124), (.int .i64 x125), (.int .u16 x126), (.int .u16 x127), (.int .u16 x128), (.int .u16 x129), (.int .u8 x130), (.int .u8 x131), (.int .i64 x132)])) h134 fun h136 => 
  ∃ x225 : Int, HV Try.prog (Instr.loadAt 3 (.pointer (some (a34.add 1)))) h136 (.int .i64 x225) ∧ 
  br (decide (x225 < 0))
  (br (x133 == 112)
  (∃ x226 : Int, ∃ x227 : Int, ∃ x228 : Int, ∃ x229 : Int, ∃ x230 : Int, ∃ x231 : Int, ∃ x232 : Int, ∃ x233 : Int, ∃ x234 : Int, ∃ x235 : Int, ∃ x236 : Int, ∃ x237 : Int, HV Try.prog (Instr.loadAt 55 (.pointer (some a135))) h136 (.agg #[(.int .i64 x226), (.int .u32 x227), (.int .i64 x228), (.int .u32 x229), (.int .i64 x230), (.int .u16 x231), (.int .u16 x232), (.int .u16 x233), (.int .u16 x234), (.int .u8 x235), (.int .u8 x236), (.int .i64 x237)]) ∧ 
  ∃ b238 : Bool, PV Try.prog (binOp .eql 55 (.agg #[(.int .i64 x226), (.int .u32 x227), (.int .i64 x228), (.int .u32 x229), (.int .i64 x230), (.int .u16 x231), (.int .u16 x232), (.int .u16 x233), (.int .u16 x234), (.int .u8 x235), (.int .u8 x236), (.int .i64 x237)]) (.agg #[(.int .i64 0), (.int .u32 0), (.int .i64 0), (.int .u32 0), (.int .i64 0), (.int .u16 0), (.int .u16 0), (.int .u16 0), (.int .u16 0), (.int .u8 0), (.int .u8 0), (.int .i64 0)])) (.bool b238) ∧
  K (.tuple #[(.slice A2 l2 c2), (.bool b238)]) h136)
  (K (.tuple #[(.slice A2 l2 c2), (.bool false)]) h136))
  (∃ x239 : Int, HV Try.prog (Instr.loadAt 3 (.pointer (some (a34.add 1)))) h136 (.int .i64 x239) ∧ 
  br (decide (x239 ≥ (l2 : Int)))
  (br (x133 == 112)
  (∃ x240 : Int, ∃ x241 : Int, ∃ x242 : Int, ∃ x243 : Int, ∃ x244 : Int, ∃ x245 : Int, ∃ x246 : Int, ∃ x247 : Int, ∃ x248 : Int, ∃ x249 : Int, ∃ x250 : Int, ∃ x251 : Int, HV Try.prog (Instr.loadAt 55 (.pointer (some a135))) h136 (.agg #[(.int .i64 x240), (.int .u32 x241), (.int .i64 x242), (.int .u32 x243), (.int .i64 x244), (.int .u16 x245), (.int .u16 x246), (.int .u16 x247), (.int .u16 x248), (.int .u8 x249), (.int .u8 x250), (.int .i64 x251)]) ∧ 
  ∃ b252 : Bool, PV Try.prog (binOp .eql 55 (.agg #[(.int .i64 x240), (.int .u32 x241), (.int .i64 x242), (.int .u32 x243), (.int .i64 x244), (.int .u16 x245), (.int .u16 x246), (.int .u16 x247), (.int .u16 x248), (.int .u8 x249), (.int .u8 x250), (.int .i64 x251)]) (.agg #[(.int .i64 0), (.int .u32 0), (.int .i64 0), (.int .u32 0), (.int .i64 0), (.int .u16 0), (.int .u16 0), (.int .u16 0), (.int .u16 0), (.int .u8 0), (.int .u8 0), (.int .i64 0)])) (.bool b252) ∧
  K (.tuple #[(.slice A2 l2 c2), (.bool b252)]) h136)
  (K (.tuple #[(.slice A2 l2 c2), (.bool false)]) h136))
  (quintetlaw11_step_j1
  (fun (A253 : Option Addr) (l253 : Nat) (c253 : Nat) (b254 : Bool) (h255 : Hp) =>
  K (.tuple #[(.slice A253 l253 c253), (.bool b254)]) h255)
  A2 l2 c2 a34 a135 x133 h136)))
  (br (x35 == 7)
  (∃ x256 : Int, ∃ x257 : Int, ∃ x258 : Int, ∃ x259 : Int, ∃ x260 : Int, HV Try.prog (Instr.loadAt 36 (.pointer (some (a34.add 15)))) h33 (.agg #[(.int .u32 x256), (.int .u32 x257), (.int .u16 x258), (.int .u16 x259), (.int .u8 x260)]) ∧ 
  CallsH Try.prog 16 #[(.pointer p1), (.agg #[(.int .u32 x256), (.int .u32 x257), (.int .u16 x258), (.int .u16 x259), (.int .u8 x260)])] h33 fun r262 h261 =>
  ∃ b263 : Bool, ∃ x264 : Int, ∃ x265 : Int, ∃ x266 : Int, r262 = (.tuple #[(.agg #[(.bool b263), (.int .i64 x264), (.int .i64 x265)]), (.int .i64 x266)]) ∧ 
  newC h261 (.cells #[(.bool false), (.int .i64 0), (.int .i64 0)] 40 (0, 0)) fun a268 h267 => 
  HU Try.prog (Instr.storeAt 40 (.pointer (some a268)) (.agg #[(.bool b263), (.int .i64 x264), (.int .i64 x265)])) h267 fun h269 => 
  ∃ x270 : Int, HV Try.prog (Instr.loadAt 22 (.pointer (some (a32.add 1)))) h269 (.int .i64 x270) ∧ 
  ∃ x271 : Int, ∃ x272 : Int, ∃ x273 : Int, ∃ x274 : Int, ∃ x275 : Int, HV Try.prog (Instr.loadAt 36 (.pointer (some (a34.add 15)))) h269 (.agg #[(.int .u32 x271), (.int .u32 x272), (.int .u16 x273), (.int .u16 x274), (.int .u8 x275)]) ∧ 
  CallsH Try.prog 15 #[(.slice A2 l2 c2), (.int .i64 x270), (.agg #[(.int .u32 x271), (.int .u32 x272), (.int .u16 x273), (.int .u16 x274), (.int .u8 x275)])] h269 fun r277 h276 =>
  ∃ b278 : Bool, ∃ x279 : Int, ∃ x280 : Int, ∃ x281 : Int, r277 = (.tuple #[(.agg #[(.bool b278), (.int .i64 x279), (.int .i64 x280)]), (.int .i64 x281)]) ∧ 
  newC h276 (.cells #[(.bool false), (.int .i64 0), (.int .i64 0)] 40 (0, 0)) fun a283 h282 => 
  HU Try.prog (Instr.storeAt 40 (.pointer (some a283)) (.agg #[(.bool b278), (.int .i64 x279), (.int .i64 x280)])) h282 fun h284 => 
  ∃ b285 : Bool, ∃ x286 : Int, ∃ x287 : Int, HV Try.prog (Instr.loadAt 40 (.pointer (some a268))) h284 (.agg #[(.bool b285), (.int .i64 x286), (.int .i64 x287)]) ∧ 
  ∃ b288 : Bool, ∃ x289 : Int, ∃ x290 : Int, HV Try.prog (Instr.loadAt 40 (.pointer (some a283))) h284 (.agg #[(.bool b288), (.int .i64 x289), (.int .i64 x290)]) ∧ 
  ∃ b291 : Bool, PV Try.prog (binOp .eql 40 (.agg #[(.bool b285), (.int .i64 x286), (.int .i64 x287)]) (.agg #[(.bool b288), (.int .i64 x289), (.int .i64 x290)])) (.bool b291) ∧
  br b291
  (K (.tuple #[(.slice A2 l2 c2), (.bool (x266 == x281))]) h284)
  (K (.tuple #[(.slice A2 l2 c2), (.bool false)]) h284))
  (CallsH Try.prog 27 #[(.pointer p1), (.slice A2 l2 c2)] h33 fun r293 h292 =>
  ∃ b294 : Bool, r293 = (.bool b294) ∧ 
  K (.tuple #[(.slice A2 l2 c2), (.bool b294)]) h292)))))))
def quintetlaw11_step_lp (i : Nat) (Q : Qx) (tm : Tm) (h : Hp) : Prop := match Nat.beq i 221181 with
  | true => quintetlaw11_step_j1_L Q tm h
  | false => False
def quintetlaw11_step_cut (i : Nat) : Option (List Nat) := match Nat.beq i 221181 with
  | true => some [1, 7, 23, 24]
  | false => none
set_option maxRecDepth 100000 in
theorem quintetlaw11_step_j1_step (Q : Qx) (A165 : Option Addr) (l165 : Nat) (c165 : Nat) (a166 : Addr) (a167 : Addr) (x168 : Int) (h : Hp) : quintetlaw11_step_j1_L Q (mkTm [(1, some (.slice A165 l165 c165)), (7, some (.pointer (some a166))), (23, some (.pointer (some a167))), (24, some (.int .i64 x168))]) h =
    codeWp Try.prog 209 quintetlaw11_step_lp quintetlaw11_step_cut (sub (bodyOf Try.f26) [true, false, true, false, true, true, true, true, true, true, true, true, true, true, true, false, true, true]) 442363 (maskQ (fun e => match e with | .ret => [8, 9] | _ => []) Q) (mkTm [(1, some (.slice A165 l165 c165)), (7, some (.pointer (some a166))), (23, some (.pointer (some a167))), (24, some (.int .i64 x168))]) h := by kernel_rfl
theorem quintetlaw11_step_j1_mask (Q : Qx) (tm : Tm) (h : Hp) : quintetlaw11_step_j1_L Q tm h ↔ quintetlaw11_step_j1_L Q (mask [1, 7, 23, 24] tm) h := Iff.rfl
set_option maxRecDepth 100000 in
theorem quintetlaw11_step_j1_snd : SndAt Try.prog 209 none (sub (bodyOf Try.f26) [true, false, true, false, true, true, true, true, true, true, true, true, true, true, true, false, true, true]) (quintetlaw11_step_lp 221181) := by
  refine join_sound (lp := quintetlaw11_step_lp) (cut := quintetlaw11_step_cut) (i := 221181) (c := (sub (bodyOf Try.f26) [true, false, true, false, true, true, true, true, true, true, true, true, true, true, true, false, true, true])) [1, 7, 23, 24] (fun e => match e with | .ret => [8, 9] | _ => []) quintetlaw11_step_j1_L ?_ ?_
  · exact good_by (c := (sub (bodyOf Try.f26) [true, false, true, false, true, true, true, true, true, true, true, true, true, true, true, false, true, true])) (i := 442363) (l := []) (by kernel_rfl) (fun _ h => by cases h)
  · intro Q tm h H
    have H0 := H
    obtain ⟨A165, l165, c165, e1, H⟩ := selS_ex H
    obtain ⟨a166, e7, H⟩ := selA_ex H
    obtain ⟨a167, e23, H⟩ := selA_ex H
    obtain ⟨x168, e24, H⟩ := selI_ex H
    have e : mask [1, 7, 23, 24] tm = mkTm [(1, some (.slice A165 l165 c165)), (7, some (.pointer (some a166))), (23, some (.pointer (some a167))), (24, some (.int .i64 x168))] := by simp only [mask, List.map_cons, List.map_nil, e1, e7, e23, e24] <;> rfl
    rw [e]
    refine Eq.mp (quintetlaw11_step_j1_step Q A165 l165 c165 a166 a167 x168 h) ?_
    rw [← e]
    exact (quintetlaw11_step_j1_mask Q tm h).mp H0
set_option maxRecDepth 100000 in
theorem quintetlaw11_step_eq (p1 : Option Addr) (A2 : Option Addr) (l2 : Nat) (c2 : Nat) (x3 : Int) (x4 : Int) (x5 : Int) (x6 : Int) (x7 : Int) (x8 : Int) (x9 : Int) (x10 : Int) (x11 : Int) (x12 : Int) (x13 : Int) (x14 : Int) (x15 : Int) (x16 : Int) (x17 : Int) (x18 : Int) (x19 : Int) (x20 : Int) (x21 : Int) (x22 : Int) (x23 : Int) (x24 : Int) (x25 : Int) (x26 : Int) (x27 : Int) (x28 : Int) (x29 : Int) (A30 : Option Addr) (l30 : Nat) (c30 : Nat) (h : Hp) (K : Value → Hp → Prop) : quintetlaw11_step p1 A2 l2 c2 x3 x4 x5 x6 x7 x8 x9 x10 x11 x12 x13 x14 x15 x16 x17 x18 x19 x20 x21 x22 x23 x24 x25 x26 x27 x28 x29 A30 l30 c30 h K =
    codeWp Try.prog 209 quintetlaw11_step_lp quintetlaw11_step_cut (bodyOf Try.f26) 1 (endQ Try.prog Try.f26.results.toList K) (argTm [(.pointer p1), (.slice A2 l2 c2), (.agg #[(.int .i64 x3), (.int .i64 x4), (.int .i64 x5), (.int .i64 x6), (.int .i64 x7), (.int .i64 x8), (.int .i64 x9)]), (.agg #[(.int .i64 x10), (.int .i64 x11), (.int .i64 x12), (.int .i64 x13), (.int .u32 x14), (.int .i64 x15), (.int .u32 x16), (.int .i64 x17), (.int .u16 x18), (.int .u16 x19), (.int .u16 x20), (.int .u16 x21), (.int .u8 x22), (.int .u8 x23), (.int .i64 x24), (.int .u32 x25), (.int .u32 x26), (.int .u16 x27), (.int .u16 x28), (.int .u8 x29), (.slice A30 l30 c30)])]) h := by kernel_rfl
set_option maxRecDepth 100000 in
theorem quintetlaw11_step_ok (p1 : Option Addr) (A2 : Option Addr) (l2 : Nat) (c2 : Nat) (x3 : Int) (x4 : Int) (x5 : Int) (x6 : Int) (x7 : Int) (x8 : Int) (x9 : Int) (x10 : Int) (x11 : Int) (x12 : Int) (x13 : Int) (x14 : Int) (x15 : Int) (x16 : Int) (x17 : Int) (x18 : Int) (x19 : Int) (x20 : Int) (x21 : Int) (x22 : Int) (x23 : Int) (x24 : Int) (x25 : Int) (x26 : Int) (x27 : Int) (x28 : Int) (x29 : Int) (A30 : Option Addr) (l30 : Nat) (c30 : Nat) {h : Hp} {K : Value → Hp → Prop} (H : quintetlaw11_step p1 A2 l2 c2 x3 x4 x5 x6 x7 x8 x9 x10 x11 x12 x13 x14 x15 x16 x17 x18 x19 x20 x21 x22 x23 x24 x25 x26 x27 x28 x29 A30 l30 c30 h K) : CallsH Try.prog 26 #[(.pointer p1), (.slice A2 l2 c2), (.agg #[(.int .i64 x3), (.int .i64 x4), (.int .i64 x5), (.int .i64 x6), (.int .i64 x7), (.int .i64 x8), (.int .i64 x9)]), (.agg #[(.int .i64 x10), (.int .i64 x11), (.int .i64 x12), (.int .i64 x13), (.int .u32 x14), (.int .i64 x15), (.int .u32 x16), (.int .i64 x17), (.int .u16 x18), (.int .u16 x19), (.int .u16 x20), (.int .u16 x21), (.int .u8 x22), (.int .u8 x23), (.int .i64 x24), (.int .u32 x25), (.int .u32 x26), (.int .u16 x27), (.int .u16 x28), (.int .u8 x29), (.slice A30 l30 c30)])] h K :=
  calls_of (args := [(.pointer p1), (.slice A2 l2 c2), (.agg #[(.int .i64 x3), (.int .i64 x4), (.int .i64 x5), (.int .i64 x6), (.int .i64 x7), (.int .i64 x8), (.int .i64 x9)]), (.agg #[(.int .i64 x10), (.int .i64 x11), (.int .i64 x12), (.int .i64 x13), (.int .u32 x14), (.int .i64 x15), (.int .u32 x16), (.int .i64 x17), (.int .u16 x18), (.int .u16 x19), (.int .u16 x20), (.int .u16 x21), (.int .u8 x22), (.int .u8 x23), (.int .i64 x24), (.int .u32 x25), (.int .u32 x26), (.int .u16 x27), (.int .u16 x28), (.int .u8 x29), (.slice A30 l30 c30)])]) (n := 209) (lp := quintetlaw11_step_lp) (cut := quintetlaw11_step_cut) Try.func26 (c := bodyOf Try.f26) (by kernel_rfl) (by kernel_rfl) (by kernel_rfl) (good_by (c := (bodyOf Try.f26)) (i := 1) (l := [(221181, (sub (bodyOf Try.f26) [true, false, true, false, true, true, true, true, true, true, true, true, true, true, true, false, true, true]))]) (by kernel_rfl) (List.forall_mem_cons.2 ⟨quintetlaw11_step_j1_snd, (fun _ h => by cases h)⟩))
    (Eq.mp (quintetlaw11_step_eq p1 A2 l2 c2 x3 x4 x5 x6 x7 x8 x9 x10 x11 x12 x13 x14 x15 x16 x17 x18 x19 x20 x21 x22 x23 x24 x25 x26 x27 x28 x29 A30 l30 c30 h K) H)

/-! ### quintet/quintetlaw11.TableRuns: function 7 -/
def quintetlaw11_TableRuns_l7 (A419 : Option Addr) (l419 : Nat) (c419 : Nat) (a420 : Addr) (K0 : Bool → Hp → Prop) (K1 : (Option Addr) → (Option Addr) → Nat → Nat → (Option Addr) → (Option Addr) → Nat → Nat → Hp → Prop)  : Nat → (Option Addr) → (Option Addr) → Nat → Nat → (Option Addr) → (Option Addr) → Nat → Nat → Int → Hp → Prop
  | 0, _, _, _, _, _, _, _, _, _, _ => False
  | k + 1, p421, A422, l422, c422, p423, A424, l424, c424, x425, h =>
    br (decide (x425 < (l419 : Int)))
    (∃ a472 : Addr, PV Try.prog (Instr.indexAt 64 (.slice A419 l419 c419) (.int .i64 x425)) (.pointer (some a472)) ∧
    ∃ A473 : Option Addr, ∃ l473 : Nat, ∃ c473 : Nat, HV Try.prog (Instr.loadAt 32 (.pointer (some (a472.add 20)))) h (.slice A473 l473 c473) ∧ 
    br (decide ((l473 : Int) > 2000))
    (K0 true h)
    (∃ a474 : Addr, PV Try.prog (Instr.indexAt 64 (.slice A419 l419 c419) (.int .i64 x425)) (.pointer (some a474)) ∧
    ∃ x475 : Int, HV Try.prog (Instr.loadAt 3 (.pointer (some a474))) h (.int .i64 x475) ∧ 
    br (x475 == 8)
    (CallsH Try.prog 25 #[(.pointer p421)] h fun r477 h476 =>
    ∃ p478 : Option Addr, r477 = (.pointer p478) ∧ 
    ∃ b479 : Bool, PV Try.prog (binOp .eql 27 (.pointer p478) (.pointer none)) (.bool b479) ∧
    br b479
    (K0 false h476)
    (quintetlaw11_TableRuns_l7 A419 l419 c419 a420 K0 K1 k p478 A422 l422 c422 p421 A422 l422 c422 (IntKind.i64.wrap (x425 + 1)) h476))
    (∃ x480 : Int, ∃ x481 : Int, ∃ x482 : Int, ∃ x483 : Int, ∃ x484 : Int, ∃ x485 : Int, ∃ x486 : Int, HV Try.prog (Instr.loadAt 24 (.pointer (some a420))) h (.agg #[(.int .i64 x480), (.int .i64 x481), (.int .i64 x482), (.int .i64 x483), (.int .i64 x484), (.int .i64 x485), (.int .i64 x486)]) ∧ 
    ∃ a487 : Addr, PV Try.prog (Instr.indexAt 64 (.slice A419 l419 c419) (.int .i64 x425)) (.pointer (some a487)) ∧
    ∃ x488 : Int, ∃ x489 : Int, ∃ x490 : Int, ∃ x491 : Int, ∃ x492 : Int, ∃ x493 : Int, ∃ x494 : Int, ∃ x495 : Int, ∃ x496 : Int, ∃ x497 : Int, ∃ x498 : Int, ∃ x499 : Int, ∃ x500 : Int, ∃ x501 : Int, ∃ x502 : Int, ∃ x503 : Int, ∃ x504 : Int, ∃ x505 : Int, ∃ x506 : Int, ∃ x507 : Int, ∃ A508 : Option Addr, ∃ l508 : Nat, ∃ c508 : Nat, HV Try.prog (Instr.loadAt 66 (.pointer (some a487))) h (.agg #[(.int .i64 x488), (.int .i64 x489), (.int .i64 x490), (.int .i64 x491), (.int .u32 x492), (.int .i64 x493), (.int .u32 x494), (.int .i64 x495), (.int .u16 x496), (.int .u16 x497), (.int .u16 x498), (.int .u16 x499), (.int .u8 x500), (.int .u8 x501), (.int .i64 x502), (.int .u32 x503), (.int .u32 x504), (.int .u16 x505), (.int .u16 x506), (.int .u8 x507), (.slice A508 l508 c508)]) ∧ 
    CallsH Try.prog 26 #[(.pointer p421), (.slice A422 l422 c422), (.agg #[(.int .i64 x480), (.int .i64 x481), (.int .i64 x482), (.int .i64 x483), (.int .i64 x484), (.int .i64 x485), (.int .i64 x486)]), (.agg #[(.int .i64 x488), (.int .i64 x489), (.int .i64 x490), (.int .i64 x491), (.int .u32 x492), (.int .i64 x493), (.int .u32 x494), (.int .i64 x495), (.int .u16 x496), (.int .u16 x497), (.int .u16 x498), (.int .u16 x499), (.int .u8 x500), (.int .u8 x501), (.int .i64 x502), (.int .u32 x503), (.int .u32 x504), (.int .u16 x505), (.int .u16 x506), (.int .u8 x507), (.slice A508 l508 c508)])] h fun r510 h509 =>
    ∃ A511 : Option Addr, ∃ l511 : Nat, ∃ c511 : Nat, ∃ b512 : Bool, r510 = (.tuple #[(.slice A511 l511 c511), (.bool b512)]) ∧ 
    br (!b512)
    (K0 false h509)
    (quintetlaw11_TableRuns_l7 A419 l419 c419 a420 K0 K1 k p421 A511 l511 c511 p423 A424 l424 c424 (IntKind.i64.wrap (x425 + 1)) h509))))
    (K1 p421 A422 l422 c422 p423 A424 l424 c424 h)
def quintetlaw11_TableRuns_l7_L (Q : Qx) (k : Nat) (tm : Tm) (h : Hp) : Prop :=
  selS (tm 1) fun A419 l419 c419 =>
  selA (tm 2) fun a420 =>
  selP (tm 5) fun p421 =>
  selS (tm 7) fun A422 l422 c422 =>
  selP (tm 8) fun p423 =>
  selS (tm 9) fun A424 l424 c424 =>
  selI .i64 (tm 10) fun x425 =>
  quintetlaw11_TableRuns_l7 A419 l419 c419 a420 (fun (b467 : Bool) h => Q (.ret) (mkTm [(4, some (.bool b467))]) h) (fun (p468 : Option Addr) (A469 : Option Addr) (l469 : Nat) (c469 : Nat) (p470 : Option Addr) (A471 : Option Addr) (l471 : Nat) (c471 : Nat) h => Q (.exit 0) (mkTm [(5, some (.pointer p468)), (7, some (.slice A469 l469 c469)), (8, some (.pointer p470)), (9, some (.slice A471 l471 c471))]) h) k p421 A422 l422 c422 p423 A424 l424 c424 x425 h
def quintetlaw11_TableRuns_j6 (K0 : Bool → Hp → Prop) (A297 : Option Addr) (l297 : Nat) (c297 : Nat) (a298 : Addr) (p299 : Option Addr) (h : Hp) : Prop :=
  ∃ k536, quintetlaw11_TableRuns_l7 A297 l297 c297 a298
  (fun (b513 : Bool) (h514 : Hp) =>
  K0 b513 h514)
  (fun (p515 : Option Addr) (A516 : Option Addr) (l516 : Nat) (c516 : Nat) (p517 : Option Addr) (A518 : Option Addr) (l518 : Nat) (c518 : Nat) (h519 : Hp) =>
  ∃ b520 : Bool, HV Try.prog (binOp .eql 27 (.pointer p517) (.pointer p515)) h519 (.bool b520) ∧
  br b520
  (CallsH Try.prog 12 #[] h519 fun r522 h521 =>
  ∃ b523 : Bool, r522 = (.bool b523) ∧ 
  br b523
  (CallsH Try.prog 27 #[(.pointer p515), (.slice A516 l516 c516)] h521 fun r525 h524 =>
  ∃ b526 : Bool, r525 = (.bool b526) ∧ 
  K0 b526 h524)
  (K0 false h521))
  (CallsH Try.prog 12 #[] h519 fun r528 h527 =>
  ∃ b529 : Bool, r528 = (.bool b529) ∧ 
  br b529
  (CallsH Try.prog 27 #[(.pointer p515), (.slice A516 l516 c516)] h527 fun r531 h530 =>
  ∃ b532 : Bool, r531 = (.bool b532) ∧ 
  br b532
  (CallsH Try.prog 27 #[(.pointer p517), (.slice A518 l518 c518)] h530 fun r534 h533 =>
  ∃ b535 : Bool, r534 = (.bool b535) ∧ 
  K0 b535 h533)
  (K0 false h530))
  (K0 false h527)))
  k536 p299 none 0 0 p299 none 0 0 0 h
def quintetlaw11_TableRuns_j6_L (Q : Qx) (tm : Tm) (h : Hp) : Prop :=
  selS (tm 1) fun A297 l297 c297 =>
  selA (tm 2) fun a298 =>
  selP (tm 5) fun p299 =>
  quintetlaw11_TableRuns_j6 (fun (b418 : Bool) h => Q (.ret) (mkTm [(4, some (.bool b418))]) h) A297 l297 c297 a298 p299 h
def quintetlaw11_TableRuns_j4 (K0 : Bool → Hp → Prop) (A27 : Option Addr) (l27 : Nat) (c27 : Nat) (a28 : Addr) (h : Hp) : Prop :=
  ∃ x285 : Int, ∃ x286 : Int, ∃ x287 : Int, ∃ x288 : Int, ∃ x289 : Int, ∃ x290 : Int, ∃ x291 : Int, HV Try.prog (Instr.loadAt 24 (.pointer (some a28))) h (.agg #[(.int .i64 x285), (.int .i64 x286), (.int .i64 x287), (.int .i64 x288), (.int .i64 x289), (.int .i64 x290), (.int .i64 x291)]) ∧ 
  CallsH Try.prog 10 #[(.agg #[(.int .i64 x285), (.int .i64 x286), (.int .i64 x287), (.int .i64 x288), (.int .i64 x289), (.int .i64 x290), (.int .i64 x291)])] h fun r293 h292 =>
  ∃ p294 : Option Addr, ∃ x295 : Int, r293 = (.tuple #[(.pointer p294), (.int .i64 x295)]) ∧ 
  ∃ b537 : Bool, PV Try.prog (binOp .eql 27 (.pointer p294) (.pointer none)) (.bool b537) ∧
  br b537
  (K0 false h292)
  (br (x295 != 0)
  (K0 false h292)
  (quintetlaw11_TableRuns_j6
  (fun (b538 : Bool) (h539 : Hp) =>
  K0 b538 h539)
  A27 l27 c27 a28 p294 h292))
def quintetlaw11_TableRuns_j4_L (Q : Qx) (tm : Tm) (h : Hp) : Prop :=
  selS (tm 1) fun A27 l27 c27 =>
  selA (tm 2) fun a28 =>
  quintetlaw11_TableRuns_j4 (fun (b284 : Bool) h => Q (.ret) (mkTm [(4, some (.bool b284))]) h) A27 l27 c27 a28 h
def quintetlaw11_TableRuns (x1 : Int) (x2 : Int) (x3 : Int) (x4 : Int) (x5 : Int) (x6 : Int) (x7 : Int) (A8 : Option Addr) (l8 : Nat) (c8 : Nat) (h : Hp) (K : Value → Hp → Prop) : Prop :=
  newC h (.cells #[(.int .i64 x1), (.int .i64 x2), (.int .i64 x3), (.int .i64 x4), (.int .i64 x5), (.int .i64 x6), (.int .i64 x7)] 24 (0, 0)) fun a10 h9 => 
  br (decide ((l8 : Int) > 2000))
  (CallsH Try.prog 12 #[] h9 fun r541 h540 =>
  ∃ b542 : Bool, r541 = (.bool b542) ∧ 
  K (.bool b542) h540)
  (∃ x543 : Int, ∃ x544 : Int, ∃ x545 : Int, ∃ x546 : Int, ∃ x547 : Int, ∃ x548 : Int, ∃ x549 : Int, HV Try.prog (Instr.loadAt 24 (.pointer (some a10))) h9 (.agg #[(.int .i64 x543), (.int .i64 x544), (.int .i64 x545), (.int .i64 x546), (.int .i64 x547), (.int .i64 x548), (.int .i64 x549)]) ∧ 
  CallsH Try.prog 9 #[(.agg #[(.int .i64 x543), (.int .i64 x544), (.int .i64 x545), (.int .i64 x546), (.int .i64 x547), (.int .i64 x548), (.int .i64 x549)])] h9 fun r551 h550 =>
  ∃ x552 : Int, r551 = (.int .i64 x552) ∧ 
  br (x552 != 0)
  (CallsH Try.prog 12 #[] h550 fun r554 h553 =>
  ∃ b555 : Bool, r554 = (.bool b555) ∧ 
  K (.bool b555) h553)
  (quintetlaw11_TableRuns_j4
  (fun (b556 : Bool) (h557 : Hp) =>
  K (.bool b556) h557)
  A8 l8 c8 a10 h550))
def quintetlaw11_TableRuns_lp (i : Nat) (Q : Qx) (tm : Tm) (h : Hp) : Prop := match Nat.beq i 2042 with
  | true => ∃ k, quintetlaw11_TableRuns_l7_L Q k tm h
  | false => match Nat.beq i 15 with
  | true => quintetlaw11_TableRuns_j6_L Q tm h
  | false => match Nat.beq i 3 with
  | true => quintetlaw11_TableRuns_j4_L Q tm h
  | false => False
def quintetlaw11_TableRuns_cut (i : Nat) : Option (List Nat) := match Nat.beq i 3 with
  | true => some [1, 2]
  | false => match Nat.beq i 15 with
  | true => some [1, 2, 5]
  | false => none
set_option maxRecDepth 100000 in
theorem quintetlaw11_TableRuns_l7_step (Q : Qx) (k : Nat) (A419 : Option Addr) (l419 : Nat) (c419 : Nat) (a420 : Addr) (p421 : Option Addr) (A422 : Option Addr) (l422 : Nat) (c422 : Nat) (p423 : Option Addr) (A424 : Option Addr) (l424 : Nat) (c424 : Nat) (x425 : Int) (h : Hp) : quintetlaw11_TableRuns_l7_L Q (k + 1) (mkTm [(1, some (.slice A419 l419 c419)), (2, some (.pointer (some a420))), (5, some (.pointer p421)), (7, some (.slice A422 l422 c422)), (8, some (.pointer p423)), (9, some (.slice A424 l424 c424)), (10, some (.int .i64 x425))]) h =
    codeWp Try.prog 94 quintetlaw11_TableRuns_lp quintetlaw11_TableRuns_cut (sub (bodyOf Try.f7) [true, true, true, true, true, true, true, false, true, false, false]) 4084 (thenQ (fun tm h => quintetlaw11_TableRuns_l7_L Q k (mask [1, 2, 5, 7, 8, 9, 10] tm) h) (maskQ (fun e => match e with | .ret => [4] | .exit 0 => [5, 7, 8, 9] | _ => []) Q)) (mkTm [(1, some (.slice A419 l419 c419)), (2, some (.pointer (some a420))), (5, some (.pointer p421)), (7, some (.slice A422 l422 c422)), (8, some (.pointer p423)), (9, some (.slice A424 l424 c424)), (10, some (.int .i64 x425))]) h := by kernel_rfl
theorem quintetlaw11_TableRuns_l7_mask (Q : Qx) (k : Nat) (tm : Tm) (h : Hp) : quintetlaw11_TableRuns_l7_L Q k tm h ↔ quintetlaw11_TableRuns_l7_L Q k (mask [1, 2, 5, 7, 8, 9, 10] tm) h := Iff.rfl
set_option maxRecDepth 100000 in
theorem quintetlaw11_TableRuns_l7_snd : SndAt Try.prog 94 none (sub (bodyOf Try.f7) [true, true, true, true, true, true, true, false, true, false]) (quintetlaw11_TableRuns_lp 2042) := by
  refine loop_sound (lp := quintetlaw11_TableRuns_lp) (cut := quintetlaw11_TableRuns_cut) (i := 2042) (c := (sub (bodyOf Try.f7) [true, true, true, true, true, true, true, false, true, false, false])) [1, 2, 5, 7, 8, 9, 10] (fun e => match e with | .ret => [4] | .exit 0 => [5, 7, 8, 9] | _ => []) quintetlaw11_TableRuns_l7_L ?_ ?_ ?_
  · exact good_by (c := (sub (bodyOf Try.f7) [true, true, true, true, true, true, true, false, true, false, false])) (i := 4084) (l := []) (by kernel_rfl) (fun _ h => by cases h)
  · intro Q tm h H
    obtain ⟨A419, l419, c419, e1, H⟩ := selS_ex H
    obtain ⟨a420, e2, H⟩ := selA_ex H
    obtain ⟨p421, e5, H⟩ := selP_ex H
    obtain ⟨A422, l422, c422, e7, H⟩ := selS_ex H
    obtain ⟨p423, e8, H⟩ := selP_ex H
    obtain ⟨A424, l424, c424, e9, H⟩ := selS_ex H
    obtain ⟨x425, e10, H⟩ := selI_ex H
    exact H
  · intro Q k tm h H
    have H0 := H
    obtain ⟨A419, l419, c419, e1, H⟩ := selS_ex H
    obtain ⟨a420, e2, H⟩ := selA_ex H
    obtain ⟨p421, e5, H⟩ := selP_ex H
    obtain ⟨A422, l422, c422, e7, H⟩ := selS_ex H
    obtain ⟨p423, e8, H⟩ := selP_ex H
    obtain ⟨A424, l424, c424, e9, H⟩ := selS_ex H
    obtain ⟨x425, e10, H⟩ := selI_ex H
    have e : mask [1, 2, 5, 7, 8, 9, 10] tm = mkTm [(1, some (.slice A419 l419 c419)), (2, some (.pointer (some a420))), (5, some (.pointer p421)), (7, some (.slice A422 l422 c422)), (8, some (.pointer p423)), (9, some (.slice A424 l424 c424)), (10, some (.int .i64 x425))] := by simp only [mask, List.map_cons, List.map_nil, e1, e2, e5, e7, e8, e9, e10] <;> rfl
    rw [e]
    refine Eq.mp (quintetlaw11_TableRuns_l7_step Q k A419 l419 c419 a420 p421 A422 l422 c422 p423 A424 l424 c424 x425 h) ?_
    rw [← e]
    exact (quintetlaw11_TableRuns_l7_mask Q (k + 1) tm h).mp H0
set_option maxRecDepth 100000 in
theorem quintetlaw11_TableRuns_j6_step (Q : Qx) (A297 : Option Addr) (l297 : Nat) (c297 : Nat) (a298 : Addr) (p299 : Option Addr) (h : Hp) : quintetlaw11_TableRuns_j6_L Q (mkTm [(1, some (.slice A297 l297 c297)), (2, some (.pointer (some a298))), (5, some (.pointer p299))]) h =
    codeWp Try.prog 94 quintetlaw11_TableRuns_lp quintetlaw11_TableRuns_cut (sub (bodyOf Try.f7) [true, true, true, true]) 31 (maskQ (fun e => match e with | .ret => [4] | _ => []) Q) (mkTm [(1, some (.slice A297 l297 c297)), (2, some (.pointer (some a298))), (5, some (.pointer p299))]) h := by kernel_rfl
theorem quintetlaw11_TableRuns_j6_mask (Q : Qx) (tm : Tm) (h : Hp) : quintetlaw11_TableRuns_j6_L Q tm h ↔ quintetlaw11_TableRuns_j6_L Q (mask [1, 2, 5] tm) h := Iff.rfl
set_option maxRecDepth 100000 in
theorem quintetlaw11_TableRuns_j6_snd : SndAt Try.prog 94 none (sub (bodyOf Try.f7) [true, true, true, true]) (quintetlaw11_TableRuns_lp 15) := by
  refine join_sound (lp := quintetlaw11_TableRuns_lp) (cut := quintetlaw11_TableRuns_cut) (i := 15) (c := (sub (bodyOf Try.f7) [true, true, true, true])) [1, 2, 5] (fun e => match e with | .ret => [4] | _ => []) quintetlaw11_TableRuns_j6_L ?_ ?_
  · exact good_by (c := (sub (bodyOf Try.f7) [true, true, true, true])) (i := 31) (l := [(2042, (sub (bodyOf Try.f7) [true, true, true, true, true, true, true, false, true, false]))]) (by kernel_rfl) (List.forall_mem_cons.2 ⟨quintetlaw11_TableRuns_l7_snd, (fun _ h => by cases h)⟩)
  · intro Q tm h H
    have H0 := H
    obtain ⟨A297, l297, c297, e1, H⟩ := selS_ex H
    obtain ⟨a298, e2, H⟩ := selA_ex H
    obtain ⟨p299, e5, H⟩ := selP_ex H
    have e : mask [1, 2, 5] tm = mkTm [(1, some (.slice A297 l297 c297)), (2, some (.pointer (some a298))), (5, some (.pointer p299))] := by simp only [mask, List.map_cons, List.map_nil, e1, e2, e5] <;> rfl
    rw [e]
    refine Eq.mp (quintetlaw11_TableRuns_j6_step Q A297 l297 c297 a298 p299 h) ?_
    rw [← e]
    exact (quintetlaw11_TableRuns_j6_mask Q tm h).mp H0
set_option maxRecDepth 100000 in
theorem quintetlaw11_TableRuns_j4_step (Q : Qx) (A27 : Option Addr) (l27 : Nat) (c27 : Nat) (a28 : Addr) (h : Hp) : quintetlaw11_TableRuns_j4_L Q (mkTm [(1, some (.slice A27 l27 c27)), (2, some (.pointer (some a28)))]) h =
    codeWp Try.prog 94 quintetlaw11_TableRuns_lp quintetlaw11_TableRuns_cut (sub (bodyOf Try.f7) [true, true]) 7 (maskQ (fun e => match e with | .ret => [4] | _ => []) Q) (mkTm [(1, some (.slice A27 l27 c27)), (2, some (.pointer (some a28)))]) h := by kernel_rfl
theorem quintetlaw11_TableRuns_j4_mask (Q : Qx) (tm : Tm) (h : Hp) : quintetlaw11_TableRuns_j4_L Q tm h ↔ quintetlaw11_TableRuns_j4_L Q (mask [1, 2] tm) h := Iff.rfl
set_option maxRecDepth 100000 in
theorem quintetlaw11_TableRuns_j4_snd : SndAt Try.prog 94 none (sub (bodyOf Try.f7) [true, true]) (quintetlaw11_TableRuns_lp 3) := by
  refine join_sound (lp := quintetlaw11_TableRuns_lp) (cut := quintetlaw11_TableRuns_cut) (i := 3) (c := (sub (bodyOf Try.f7) [true, true])) [1, 2] (fun e => match e with | .ret => [4] | _ => []) quintetlaw11_TableRuns_j4_L ?_ ?_
  · exact good_by (c := (sub (bodyOf Try.f7) [true, true])) (i := 7) (l := [(15, (sub (bodyOf Try.f7) [true, true, true, true]))]) (by kernel_rfl) (List.forall_mem_cons.2 ⟨quintetlaw11_TableRuns_j6_snd, (fun _ h => by cases h)⟩)
  · intro Q tm h H
    have H0 := H
    obtain ⟨A27, l27, c27, e1, H⟩ := selS_ex H
    obtain ⟨a28, e2, H⟩ := selA_ex H
    have e : mask [1, 2] tm = mkTm [(1, some (.slice A27 l27 c27)), (2, some (.pointer (some a28)))] := by simp only [mask, List.map_cons, List.map_nil, e1, e2] <;> rfl
    rw [e]
    refine Eq.mp (quintetlaw11_TableRuns_j4_step Q A27 l27 c27 a28 h) ?_
    rw [← e]
    exact (quintetlaw11_TableRuns_j4_mask Q tm h).mp H0
set_option maxRecDepth 100000 in
theorem quintetlaw11_TableRuns_eq (x1 : Int) (x2 : Int) (x3 : Int) (x4 : Int) (x5 : Int) (x6 : Int) (x7 : Int) (A8 : Option Addr) (l8 : Nat) (c8 : Nat) (h : Hp) (K : Value → Hp → Prop) : quintetlaw11_TableRuns x1 x2 x3 x4 x5 x6 x7 A8 l8 c8 h K =
    codeWp Try.prog 94 quintetlaw11_TableRuns_lp quintetlaw11_TableRuns_cut (bodyOf Try.f7) 1 (endQ Try.prog Try.f7.results.toList K) (argTm [(.agg #[(.int .i64 x1), (.int .i64 x2), (.int .i64 x3), (.int .i64 x4), (.int .i64 x5), (.int .i64 x6), (.int .i64 x7)]), (.slice A8 l8 c8)]) h := by kernel_rfl
set_option maxRecDepth 100000 in
theorem quintetlaw11_TableRuns_ok (x1 : Int) (x2 : Int) (x3 : Int) (x4 : Int) (x5 : Int) (x6 : Int) (x7 : Int) (A8 : Option Addr) (l8 : Nat) (c8 : Nat) {h : Hp} {K : Value → Hp → Prop} (H : quintetlaw11_TableRuns x1 x2 x3 x4 x5 x6 x7 A8 l8 c8 h K) : CallsH Try.prog 7 #[(.agg #[(.int .i64 x1), (.int .i64 x2), (.int .i64 x3), (.int .i64 x4), (.int .i64 x5), (.int .i64 x6), (.int .i64 x7)]), (.slice A8 l8 c8)] h K :=
  calls_of (args := [(.agg #[(.int .i64 x1), (.int .i64 x2), (.int .i64 x3), (.int .i64 x4), (.int .i64 x5), (.int .i64 x6), (.int .i64 x7)]), (.slice A8 l8 c8)]) (n := 94) (lp := quintetlaw11_TableRuns_lp) (cut := quintetlaw11_TableRuns_cut) Try.func7 (c := bodyOf Try.f7) (by kernel_rfl) (by kernel_rfl) (by kernel_rfl) (good_by (c := (bodyOf Try.f7)) (i := 1) (l := [(3, (sub (bodyOf Try.f7) [true, true]))]) (by kernel_rfl) (List.forall_mem_cons.2 ⟨quintetlaw11_TableRuns_j4_snd, (fun _ h => by cases h)⟩))
    (Eq.mp (quintetlaw11_TableRuns_eq x1 x2 x3 x4 x5 x6 x7 A8 l8 c8 h K) H)

end Go.Proofs.Ytgecabgcjfpenaa.Fs
