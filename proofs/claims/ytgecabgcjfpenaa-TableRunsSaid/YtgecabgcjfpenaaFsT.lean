/- Printed by sx.py: words over the heap alone for Go functions, and that each call does what its word says. -/
import Derived.Test.YtgecabgcjfpenaaSxSel
import Derived.Test.YtgecabgcjfpenaaSxRound
import Derived.Test.YtgecabgcjfpenaaProg
namespace Go.Proofs.Ytgecabgcjfpenaa.Fs
open Go Go.RowKit Go.Proofs.Ytgecabgcjfpenaa.Sx
set_option linter.unusedVariables false

/-! ### quintet/quintetlaw11.told: function 27 -/
def quintetlaw11_told_l1 (a39 : Addr) (a40 : Addr) (v41 : Value) (K0 : Addr → List Nat → Hp → Prop) (K1 : Addr → List Nat → Hp → Prop)  : Nat → (Option Addr) → List Nat → Hp → Prop
  | 0, _, _, _ => False
  | k + 1, p42, dl43, h =>
    ∃ x91 : Int, HV Try.prog (Instr.loadAt 3 (.pointer p42)) h (.int .i64 x91) ∧ 
    br (decide (x91 < 2))
    (newC h (.cells #[(.int .i64 0)] 3 (0, 0)) fun a93 h92 => 
    HU Try.prog (Instr.storeAt 3 (.pointer (some a93)) (.int .i64 0)) h92 fun h94 => 
    RangeW Try.prog 77 v41 #[37, 38] (sub (bodyOf Try.f27) [true, true, true, true, true, true, true, false, true, false, false, true, false, false, true, false, true, false, false]) (sub (bodyOf Try.f27) [true, true, true, true, true, true, true, false, true, false, false, true, false, false, true, false, true, false, true]) (mkTm [(3, some (.pointer (some a39))), (4, some (.pointer (some a40))), (8, some (.pointer p42)), (9, some (.pointer (some a93)))]) h94
    (fun (D95 : Nat) (h96 : Hp) =>
    ∃ x118 : Int, HV Try.prog (Instr.loadAt 3 (.pointer (some a93))) h96 (.int .i64 x118) ∧ 
    ∃ A119 : Option Addr, ∃ l119 : Nat, ∃ c119 : Nat, HV Try.prog (Instr.loadAt 32 (.pointer (some a39))) h96 (.slice A119 l119 c119) ∧ 
    br (x118 != (l119 : Int))
    (∃ x120 : Int, HV Try.prog (Instr.loadAt 3 (.pointer p42)) h96 (.int .i64 x120) ∧ 
    br (x120 == 1)
    (HU Try.prog (Instr.storeAt 4 (.pointer (some a40)) (.bool false)) h96 fun h121 => 
    K0 a40 (D95 :: dl43) h121)
    (∃ x122 : Int, HV Try.prog (Instr.loadAt 3 (.pointer (some a93))) h96 (.int .i64 x122) ∧ 
    br (x122 != 2)
    (HU Try.prog (Instr.storeAt 4 (.pointer (some a40)) (.bool false)) h96 fun h123 => 
    K0 a40 (D95 :: dl43) h123)
    (∃ x124 : Int, HV Try.prog (Instr.loadAt 3 (.pointer p42)) h96 (.int .i64 x124) ∧ 
    newC h96 (.cells #[(.int .i64 0)] 3 (0, 0)) fun a126 h125 => 
    HU Try.prog (Instr.storeAt 3 (.pointer (some a126)) (.int .i64 x124)) h125 fun h127 => 
    ∃ x128 : Int, HV Try.prog (Instr.loadAt 3 (.pointer (some a126))) h127 (.int .i64 x128) ∧ 
    HU Try.prog (Instr.storeAt 3 (.pointer (some a126)) (.int .i64 (IntKind.i64.wrap (x128 + 1)))) h127 fun h129 => 
    quintetlaw11_told_l1 a39 a40 v41 K0 K1 k (some a126) (D95 :: dl43) h129)))
    (∃ x130 : Int, HV Try.prog (Instr.loadAt 3 (.pointer p42)) h96 (.int .i64 x130) ∧ 
    newC h96 (.cells #[(.int .i64 0)] 3 (0, 0)) fun a132 h131 => 
    HU Try.prog (Instr.storeAt 3 (.pointer (some a132)) (.int .i64 x130)) h131 fun h133 => 
    ∃ x134 : Int, HV Try.prog (Instr.loadAt 3 (.pointer (some a132))) h133 (.int .i64 x134) ∧ 
    HU Try.prog (Instr.storeAt 3 (.pointer (some a132)) (.int .i64 (IntKind.i64.wrap (x134 + 1)))) h133 fun h135 => 
    quintetlaw11_told_l1 a39 a40 v41 K0 K1 k (some a132) (D95 :: dl43) h135))
    (fun (c99 : Code) (D97 : Nat) (h98 : Hp) =>
    jmpQ c99
    (K0 a40 (D97 :: dl43) h98)
    [(2, ∃ x100 : Int, HV Try.prog (Instr.loadAt 3 (.pointer (some a93))) h98 (.int .i64 x100) ∧ 
    ∃ A101 : Option Addr, ∃ l101 : Nat, ∃ c101 : Nat, HV Try.prog (Instr.loadAt 32 (.pointer (some a39))) h98 (.slice A101 l101 c101) ∧ 
    br (x100 != (l101 : Int))
    (∃ x102 : Int, HV Try.prog (Instr.loadAt 3 (.pointer p42)) h98 (.int .i64 x102) ∧ 
    br (x102 == 1)
    (HU Try.prog (Instr.storeAt 4 (.pointer (some a40)) (.bool false)) h98 fun h103 => 
    K0 a40 (D97 :: dl43) h103)
    (∃ x104 : Int, HV Try.prog (Instr.loadAt 3 (.pointer (some a93))) h98 (.int .i64 x104) ∧ 
    br (x104 != 2)
    (HU Try.prog (Instr.storeAt 4 (.pointer (some a40)) (.bool false)) h98 fun h105 => 
    K0 a40 (D97 :: dl43) h105)
    (∃ x106 : Int, HV Try.prog (Instr.loadAt 3 (.pointer p42)) h98 (.int .i64 x106) ∧ 
    newC h98 (.cells #[(.int .i64 0)] 3 (0, 0)) fun a108 h107 => 
    HU Try.prog (Instr.storeAt 3 (.pointer (some a108)) (.int .i64 x106)) h107 fun h109 => 
    ∃ x110 : Int, HV Try.prog (Instr.loadAt 3 (.pointer (some a108))) h109 (.int .i64 x110) ∧ 
    HU Try.prog (Instr.storeAt 3 (.pointer (some a108)) (.int .i64 (IntKind.i64.wrap (x110 + 1)))) h109 fun h111 => 
    quintetlaw11_told_l1 a39 a40 v41 K0 K1 k (some a108) (D97 :: dl43) h111)))
    (∃ x112 : Int, HV Try.prog (Instr.loadAt 3 (.pointer p42)) h98 (.int .i64 x112) ∧ 
    newC h98 (.cells #[(.int .i64 0)] 3 (0, 0)) fun a114 h113 => 
    HU Try.prog (Instr.storeAt 3 (.pointer (some a114)) (.int .i64 x112)) h113 fun h115 => 
    ∃ x116 : Int, HV Try.prog (Instr.loadAt 3 (.pointer (some a114))) h115 (.int .i64 x116) ∧ 
    HU Try.prog (Instr.storeAt 3 (.pointer (some a114)) (.int .i64 (IntKind.i64.wrap (x116 + 1)))) h115 fun h117 => 
    quintetlaw11_told_l1 a39 a40 v41 K0 K1 k (some a114) (D97 :: dl43) h117))]))
    (K1 a40 dl43 h)
def quintetlaw11_told_l1_L (Q : Qr) (k : Nat) (tm : Tm) (dl : List Nat) (h : Hp) : Prop :=
  selA (tm 3) fun a39 =>
  selA (tm 4) fun a40 =>
  selV (tm 7) fun v41 =>
  selP (tm 8) fun p42 =>
  quintetlaw11_told_l1 a39 a40 v41 (fun (a89 : Addr) dl h => Q (.ret) (mkTm [(4, some (.pointer (some a89)))]) dl h) (fun (a90 : Addr) dl h => Q (.exit 0) (mkTm [(4, some (.pointer (some a90)))]) dl h) k p42 dl h
def quintetlaw11_told (p1 : Option Addr) (A2 : Option Addr) (l2 : Nat) (c2 : Nat) (h : Hp) (K : Value → Hp → Prop) : Prop :=
  newC h (.cells #[(.slice A2 l2 c2)] 32 (0, 0)) fun a4 h3 => 
  newC h3 (.cells #[(.bool false)] 4 (0, 0)) fun a6 h5 => 
  CallsH Try.prog 22 #[(.pointer p1)] h5 fun r8 h7 =>
  ∃ A9 : Option Addr, ∃ l9 : Nat, ∃ c9 : Nat, r8 = (.slice A9 l9 c9) ∧ 
  ∃ A10 : Option Addr, ∃ l10 : Nat, ∃ c10 : Nat, HV Try.prog (Instr.loadAt 32 (.pointer (some a4))) h7 (.slice A10 l10 c10) ∧ 
  CallsH Try.prog 24 #[(.slice A9 l9 c9), (.slice A10 l10 c10)] h7 fun r12 h11 =>
  ∃ b13 : Bool, r12 = (.bool b13) ∧ 
  br (!b13)
  (HU Try.prog (Instr.storeAt 4 (.pointer (some a6)) (.bool false)) h11 fun h14 => 
  shut [] h14 fun h15 =>
  ∃ b16 : Bool, HV Try.prog (Instr.loadAt 4 (.pointer (some a6))) h15 (.bool b16) ∧ K (.bool b16) h15)
  (CallsH Try.prog 45 #[(.slice A9 l9 c9)] h11 fun r18 h17 =>
  r18 = (.tuple #[]) ∧ 
  CallsH Try.prog 22 #[(.pointer p1)] h17 fun r20 h19 =>
  ∃ A21 : Option Addr, ∃ l21 : Nat, ∃ c21 : Nat, r20 = (.slice A21 l21 c21) ∧ 
  CallsH Try.prog 29 #[(.pointer p1)] h19 fun r23 h22 =>
  ∃ v24 : Value, r23 = v24 ∧ 
  ∃ b25 : Bool, PV Try.prog (binOp .eql 74 v24 .nilFunc) (.bool b25) ∧
  br b25
  (HU Try.prog (Instr.storeAt 4 (.pointer (some a6)) (.bool false)) h22 fun h26 => 
  shut [] h26 fun h27 =>
  ∃ b28 : Bool, HV Try.prog (Instr.loadAt 4 (.pointer (some a6))) h27 (.bool b28) ∧ K (.bool b28) h27)
  (∃ A29 : Option Addr, ∃ l29 : Nat, ∃ c29 : Nat, HV Try.prog (Instr.loadAt 32 (.pointer (some a4))) h22 (.slice A29 l29 c29) ∧ 
  CallsH Try.prog 24 #[(.slice A21 l21 c21), (.slice A29 l29 c29)] h22 fun r31 h30 =>
  ∃ b32 : Bool, r31 = (.bool b32) ∧ 
  br (!b32)
  (HU Try.prog (Instr.storeAt 4 (.pointer (some a6)) (.bool false)) h30 fun h33 => 
  shut [] h33 fun h34 =>
  ∃ b35 : Bool, HV Try.prog (Instr.loadAt 4 (.pointer (some a6))) h34 (.bool b35) ∧ K (.bool b35) h34)
  (newC h30 (.cells #[(.int .i64 0)] 3 (0, 0)) fun a37 h36 => 
  HU Try.prog (Instr.storeAt 3 (.pointer (some a37)) (.int .i64 0)) h36 fun h38 => 
  ∃ k147, quintetlaw11_told_l1 a4 a6 v24
  (fun (a136 : Addr) (dl138 : List Nat) (h137 : Hp) =>
  shut dl138 h137 fun h139 =>
  ∃ b140 : Bool, HV Try.prog (Instr.loadAt 4 (.pointer (some a136))) h139 (.bool b140) ∧ K (.bool b140) h139)
  (fun (a141 : Addr) (dl143 : List Nat) (h142 : Hp) =>
  HU Try.prog (Instr.storeAt 4 (.pointer (some a141)) (.bool true)) h142 fun h144 => 
  shut dl143 h144 fun h145 =>
  ∃ b146 : Bool, HV Try.prog (Instr.loadAt 4 (.pointer (some a141))) h145 (.bool b146) ∧ K (.bool b146) h145)
  k147 (some a37) [] h38)))
def quintetlaw11_told_lp (i : Nat) (Q : Qr) (tm : Tm) (dl : List Nat) (h : Hp) : Prop := match Nat.beq i 2042 with
  | true => ∃ k, quintetlaw11_told_l1_L Q k tm dl h
  | false => False
def quintetlaw11_told_cut (i : Nat) : Option (List Nat) := match Nat.beq i 522826 with
  | true => some [3, 4, 8, 9]
  | false => none
set_option maxRecDepth 100000 in
theorem quintetlaw11_told_l1_step (Q : Qr) (k : Nat) (a39 : Addr) (a40 : Addr) (v41 : Value) (p42 : Option Addr) (dl : List Nat) (h : Hp) : quintetlaw11_told_l1_L Q (k + 1) (mkTm [(3, some (.pointer (some a39))), (4, some (.pointer (some a40))), (7, some v41), (8, some (.pointer p42))]) dl h =
    rcodeWp Try.prog 77 quintetlaw11_told_lp quintetlaw11_told_cut (sub (bodyOf Try.f27) [true, true, true, true, true, true, true, false, true, false, false]) 4084 (thenR (fun tm dl h => quintetlaw11_told_l1_L Q k (mask [3, 4, 7, 8] tm) dl h) (maskR (fun e => match e with | .ret => [4] | .exit 0 => [4] | _ => []) Q)) (mkTm [(3, some (.pointer (some a39))), (4, some (.pointer (some a40))), (7, some v41), (8, some (.pointer p42))]) dl h := by kernel_rfl
theorem quintetlaw11_told_l1_mask (Q : Qr) (k : Nat) (tm : Tm) (dl : List Nat) (h : Hp) : quintetlaw11_told_l1_L Q k tm dl h ↔ quintetlaw11_told_l1_L Q k (mask [3, 4, 7, 8] tm) dl h := Iff.rfl
set_option maxRecDepth 100000 in
theorem quintetlaw11_told_l1_snd : SndR Try.prog 77 (sub (bodyOf Try.f27) [true, true, true, true, true, true, true, false, true, false]) (quintetlaw11_told_lp 2042) := by
  refine loop_soundR (lp := quintetlaw11_told_lp) (cut := quintetlaw11_told_cut) (i := 2042) (c := (sub (bodyOf Try.f27) [true, true, true, true, true, true, true, false, true, false, false])) [3, 4, 7, 8] (fun e => match e with | .ret => [4] | .exit 0 => [4] | _ => []) quintetlaw11_told_l1_L ?_ ?_ ?_
  · exact good_byR (c := (sub (bodyOf Try.f27) [true, true, true, true, true, true, true, false, true, false, false])) (i := 4084) (l := []) (by kernel_rfl) (fun _ h => by cases h)
  · intro Q tm dl h H
    obtain ⟨a39, e3, H⟩ := selA_ex H
    obtain ⟨a40, e4, H⟩ := selA_ex H
    obtain ⟨v41, e7, H⟩ := selV_ex H
    obtain ⟨p42, e8, H⟩ := selP_ex H
    exact H
  · intro Q k tm dl h H
    have H0 := H
    obtain ⟨a39, e3, H⟩ := selA_ex H
    obtain ⟨a40, e4, H⟩ := selA_ex H
    obtain ⟨v41, e7, H⟩ := selV_ex H
    obtain ⟨p42, e8, H⟩ := selP_ex H
    have e : mask [3, 4, 7, 8] tm = mkTm [(3, some (.pointer (some a39))), (4, some (.pointer (some a40))), (7, some v41), (8, some (.pointer p42))] := by simp only [mask, List.map_cons, List.map_nil, e3, e4, e7, e8] <;> rfl
    rw [e]
    refine Eq.mp (quintetlaw11_told_l1_step Q k a39 a40 v41 p42 dl h) ?_
    rw [← e]
    exact (quintetlaw11_told_l1_mask Q (k + 1) tm dl h).mp H0
set_option maxRecDepth 100000 in
theorem quintetlaw11_told_eq (p1 : Option Addr) (A2 : Option Addr) (l2 : Nat) (c2 : Nat) (h : Hp) (K : Value → Hp → Prop) : quintetlaw11_told p1 A2 l2 c2 h K =
    rcodeWp Try.prog 77 quintetlaw11_told_lp quintetlaw11_told_cut (bodyOf Try.f27) 1 (endR Try.prog Try.f27.results.toList K) (argTm [(.pointer p1), (.slice A2 l2 c2)]) [] h := by kernel_rfl
set_option maxRecDepth 100000 in
theorem quintetlaw11_told_ok (p1 : Option Addr) (A2 : Option Addr) (l2 : Nat) (c2 : Nat) {h : Hp} {K : Value → Hp → Prop} (H : quintetlaw11_told p1 A2 l2 c2 h K) : CallsH Try.prog 27 #[(.pointer p1), (.slice A2 l2 c2)] h K :=
  calls_ofR (args := [(.pointer p1), (.slice A2 l2 c2)]) (n := 77) (lp := quintetlaw11_told_lp) (cut := quintetlaw11_told_cut) Try.func27 (c := bodyOf Try.f27) (by kernel_rfl) (by kernel_rfl) (by kernel_rfl) (good_byR (c := (bodyOf Try.f27)) (i := 1) (l := [(2042, (sub (bodyOf Try.f27) [true, true, true, true, true, true, true, false, true, false]))]) (by kernel_rfl) (List.forall_mem_cons.2 ⟨quintetlaw11_told_l1_snd, (fun _ h => by cases h)⟩))
    (Eq.mp (quintetlaw11_told_eq p1 A2 l2 c2 h K) H)
/-- A round of the range at 522826. -/
def quintetlaw11_told_r1 (a148 : Addr) (a149 : Addr) (p150 : Option Addr) (a151 : Addr) (x152 : Int) (x153 : Int) (x154 : Int) (x155 : Int) (x156 : Int) (x157 : Int) (x158 : Int) (x159 : Int) (x160 : Int) (x161 : Int) (x162 : Int) (x163 : Int) (x164 : Int) (l165 : Nat) (h : Hp) (K : Value → Hp → Prop) : Prop :=
  newC h (.cells #[(.int .i64 0), (.int .u32 0), (.int .i64 0), (.int .u32 0), (.int .i64 0), (.int .u16 0), (.int .u16 0), (.int .u16 0), (.int .u16 0), (.int .u8 0), (.int .u8 0), (.int .i64 0)] 55 (0, 0)) fun a167 h166 => 
  HU Try.prog (Instr.storeAt 55 (.pointer (some a167)) (.agg #[(.int .i64 x153), (.int .u32 x154), (.int .i64 x155), (.int .u32 x156), (.int .i64 x157), (.int .u16 x158), (.int .u16 x159), (.int .u16 x160), (.int .u16 x161), (.int .u8 x162), (.int .u8 x163), (.int .i64 x164)])) h166 fun h168 => 
  rbeg l165 h168 fun h169 =>
  ∃ x170 : Int, HV Try.prog (Instr.loadAt 3 (.pointer (some a151))) h169 (.int .i64 x170) ∧ 
  br (x152 != x170)
  (HU Try.prog (Instr.storeAt 4 (.pointer (some a149)) (.bool false)) h169 fun h171 => 
  rend l165 (some .ret) h171 fun h172 => K (.bool false) h172)
  (∃ x173 : Int, HV Try.prog (Instr.loadAt 3 (.pointer (some a151))) h169 (.int .i64 x173) ∧ 
  ∃ A174 : Option Addr, ∃ l174 : Nat, ∃ c174 : Nat, HV Try.prog (Instr.loadAt 32 (.pointer (some a148))) h169 (.slice A174 l174 c174) ∧ 
  br (decide (x173 ≥ (l174 : Int)))
  (HU Try.prog (Instr.storeAt 4 (.pointer (some a149)) (.bool false)) h169 fun h175 => 
  rend l165 (some .ret) h175 fun h176 => K (.bool false) h176)
  (∃ x177 : Int, ∃ x178 : Int, ∃ x179 : Int, ∃ x180 : Int, ∃ x181 : Int, ∃ x182 : Int, ∃ x183 : Int, ∃ x184 : Int, ∃ x185 : Int, ∃ x186 : Int, ∃ x187 : Int, ∃ x188 : Int, HV Try.prog (Instr.loadAt 55 (.pointer (some a167))) h169 (.agg #[(.int .i64 x177), (.int .u32 x178), (.int .i64 x179), (.int .u32 x180), (.int .i64 x181), (.int .u16 x182), (.int .u16 x183), (.int .u16 x184), (.int .u16 x185), (.int .u8 x186), (.int .u8 x187), (.int .i64 x188)]) ∧ 
  ∃ A189 : Option Addr, ∃ l189 : Nat, ∃ c189 : Nat, HV Try.prog (Instr.loadAt 32 (.pointer (some a148))) h169 (.slice A189 l189 c189) ∧ 
  ∃ x190 : Int, HV Try.prog (Instr.loadAt 3 (.pointer (some a151))) h169 (.int .i64 x190) ∧ 
  ∃ a191 : Addr, PV Try.prog (Instr.indexAt 32 (.slice A189 l189 c189) (.int .i64 x190)) (.pointer (some a191)) ∧
  ∃ x192 : Int, ∃ x193 : Int, ∃ x194 : Int, ∃ x195 : Int, ∃ x196 : Int, ∃ x197 : Int, ∃ x198 : Int, ∃ x199 : Int, ∃ x200 : Int, ∃ x201 : Int, ∃ x202 : Int, ∃ x203 : Int, HV Try.prog (Instr.loadAt 55 (.pointer (some a191))) h169 (.agg #[(.int .i64 x192), (.int .u32 x193), (.int .i64 x194), (.int .u32 x195), (.int .i64 x196), (.int .u16 x197), (.int .u16 x198), (.int .u16 x199), (.int .u16 x200), (.int .u8 x201), (.int .u8 x202), (.int .i64 x203)]) ∧ 
  ∃ b204 : Bool, PV Try.prog (binOp .neq 55 (.agg #[(.int .i64 x177), (.int .u32 x178), (.int .i64 x179), (.int .u32 x180), (.int .i64 x181), (.int .u16 x182), (.int .u16 x183), (.int .u16 x184), (.int .u16 x185), (.int .u8 x186), (.int .u8 x187), (.int .i64 x188)]) (.agg #[(.int .i64 x192), (.int .u32 x193), (.int .i64 x194), (.int .u32 x195), (.int .i64 x196), (.int .u16 x197), (.int .u16 x198), (.int .u16 x199), (.int .u16 x200), (.int .u8 x201), (.int .u8 x202), (.int .i64 x203)])) (.bool b204) ∧
  br b204
  (HU Try.prog (Instr.storeAt 4 (.pointer (some a149)) (.bool false)) h169 fun h205 => 
  rend l165 (some .ret) h205 fun h206 => K (.bool false) h206)
  (∃ x207 : Int, HV Try.prog (Instr.loadAt 3 (.pointer (some a151))) h169 (.int .i64 x207) ∧ 
  HU Try.prog (Instr.storeAt 3 (.pointer (some a151)) (.int .i64 (IntKind.i64.wrap (x207 + 1)))) h169 fun h208 => 
  ∃ x209 : Int, HV Try.prog (Instr.loadAt 3 (.pointer p150)) h208 (.int .i64 x209) ∧ 
  br (x209 == 0)
  (∃ x210 : Int, HV Try.prog (Instr.loadAt 3 (.pointer (some a151))) h208 (.int .i64 x210) ∧ 
  br (x210 == 2)
  (rend l165 (some (.exit 2)) h208 fun h211 => K (.bool false) h211)
  (rend l165 none h208 fun h212 => K (.bool true) h212))
  (rend l165 none h208 fun h213 => K (.bool true) h213))))
set_option maxRecDepth 100000 in
theorem quintetlaw11_told_r1_eq (a148 : Addr) (a149 : Addr) (p150 : Option Addr) (a151 : Addr) (x152 : Int) (x153 : Int) (x154 : Int) (x155 : Int) (x156 : Int) (x157 : Int) (x158 : Int) (x159 : Int) (x160 : Int) (x161 : Int) (x162 : Int) (x163 : Int) (x164 : Int) (l165 : Nat) (h : Hp) (K : Value → Hp → Prop) : quintetlaw11_told_r1 a148 a149 p150 a151 x152 x153 x154 x155 x156 x157 x158 x159 x160 x161 x162 x163 x164 l165 h K =
    roundW Try.prog 77 lp0 cut0 l165 (sub (bodyOf Try.f27) [true, true, true, true, true, true, true, false, true, false, false, true, false, false, true, false, true, false, false]) (sub (bodyOf Try.f27) [true, true, true, true, true, true, true, false, true, false, false, true, false, false, true, false, true, false, true]) 1 K (prmTm [37, 38] [(.int .i64 x152), (.agg #[(.int .i64 x153), (.int .u32 x154), (.int .i64 x155), (.int .u32 x156), (.int .i64 x157), (.int .u16 x158), (.int .u16 x159), (.int .u16 x160), (.int .u16 x161), (.int .u8 x162), (.int .u8 x163), (.int .i64 x164)])] (mkTm [(3, some (.pointer (some a148))), (4, some (.pointer (some a149))), (8, some (.pointer p150)), (9, some (.pointer (some a151)))])) h := by kernel_rfl
set_option maxRecDepth 100000 in
theorem quintetlaw11_told_r1_ok (a148 : Addr) (a149 : Addr) (p150 : Option Addr) (a151 : Addr) (x152 : Int) (x153 : Int) (x154 : Int) (x155 : Int) (x156 : Int) (x157 : Int) (x158 : Int) (x159 : Int) (x160 : Int) (x161 : Int) (x162 : Int) (x163 : Int) (x164 : Int) {l165 D : Nat} {h : Hp} {r : Loop} {K : Value → Hp → Prop} (hr : h[l165]? = some (.loop r)) (ok : RecOK 77 #[37, 38] (sub (bodyOf Try.f27) [true, true, true, true, true, true, true, false, true, false, false, true, false, false, true, false, true, false, false]) (sub (bodyOf Try.f27) [true, true, true, true, true, true, true, false, true, false, false, true, false, false, true, false, true, false, true]) (mkTm [(3, some (.pointer (some a148))), (4, some (.pointer (some a149))), (8, some (.pointer p150)), (9, some (.pointer (some a151)))]) D r) (H : quintetlaw11_told_r1 a148 a149 p150 a151 x152 x153 x154 x155 x156 x157 x158 x159 x160 x161 x162 x163 x164 l165 h K) : HN Try.prog (callS (yieldV l165) #[(.int .i64 x152), (.agg #[(.int .i64 x153), (.int .u32 x154), (.int .i64 x155), (.int .u32 x156), (.int .i64 x157), (.int .u16 x158), (.int .u16 x159), (.int .u16 x160), (.int .u16 x161), (.int .u8 x162), (.int .u8 x163), (.int .i64 x164)])]) h K :=
  round_sound (ps := [37, 38]) (vs := [(.int .i64 x152), (.agg #[(.int .i64 x153), (.int .u32 x154), (.int .i64 x155), (.int .u32 x156), (.int .i64 x157), (.int .u16 x158), (.int .u16 x159), (.int .u16 x160), (.int .u16 x161), (.int .u8 x162), (.int .u8 x163), (.int .i64 x164)])]) (i := 1) (good_by (l := []) (by kernel_rfl) (fun _ h => by cases h)) (good_by (l := []) (by kernel_rfl) (fun _ h => by cases h)) hr ok rfl (by kernel_rfl)
    (Eq.mp (quintetlaw11_told_r1_eq a148 a149 p150 a151 x152 x153 x154 x155 x156 x157 x158 x159 x160 x161 x162 x163 x164 l165 h K) H)

end Go.Proofs.Ytgecabgcjfpenaa.Fs
