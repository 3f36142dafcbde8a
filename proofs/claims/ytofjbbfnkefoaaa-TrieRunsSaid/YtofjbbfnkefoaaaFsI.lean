/- Printed by sx.py: words over the heap alone for Go functions, and that each call does what its word says. -/
import Derived.Test.YtofjbbfnkefoaaaSxSel
import Derived.Test.YtofjbbfnkefoaaaSxNest
import Derived.Test.YtofjbbfnkefoaaaProg
namespace Go.Proofs.Ytofjbbfnkefoaaa.Fs
open Go Go.RowKit Go.Proofs.Ytofjbbfnkefoaaa.Sx
set_option linter.unusedVariables false

/-! ### quintet/quintetlaw12.TrieNews: function 7 -/
def quintetlaw12_TrieNews_j3 (K0 : Bool → Hp → Prop) (p182 : Option Addr) (b183 : Bool) (b184 : Bool) (h : Hp) : Prop :=
  CallsH Try.prog 38 #[] h fun r202 h201 =>
  ∃ b203 : Bool, r202 = (.bool b203) ∧ 
  br b203
  (br b184
  (br (!b183)
  (K0 true h201)
  (CallsH Try.prog 36 #[(.pointer p182)] h201 fun r205 h204 =>
  ∃ x206 : Int, r205 = (.int .i64 x206) ∧ 
  br (x206 == 0)
  (CallsH Try.prog 37 #[(.pointer p182)] h204 fun r208 h207 =>
  ∃ x209 : Int, r208 = (.int .i64 x209) ∧ 
  br (x209 == 0)
  (CallsH Try.prog 35 #[(.pointer p182)] h207 fun r211 h210 =>
  ∃ v212 : Value, r211 = v212 ∧ 
  CallsH Try.prog 33 #[v212, (.slice none 0 0), (.int .i64 0)] h210 fun r214 h213 =>
  ∃ b215 : Bool, r214 = (.bool b215) ∧ 
  K0 b215 h213)
  (K0 false h207))
  (K0 false h204)))
  (K0 false h201))
  (K0 false h201)
def quintetlaw12_TrieNews_j3_L (Q : Qx) (tm : Tm) (h : Hp) : Prop :=
  selP (tm 9) fun p182 =>
  selB (tm 11) fun b183 =>
  selB (tm 17) fun b184 =>
  quintetlaw12_TrieNews_j3 (fun (b200 : Bool) h => Q (.ret) (mkTm [(8, some (.bool b200))]) h) p182 b183 b184 h
def quintetlaw12_TrieNews_j2 (K0 : Bool → Hp → Prop) (x13 : Int) (x14 : Int) (p15 : Option Addr) (b16 : Bool) (h : Hp) : Prop :=
  CallsH Try.prog 29 #[(.pointer none), (.int .u32 x13), (.int .i64 x14)] h fun r142 h141 =>
  ∃ x143 : Int, ∃ b144 : Bool, r142 = (.tuple #[(.int .i64 x143), (.bool b144)]) ∧ 
  CallsH Try.prog 30 #[(.pointer none), (.int .u32 x13)] h141 fun r146 h145 =>
  ∃ x147 : Int, ∃ x148 : Int, ∃ x149 : Int, ∃ b150 : Bool, r146 = (.tuple #[(.agg #[(.int .u32 x147), (.int .i64 x148), (.int .i64 x149)]), (.bool b150)]) ∧ 
  newC h145 (.cells #[(.int .u32 0), (.int .i64 0), (.int .i64 0)] 66 (0, 0)) fun a152 h151 => 
  HU Try.prog (Instr.storeAt 66 (.pointer (some a152)) (.agg #[(.int .u32 x147), (.int .i64 x148), (.int .i64 x149)])) h151 fun h153 => 
  CallsH Try.prog 31 #[(.pointer none), (.int .u32 x13), (.int .i64 x14), (.int .i64 1)] h153 fun r217 h216 =>
  ∃ x218 : Int, r217 = (.int .i64 x218) ∧ 
  br (x218 == 3)
  (CallsH Try.prog 32 #[(.pointer none), (.int .u32 x13), (.int .i64 x14)] h216 fun r220 h219 =>
  ∃ x221 : Int, r220 = (.int .i64 x221) ∧ 
  br (x221 == 3)
  (br (x143 == 0)
  (br (!b144)
  (∃ x222 : Int, ∃ x223 : Int, ∃ x224 : Int, HV Try.prog (Instr.loadAt 66 (.pointer (some a152))) h219 (.agg #[(.int .u32 x222), (.int .i64 x223), (.int .i64 x224)]) ∧ 
  ∃ b225 : Bool, PV Try.prog (binOp .eql 66 (.agg #[(.int .u32 x222), (.int .i64 x223), (.int .i64 x224)]) (.agg #[(.int .u32 0), (.int .i64 0), (.int .i64 0)])) (.bool b225) ∧
  br b225
  (br (!b150)
  (CallsH Try.prog 34 #[(.pointer none), (.int .u32 x13), (.int .i64 x14)] h219 fun r227 h226 =>
  ∃ v228 : Value, r227 = v228 ∧ 
  CallsH Try.prog 33 #[v228, (.slice none 0 0), (.int .i64 0)] h226 fun r230 h229 =>
  ∃ b231 : Bool, r230 = (.bool b231) ∧ 
  br b231
  (CallsH Try.prog 35 #[(.pointer none)] h229 fun r233 h232 =>
  ∃ v234 : Value, r233 = v234 ∧ 
  CallsH Try.prog 33 #[v234, (.slice none 0 0), (.int .i64 0)] h232 fun r236 h235 =>
  ∃ b237 : Bool, r236 = (.bool b237) ∧ 
  br b237
  (CallsH Try.prog 36 #[(.pointer none)] h235 fun r239 h238 =>
  ∃ x240 : Int, r239 = (.int .i64 x240) ∧ 
  br (x240 == 0)
  (CallsH Try.prog 37 #[(.pointer none)] h238 fun r242 h241 =>
  ∃ x243 : Int, r242 = (.int .i64 x243) ∧ 
  quintetlaw12_TrieNews_j3
  (fun (b244 : Bool) (h245 : Hp) =>
  K0 b244 h245)
  p15 b16 (x243 == 0) h241)
  (quintetlaw12_TrieNews_j3
  (fun (b246 : Bool) (h247 : Hp) =>
  K0 b246 h247)
  p15 b16 false h238))
  (quintetlaw12_TrieNews_j3
  (fun (b248 : Bool) (h249 : Hp) =>
  K0 b248 h249)
  p15 b16 false h235))
  (quintetlaw12_TrieNews_j3
  (fun (b250 : Bool) (h251 : Hp) =>
  K0 b250 h251)
  p15 b16 false h229))
  (quintetlaw12_TrieNews_j3
  (fun (b252 : Bool) (h253 : Hp) =>
  K0 b252 h253)
  p15 b16 false h219))
  (quintetlaw12_TrieNews_j3
  (fun (b254 : Bool) (h255 : Hp) =>
  K0 b254 h255)
  p15 b16 false h219))
  (quintetlaw12_TrieNews_j3
  (fun (b256 : Bool) (h257 : Hp) =>
  K0 b256 h257)
  p15 b16 false h219))
  (quintetlaw12_TrieNews_j3
  (fun (b258 : Bool) (h259 : Hp) =>
  K0 b258 h259)
  p15 b16 false h219))
  (quintetlaw12_TrieNews_j3
  (fun (b260 : Bool) (h261 : Hp) =>
  K0 b260 h261)
  p15 b16 false h219))
  (quintetlaw12_TrieNews_j3
  (fun (b262 : Bool) (h263 : Hp) =>
  K0 b262 h263)
  p15 b16 false h216)
def quintetlaw12_TrieNews_j2_L (Q : Qx) (tm : Tm) (h : Hp) : Prop :=
  selI .u32 (tm 2) fun x13 =>
  selI .i64 (tm 3) fun x14 =>
  selP (tm 9) fun p15 =>
  selB (tm 11) fun b16 =>
  quintetlaw12_TrieNews_j2 (fun (b140 : Bool) h => Q (.ret) (mkTm [(8, some (.bool b140))]) h) x13 x14 p15 b16 h
def quintetlaw12_TrieNews (x1 : Int) (x2 : Int) (x3 : Int) (x4 : Int) (h : Hp) (K : Value → Hp → Prop) : Prop :=
  CallsH Try.prog 27 #[(.int .i64 x1), (.int .i64 x2)] h fun r6 h5 =>
  ∃ p7 : Option Addr, ∃ x8 : Int, r6 = (.tuple #[(.pointer p7), (.int .i64 x8)]) ∧ 
  CallsH Try.prog 28 #[(.int .i64 x1), (.int .i64 x2)] h5 fun r10 h9 =>
  ∃ b11 : Bool, r10 = (.bool b11) ∧ 
  br (!(b11 == (x8 == 0)))
  (K (.bool false) h9)
  (∃ b264 : Bool, PV Try.prog (binOp .neq 60 (.pointer p7) (.pointer none)) (.bool b264) ∧
  br (!(b11 == b264))
  (K (.bool false) h9)
  (br (!b11)
  (br (x8 != 1)
  (K (.bool false) h9)
  (quintetlaw12_TrieNews_j2
  (fun (b265 : Bool) (h266 : Hp) =>
  K (.bool b265) h266)
  x3 x4 p7 b11 h9))
  (quintetlaw12_TrieNews_j2
  (fun (b267 : Bool) (h268 : Hp) =>
  K (.bool b267) h268)
  x3 x4 p7 b11 h9)))
def quintetlaw12_TrieNews_lp (i : Nat) (Q : Qx) (tm : Tm) (h : Hp) : Prop := match Nat.beq i 255 with
  | true => quintetlaw12_TrieNews_j3_L Q tm h
  | false => match Nat.beq i 15 with
  | true => quintetlaw12_TrieNews_j2_L Q tm h
  | false => False
def quintetlaw12_TrieNews_cut (i : Nat) : Option (List Nat) := match Nat.beq i 15 with
  | true => some [2, 3, 9, 11]
  | false => match Nat.beq i 255 with
  | true => some [9, 11, 17]
  | false => none
set_option maxRecDepth 100000 in
theorem quintetlaw12_TrieNews_j3_step (Q : Qx) (p182 : Option Addr) (b183 : Bool) (b184 : Bool) (h : Hp) : quintetlaw12_TrieNews_j3_L Q (mkTm [(9, some (.pointer p182)), (11, some (.bool b183)), (17, some (.bool b184))]) h =
    codeWp Try.prog 132 quintetlaw12_TrieNews_lp quintetlaw12_TrieNews_cut (sub (bodyOf Try.f7) [true, true, true, true, true, true, true, true]) 511 (maskQ (fun e => match e with | .ret => [8] | _ => []) Q) (mkTm [(9, some (.pointer p182)), (11, some (.bool b183)), (17, some (.bool b184))]) h := by kernel_rfl
theorem quintetlaw12_TrieNews_j3_mask (Q : Qx) (tm : Tm) (h : Hp) : quintetlaw12_TrieNews_j3_L Q tm h ↔ quintetlaw12_TrieNews_j3_L Q (mask [9, 11, 17] tm) h := Iff.rfl
set_option maxRecDepth 100000 in
theorem quintetlaw12_TrieNews_j3_snd : SndAt Try.prog 132 none (sub (bodyOf Try.f7) [true, true, true, true, true, true, true, true]) (quintetlaw12_TrieNews_lp 255) := by
  refine join_sound (lp := quintetlaw12_TrieNews_lp) (cut := quintetlaw12_TrieNews_cut) (i := 255) (c := (sub (bodyOf Try.f7) [true, true, true, true, true, true, true, true])) [9, 11, 17] (fun e => match e with | .ret => [8] | _ => []) quintetlaw12_TrieNews_j3_L ?_ ?_
  · exact good_by (c := (sub (bodyOf Try.f7) [true, true, true, true, true, true, true, true])) (i := 511) (l := []) (by kernel_rfl) (fun _ h => by cases h)
  · intro Q tm h H
    have H0 := H
    obtain ⟨p182, e9, H⟩ := selP_ex H
    obtain ⟨b183, e11, H⟩ := selB_ex H
    obtain ⟨b184, e17, H⟩ := selB_ex H
    have e : mask [9, 11, 17] tm = mkTm [(9, some (.pointer p182)), (11, some (.bool b183)), (17, some (.bool b184))] := by simp only [mask, List.map_cons, List.map_nil, e9, e11, e17] <;> rfl
    rw [e]
    refine Eq.mp (quintetlaw12_TrieNews_j3_step Q p182 b183 b184 h) ?_
    rw [← e]
    exact (quintetlaw12_TrieNews_j3_mask Q tm h).mp H0
set_option maxRecDepth 100000 in
theorem quintetlaw12_TrieNews_j2_step (Q : Qx) (x13 : Int) (x14 : Int) (p15 : Option Addr) (b16 : Bool) (h : Hp) : quintetlaw12_TrieNews_j2_L Q (mkTm [(2, some (.int .u32 x13)), (3, some (.int .i64 x14)), (9, some (.pointer p15)), (11, some (.bool b16))]) h =
    codeWp Try.prog 132 quintetlaw12_TrieNews_lp quintetlaw12_TrieNews_cut (sub (bodyOf Try.f7) [true, true, true, true]) 31 (maskQ (fun e => match e with | .ret => [8] | _ => []) Q) (mkTm [(2, some (.int .u32 x13)), (3, some (.int .i64 x14)), (9, some (.pointer p15)), (11, some (.bool b16))]) h := by kernel_rfl
theorem quintetlaw12_TrieNews_j2_mask (Q : Qx) (tm : Tm) (h : Hp) : quintetlaw12_TrieNews_j2_L Q tm h ↔ quintetlaw12_TrieNews_j2_L Q (mask [2, 3, 9, 11] tm) h := Iff.rfl
set_option maxRecDepth 100000 in
theorem quintetlaw12_TrieNews_j2_snd : SndAt Try.prog 132 none (sub (bodyOf Try.f7) [true, true, true, true]) (quintetlaw12_TrieNews_lp 15) := by
  refine join_sound (lp := quintetlaw12_TrieNews_lp) (cut := quintetlaw12_TrieNews_cut) (i := 15) (c := (sub (bodyOf Try.f7) [true, true, true, true])) [2, 3, 9, 11] (fun e => match e with | .ret => [8] | _ => []) quintetlaw12_TrieNews_j2_L ?_ ?_
  · exact good_by (c := (sub (bodyOf Try.f7) [true, true, true, true])) (i := 31) (l := [(255, (sub (bodyOf Try.f7) [true, true, true, true, true, true, true, true]))]) (by kernel_rfl) (List.forall_mem_cons.2 ⟨quintetlaw12_TrieNews_j3_snd, (fun _ h => by cases h)⟩)
  · intro Q tm h H
    have H0 := H
    obtain ⟨x13, e2, H⟩ := selI_ex H
    obtain ⟨x14, e3, H⟩ := selI_ex H
    obtain ⟨p15, e9, H⟩ := selP_ex H
    obtain ⟨b16, e11, H⟩ := selB_ex H
    have e : mask [2, 3, 9, 11] tm = mkTm [(2, some (.int .u32 x13)), (3, some (.int .i64 x14)), (9, some (.pointer p15)), (11, some (.bool b16))] := by simp only [mask, List.map_cons, List.map_nil, e2, e3, e9, e11] <;> rfl
    rw [e]
    refine Eq.mp (quintetlaw12_TrieNews_j2_step Q x13 x14 p15 b16 h) ?_
    rw [← e]
    exact (quintetlaw12_TrieNews_j2_mask Q tm h).mp H0
set_option maxRecDepth 100000 in
theorem quintetlaw12_TrieNews_eq (x1 : Int) (x2 : Int) (x3 : Int) (x4 : Int) (h : Hp) (K : Value → Hp → Prop) : quintetlaw12_TrieNews x1 x2 x3 x4 h K =
    codeWp Try.prog 132 quintetlaw12_TrieNews_lp quintetlaw12_TrieNews_cut (bodyOf Try.f7) 1 (endQ Try.prog Try.f7.results.toList K) (argTm [(.int .i64 x1), (.int .i64 x2), (.int .u32 x3), (.int .i64 x4)]) h := by kernel_rfl
set_option maxRecDepth 100000 in
theorem quintetlaw12_TrieNews_ok (x1 : Int) (x2 : Int) (x3 : Int) (x4 : Int) {h : Hp} {K : Value → Hp → Prop} (H : quintetlaw12_TrieNews x1 x2 x3 x4 h K) : CallsH Try.prog 7 #[(.int .i64 x1), (.int .i64 x2), (.int .u32 x3), (.int .i64 x4)] h K :=
  calls_of (args := [(.int .i64 x1), (.int .i64 x2), (.int .u32 x3), (.int .i64 x4)]) (n := 132) (lp := quintetlaw12_TrieNews_lp) (cut := quintetlaw12_TrieNews_cut) Try.func7 (c := bodyOf Try.f7) (by kernel_rfl) (by kernel_rfl) (by kernel_rfl) (good_by (c := (bodyOf Try.f7)) (i := 1) (l := [(15, (sub (bodyOf Try.f7) [true, true, true, true]))]) (by kernel_rfl) (List.forall_mem_cons.2 ⟨quintetlaw12_TrieNews_j2_snd, (fun _ h => by cases h)⟩))
    (Eq.mp (quintetlaw12_TrieNews_eq x1 x2 x3 x4 h K) H)

/-! ### quintet/trie.New: function 27 -/
def trie_New (x1 : Int) (x2 : Int) (h : Hp) (K : Value → Hp → Prop) : Prop :=
  br (x1 != 8)
  (br (x1 != 16)
  (br (x1 != 32)
  (K (.tuple #[(.pointer none), (.int .i64 1)]) h)
  (br (decide (x2 < 0))
  (K (.tuple #[(.pointer none), (.int .i64 1)]) h)
  (br (decide (x2 > 1048576))
  (K (.tuple #[(.pointer none), (.int .i64 1)]) h)
  (newC h (.cells #[(.int .i64 x1), (.int .i64 x2), (.slice none 0 0), (.int .i32 0), (.int .i64 0), (.bool false)] 110 (0, 0)) fun a4 h3 => 
  K (.tuple #[(.pointer (some a4)), (.int .i64 0)]) h3))))
  (br (decide (x2 < 0))
  (K (.tuple #[(.pointer none), (.int .i64 1)]) h)
  (br (decide (x2 > 1048576))
  (K (.tuple #[(.pointer none), (.int .i64 1)]) h)
  (newC h (.cells #[(.int .i64 x1), (.int .i64 x2), (.slice none 0 0), (.int .i32 0), (.int .i64 0), (.bool false)] 110 (0, 0)) fun a6 h5 => 
  K (.tuple #[(.pointer (some a6)), (.int .i64 0)]) h5))))
  (br (decide (x2 < 0))
  (K (.tuple #[(.pointer none), (.int .i64 1)]) h)
  (br (decide (x2 > 1048576))
  (K (.tuple #[(.pointer none), (.int .i64 1)]) h)
  (newC h (.cells #[(.int .i64 x1), (.int .i64 x2), (.slice none 0 0), (.int .i32 0), (.int .i64 0), (.bool false)] 110 (0, 0)) fun a8 h7 => 
  K (.tuple #[(.pointer (some a8)), (.int .i64 0)]) h7)))
def trie_New_lp (i : Nat) (Q : Qx) (tm : Tm) (h : Hp) : Prop := False
def trie_New_cut (i : Nat) : Option (List Nat) := none
set_option maxRecDepth 100000 in
theorem trie_New_eq (x1 : Int) (x2 : Int) (h : Hp) (K : Value → Hp → Prop) : trie_New x1 x2 h K =
    codeWp Try.prog 28 trie_New_lp trie_New_cut (bodyOf Try.f27) 1 (endQ Try.prog Try.f27.results.toList K) (argTm [(.int .i64 x1), (.int .i64 x2)]) h := by kernel_rfl
set_option maxRecDepth 100000 in
theorem trie_New_ok (x1 : Int) (x2 : Int) {h : Hp} {K : Value → Hp → Prop} (H : trie_New x1 x2 h K) : CallsH Try.prog 27 #[(.int .i64 x1), (.int .i64 x2)] h K :=
  calls_of (args := [(.int .i64 x1), (.int .i64 x2)]) (n := 28) (lp := trie_New_lp) (cut := trie_New_cut) Try.func27 (c := bodyOf Try.f27) (by kernel_rfl) (by kernel_rfl) (by kernel_rfl) (good_by (c := (bodyOf Try.f27)) (i := 1) (l := []) (by kernel_rfl) (fun _ h => by cases h))
    (Eq.mp (trie_New_eq x1 x2 h K) H)

/-! ### quintet/quintetref12.Right: function 28 -/
def quintetref12_Right (x1 : Int) (x2 : Int) (h : Hp) (K : Value → Hp → Prop) : Prop :=
  br (x1 == 8)
  (br (decide (x2 ≥ 0))
  (K (.bool (decide (x2 ≤ 1048576))) h)
  (K (.bool false) h))
  (br (x1 == 16)
  (br (decide (x2 ≥ 0))
  (K (.bool (decide (x2 ≤ 1048576))) h)
  (K (.bool false) h))
  (br (x1 == 32)
  (br (decide (x2 ≥ 0))
  (K (.bool (decide (x2 ≤ 1048576))) h)
  (K (.bool false) h))
  (K (.bool false) h)))
def quintetref12_Right_lp (i : Nat) (Q : Qx) (tm : Tm) (h : Hp) : Prop := False
def quintetref12_Right_cut (i : Nat) : Option (List Nat) := none
set_option maxRecDepth 100000 in
theorem quintetref12_Right_eq (x1 : Int) (x2 : Int) (h : Hp) (K : Value → Hp → Prop) : quintetref12_Right x1 x2 h K =
    codeWp Try.prog 23 quintetref12_Right_lp quintetref12_Right_cut (bodyOf Try.f28) 1 (endQ Try.prog Try.f28.results.toList K) (argTm [(.int .i64 x1), (.int .i64 x2)]) h := by kernel_rfl
set_option maxRecDepth 100000 in
theorem quintetref12_Right_ok (x1 : Int) (x2 : Int) {h : Hp} {K : Value → Hp → Prop} (H : quintetref12_Right x1 x2 h K) : CallsH Try.prog 28 #[(.int .i64 x1), (.int .i64 x2)] h K :=
  calls_of (args := [(.int .i64 x1), (.int .i64 x2)]) (n := 23) (lp := quintetref12_Right_lp) (cut := quintetref12_Right_cut) Try.func28 (c := bodyOf Try.f28) (by kernel_rfl) (by kernel_rfl) (by kernel_rfl) (good_by (c := (bodyOf Try.f28)) (i := 1) (l := []) (by kernel_rfl) (fun _ h => by cases h))
    (Eq.mp (quintetref12_Right_eq x1 x2 h K) H)

/-! ### (*quintet/trie.Trie).Get: function 29 -/
def trie_Trie_Get_j1 (K0 : Int → Bool → Hp → Prop) (p8 : Option Addr) (x9 : Int) (x10 : Int) (h : Hp) : Prop :=
  CallsH Try.prog 51 #[(.pointer p8), (.int .u32 x9), (.int .i64 x10)] h fun r26 h25 =>
  ∃ x27 : Int, ∃ x28 : Int, r26 = (.tuple #[(.int .i32 x27), (.int .i64 x28)]) ∧ 
  br (decide (x28 < x10))
  (K0 0 false h25)
  (drf p8 fun a29 =>
  ∃ A30 : Option Addr, ∃ l30 : Nat, ∃ c30 : Nat, HV Try.prog (Instr.loadAt 108 (.pointer (some (a29.add 2)))) h25 (.slice A30 l30 c30) ∧ 
  ∃ a31 : Addr, PV Try.prog (Instr.indexAt 108 (.slice A30 l30 c30) (.int .i32 x27)) (.pointer (some a31)) ∧
  ∃ b32 : Bool, HV Try.prog (Instr.loadAt 4 (.pointer (some (a31.add 2)))) h25 (.bool b32) ∧ 
  br (!b32)
  (K0 0 false h25)
  (drf p8 fun a33 =>
  ∃ A34 : Option Addr, ∃ l34 : Nat, ∃ c34 : Nat, HV Try.prog (Instr.loadAt 108 (.pointer (some (a33.add 2)))) h25 (.slice A34 l34 c34) ∧ 
  ∃ a35 : Addr, PV Try.prog (Instr.indexAt 108 (.slice A34 l34 c34) (.int .i32 x27)) (.pointer (some a35)) ∧
  ∃ x36 : Int, HV Try.prog (Instr.loadAt 3 (.pointer (some (a35.add 3)))) h25 (.int .i64 x36) ∧ 
  K0 x36 true h25))
def trie_Trie_Get_j1_L (Q : Qx) (tm : Tm) (h : Hp) : Prop :=
  selP (tm 0) fun p8 =>
  selI .u32 (tm 1) fun x9 =>
  selI .i64 (tm 2) fun x10 =>
  trie_Trie_Get_j1 (fun (x23 : Int) (b24 : Bool) h => Q (.ret) (mkTm [(6, some (.int .i64 x23)), (7, some (.bool b24))]) h) p8 x9 x10 h
def trie_Trie_Get (p1 : Option Addr) (x2 : Int) (x3 : Int) (h : Hp) (K : Value → Hp → Prop) : Prop :=
  ∃ b37 : Bool, PV Try.prog (binOp .eql 60 (.pointer p1) (.pointer none)) (.bool b37) ∧
  br b37
  (K (.tuple #[(.int .i64 0), (.bool false)]) h)
  (CallsH Try.prog 50 #[(.pointer p1), (.int .u32 x2), (.int .i64 x3)] h fun r39 h38 =>
  ∃ b40 : Bool, r39 = (.bool b40) ∧ 
  br (!b40)
  (K (.tuple #[(.int .i64 0), (.bool false)]) h38)
  (trie_Trie_Get_j1
  (fun (x41 : Int) (b42 : Bool) (h43 : Hp) =>
  K (.tuple #[(.int .i64 x41), (.bool b42)]) h43)
  p1 x2 x3 h38))
def trie_Trie_Get_lp (i : Nat) (Q : Qx) (tm : Tm) (h : Hp) : Prop := match Nat.beq i 3 with
  | true => trie_Trie_Get_j1_L Q tm h
  | false => False
def trie_Trie_Get_cut (i : Nat) : Option (List Nat) := match Nat.beq i 3 with
  | true => some [0, 1, 2]
  | false => none
set_option maxRecDepth 100000 in
theorem trie_Trie_Get_j1_step (Q : Qx) (p8 : Option Addr) (x9 : Int) (x10 : Int) (h : Hp) : trie_Trie_Get_j1_L Q (mkTm [(0, some (.pointer p8)), (1, some (.int .u32 x9)), (2, some (.int .i64 x10))]) h =
    codeWp Try.prog 48 trie_Trie_Get_lp trie_Trie_Get_cut (sub (bodyOf Try.f29) [true, true]) 7 (maskQ (fun e => match e with | .ret => [6, 7] | _ => []) Q) (mkTm [(0, some (.pointer p8)), (1, some (.int .u32 x9)), (2, some (.int .i64 x10))]) h := by kernel_rfl
theorem trie_Trie_Get_j1_mask (Q : Qx) (tm : Tm) (h : Hp) : trie_Trie_Get_j1_L Q tm h ↔ trie_Trie_Get_j1_L Q (mask [0, 1, 2] tm) h := Iff.rfl
set_option maxRecDepth 100000 in
theorem trie_Trie_Get_j1_snd : SndAt Try.prog 48 none (sub (bodyOf Try.f29) [true, true]) (trie_Trie_Get_lp 3) := by
  refine join_sound (lp := trie_Trie_Get_lp) (cut := trie_Trie_Get_cut) (i := 3) (c := (sub (bodyOf Try.f29) [true, true])) [0, 1, 2] (fun e => match e with | .ret => [6, 7] | _ => []) trie_Trie_Get_j1_L ?_ ?_
  · exact good_by (c := (sub (bodyOf Try.f29) [true, true])) (i := 7) (l := []) (by kernel_rfl) (fun _ h => by cases h)
  · intro Q tm h H
    have H0 := H
    obtain ⟨p8, e0, H⟩ := selP_ex H
    obtain ⟨x9, e1, H⟩ := selI_ex H
    obtain ⟨x10, e2, H⟩ := selI_ex H
    have e : mask [0, 1, 2] tm = mkTm [(0, some (.pointer p8)), (1, some (.int .u32 x9)), (2, some (.int .i64 x10))] := by simp only [mask, List.map_cons, List.map_nil, e0, e1, e2] <;> rfl
    rw [e]
    refine Eq.mp (trie_Trie_Get_j1_step Q p8 x9 x10 h) ?_
    rw [← e]
    exact (trie_Trie_Get_j1_mask Q tm h).mp H0
set_option maxRecDepth 100000 in
theorem trie_Trie_Get_eq (p1 : Option Addr) (x2 : Int) (x3 : Int) (h : Hp) (K : Value → Hp → Prop) : trie_Trie_Get p1 x2 x3 h K =
    codeWp Try.prog 48 trie_Trie_Get_lp trie_Trie_Get_cut (bodyOf Try.f29) 1 (endQ Try.prog Try.f29.results.toList K) (argTm [(.pointer p1), (.int .u32 x2), (.int .i64 x3)]) h := by kernel_rfl
set_option maxRecDepth 100000 in
theorem trie_Trie_Get_ok (p1 : Option Addr) (x2 : Int) (x3 : Int) {h : Hp} {K : Value → Hp → Prop} (H : trie_Trie_Get p1 x2 x3 h K) : CallsH Try.prog 29 #[(.pointer p1), (.int .u32 x2), (.int .i64 x3)] h K :=
  calls_of (args := [(.pointer p1), (.int .u32 x2), (.int .i64 x3)]) (n := 48) (lp := trie_Trie_Get_lp) (cut := trie_Trie_Get_cut) Try.func29 (c := bodyOf Try.f29) (by kernel_rfl) (by kernel_rfl) (by kernel_rfl) (good_by (c := (bodyOf Try.f29)) (i := 1) (l := [(3, (sub (bodyOf Try.f29) [true, true]))]) (by kernel_rfl) (List.forall_mem_cons.2 ⟨trie_Trie_Get_j1_snd, (fun _ h => by cases h)⟩))
    (Eq.mp (trie_Trie_Get_eq p1 x2 x3 h K) H)

/-! ### (*quintet/trie.Trie).Longest: function 30 -/
def trie_Trie_Longest (p1 : Option Addr) (x2 : Int) (h : Hp) (K : Value → Hp → Prop) : Prop :=
  newC h (.cells #[(.int .u32 0), (.int .i64 0), (.int .i64 0)] 66 (0, 0)) fun a4 h3 => 
  newC h3 (.cells #[(.int .u32 0), (.int .i64 0), (.int .i64 0)] 66 (0, 0)) fun a6 h5 => 
  newC h5 (.cells #[(.bool false)] 4 (0, 0)) fun a8 h7 => 
  HU Try.prog (Instr.storeAt 4 (.pointer (some a8)) (.bool false)) h7 fun h9 => 
  ∃ b10 : Bool, PV Try.prog (binOp .eql 60 (.pointer p1) (.pointer none)) (.bool b10) ∧
  br b10
  (∃ x11 : Int, ∃ x12 : Int, ∃ x13 : Int, HV Try.prog (Instr.loadAt 66 (.pointer (some a6))) h9 (.agg #[(.int .u32 x11), (.int .i64 x12), (.int .i64 x13)]) ∧ 
  HU Try.prog (Instr.storeAt 66 (.pointer (some a4)) (.agg #[(.int .u32 x11), (.int .i64 x12), (.int .i64 x13)])) h9 fun h14 => 
  shut [] h14 fun h15 =>
  ∃ x16 : Int, ∃ x17 : Int, ∃ x18 : Int, HV Try.prog (Instr.loadAt 66 (.pointer (some a4))) h15 (.agg #[(.int .u32 x16), (.int .i64 x17), (.int .i64 x18)]) ∧ K (.tuple #[(.agg #[(.int .u32 x16), (.int .i64 x17), (.int .i64 x18)]), (.bool false)]) h15)
  (drf p1 fun a19 =>
  ∃ x20 : Int, HV Try.prog (Instr.loadAt 3 (.pointer (some a19))) h9 (.int .i64 x20) ∧ 
  CallsH Try.prog 34 #[(.pointer p1), (.int .u32 x2), (.int .i64 x20)] h9 fun r22 h21 =>
  ∃ v23 : Value, r22 = v23 ∧ 
  RangeW Try.prog 23 v23 #[19] (sub (bodyOf Try.f30) [true, true, true, true, false, true, false, false]) (sub (bodyOf Try.f30) [true, true, true, true, false, true, false, true]) (mkTm [(6, some (.pointer (some a6))), (7, some (.pointer (some a8)))]) h21
  (fun (D24 : Nat) (h25 : Hp) =>
  ∃ x29 : Int, ∃ x30 : Int, ∃ x31 : Int, HV Try.prog (Instr.loadAt 66 (.pointer (some a6))) h25 (.agg #[(.int .u32 x29), (.int .i64 x30), (.int .i64 x31)]) ∧ 
  ∃ b32 : Bool, HV Try.prog (Instr.loadAt 4 (.pointer (some a8))) h25 (.bool b32) ∧ 
  HU Try.prog (Instr.storeAt 66 (.pointer (some a4)) (.agg #[(.int .u32 x29), (.int .i64 x30), (.int .i64 x31)])) h25 fun h33 => HV Try.prog (Instr.loadAt 4 (.pointer (some a8))) h33 (.bool b32) ∧ 
  shut (D24 :: []) h33 fun h34 =>
  ∃ x35 : Int, ∃ x36 : Int, ∃ x37 : Int, HV Try.prog (Instr.loadAt 66 (.pointer (some a4))) h34 (.agg #[(.int .u32 x35), (.int .i64 x36), (.int .i64 x37)]) ∧ K (.tuple #[(.agg #[(.int .u32 x35), (.int .i64 x36), (.int .i64 x37)]), (.bool b32)]) h34)
  (fun (c28 : Code) (D26 : Nat) (h27 : Hp) =>
  jmpQ c28
  (shut (D26 :: []) h27 fun h38 =>
  ∃ x39 : Int, ∃ x40 : Int, ∃ x41 : Int, HV Try.prog (Instr.loadAt 66 (.pointer (some a4))) h38 (.agg #[(.int .u32 x39), (.int .i64 x40), (.int .i64 x41)]) ∧ K (.tuple #[(.agg #[(.int .u32 x39), (.int .i64 x40), (.int .i64 x41)]), (.bool false)]) h38)
  []))
def trie_Trie_Longest_lp (i : Nat) (Q : Qr) (tm : Tm) (dl : List Nat) (h : Hp) : Prop := False
def trie_Trie_Longest_cut (i : Nat) : Option (List Nat) := match Nat.beq i 250 with
  | true => some [6, 7]
  | false => none
set_option maxRecDepth 100000 in
theorem trie_Trie_Longest_eq (p1 : Option Addr) (x2 : Int) (h : Hp) (K : Value → Hp → Prop) : trie_Trie_Longest p1 x2 h K =
    rcodeWp Try.prog 23 trie_Trie_Longest_lp trie_Trie_Longest_cut (bodyOf Try.f30) 1 (endR Try.prog Try.f30.results.toList K) (argTm [(.pointer p1), (.int .u32 x2)]) [] h := by kernel_rfl
set_option maxRecDepth 100000 in
theorem trie_Trie_Longest_ok (p1 : Option Addr) (x2 : Int) {h : Hp} {K : Value → Hp → Prop} (H : trie_Trie_Longest p1 x2 h K) : CallsH Try.prog 30 #[(.pointer p1), (.int .u32 x2)] h K :=
  calls_ofR (args := [(.pointer p1), (.int .u32 x2)]) (n := 23) (lp := trie_Trie_Longest_lp) (cut := trie_Trie_Longest_cut) Try.func30 (c := bodyOf Try.f30) (by kernel_rfl) (by kernel_rfl) (by kernel_rfl) (good_byR (c := (bodyOf Try.f30)) (i := 1) (l := []) (by kernel_rfl) (fun _ h => by cases h))
    (Eq.mp (trie_Trie_Longest_eq p1 x2 h K) H)
/-- A round of the range at 250. -/
def trie_Trie_Longest_r1 (a42 : Addr) (a43 : Addr) (x44 : Int) (x45 : Int) (x46 : Int) (l47 : Nat) (h : Hp) (K : Value → Hp → Prop) : Prop :=
  newC h (.cells #[(.int .u32 0), (.int .i64 0), (.int .i64 0)] 66 (0, 0)) fun a49 h48 => 
  HU Try.prog (Instr.storeAt 66 (.pointer (some a49)) (.agg #[(.int .u32 x44), (.int .i64 x45), (.int .i64 x46)])) h48 fun h50 => 
  rbeg l47 h50 fun h51 =>
  ∃ x52 : Int, ∃ x53 : Int, ∃ x54 : Int, HV Try.prog (Instr.loadAt 66 (.pointer (some a49))) h51 (.agg #[(.int .u32 x52), (.int .i64 x53), (.int .i64 x54)]) ∧ 
  HU Try.prog (Instr.storeAt 66 (.pointer (some a42)) (.agg #[(.int .u32 x52), (.int .i64 x53), (.int .i64 x54)])) h51 fun h55 => 
  HU Try.prog (Instr.storeAt 4 (.pointer (some a43)) (.bool true)) h55 fun h56 => 
  rend l47 none h56 fun h57 => K (.bool true) h57
set_option maxRecDepth 100000 in
theorem trie_Trie_Longest_r1_eq (a42 : Addr) (a43 : Addr) (x44 : Int) (x45 : Int) (x46 : Int) (l47 : Nat) (h : Hp) (K : Value → Hp → Prop) : trie_Trie_Longest_r1 a42 a43 x44 x45 x46 l47 h K =
    roundW Try.prog 23 lp0 cut0 l47 (sub (bodyOf Try.f30) [true, true, true, true, false, true, false, false]) (sub (bodyOf Try.f30) [true, true, true, true, false, true, false, true]) 1 K (prmTm [19] [(.agg #[(.int .u32 x44), (.int .i64 x45), (.int .i64 x46)])] (mkTm [(6, some (.pointer (some a42))), (7, some (.pointer (some a43)))])) h := by kernel_rfl
set_option maxRecDepth 100000 in
theorem trie_Trie_Longest_r1_ok (a42 : Addr) (a43 : Addr) (x44 : Int) (x45 : Int) (x46 : Int) {l47 D : Nat} {h : Hp} {r : Loop} {K : Value → Hp → Prop} (hr : h[l47]? = some (.loop r)) (ok : RecOK 23 #[19] (sub (bodyOf Try.f30) [true, true, true, true, false, true, false, false]) (sub (bodyOf Try.f30) [true, true, true, true, false, true, false, true]) (mkTm [(6, some (.pointer (some a42))), (7, some (.pointer (some a43)))]) D r) (H : trie_Trie_Longest_r1 a42 a43 x44 x45 x46 l47 h K) : HN Try.prog (callS (yieldV l47) #[(.agg #[(.int .u32 x44), (.int .i64 x45), (.int .i64 x46)])]) h K :=
  round_sound (lp := lp0) (ps := [19]) (vs := [(.agg #[(.int .u32 x44), (.int .i64 x45), (.int .i64 x46)])]) (i := 1) (good_by (l := []) (by kernel_rfl) (fun _ h => by cases h)) (good_by (l := []) (by kernel_rfl) (fun _ h => by cases h)) hr ok rfl (by kernel_rfl)
    (Eq.mp (trie_Trie_Longest_r1_eq a42 a43 x44 x45 x46 l47 h K) H)

/-! ### (*quintet/trie.Trie).Put: function 31 -/
def trie_Trie_Put_l4 (p135 : Option Addr) (x136 : Int) (x137 : Int) (x138 : Int) (K0 : (Option Addr) → Int → Int → Hp → Prop)  : Nat → Int → Int → Hp → Prop
  | 0, _, _, _ => False
  | k + 1, x139, x140, h =>
    br (decide (x140 < x137))
    (CallsH Try.prog 52 #[(.pointer p135)] h fun r156 h155 =>
    ∃ x157 : Int, r156 = (.int .i32 x157) ∧ 
    drf p135 fun a158 =>
    ∃ A159 : Option Addr, ∃ l159 : Nat, ∃ c159 : Nat, HV Try.prog (Instr.loadAt 108 (.pointer (some (a158.add 2)))) h155 (.slice A159 l159 c159) ∧ 
    CallsH Try.prog 53 #[(.pointer p135), (.int .u32 x136), (.int .i64 x140)] h155 fun r161 h160 =>
    ∃ x162 : Int, r161 = (.int .i64 x162) ∧ HV Try.prog (Instr.loadAt 108 (.pointer (some (a158.add 2)))) h160 (.slice A159 l159 c159) ∧ 
    ∃ a163 : Addr, PV Try.prog (Instr.indexAt 108 (.slice A159 l159 c159) (.int .i32 x139)) (.pointer (some a163)) ∧
    ∃ a164 : Addr, PV Try.prog (Instr.indexAt 114 (.pointer (some a163)) (.int .i64 x162)) (.pointer (some a164)) ∧
    HU Try.prog (Instr.storeAt 21 (.pointer (some a164)) (.int .i32 x157)) h160 fun h165 => 
    trie_Trie_Put_l4 p135 x136 x137 x138 K0 k x157 (IntKind.i64.wrap (x140 + 1)) h165)
    (K0 p135 x138 x139 h)
def trie_Trie_Put_l4_L (Q : Qx) (k : Nat) (tm : Tm) (h : Hp) : Prop :=
  selP (tm 0) fun p135 =>
  selI .u32 (tm 1) fun x136 =>
  selI .i64 (tm 2) fun x137 =>
  selI .i64 (tm 3) fun x138 =>
  selI .i32 (tm 9) fun x139 =>
  selI .i64 (tm 10) fun x140 =>
  trie_Trie_Put_l4 p135 x136 x137 x138 (fun (p152 : Option Addr) (x153 : Int) (x154 : Int) h => Q (.exit 1) (mkTm [(0, some (.pointer p152)), (3, some (.int .i64 x153)), (9, some (.int .i32 x154))]) h) k x139 x140 h
def trie_Trie_Put_j3 (K0 : Int → Hp → Prop) (p84 : Option Addr) (x85 : Int) (x86 : Int) (x87 : Int) (x88 : Int) (x89 : Int) (h : Hp) : Prop :=
  ∃ k178, trie_Trie_Put_l4 p84 x85 x86 x87
  (fun (p166 : Option Addr) (x167 : Int) (x168 : Int) (h169 : Hp) =>
  drf p166 fun a170 =>
  ∃ A171 : Option Addr, ∃ l171 : Nat, ∃ c171 : Nat, HV Try.prog (Instr.loadAt 108 (.pointer (some (a170.add 2)))) h169 (.slice A171 l171 c171) ∧ 
  drf p166 fun a172 =>
  ∃ A173 : Option Addr, ∃ l173 : Nat, ∃ c173 : Nat, HV Try.prog (Instr.loadAt 108 (.pointer (some (a172.add 2)))) h169 (.slice A173 l173 c173) ∧ 
  ∃ a174 : Addr, PV Try.prog (Instr.indexAt 108 (.slice A171 l171 c171) (.int .i32 x168)) (.pointer (some a174)) ∧
  HU Try.prog (Instr.storeAt 4 (.pointer (some (a174.add 2))) (.bool true)) h169 fun h175 => 
  ∃ a176 : Addr, PV Try.prog (Instr.indexAt 108 (.slice A173 l173 c173) (.int .i32 x168)) (.pointer (some a176)) ∧
  HU Try.prog (Instr.storeAt 3 (.pointer (some (a176.add 3))) (.int .i64 x167)) h175 fun h177 => 
  K0 0 h177)
  k178 x88 x89 h
def trie_Trie_Put_j3_L (Q : Qx) (tm : Tm) (h : Hp) : Prop :=
  selP (tm 0) fun p84 =>
  selI .u32 (tm 1) fun x85 =>
  selI .i64 (tm 2) fun x86 =>
  selI .i64 (tm 3) fun x87 =>
  selI .i32 (tm 9) fun x88 =>
  selI .i64 (tm 10) fun x89 =>
  trie_Trie_Put_j3 (fun (x134 : Int) h => Q (.ret) (mkTm [(8, some (.int .i64 x134))]) h) p84 x85 x86 x87 x88 x89 h
def trie_Trie_Put_j5 (K0 : (Option Addr) → Int → Int → Int → Int → Int → Hp → Prop) (p190 : Option Addr) (x191 : Int) (x192 : Int) (x193 : Int) (x194 : Int) (h : Hp) : Prop :=
  drf p190 fun a211 =>
  ∃ A212 : Option Addr, ∃ l212 : Nat, ∃ c212 : Nat, HV Try.prog (Instr.loadAt 108 (.pointer (some (a211.add 2)))) h (.slice A212 l212 c212) ∧ 
  ∃ a213 : Addr, PV Try.prog (Instr.indexAt 108 (.slice A212 l212 c212) (.int .i64 0)) (.pointer (some a213)) ∧
  HU Try.prog (Instr.storeAt 116 (.pointer (some a213)) (.agg #[(.int .i32 0), (.int .i32 0), (.bool false), (.int .i64 0)])) h fun h214 => 
  drf p190 fun a215 =>
  HU Try.prog (Instr.storeAt 4 (.pointer (some (a215.add 5))) (.bool true)) h214 fun h216 => 
  drf p190 fun a217 =>
  ∃ x218 : Int, HV Try.prog (Instr.loadAt 3 (.pointer (some (a217.add 4)))) h216 (.int .i64 x218) ∧ 
  drf p190 fun a219 =>
  HU Try.prog (Instr.storeAt 3 (.pointer (some (a219.add 4))) (.int .i64 (IntKind.i64.wrap (x218 + 1)))) h216 fun h220 => 
  K0 p190 x191 x192 x193 x194 0 h220
def trie_Trie_Put_j5_L (Q : Qx) (tm : Tm) (h : Hp) : Prop :=
  selP (tm 0) fun p190 =>
  selI .u32 (tm 1) fun x191 =>
  selI .i64 (tm 2) fun x192 =>
  selI .i64 (tm 3) fun x193 =>
  selI .i32 (tm 9) fun x194 =>
  trie_Trie_Put_j5 (fun (p205 : Option Addr) (x206 : Int) (x207 : Int) (x208 : Int) (x209 : Int) (x210 : Int) h => Q (.normal) (mkTm [(0, some (.pointer p205)), (1, some (.int .u32 x206)), (2, some (.int .i64 x207)), (3, some (.int .i64 x208)), (9, some (.int .i32 x209)), (10, some (.int .i64 x210))]) h) p190 x191 x192 x193 x194 h
def trie_Trie_Put (p1 : Option Addr) (x2 : Int) (x3 : Int) (x4 : Int) (h : Hp) (K : Value → Hp → Prop) : Prop :=
  ∃ b5 : Bool, PV Try.prog (binOp .eql 60 (.pointer p1) (.pointer none)) (.bool b5) ∧
  br b5
  (K (.int .i64 3) h)
  (CallsH Try.prog 50 #[(.pointer p1), (.int .u32 x2), (.int .i64 x3)] h fun r7 h6 =>
  ∃ b8 : Bool, r7 = (.bool b8) ∧ 
  br (!b8)
  (K (.int .i64 120) h6)
  (CallsH Try.prog 51 #[(.pointer p1), (.int .u32 x2), (.int .i64 x3)] h6 fun r10 h9 =>
  ∃ x11 : Int, ∃ x12 : Int, r10 = (.tuple #[(.int .i32 x11), (.int .i64 x12)]) ∧ 
  drf p1 fun a13 =>
  ∃ x14 : Int, HV Try.prog (Instr.loadAt 3 (.pointer (some (a13.add 4)))) h9 (.int .i64 x14) ∧ 
  drf p1 fun a15 =>
  ∃ x16 : Int, HV Try.prog (Instr.loadAt 3 (.pointer (some (a15.add 1)))) h9 (.int .i64 x16) ∧ 
  br (decide ((IntKind.i64.wrap ((IntKind.i64.wrap (x14 + x3)) - x12)) > x16))
  (K (.int .i64 122) h9)
  (br (decide (x12 < 0))
  (drf p1 fun a221 =>
  ∃ A222 : Option Addr, ∃ l222 : Nat, ∃ c222 : Nat, HV Try.prog (Instr.loadAt 108 (.pointer (some (a221.add 2)))) h9 (.slice A222 l222 c222) ∧ 
  br ((l222 : Int) == 0)
  (drf p1 fun a223 =>
  ∃ A224 : Option Addr, ∃ l224 : Nat, ∃ c224 : Nat, HV Try.prog (Instr.loadAt 108 (.pointer (some (a223.add 2)))) h9 (.slice A224 l224 c224) ∧ 
  newC h9 (.cells #[(.int .i32 0), (.int .i32 0), (.bool false), (.int .i64 0)] 116 (0, 0)) fun a226 h225 => 
  HW Try.prog (Builtin.append_ #[108, 108] 108 #[(.slice A224 l224 c224), (.slice (some a226) 1 1)]) h225 fun r228 h227 =>
  ∃ A229 : Option Addr, ∃ l229 : Nat, ∃ c229 : Nat, r228 = (.slice A229 l229 c229) ∧ 
  drf p1 fun a230 =>
  HU Try.prog (Instr.storeAt 108 (.pointer (some (a230.add 2))) (.slice A229 l229 c229)) h227 fun h231 => 
  trie_Trie_Put_j5
  (fun (p232 : Option Addr) (x233 : Int) (x234 : Int) (x235 : Int) (x236 : Int) (x237 : Int) (h238 : Hp) =>
  trie_Trie_Put_j3
  (fun (x239 : Int) (h240 : Hp) =>
  K (.int .i64 x239) h240)
  p232 x233 x234 x235 x236 x237 h238)
  p1 x2 x3 x4 x11 h231)
  (trie_Trie_Put_j5
  (fun (p241 : Option Addr) (x242 : Int) (x243 : Int) (x244 : Int) (x245 : Int) (x246 : Int) (h247 : Hp) =>
  trie_Trie_Put_j3
  (fun (x248 : Int) (h249 : Hp) =>
  K (.int .i64 x248) h249)
  p241 x242 x243 x244 x245 x246 h247)
  p1 x2 x3 x4 x11 h9))
  (trie_Trie_Put_j3
  (fun (x250 : Int) (h251 : Hp) =>
  K (.int .i64 x250) h251)
  p1 x2 x3 x4 x11 x12 h9))))
def trie_Trie_Put_lp (i : Nat) (Q : Qx) (tm : Tm) (h : Hp) : Prop := match Nat.beq i 252 with
  | true => ∃ k, trie_Trie_Put_l4_L Q k tm h
  | false => match Nat.beq i 31 with
  | true => trie_Trie_Put_j3_L Q tm h
  | false => match Nat.beq i 250 with
  | true => trie_Trie_Put_j5_L Q tm h
  | false => False
def trie_Trie_Put_cut (i : Nat) : Option (List Nat) := match Nat.beq i 250 with
  | true => some [0, 1, 2, 3, 9]
  | false => match Nat.beq i 31 with
  | true => some [0, 1, 2, 3, 9, 10]
  | false => none
set_option maxRecDepth 100000 in
theorem trie_Trie_Put_l4_step (Q : Qx) (k : Nat) (p135 : Option Addr) (x136 : Int) (x137 : Int) (x138 : Int) (x139 : Int) (x140 : Int) (h : Hp) : trie_Trie_Put_l4_L Q (k + 1) (mkTm [(0, some (.pointer p135)), (1, some (.int .u32 x136)), (2, some (.int .i64 x137)), (3, some (.int .i64 x138)), (9, some (.int .i32 x139)), (10, some (.int .i64 x140))]) h =
    codeWp Try.prog 111 trie_Trie_Put_lp trie_Trie_Put_cut (sub (bodyOf Try.f31) [true, true, true, true, true, false, false, false]) 504 (thenQ (fun tm h => trie_Trie_Put_l4_L Q k (mask [0, 1, 2, 3, 9, 10] tm) h) (maskQ (fun e => match e with | .exit 1 => [0, 3, 9] | _ => []) Q)) (mkTm [(0, some (.pointer p135)), (1, some (.int .u32 x136)), (2, some (.int .i64 x137)), (3, some (.int .i64 x138)), (9, some (.int .i32 x139)), (10, some (.int .i64 x140))]) h := by kernel_rfl
theorem trie_Trie_Put_l4_mask (Q : Qx) (k : Nat) (tm : Tm) (h : Hp) : trie_Trie_Put_l4_L Q k tm h ↔ trie_Trie_Put_l4_L Q k (mask [0, 1, 2, 3, 9, 10] tm) h := Iff.rfl
set_option maxRecDepth 100000 in
theorem trie_Trie_Put_l4_snd : SndAt Try.prog 111 none (sub (bodyOf Try.f31) [true, true, true, true, true, false, false]) (trie_Trie_Put_lp 252) := by
  refine loop_sound (lp := trie_Trie_Put_lp) (cut := trie_Trie_Put_cut) (i := 252) (c := (sub (bodyOf Try.f31) [true, true, true, true, true, false, false, false])) [0, 1, 2, 3, 9, 10] (fun e => match e with | .exit 1 => [0, 3, 9] | _ => []) trie_Trie_Put_l4_L ?_ ?_ ?_
  · exact good_by (c := (sub (bodyOf Try.f31) [true, true, true, true, true, false, false, false])) (i := 504) (l := []) (by kernel_rfl) (fun _ h => by cases h)
  · intro Q tm h H
    obtain ⟨p135, e0, H⟩ := selP_ex H
    obtain ⟨x136, e1, H⟩ := selI_ex H
    obtain ⟨x137, e2, H⟩ := selI_ex H
    obtain ⟨x138, e3, H⟩ := selI_ex H
    obtain ⟨x139, e9, H⟩ := selI_ex H
    obtain ⟨x140, e10, H⟩ := selI_ex H
    exact H
  · intro Q k tm h H
    have H0 := H
    obtain ⟨p135, e0, H⟩ := selP_ex H
    obtain ⟨x136, e1, H⟩ := selI_ex H
    obtain ⟨x137, e2, H⟩ := selI_ex H
    obtain ⟨x138, e3, H⟩ := selI_ex H
    obtain ⟨x139, e9, H⟩ := selI_ex H
    obtain ⟨x140, e10, H⟩ := selI_ex H
    have e : mask [0, 1, 2, 3, 9, 10] tm = mkTm [(0, some (.pointer p135)), (1, some (.int .u32 x136)), (2, some (.int .i64 x137)), (3, some (.int .i64 x138)), (9, some (.int .i32 x139)), (10, some (.int .i64 x140))] := by simp only [mask, List.map_cons, List.map_nil, e0, e1, e2, e3, e9, e10] <;> rfl
    rw [e]
    refine Eq.mp (trie_Trie_Put_l4_step Q k p135 x136 x137 x138 x139 x140 h) ?_
    rw [← e]
    exact (trie_Trie_Put_l4_mask Q (k + 1) tm h).mp H0
set_option maxRecDepth 100000 in
theorem trie_Trie_Put_j3_step (Q : Qx) (p84 : Option Addr) (x85 : Int) (x86 : Int) (x87 : Int) (x88 : Int) (x89 : Int) (h : Hp) : trie_Trie_Put_j3_L Q (mkTm [(0, some (.pointer p84)), (1, some (.int .u32 x85)), (2, some (.int .i64 x86)), (3, some (.int .i64 x87)), (9, some (.int .i32 x88)), (10, some (.int .i64 x89))]) h =
    codeWp Try.prog 111 trie_Trie_Put_lp trie_Trie_Put_cut (sub (bodyOf Try.f31) [true, true, true, true, true]) 63 (maskQ (fun e => match e with | .ret => [8] | _ => []) Q) (mkTm [(0, some (.pointer p84)), (1, some (.int .u32 x85)), (2, some (.int .i64 x86)), (3, some (.int .i64 x87)), (9, some (.int .i32 x88)), (10, some (.int .i64 x89))]) h := by kernel_rfl
theorem trie_Trie_Put_j3_mask (Q : Qx) (tm : Tm) (h : Hp) : trie_Trie_Put_j3_L Q tm h ↔ trie_Trie_Put_j3_L Q (mask [0, 1, 2, 3, 9, 10] tm) h := Iff.rfl
set_option maxRecDepth 100000 in
theorem trie_Trie_Put_j3_snd : SndAt Try.prog 111 none (sub (bodyOf Try.f31) [true, true, true, true, true]) (trie_Trie_Put_lp 31) := by
  refine join_sound (lp := trie_Trie_Put_lp) (cut := trie_Trie_Put_cut) (i := 31) (c := (sub (bodyOf Try.f31) [true, true, true, true, true])) [0, 1, 2, 3, 9, 10] (fun e => match e with | .ret => [8] | _ => []) trie_Trie_Put_j3_L ?_ ?_
  · exact good_by (c := (sub (bodyOf Try.f31) [true, true, true, true, true])) (i := 63) (l := [(252, (sub (bodyOf Try.f31) [true, true, true, true, true, false, false]))]) (by kernel_rfl) (List.forall_mem_cons.2 ⟨trie_Trie_Put_l4_snd, (fun _ h => by cases h)⟩)
  · intro Q tm h H
    have H0 := H
    obtain ⟨p84, e0, H⟩ := selP_ex H
    obtain ⟨x85, e1, H⟩ := selI_ex H
    obtain ⟨x86, e2, H⟩ := selI_ex H
    obtain ⟨x87, e3, H⟩ := selI_ex H
    obtain ⟨x88, e9, H⟩ := selI_ex H
    obtain ⟨x89, e10, H⟩ := selI_ex H
    have e : mask [0, 1, 2, 3, 9, 10] tm = mkTm [(0, some (.pointer p84)), (1, some (.int .u32 x85)), (2, some (.int .i64 x86)), (3, some (.int .i64 x87)), (9, some (.int .i32 x88)), (10, some (.int .i64 x89))] := by simp only [mask, List.map_cons, List.map_nil, e0, e1, e2, e3, e9, e10] <;> rfl
    rw [e]
    refine Eq.mp (trie_Trie_Put_j3_step Q p84 x85 x86 x87 x88 x89 h) ?_
    rw [← e]
    exact (trie_Trie_Put_j3_mask Q tm h).mp H0
set_option maxRecDepth 100000 in
theorem trie_Trie_Put_j5_step (Q : Qx) (p190 : Option Addr) (x191 : Int) (x192 : Int) (x193 : Int) (x194 : Int) (h : Hp) : trie_Trie_Put_j5_L Q (mkTm [(0, some (.pointer p190)), (1, some (.int .u32 x191)), (2, some (.int .i64 x192)), (3, some (.int .i64 x193)), (9, some (.int .i32 x194))]) h =
    codeWp Try.prog 111 trie_Trie_Put_lp trie_Trie_Put_cut (sub (bodyOf Try.f31) [true, true, true, true, false, true, false, true]) 501 (maskQ (fun e => match e with | .normal => [0, 1, 2, 3, 9, 10] | _ => []) Q) (mkTm [(0, some (.pointer p190)), (1, some (.int .u32 x191)), (2, some (.int .i64 x192)), (3, some (.int .i64 x193)), (9, some (.int .i32 x194))]) h := by kernel_rfl
theorem trie_Trie_Put_j5_mask (Q : Qx) (tm : Tm) (h : Hp) : trie_Trie_Put_j5_L Q tm h ↔ trie_Trie_Put_j5_L Q (mask [0, 1, 2, 3, 9] tm) h := Iff.rfl
set_option maxRecDepth 100000 in
theorem trie_Trie_Put_j5_snd : SndAt Try.prog 111 none (sub (bodyOf Try.f31) [true, true, true, true, false, true, false, true]) (trie_Trie_Put_lp 250) := by
  refine join_sound (lp := trie_Trie_Put_lp) (cut := trie_Trie_Put_cut) (i := 250) (c := (sub (bodyOf Try.f31) [true, true, true, true, false, true, false, true])) [0, 1, 2, 3, 9] (fun e => match e with | .normal => [0, 1, 2, 3, 9, 10] | _ => []) trie_Trie_Put_j5_L ?_ ?_
  · exact good_by (c := (sub (bodyOf Try.f31) [true, true, true, true, false, true, false, true])) (i := 501) (l := []) (by kernel_rfl) (fun _ h => by cases h)
  · intro Q tm h H
    have H0 := H
    obtain ⟨p190, e0, H⟩ := selP_ex H
    obtain ⟨x191, e1, H⟩ := selI_ex H
    obtain ⟨x192, e2, H⟩ := selI_ex H
    obtain ⟨x193, e3, H⟩ := selI_ex H
    obtain ⟨x194, e9, H⟩ := selI_ex H
    have e : mask [0, 1, 2, 3, 9] tm = mkTm [(0, some (.pointer p190)), (1, some (.int .u32 x191)), (2, some (.int .i64 x192)), (3, some (.int .i64 x193)), (9, some (.int .i32 x194))] := by simp only [mask, List.map_cons, List.map_nil, e0, e1, e2, e3, e9] <;> rfl
    rw [e]
    refine Eq.mp (trie_Trie_Put_j5_step Q p190 x191 x192 x193 x194 h) ?_
    rw [← e]
    exact (trie_Trie_Put_j5_mask Q tm h).mp H0
set_option maxRecDepth 100000 in
theorem trie_Trie_Put_eq (p1 : Option Addr) (x2 : Int) (x3 : Int) (x4 : Int) (h : Hp) (K : Value → Hp → Prop) : trie_Trie_Put p1 x2 x3 x4 h K =
    codeWp Try.prog 111 trie_Trie_Put_lp trie_Trie_Put_cut (bodyOf Try.f31) 1 (endQ Try.prog Try.f31.results.toList K) (argTm [(.pointer p1), (.int .u32 x2), (.int .i64 x3), (.int .i64 x4)]) h := by kernel_rfl
set_option maxRecDepth 100000 in
theorem trie_Trie_Put_ok (p1 : Option Addr) (x2 : Int) (x3 : Int) (x4 : Int) {h : Hp} {K : Value → Hp → Prop} (H : trie_Trie_Put p1 x2 x3 x4 h K) : CallsH Try.prog 31 #[(.pointer p1), (.int .u32 x2), (.int .i64 x3), (.int .i64 x4)] h K :=
  calls_of (args := [(.pointer p1), (.int .u32 x2), (.int .i64 x3), (.int .i64 x4)]) (n := 111) (lp := trie_Trie_Put_lp) (cut := trie_Trie_Put_cut) Try.func31 (c := bodyOf Try.f31) (by kernel_rfl) (by kernel_rfl) (by kernel_rfl) (good_by (c := (bodyOf Try.f31)) (i := 1) (l := [(250, (sub (bodyOf Try.f31) [true, true, true, true, false, true, false, true])), (31, (sub (bodyOf Try.f31) [true, true, true, true, true]))]) (by kernel_rfl) (List.forall_mem_cons.2 ⟨trie_Trie_Put_j5_snd, (List.forall_mem_cons.2 ⟨trie_Trie_Put_j3_snd, (fun _ h => by cases h)⟩)⟩))
    (Eq.mp (trie_Trie_Put_eq p1 x2 x3 x4 h K) H)

/-! ### (*quintet/trie.Trie).Cut: function 32 -/
def trie_Trie_Cut_l6 (p272 : Option Addr) (x273 : Int) (x274 : Int) (x276 : Int) (K0 : (Option Addr) → Int → Int → (Option Addr) → Nat → Nat → Hp → Prop)  : Nat → (Option Addr) → Nat → Nat → Int → Hp → Prop
  | 0, _, _, _, _, _ => False
  | k + 1, A275, l275, c275, x277, h =>
    br (decide (x277 < x276))
    (drf p272 fun a297 =>
    ∃ A298 : Option Addr, ∃ l298 : Nat, ∃ c298 : Nat, HV Try.prog (Instr.loadAt 108 (.pointer (some (a297.add 2)))) h (.slice A298 l298 c298) ∧ 
    ∃ a299 : Addr, PV Try.prog (Instr.indexAt 119 (.slice A275 l275 c275) (.int .i64 x277)) (.pointer (some a299)) ∧
    ∃ x300 : Int, HV Try.prog (Instr.loadAt 21 (.pointer (some a299))) h (.int .i32 x300) ∧ 
    CallsH Try.prog 53 #[(.pointer p272), (.int .u32 x273), (.int .i64 x277)] h fun r302 h301 =>
    ∃ x303 : Int, r302 = (.int .i64 x303) ∧ HV Try.prog (Instr.loadAt 21 (.pointer (some a299))) h301 (.int .i32 x300) ∧ HV Try.prog (Instr.loadAt 108 (.pointer (some (a297.add 2)))) h301 (.slice A298 l298 c298) ∧ 
    ∃ a304 : Addr, PV Try.prog (Instr.indexAt 108 (.slice A298 l298 c298) (.int .i32 x300)) (.pointer (some a304)) ∧
    ∃ a305 : Addr, PV Try.prog (Instr.indexAt 114 (.pointer (some a304)) (.int .i64 x303)) (.pointer (some a305)) ∧
    ∃ x306 : Int, HV Try.prog (Instr.loadAt 21 (.pointer (some a305))) h301 (.int .i32 x306) ∧ 
    newC h301 (.cells #[(.int .i32 x306)] 21 (0, 0)) fun a308 h307 => 
    HW Try.prog (Builtin.append_ #[119, 119] 119 #[(.slice A275 l275 c275), (.slice (some a308) 1 1)]) h307 fun r310 h309 =>
    ∃ A311 : Option Addr, ∃ l311 : Nat, ∃ c311 : Nat, r310 = (.slice A311 l311 c311) ∧ 
    trie_Trie_Cut_l6 p272 x273 x274 x276 K0 k A311 l311 c311 (IntKind.i64.wrap (x277 + 1)) h309)
    (K0 p272 x273 x274 A275 l275 c275 h)
def trie_Trie_Cut_l6_L (Q : Qx) (k : Nat) (tm : Tm) (h : Hp) : Prop :=
  selP (tm 0) fun p272 =>
  selI .u32 (tm 1) fun x273 =>
  selI .i64 (tm 2) fun x274 =>
  selS (tm 9) fun A275 l275 c275 =>
  selI .i64 (tm 58) fun x276 =>
  selI .i64 (tm 59) fun x277 =>
  trie_Trie_Cut_l6 p272 x273 x274 x276 (fun (p293 : Option Addr) (x294 : Int) (x295 : Int) (A296 : Option Addr) (l296 : Nat) (c296 : Nat) h => Q (.exit 1) (mkTm [(0, some (.pointer p293)), (1, some (.int .u32 x294)), (2, some (.int .i64 x295)), (9, some (.slice A296 l296 c296))]) h) k A275 l275 c275 x277 h
def trie_Trie_Cut_j9 (K0 : Int → Hp → Prop) (K1 : (Option Addr) → Int → (Option Addr) → Nat → Nat → Int → Hp → Prop) (p426 : Option Addr) (x427 : Int) (A428 : Option Addr) (l428 : Nat) (c428 : Nat) (x429 : Int) (h : Hp) : Prop :=
  br (x429 == 0)
  (drf p426 fun a455 =>
  HU Try.prog (Instr.storeAt 4 (.pointer (some (a455.add 5))) (.bool false)) h fun h456 => 
  drf p426 fun a457 =>
  ∃ x458 : Int, HV Try.prog (Instr.loadAt 3 (.pointer (some (a457.add 4)))) h456 (.int .i64 x458) ∧ 
  drf p426 fun a459 =>
  HU Try.prog (Instr.storeAt 3 (.pointer (some (a459.add 4))) (.int .i64 (IntKind.i64.wrap (x458 - 1)))) h456 fun h460 => 
  K0 0 h460)
  (drf p426 fun a461 =>
  ∃ A462 : Option Addr, ∃ l462 : Nat, ∃ c462 : Nat, HV Try.prog (Instr.loadAt 108 (.pointer (some (a461.add 2)))) h (.slice A462 l462 c462) ∧ 
  ∃ a463 : Addr, PV Try.prog (Instr.indexAt 119 (.slice A428 l428 c428) (.int .i64 (IntKind.i64.wrap (x429 - 1)))) (.pointer (some a463)) ∧
  ∃ x464 : Int, HV Try.prog (Instr.loadAt 21 (.pointer (some a463))) h (.int .i32 x464) ∧ 
  CallsH Try.prog 53 #[(.pointer p426), (.int .u32 x427), (.int .i64 (IntKind.i64.wrap (x429 - 1)))] h fun r466 h465 =>
  ∃ x467 : Int, r466 = (.int .i64 x467) ∧ HV Try.prog (Instr.loadAt 21 (.pointer (some a463))) h465 (.int .i32 x464) ∧ HV Try.prog (Instr.loadAt 108 (.pointer (some (a461.add 2)))) h465 (.slice A462 l462 c462) ∧ 
  ∃ a468 : Addr, PV Try.prog (Instr.indexAt 108 (.slice A462 l462 c462) (.int .i32 x464)) (.pointer (some a468)) ∧
  ∃ a469 : Addr, PV Try.prog (Instr.indexAt 114 (.pointer (some a468)) (.int .i64 x467)) (.pointer (some a469)) ∧
  HU Try.prog (Instr.storeAt 21 (.pointer (some a469)) (.int .i32 0)) h465 fun h470 => 
  ∃ a471 : Addr, PV Try.prog (Instr.indexAt 119 (.slice A428 l428 c428) (.int .i64 x429)) (.pointer (some a471)) ∧
  ∃ x472 : Int, HV Try.prog (Instr.loadAt 21 (.pointer (some a471))) h470 (.int .i32 x472) ∧ 
  CallsH Try.prog 54 #[(.pointer p426), (.int .i32 x472)] h470 fun r474 h473 =>
  r474 = (.tuple #[]) ∧ 
  K1 p426 x427 A428 l428 c428 x429 h473)
def trie_Trie_Cut_j9_L (Q : Qx) (tm : Tm) (h : Hp) : Prop :=
  selP (tm 0) fun p426 =>
  selI .u32 (tm 1) fun x427 =>
  selS (tm 9) fun A428 l428 c428 =>
  selI .i64 (tm 11) fun x429 =>
  trie_Trie_Cut_j9 (fun (x450 : Int) h => Q (.ret) (mkTm [(6, some (.int .i64 x450))]) h) (fun (p451 : Option Addr) (x452 : Int) (A453 : Option Addr) (l453 : Nat) (c453 : Nat) (x454 : Int) h => Q (.normal) (mkTm [(0, some (.pointer p451)), (1, some (.int .u32 x452)), (9, some (.slice A453 l453 c453)), (11, some (.int .i64 x454))]) h) p426 x427 A428 l428 c428 x429 h
def trie_Trie_Cut_l8 (p317 : Option Addr) (x318 : Int) (A319 : Option Addr) (l319 : Nat) (c319 : Nat) (K0 : Int → Hp → Prop) (K1 : Hp → Prop)  : Nat → Int → Hp → Prop
  | 0, _, _ => False
  | k + 1, x320, h =>
    br (decide (x320 ≥ 0))
    (drf p317 fun a475 =>
    ∃ A476 : Option Addr, ∃ l476 : Nat, ∃ c476 : Nat, HV Try.prog (Instr.loadAt 108 (.pointer (some (a475.add 2)))) h (.slice A476 l476 c476) ∧ 
    ∃ a477 : Addr, PV Try.prog (Instr.indexAt 119 (.slice A319 l319 c319) (.int .i64 x320)) (.pointer (some a477)) ∧
    ∃ x478 : Int, HV Try.prog (Instr.loadAt 21 (.pointer (some a477))) h (.int .i32 x478) ∧ 
    ∃ a479 : Addr, PV Try.prog (Instr.indexAt 108 (.slice A476 l476 c476) (.int .i32 x478)) (.pointer (some a479)) ∧
    ∃ x480 : Int, ∃ x481 : Int, ∃ b482 : Bool, ∃ x483 : Int, HV Try.prog (Instr.loadAt 116 (.pointer (some a479))) h (.agg #[(.int .i32 x480), (.int .i32 x481), (.bool b482), (.int .i64 x483)]) ∧ 
    newC h (.cells #[(.int .i32 0), (.int .i32 0), (.bool false), (.int .i64 0)] 116 (0, 0)) fun a485 h484 => HV Try.prog (Instr.loadAt 116 (.pointer (some a479))) h484 (.agg #[(.int .i32 x480), (.int .i32 x481), (.bool b482), (.int .i64 x483)]) ∧ HV Try.prog (Instr.loadAt 21 (.pointer (some a477))) h484 (.int .i32 x478) ∧ HV Try.prog (Instr.loadAt 108 (.pointer (some (a475.add 2)))) h484 (.slice A476 l476 c476) ∧ 
    HU Try.prog (Instr.storeAt 116 (.pointer (some a485)) (.agg #[(.int .i32 x480), (.int .i32 x481), (.bool b482), (.int .i64 x483)])) h484 fun h486 => 
    ∃ b487 : Bool, HV Try.prog (Instr.loadAt 4 (.pointer (some (a485.add 2)))) h486 (.bool b487) ∧ 
    br b487
    (K0 0 h486)
    (∃ x488 : Int, ∃ x489 : Int, HV Try.prog (Instr.loadAt 114 (.pointer (some a485))) h486 (.agg #[(.int .i32 x488), (.int .i32 x489)]) ∧ 
    ∃ b490 : Bool, PV Try.prog (binOp .neq 114 (.agg #[(.int .i32 x488), (.int .i32 x489)]) (.agg #[(.int .i32 0), (.int .i32 0)])) (.bool b490) ∧
    br b490
    (K0 0 h486)
    (trie_Trie_Cut_j9
    (fun (x491 : Int) (h492 : Hp) =>
    K0 x491 h492)
    (fun (p493 : Option Addr) (x494 : Int) (A495 : Option Addr) (l495 : Nat) (c495 : Nat) (x496 : Int) (h497 : Hp) =>
    trie_Trie_Cut_l8 p317 x318 A319 l319 c319 K0 K1 k (IntKind.i64.wrap (x496 - 1)) h497)
    p317 x318 A319 l319 c319 x320 h486)))
    (K1 h)
def trie_Trie_Cut_l8_L (Q : Qx) (k : Nat) (tm : Tm) (h : Hp) : Prop :=
  selP (tm 0) fun p317 =>
  selI .u32 (tm 1) fun x318 =>
  selS (tm 9) fun A319 l319 c319 =>
  selI .i64 (tm 11) fun x320 =>
  trie_Trie_Cut_l8 p317 x318 A319 l319 c319 (fun (x409 : Int) h => Q (.ret) (mkTm [(6, some (.int .i64 x409))]) h) (fun  h => Q (.exit 3) (mkTm []) h) k x320 h
def trie_Trie_Cut_j5 (K0 : Int → Hp → Prop) (p16 : Option Addr) (x17 : Int) (x18 : Int) (x19 : Int) (h : Hp) : Prop :=
  drf p16 fun a262 =>
  ∃ A263 : Option Addr, ∃ l263 : Nat, ∃ c263 : Nat, HV Try.prog (Instr.loadAt 108 (.pointer (some (a262.add 2)))) h (.slice A263 l263 c263) ∧ 
  drf p16 fun a264 =>
  ∃ A265 : Option Addr, ∃ l265 : Nat, ∃ c265 : Nat, HV Try.prog (Instr.loadAt 108 (.pointer (some (a264.add 2)))) h (.slice A265 l265 c265) ∧ 
  ∃ a266 : Addr, PV Try.prog (Instr.indexAt 108 (.slice A263 l263 c263) (.int .i32 x19)) (.pointer (some a266)) ∧
  HU Try.prog (Instr.storeAt 4 (.pointer (some (a266.add 2))) (.bool false)) h fun h267 => 
  ∃ a268 : Addr, PV Try.prog (Instr.indexAt 108 (.slice A265 l265 c265) (.int .i32 x19)) (.pointer (some a268)) ∧
  HU Try.prog (Instr.storeAt 3 (.pointer (some (a268.add 3))) (.int .i64 0)) h267 fun h269 => 
  newC h269 (.cells #[(.int .i32 0)] 21 (0, 0)) fun a271 h270 => 
  ∃ k502, trie_Trie_Cut_l6 p16 x17 x18 x18
  (fun (p312 : Option Addr) (x313 : Int) (x314 : Int) (A315 : Option Addr) (l315 : Nat) (c315 : Nat) (h316 : Hp) =>
  ∃ k501, trie_Trie_Cut_l8 p312 x313 A315 l315 c315
  (fun (x498 : Int) (h499 : Hp) =>
  K0 x498 h499)
  (fun  (h500 : Hp) =>
  K0 0 h500)
  k501 x314 h316)
  k502 (some a271) 1 1 0 h270
def trie_Trie_Cut_j5_L (Q : Qx) (tm : Tm) (h : Hp) : Prop :=
  selP (tm 0) fun p16 =>
  selI .u32 (tm 1) fun x17 =>
  selI .i64 (tm 2) fun x18 =>
  selI .i32 (tm 7) fun x19 =>
  trie_Trie_Cut_j5 (fun (x261 : Int) h => Q (.ret) (mkTm [(6, some (.int .i64 x261))]) h) p16 x17 x18 x19 h
def trie_Trie_Cut (p1 : Option Addr) (x2 : Int) (x3 : Int) (h : Hp) (K : Value → Hp → Prop) : Prop :=
  ∃ b4 : Bool, PV Try.prog (binOp .eql 60 (.pointer p1) (.pointer none)) (.bool b4) ∧
  br b4
  (K (.int .i64 3) h)
  (CallsH Try.prog 50 #[(.pointer p1), (.int .u32 x2), (.int .i64 x3)] h fun r6 h5 =>
  ∃ b7 : Bool, r6 = (.bool b7) ∧ 
  br (!b7)
  (K (.int .i64 120) h5)
  (CallsH Try.prog 51 #[(.pointer p1), (.int .u32 x2), (.int .i64 x3)] h5 fun r9 h8 =>
  ∃ x10 : Int, ∃ x11 : Int, r9 = (.tuple #[(.int .i32 x10), (.int .i64 x11)]) ∧ 
  br (decide (x11 < x3))
  (K (.int .i64 121) h8)
  (drf p1 fun a503 =>
  ∃ A504 : Option Addr, ∃ l504 : Nat, ∃ c504 : Nat, HV Try.prog (Instr.loadAt 108 (.pointer (some (a503.add 2)))) h8 (.slice A504 l504 c504) ∧ 
  ∃ a505 : Addr, PV Try.prog (Instr.indexAt 108 (.slice A504 l504 c504) (.int .i32 x10)) (.pointer (some a505)) ∧
  ∃ b506 : Bool, HV Try.prog (Instr.loadAt 4 (.pointer (some (a505.add 2)))) h8 (.bool b506) ∧ 
  br (!b506)
  (K (.int .i64 121) h8)
  (trie_Trie_Cut_j5
  (fun (x507 : Int) (h508 : Hp) =>
  K (.int .i64 x507) h508)
  p1 x2 x3 x10 h8))))
def trie_Trie_Cut_lp (i : Nat) (Q : Qx) (tm : Tm) (h : Hp) : Prop := match Nat.beq i 1018 with
  | true => ∃ k, trie_Trie_Cut_l6_L Q k tm h
  | false => match Nat.beq i 32676 with
  | true => trie_Trie_Cut_j9_L Q tm h
  | false => match Nat.beq i 2042 with
  | true => ∃ k, trie_Trie_Cut_l8_L Q k tm h
  | false => match Nat.beq i 15 with
  | true => trie_Trie_Cut_j5_L Q tm h
  | false => False
def trie_Trie_Cut_cut (i : Nat) : Option (List Nat) := match Nat.beq i 15 with
  | true => some [0, 1, 2, 7]
  | false => match Nat.beq i 32676 with
  | true => some [0, 1, 9, 11]
  | false => none
set_option maxRecDepth 100000 in
theorem trie_Trie_Cut_l6_step (Q : Qx) (k : Nat) (p272 : Option Addr) (x273 : Int) (x274 : Int) (A275 : Option Addr) (l275 : Nat) (c275 : Nat) (x276 : Int) (x277 : Int) (h : Hp) : trie_Trie_Cut_l6_L Q (k + 1) (mkTm [(0, some (.pointer p272)), (1, some (.int .u32 x273)), (2, some (.int .i64 x274)), (9, some (.slice A275 l275 c275)), (58, some (.int .i64 x276)), (59, some (.int .i64 x277))]) h =
    codeWp Try.prog 140 trie_Trie_Cut_lp trie_Trie_Cut_cut (sub (bodyOf Try.f32) [true, true, true, true, true, true, false, true, false, false]) 2036 (thenQ (fun tm h => trie_Trie_Cut_l6_L Q k (mask [0, 1, 2, 9, 58, 59] tm) h) (maskQ (fun e => match e with | .exit 1 => [0, 1, 2, 9] | _ => []) Q)) (mkTm [(0, some (.pointer p272)), (1, some (.int .u32 x273)), (2, some (.int .i64 x274)), (9, some (.slice A275 l275 c275)), (58, some (.int .i64 x276)), (59, some (.int .i64 x277))]) h := by kernel_rfl
theorem trie_Trie_Cut_l6_mask (Q : Qx) (k : Nat) (tm : Tm) (h : Hp) : trie_Trie_Cut_l6_L Q k tm h ↔ trie_Trie_Cut_l6_L Q k (mask [0, 1, 2, 9, 58, 59] tm) h := Iff.rfl
set_option maxRecDepth 100000 in
theorem trie_Trie_Cut_l6_snd : SndAt Try.prog 140 none (sub (bodyOf Try.f32) [true, true, true, true, true, true, false, true, false]) (trie_Trie_Cut_lp 1018) := by
  refine loop_sound (lp := trie_Trie_Cut_lp) (cut := trie_Trie_Cut_cut) (i := 1018) (c := (sub (bodyOf Try.f32) [true, true, true, true, true, true, false, true, false, false])) [0, 1, 2, 9, 58, 59] (fun e => match e with | .exit 1 => [0, 1, 2, 9] | _ => []) trie_Trie_Cut_l6_L ?_ ?_ ?_
  · exact good_by (c := (sub (bodyOf Try.f32) [true, true, true, true, true, true, false, true, false, false])) (i := 2036) (l := []) (by kernel_rfl) (fun _ h => by cases h)
  · intro Q tm h H
    obtain ⟨p272, e0, H⟩ := selP_ex H
    obtain ⟨x273, e1, H⟩ := selI_ex H
    obtain ⟨x274, e2, H⟩ := selI_ex H
    obtain ⟨A275, l275, c275, e9, H⟩ := selS_ex H
    obtain ⟨x276, e58, H⟩ := selI_ex H
    obtain ⟨x277, e59, H⟩ := selI_ex H
    exact H
  · intro Q k tm h H
    have H0 := H
    obtain ⟨p272, e0, H⟩ := selP_ex H
    obtain ⟨x273, e1, H⟩ := selI_ex H
    obtain ⟨x274, e2, H⟩ := selI_ex H
    obtain ⟨A275, l275, c275, e9, H⟩ := selS_ex H
    obtain ⟨x276, e58, H⟩ := selI_ex H
    obtain ⟨x277, e59, H⟩ := selI_ex H
    have e : mask [0, 1, 2, 9, 58, 59] tm = mkTm [(0, some (.pointer p272)), (1, some (.int .u32 x273)), (2, some (.int .i64 x274)), (9, some (.slice A275 l275 c275)), (58, some (.int .i64 x276)), (59, some (.int .i64 x277))] := by simp only [mask, List.map_cons, List.map_nil, e0, e1, e2, e9, e58, e59] <;> rfl
    rw [e]
    refine Eq.mp (trie_Trie_Cut_l6_step Q k p272 x273 x274 A275 l275 c275 x276 x277 h) ?_
    rw [← e]
    exact (trie_Trie_Cut_l6_mask Q (k + 1) tm h).mp H0
set_option maxRecDepth 100000 in
theorem trie_Trie_Cut_j9_step (Q : Qx) (p426 : Option Addr) (x427 : Int) (A428 : Option Addr) (l428 : Nat) (c428 : Nat) (x429 : Int) (h : Hp) : trie_Trie_Cut_j9_L Q (mkTm [(0, some (.pointer p426)), (1, some (.int .u32 x427)), (9, some (.slice A428 l428 c428)), (11, some (.int .i64 x429))]) h =
    codeWp Try.prog 140 trie_Trie_Cut_lp trie_Trie_Cut_cut (sub (bodyOf Try.f32) [true, true, true, true, true, true, true, false, true, false, false, true, false, false, true]) 65353 (maskQ (fun e => match e with | .ret => [6] | .normal => [0, 1, 9, 11] | _ => []) Q) (mkTm [(0, some (.pointer p426)), (1, some (.int .u32 x427)), (9, some (.slice A428 l428 c428)), (11, some (.int .i64 x429))]) h := by kernel_rfl
theorem trie_Trie_Cut_j9_mask (Q : Qx) (tm : Tm) (h : Hp) : trie_Trie_Cut_j9_L Q tm h ↔ trie_Trie_Cut_j9_L Q (mask [0, 1, 9, 11] tm) h := Iff.rfl
set_option maxRecDepth 100000 in
theorem trie_Trie_Cut_j9_snd : SndAt Try.prog 140 none (sub (bodyOf Try.f32) [true, true, true, true, true, true, true, false, true, false, false, true, false, false, true]) (trie_Trie_Cut_lp 32676) := by
  refine join_sound (lp := trie_Trie_Cut_lp) (cut := trie_Trie_Cut_cut) (i := 32676) (c := (sub (bodyOf Try.f32) [true, true, true, true, true, true, true, false, true, false, false, true, false, false, true])) [0, 1, 9, 11] (fun e => match e with | .ret => [6] | .normal => [0, 1, 9, 11] | _ => []) trie_Trie_Cut_j9_L ?_ ?_
  · exact good_by (c := (sub (bodyOf Try.f32) [true, true, true, true, true, true, true, false, true, false, false, true, false, false, true])) (i := 65353) (l := []) (by kernel_rfl) (fun _ h => by cases h)
  · intro Q tm h H
    have H0 := H
    obtain ⟨p426, e0, H⟩ := selP_ex H
    obtain ⟨x427, e1, H⟩ := selI_ex H
    obtain ⟨A428, l428, c428, e9, H⟩ := selS_ex H
    obtain ⟨x429, e11, H⟩ := selI_ex H
    have e : mask [0, 1, 9, 11] tm = mkTm [(0, some (.pointer p426)), (1, some (.int .u32 x427)), (9, some (.slice A428 l428 c428)), (11, some (.int .i64 x429))] := by simp only [mask, List.map_cons, List.map_nil, e0, e1, e9, e11] <;> rfl
    rw [e]
    refine Eq.mp (trie_Trie_Cut_j9_step Q p426 x427 A428 l428 c428 x429 h) ?_
    rw [← e]
    exact (trie_Trie_Cut_j9_mask Q tm h).mp H0
set_option maxRecDepth 100000 in
theorem trie_Trie_Cut_l8_step (Q : Qx) (k : Nat) (p317 : Option Addr) (x318 : Int) (A319 : Option Addr) (l319 : Nat) (c319 : Nat) (x320 : Int) (h : Hp) : trie_Trie_Cut_l8_L Q (k + 1) (mkTm [(0, some (.pointer p317)), (1, some (.int .u32 x318)), (9, some (.slice A319 l319 c319)), (11, some (.int .i64 x320))]) h =
    codeWp Try.prog 140 trie_Trie_Cut_lp trie_Trie_Cut_cut (sub (bodyOf Try.f32) [true, true, true, true, true, true, true, false, true, false, false]) 4084 (thenQ (fun tm h => trie_Trie_Cut_l8_L Q k (mask [0, 1, 9, 11] tm) h) (maskQ (fun e => match e with | .ret => [6] | .exit 3 => [] | _ => []) Q)) (mkTm [(0, some (.pointer p317)), (1, some (.int .u32 x318)), (9, some (.slice A319 l319 c319)), (11, some (.int .i64 x320))]) h := by kernel_rfl
theorem trie_Trie_Cut_l8_mask (Q : Qx) (k : Nat) (tm : Tm) (h : Hp) : trie_Trie_Cut_l8_L Q k tm h ↔ trie_Trie_Cut_l8_L Q k (mask [0, 1, 9, 11] tm) h := Iff.rfl
set_option maxRecDepth 100000 in
theorem trie_Trie_Cut_l8_snd : SndAt Try.prog 140 none (sub (bodyOf Try.f32) [true, true, true, true, true, true, true, false, true, false]) (trie_Trie_Cut_lp 2042) := by
  refine loop_sound (lp := trie_Trie_Cut_lp) (cut := trie_Trie_Cut_cut) (i := 2042) (c := (sub (bodyOf Try.f32) [true, true, true, true, true, true, true, false, true, false, false])) [0, 1, 9, 11] (fun e => match e with | .ret => [6] | .exit 3 => [] | _ => []) trie_Trie_Cut_l8_L ?_ ?_ ?_
  · exact good_by (c := (sub (bodyOf Try.f32) [true, true, true, true, true, true, true, false, true, false, false])) (i := 4084) (l := [(32676, (sub (bodyOf Try.f32) [true, true, true, true, true, true, true, false, true, false, false, true, false, false, true]))]) (by kernel_rfl) (List.forall_mem_cons.2 ⟨trie_Trie_Cut_j9_snd, (fun _ h => by cases h)⟩)
  · intro Q tm h H
    obtain ⟨p317, e0, H⟩ := selP_ex H
    obtain ⟨x318, e1, H⟩ := selI_ex H
    obtain ⟨A319, l319, c319, e9, H⟩ := selS_ex H
    obtain ⟨x320, e11, H⟩ := selI_ex H
    exact H
  · intro Q k tm h H
    have H0 := H
    obtain ⟨p317, e0, H⟩ := selP_ex H
    obtain ⟨x318, e1, H⟩ := selI_ex H
    obtain ⟨A319, l319, c319, e9, H⟩ := selS_ex H
    obtain ⟨x320, e11, H⟩ := selI_ex H
    have e : mask [0, 1, 9, 11] tm = mkTm [(0, some (.pointer p317)), (1, some (.int .u32 x318)), (9, some (.slice A319 l319 c319)), (11, some (.int .i64 x320))] := by simp only [mask, List.map_cons, List.map_nil, e0, e1, e9, e11] <;> rfl
    rw [e]
    refine Eq.mp (trie_Trie_Cut_l8_step Q k p317 x318 A319 l319 c319 x320 h) ?_
    rw [← e]
    exact (trie_Trie_Cut_l8_mask Q (k + 1) tm h).mp H0
set_option maxRecDepth 100000 in
theorem trie_Trie_Cut_j5_step (Q : Qx) (p16 : Option Addr) (x17 : Int) (x18 : Int) (x19 : Int) (h : Hp) : trie_Trie_Cut_j5_L Q (mkTm [(0, some (.pointer p16)), (1, some (.int .u32 x17)), (2, some (.int .i64 x18)), (7, some (.int .i32 x19))]) h =
    codeWp Try.prog 140 trie_Trie_Cut_lp trie_Trie_Cut_cut (sub (bodyOf Try.f32) [true, true, true, true]) 31 (maskQ (fun e => match e with | .ret => [6] | _ => []) Q) (mkTm [(0, some (.pointer p16)), (1, some (.int .u32 x17)), (2, some (.int .i64 x18)), (7, some (.int .i32 x19))]) h := by kernel_rfl
theorem trie_Trie_Cut_j5_mask (Q : Qx) (tm : Tm) (h : Hp) : trie_Trie_Cut_j5_L Q tm h ↔ trie_Trie_Cut_j5_L Q (mask [0, 1, 2, 7] tm) h := Iff.rfl
set_option maxRecDepth 100000 in
theorem trie_Trie_Cut_j5_snd : SndAt Try.prog 140 none (sub (bodyOf Try.f32) [true, true, true, true]) (trie_Trie_Cut_lp 15) := by
  refine join_sound (lp := trie_Trie_Cut_lp) (cut := trie_Trie_Cut_cut) (i := 15) (c := (sub (bodyOf Try.f32) [true, true, true, true])) [0, 1, 2, 7] (fun e => match e with | .ret => [6] | _ => []) trie_Trie_Cut_j5_L ?_ ?_
  · exact good_by (c := (sub (bodyOf Try.f32) [true, true, true, true])) (i := 31) (l := [(1018, (sub (bodyOf Try.f32) [true, true, true, true, true, true, false, true, false])), (2042, (sub (bodyOf Try.f32) [true, true, true, true, true, true, true, false, true, false]))]) (by kernel_rfl) (List.forall_mem_cons.2 ⟨trie_Trie_Cut_l6_snd, (List.forall_mem_cons.2 ⟨trie_Trie_Cut_l8_snd, (fun _ h => by cases h)⟩)⟩)
  · intro Q tm h H
    have H0 := H
    obtain ⟨p16, e0, H⟩ := selP_ex H
    obtain ⟨x17, e1, H⟩ := selI_ex H
    obtain ⟨x18, e2, H⟩ := selI_ex H
    obtain ⟨x19, e7, H⟩ := selI_ex H
    have e : mask [0, 1, 2, 7] tm = mkTm [(0, some (.pointer p16)), (1, some (.int .u32 x17)), (2, some (.int .i64 x18)), (7, some (.int .i32 x19))] := by simp only [mask, List.map_cons, List.map_nil, e0, e1, e2, e7] <;> rfl
    rw [e]
    refine Eq.mp (trie_Trie_Cut_j5_step Q p16 x17 x18 x19 h) ?_
    rw [← e]
    exact (trie_Trie_Cut_j5_mask Q tm h).mp H0
set_option maxRecDepth 100000 in
theorem trie_Trie_Cut_eq (p1 : Option Addr) (x2 : Int) (x3 : Int) (h : Hp) (K : Value → Hp → Prop) : trie_Trie_Cut p1 x2 x3 h K =
    codeWp Try.prog 140 trie_Trie_Cut_lp trie_Trie_Cut_cut (bodyOf Try.f32) 1 (endQ Try.prog Try.f32.results.toList K) (argTm [(.pointer p1), (.int .u32 x2), (.int .i64 x3)]) h := by kernel_rfl
set_option maxRecDepth 100000 in
theorem trie_Trie_Cut_ok (p1 : Option Addr) (x2 : Int) (x3 : Int) {h : Hp} {K : Value → Hp → Prop} (H : trie_Trie_Cut p1 x2 x3 h K) : CallsH Try.prog 32 #[(.pointer p1), (.int .u32 x2), (.int .i64 x3)] h K :=
  calls_of (args := [(.pointer p1), (.int .u32 x2), (.int .i64 x3)]) (n := 140) (lp := trie_Trie_Cut_lp) (cut := trie_Trie_Cut_cut) Try.func32 (c := bodyOf Try.f32) (by kernel_rfl) (by kernel_rfl) (by kernel_rfl) (good_by (c := (bodyOf Try.f32)) (i := 1) (l := [(15, (sub (bodyOf Try.f32) [true, true, true, true]))]) (by kernel_rfl) (List.forall_mem_cons.2 ⟨trie_Trie_Cut_j5_snd, (fun _ h => by cases h)⟩))
    (Eq.mp (trie_Trie_Cut_eq p1 x2 x3 h K) H)

/-! ### (*quintet/trie.Trie).Above: function 34 -/
def trie_Trie_Above (p1 : Option Addr) (x2 : Int) (x3 : Int) (h : Hp) (K : Value → Hp → Prop) : Prop :=
  newC h (.cells #[(.pointer p1)] 60 (0, 0)) fun a5 h4 => 
  newC h4 (.cells #[(.int .u32 x2)] 33 (0, 0)) fun a7 h6 => 
  newC h6 (.cells #[(.int .i64 x3)] 3 (0, 0)) fun a9 h8 => 
  K (.func (.func 55) #[] #[(.pointer (some a5)), (.pointer (some a7)), (.pointer (some a9))]) h8
def trie_Trie_Above_lp (i : Nat) (Q : Qx) (tm : Tm) (h : Hp) : Prop := False
def trie_Trie_Above_cut (i : Nat) : Option (List Nat) := none
set_option maxRecDepth 100000 in
theorem trie_Trie_Above_eq (p1 : Option Addr) (x2 : Int) (x3 : Int) (h : Hp) (K : Value → Hp → Prop) : trie_Trie_Above p1 x2 x3 h K =
    codeWp Try.prog 8 trie_Trie_Above_lp trie_Trie_Above_cut (bodyOf Try.f34) 1 (endQ Try.prog Try.f34.results.toList K) (argTm [(.pointer p1), (.int .u32 x2), (.int .i64 x3)]) h := by kernel_rfl
set_option maxRecDepth 100000 in
theorem trie_Trie_Above_ok (p1 : Option Addr) (x2 : Int) (x3 : Int) {h : Hp} {K : Value → Hp → Prop} (H : trie_Trie_Above p1 x2 x3 h K) : CallsH Try.prog 34 #[(.pointer p1), (.int .u32 x2), (.int .i64 x3)] h K :=
  calls_of (args := [(.pointer p1), (.int .u32 x2), (.int .i64 x3)]) (n := 8) (lp := trie_Trie_Above_lp) (cut := trie_Trie_Above_cut) Try.func34 (c := bodyOf Try.f34) (by kernel_rfl) (by kernel_rfl) (by kernel_rfl) (good_by (c := (bodyOf Try.f34)) (i := 1) (l := []) (by kernel_rfl) (fun _ h => by cases h))
    (Eq.mp (trie_Trie_Above_eq p1 x2 x3 h K) H)

/-! ### (*quintet/trie.Trie).Walk: function 35 -/
def trie_Trie_Walk (p1 : Option Addr) (h : Hp) (K : Value → Hp → Prop) : Prop :=
  newC h (.cells #[(.pointer p1)] 60 (0, 0)) fun a3 h2 => 
  K (.func (.func 56) #[] #[(.pointer (some a3))]) h2
def trie_Trie_Walk_lp (i : Nat) (Q : Qx) (tm : Tm) (h : Hp) : Prop := False
def trie_Trie_Walk_cut (i : Nat) : Option (List Nat) := none
set_option maxRecDepth 100000 in
theorem trie_Trie_Walk_eq (p1 : Option Addr) (h : Hp) (K : Value → Hp → Prop) : trie_Trie_Walk p1 h K =
    codeWp Try.prog 4 trie_Trie_Walk_lp trie_Trie_Walk_cut (bodyOf Try.f35) 1 (endQ Try.prog Try.f35.results.toList K) (argTm [(.pointer p1)]) h := by kernel_rfl
set_option maxRecDepth 100000 in
theorem trie_Trie_Walk_ok (p1 : Option Addr) {h : Hp} {K : Value → Hp → Prop} (H : trie_Trie_Walk p1 h K) : CallsH Try.prog 35 #[(.pointer p1)] h K :=
  calls_of (args := [(.pointer p1)]) (n := 4) (lp := trie_Trie_Walk_lp) (cut := trie_Trie_Walk_cut) Try.func35 (c := bodyOf Try.f35) (by kernel_rfl) (by kernel_rfl) (by kernel_rfl) (good_by (c := (bodyOf Try.f35)) (i := 1) (l := []) (by kernel_rfl) (fun _ h => by cases h))
    (Eq.mp (trie_Trie_Walk_eq p1 h K) H)

/-! ### (*quintet/trie.Trie).Nodes: function 36 -/
def trie_Trie_Nodes (p1 : Option Addr) (h : Hp) (K : Value → Hp → Prop) : Prop :=
  ∃ b2 : Bool, PV Try.prog (binOp .eql 60 (.pointer p1) (.pointer none)) (.bool b2) ∧
  br b2
  (K (.int .i64 0) h)
  (drf p1 fun a3 =>
  ∃ x4 : Int, HV Try.prog (Instr.loadAt 3 (.pointer (some (a3.add 4)))) h (.int .i64 x4) ∧ 
  K (.int .i64 x4) h)
def trie_Trie_Nodes_lp (i : Nat) (Q : Qx) (tm : Tm) (h : Hp) : Prop := False
def trie_Trie_Nodes_cut (i : Nat) : Option (List Nat) := none
set_option maxRecDepth 100000 in
theorem trie_Trie_Nodes_eq (p1 : Option Addr) (h : Hp) (K : Value → Hp → Prop) : trie_Trie_Nodes p1 h K =
    codeWp Try.prog 9 trie_Trie_Nodes_lp trie_Trie_Nodes_cut (bodyOf Try.f36) 1 (endQ Try.prog Try.f36.results.toList K) (argTm [(.pointer p1)]) h := by kernel_rfl
set_option maxRecDepth 100000 in
theorem trie_Trie_Nodes_ok (p1 : Option Addr) {h : Hp} {K : Value → Hp → Prop} (H : trie_Trie_Nodes p1 h K) : CallsH Try.prog 36 #[(.pointer p1)] h K :=
  calls_of (args := [(.pointer p1)]) (n := 9) (lp := trie_Trie_Nodes_lp) (cut := trie_Trie_Nodes_cut) Try.func36 (c := bodyOf Try.f36) (by kernel_rfl) (by kernel_rfl) (by kernel_rfl) (good_by (c := (bodyOf Try.f36)) (i := 1) (l := []) (by kernel_rfl) (fun _ h => by cases h))
    (Eq.mp (trie_Trie_Nodes_eq p1 h K) H)

/-! ### (*quintet/trie.Trie).Arena: function 37 -/
def trie_Trie_Arena (p1 : Option Addr) (h : Hp) (K : Value → Hp → Prop) : Prop :=
  ∃ b2 : Bool, PV Try.prog (binOp .eql 60 (.pointer p1) (.pointer none)) (.bool b2) ∧
  br b2
  (K (.int .i64 0) h)
  (drf p1 fun a3 =>
  ∃ A4 : Option Addr, ∃ l4 : Nat, ∃ c4 : Nat, HV Try.prog (Instr.loadAt 108 (.pointer (some (a3.add 2)))) h (.slice A4 l4 c4) ∧ 
  K (.int .i64 (l4 : Int)) h)
def trie_Trie_Arena_lp (i : Nat) (Q : Qx) (tm : Tm) (h : Hp) : Prop := False
def trie_Trie_Arena_cut (i : Nat) : Option (List Nat) := none
set_option maxRecDepth 100000 in
theorem trie_Trie_Arena_eq (p1 : Option Addr) (h : Hp) (K : Value → Hp → Prop) : trie_Trie_Arena p1 h K =
    codeWp Try.prog 10 trie_Trie_Arena_lp trie_Trie_Arena_cut (bodyOf Try.f37) 1 (endQ Try.prog Try.f37.results.toList K) (argTm [(.pointer p1)]) h := by kernel_rfl
set_option maxRecDepth 100000 in
theorem trie_Trie_Arena_ok (p1 : Option Addr) {h : Hp} {K : Value → Hp → Prop} (H : trie_Trie_Arena p1 h K) : CallsH Try.prog 37 #[(.pointer p1)] h K :=
  calls_of (args := [(.pointer p1)]) (n := 10) (lp := trie_Trie_Arena_lp) (cut := trie_Trie_Arena_cut) Try.func37 (c := bodyOf Try.f37) (by kernel_rfl) (by kernel_rfl) (by kernel_rfl) (good_by (c := (bodyOf Try.f37)) (i := 1) (l := []) (by kernel_rfl) (fun _ h => by cases h))
    (Eq.mp (trie_Trie_Arena_eq p1 h K) H)

/-! ### (*quintet/trie.Trie).Above$1: function 55 -/
def trie_Trie_Above_1_j7 (K0 : Hp → Prop) (K1 : Value → Addr → Addr → Addr → Int → Int → Hp → Prop) (v373 : Value) (a374 : Addr) (a375 : Addr) (a376 : Addr) (x377 : Int) (x378 : Int) (h : Hp) : Prop :=
  ∃ p396 : Option Addr, HV Try.prog (Instr.loadAt 60 (.pointer (some a374))) h (.pointer p396) ∧ 
  drf p396 fun a397 =>
  ∃ A398 : Option Addr, ∃ l398 : Nat, ∃ c398 : Nat, HV Try.prog (Instr.loadAt 108 (.pointer (some (a397.add 2)))) h (.slice A398 l398 c398) ∧ 
  ∃ p399 : Option Addr, HV Try.prog (Instr.loadAt 60 (.pointer (some a374))) h (.pointer p399) ∧ 
  ∃ x400 : Int, HV Try.prog (Instr.loadAt 33 (.pointer (some a375))) h (.int .u32 x400) ∧ 
  CallsH Try.prog 53 #[(.pointer p399), (.int .u32 x400), (.int .i64 x378)] h fun r402 h401 =>
  ∃ x403 : Int, r402 = (.int .i64 x403) ∧ HV Try.prog (Instr.loadAt 108 (.pointer (some (a397.add 2)))) h401 (.slice A398 l398 c398) ∧ HV Try.prog (Instr.loadAt 60 (.pointer (some a374))) h401 (.pointer p396) ∧ 
  ∃ a404 : Addr, PV Try.prog (Instr.indexAt 108 (.slice A398 l398 c398) (.int .i32 x377)) (.pointer (some a404)) ∧
  ∃ a405 : Addr, PV Try.prog (Instr.indexAt 114 (.pointer (some a404)) (.int .i64 x403)) (.pointer (some a405)) ∧
  ∃ x406 : Int, HV Try.prog (Instr.loadAt 21 (.pointer (some a405))) h401 (.int .i32 x406) ∧ 
  br (x406 == 0)
  (K0 h401)
  (K1 v373 a374 a375 a376 x406 x378 h401)
def trie_Trie_Above_1_j7_L (Q : Qx) (tm : Tm) (h : Hp) : Prop :=
  selV (tm 0) fun v373 =>
  selA (tm 1) fun a374 =>
  selA (tm 2) fun a375 =>
  selA (tm 3) fun a376 =>
  selI .i32 (tm 5) fun x377 =>
  selI .i64 (tm 6) fun x378 =>
  trie_Trie_Above_1_j7 (fun  h => Q (.ret) (mkTm []) h) (fun (v390 : Value) (a391 : Addr) (a392 : Addr) (a393 : Addr) (x394 : Int) (x395 : Int) h => Q (.normal) (mkTm [(0, some v390), (1, some (.pointer (some a391))), (2, some (.pointer (some a392))), (3, some (.pointer (some a393))), (5, some (.int .i32 x394)), (6, some (.int .i64 x395))]) h) v373 a374 a375 a376 x377 x378 h
def trie_Trie_Above_1_l6 (v236 : Value) (a237 : Addr) (a238 : Addr) (a239 : Addr) (K0 : Hp → Prop)  : Nat → Int → Int → Hp → Prop
  | 0, _, _, _ => False
  | k + 1, x240, x241, h =>
    ∃ p407 : Option Addr, HV Try.prog (Instr.loadAt 60 (.pointer (some a237))) h (.pointer p407) ∧ 
    drf p407 fun a408 =>
    ∃ A409 : Option Addr, ∃ l409 : Nat, ∃ c409 : Nat, HV Try.prog (Instr.loadAt 108 (.pointer (some (a408.add 2)))) h (.slice A409 l409 c409) ∧ 
    ∃ a410 : Addr, PV Try.prog (Instr.indexAt 108 (.slice A409 l409 c409) (.int .i32 x240)) (.pointer (some a410)) ∧
    ∃ x411 : Int, ∃ x412 : Int, ∃ b413 : Bool, ∃ x414 : Int, HV Try.prog (Instr.loadAt 116 (.pointer (some a410))) h (.agg #[(.int .i32 x411), (.int .i32 x412), (.bool b413), (.int .i64 x414)]) ∧ 
    newC h (.cells #[(.int .i32 0), (.int .i32 0), (.bool false), (.int .i64 0)] 116 (0, 0)) fun a416 h415 => 
    HU Try.prog (Instr.storeAt 116 (.pointer (some a416)) (.agg #[(.int .i32 x411), (.int .i32 x412), (.bool b413), (.int .i64 x414)])) h415 fun h417 => 
    ∃ b418 : Bool, HV Try.prog (Instr.loadAt 4 (.pointer (some (a416.add 2)))) h417 (.bool b418) ∧ 
    br b418
    (∃ x419 : Int, HV Try.prog (Instr.loadAt 33 (.pointer (some a238))) h417 (.int .u32 x419) ∧ 
    ∃ p420 : Option Addr, HV Try.prog (Instr.loadAt 60 (.pointer (some a237))) h417 (.pointer p420) ∧ 
    drf p420 fun a421 =>
    ∃ x422 : Int, HV Try.prog (Instr.loadAt 3 (.pointer (some a421))) h417 (.int .i64 x422) ∧ 
    ∃ x423 : Int, PV Try.prog (binOp .shr 88 (.int .u64 (IntKind.u64.wrap (x419))) (.int .i64 (IntKind.i64.wrap (x422 - x241)))) (.int .u64 x423) ∧
    ∃ p424 : Option Addr, HV Try.prog (Instr.loadAt 60 (.pointer (some a237))) h417 (.pointer p424) ∧ 
    drf p424 fun a425 =>
    ∃ x426 : Int, HV Try.prog (Instr.loadAt 3 (.pointer (some a425))) h417 (.int .i64 x426) ∧ 
    ∃ x427 : Int, PV Try.prog (binOp .shl 88 (.int .u64 x423) (.int .i64 (IntKind.i64.wrap (x426 - x241)))) (.int .u64 x427) ∧
    ∃ x428 : Int, HV Try.prog (Instr.loadAt 3 (.pointer (some (a416.add 3)))) h417 (.int .i64 x428) ∧ 
    HN Try.prog (callS v236 #[(.agg #[(.int .u32 (IntKind.u32.wrap (x427))), (.int .i64 x241), (.int .i64 x428)])]) h417 fun r430 h429 =>
    ∃ b431 : Bool, r430 = (.bool b431) ∧ 
    br (!b431)
    (K0 h429)
    (∃ x432 : Int, HV Try.prog (Instr.loadAt 3 (.pointer (some a239))) h429 (.int .i64 x432) ∧ 
    br (x241 == x432)
    (K0 h429)
    (trie_Trie_Above_1_j7
    (fun  (h433 : Hp) =>
    K0 h433)
    (fun (v434 : Value) (a435 : Addr) (a436 : Addr) (a437 : Addr) (x438 : Int) (x439 : Int) (h440 : Hp) =>
    trie_Trie_Above_1_l6 v236 a237 a238 a239 K0 k x438 (IntKind.i64.wrap (x439 + 1)) h440)
    v236 a237 a238 a239 x240 x241 h429)))
    (∃ x441 : Int, HV Try.prog (Instr.loadAt 3 (.pointer (some a239))) h417 (.int .i64 x441) ∧ 
    br (x241 == x441)
    (K0 h417)
    (trie_Trie_Above_1_j7
    (fun  (h442 : Hp) =>
    K0 h442)
    (fun (v443 : Value) (a444 : Addr) (a445 : Addr) (a446 : Addr) (x447 : Int) (x448 : Int) (h449 : Hp) =>
    trie_Trie_Above_1_l6 v236 a237 a238 a239 K0 k x447 (IntKind.i64.wrap (x448 + 1)) h449)
    v236 a237 a238 a239 x240 x241 h417))
def trie_Trie_Above_1_l6_L (Q : Qx) (k : Nat) (tm : Tm) (h : Hp) : Prop :=
  selV (tm 0) fun v236 =>
  selA (tm 1) fun a237 =>
  selA (tm 2) fun a238 =>
  selA (tm 3) fun a239 =>
  selI .i32 (tm 5) fun x240 =>
  selI .i64 (tm 6) fun x241 =>
  trie_Trie_Above_1_l6 v236 a237 a238 a239 (fun  h => Q (.ret) (mkTm []) h) k x240 x241 h
def trie_Trie_Above_1_j4 (K0 : Hp → Prop) (v16 : Value) (a17 : Addr) (a18 : Addr) (a19 : Addr) (h : Hp) : Prop :=
  ∃ k451, trie_Trie_Above_1_l6 v16 a17 a18 a19
  (fun  (h450 : Hp) =>
  K0 h450)
  k451 0 0 h
def trie_Trie_Above_1_j4_L (Q : Qx) (tm : Tm) (h : Hp) : Prop :=
  selV (tm 0) fun v16 =>
  selA (tm 1) fun a17 =>
  selA (tm 2) fun a18 =>
  selA (tm 3) fun a19 =>
  trie_Trie_Above_1_j4 (fun  h => Q (.ret) (mkTm []) h) v16 a17 a18 a19 h
def trie_Trie_Above_1 (f1 : Fn) (f1r : Array Value) (f1c : Array Value) (a2 : Addr) (a3 : Addr) (a4 : Addr) (h : Hp) (K : Value → Hp → Prop) : Prop :=
  ∃ p452 : Option Addr, HV Try.prog (Instr.loadAt 60 (.pointer (some a2))) h (.pointer p452) ∧ 
  ∃ b453 : Bool, PV Try.prog (binOp .eql 60 (.pointer p452) (.pointer none)) (.bool b453) ∧
  br b453
  (K (.tuple #[]) h)
  (∃ p454 : Option Addr, HV Try.prog (Instr.loadAt 60 (.pointer (some a2))) h (.pointer p454) ∧ 
  ∃ x455 : Int, HV Try.prog (Instr.loadAt 33 (.pointer (some a3))) h (.int .u32 x455) ∧ 
  ∃ x456 : Int, HV Try.prog (Instr.loadAt 3 (.pointer (some a4))) h (.int .i64 x456) ∧ 
  CallsH Try.prog 50 #[(.pointer p454), (.int .u32 x455), (.int .i64 x456)] h fun r458 h457 =>
  ∃ b459 : Bool, r458 = (.bool b459) ∧ 
  br (!b459)
  (K (.tuple #[]) h457)
  (∃ p460 : Option Addr, HV Try.prog (Instr.loadAt 60 (.pointer (some a2))) h457 (.pointer p460) ∧ 
  drf p460 fun a461 =>
  ∃ b462 : Bool, HV Try.prog (Instr.loadAt 4 (.pointer (some (a461.add 5)))) h457 (.bool b462) ∧ 
  br (!b462)
  (K (.tuple #[]) h457)
  (trie_Trie_Above_1_j4
  (fun  (h463 : Hp) =>
  K (.tuple #[]) h463)
  (.func f1 f1r f1c) a2 a3 a4 h457)))
def trie_Trie_Above_1_lp (i : Nat) (Q : Qx) (tm : Tm) (h : Hp) : Prop := match Nat.beq i 240 with
  | true => trie_Trie_Above_1_j7_L Q tm h
  | false => match Nat.beq i 30 with
  | true => ∃ k, trie_Trie_Above_1_l6_L Q k tm h
  | false => match Nat.beq i 1 with
  | true => trie_Trie_Above_1_j4_L Q tm h
  | false => False
def trie_Trie_Above_1_cut (i : Nat) : Option (List Nat) := match Nat.beq i 1 with
  | true => some [0, 1, 2, 3]
  | false => match Nat.beq i 240 with
  | true => some [0, 1, 2, 3, 5, 6]
  | false => none
set_option maxRecDepth 100000 in
theorem trie_Trie_Above_1_j7_step (Q : Qx) (v373 : Value) (a374 : Addr) (a375 : Addr) (a376 : Addr) (x377 : Int) (x378 : Int) (h : Hp) : trie_Trie_Above_1_j7_L Q (mkTm [(0, some v373), (1, some (.pointer (some a374))), (2, some (.pointer (some a375))), (3, some (.pointer (some a376))), (5, some (.int .i32 x377)), (6, some (.int .i64 x378))]) h =
    codeWp Try.prog 81 trie_Trie_Above_1_lp trie_Trie_Above_1_cut (sub (bodyOf Try.f55) [true, true, true, false, false, false, false, true]) 481 (maskQ (fun e => match e with | .ret => [] | .normal => [0, 1, 2, 3, 5, 6] | _ => []) Q) (mkTm [(0, some v373), (1, some (.pointer (some a374))), (2, some (.pointer (some a375))), (3, some (.pointer (some a376))), (5, some (.int .i32 x377)), (6, some (.int .i64 x378))]) h := by kernel_rfl
theorem trie_Trie_Above_1_j7_mask (Q : Qx) (tm : Tm) (h : Hp) : trie_Trie_Above_1_j7_L Q tm h ↔ trie_Trie_Above_1_j7_L Q (mask [0, 1, 2, 3, 5, 6] tm) h := Iff.rfl
set_option maxRecDepth 100000 in
theorem trie_Trie_Above_1_j7_snd : SndAt Try.prog 81 none (sub (bodyOf Try.f55) [true, true, true, false, false, false, false, true]) (trie_Trie_Above_1_lp 240) := by
  refine join_sound (lp := trie_Trie_Above_1_lp) (cut := trie_Trie_Above_1_cut) (i := 240) (c := (sub (bodyOf Try.f55) [true, true, true, false, false, false, false, true])) [0, 1, 2, 3, 5, 6] (fun e => match e with | .ret => [] | .normal => [0, 1, 2, 3, 5, 6] | _ => []) trie_Trie_Above_1_j7_L ?_ ?_
  · exact good_by (c := (sub (bodyOf Try.f55) [true, true, true, false, false, false, false, true])) (i := 481) (l := []) (by kernel_rfl) (fun _ h => by cases h)
  · intro Q tm h H
    have H0 := H
    obtain ⟨v373, e0, H⟩ := selV_ex H
    obtain ⟨a374, e1, H⟩ := selA_ex H
    obtain ⟨a375, e2, H⟩ := selA_ex H
    obtain ⟨a376, e3, H⟩ := selA_ex H
    obtain ⟨x377, e5, H⟩ := selI_ex H
    obtain ⟨x378, e6, H⟩ := selI_ex H
    have e : mask [0, 1, 2, 3, 5, 6] tm = mkTm [(0, some v373), (1, some (.pointer (some a374))), (2, some (.pointer (some a375))), (3, some (.pointer (some a376))), (5, some (.int .i32 x377)), (6, some (.int .i64 x378))] := by simp only [mask, List.map_cons, List.map_nil, e0, e1, e2, e3, e5, e6] <;> rfl
    rw [e]
    refine Eq.mp (trie_Trie_Above_1_j7_step Q v373 a374 a375 a376 x377 x378 h) ?_
    rw [← e]
    exact (trie_Trie_Above_1_j7_mask Q tm h).mp H0
set_option maxRecDepth 100000 in
theorem trie_Trie_Above_1_l6_step (Q : Qx) (k : Nat) (v236 : Value) (a237 : Addr) (a238 : Addr) (a239 : Addr) (x240 : Int) (x241 : Int) (h : Hp) : trie_Trie_Above_1_l6_L Q (k + 1) (mkTm [(0, some v236), (1, some (.pointer (some a237))), (2, some (.pointer (some a238))), (3, some (.pointer (some a239))), (5, some (.int .i32 x240)), (6, some (.int .i64 x241))]) h =
    codeWp Try.prog 81 trie_Trie_Above_1_lp trie_Trie_Above_1_cut (sub (bodyOf Try.f55) [true, true, true, false, false]) 60 (thenQ (fun tm h => trie_Trie_Above_1_l6_L Q k (mask [0, 1, 2, 3, 5, 6] tm) h) (maskQ (fun e => match e with | .ret => [] | _ => []) Q)) (mkTm [(0, some v236), (1, some (.pointer (some a237))), (2, some (.pointer (some a238))), (3, some (.pointer (some a239))), (5, some (.int .i32 x240)), (6, some (.int .i64 x241))]) h := by kernel_rfl
theorem trie_Trie_Above_1_l6_mask (Q : Qx) (k : Nat) (tm : Tm) (h : Hp) : trie_Trie_Above_1_l6_L Q k tm h ↔ trie_Trie_Above_1_l6_L Q k (mask [0, 1, 2, 3, 5, 6] tm) h := Iff.rfl
set_option maxRecDepth 100000 in
theorem trie_Trie_Above_1_l6_snd : SndAt Try.prog 81 none (sub (bodyOf Try.f55) [true, true, true, false]) (trie_Trie_Above_1_lp 30) := by
  refine loop_sound (lp := trie_Trie_Above_1_lp) (cut := trie_Trie_Above_1_cut) (i := 30) (c := (sub (bodyOf Try.f55) [true, true, true, false, false])) [0, 1, 2, 3, 5, 6] (fun e => match e with | .ret => [] | _ => []) trie_Trie_Above_1_l6_L ?_ ?_ ?_
  · exact good_by (c := (sub (bodyOf Try.f55) [true, true, true, false, false])) (i := 60) (l := [(240, (sub (bodyOf Try.f55) [true, true, true, false, false, false, false, true]))]) (by kernel_rfl) (List.forall_mem_cons.2 ⟨trie_Trie_Above_1_j7_snd, (fun _ h => by cases h)⟩)
  · intro Q tm h H
    obtain ⟨v236, e0, H⟩ := selV_ex H
    obtain ⟨a237, e1, H⟩ := selA_ex H
    obtain ⟨a238, e2, H⟩ := selA_ex H
    obtain ⟨a239, e3, H⟩ := selA_ex H
    obtain ⟨x240, e5, H⟩ := selI_ex H
    obtain ⟨x241, e6, H⟩ := selI_ex H
    exact H
  · intro Q k tm h H
    have H0 := H
    obtain ⟨v236, e0, H⟩ := selV_ex H
    obtain ⟨a237, e1, H⟩ := selA_ex H
    obtain ⟨a238, e2, H⟩ := selA_ex H
    obtain ⟨a239, e3, H⟩ := selA_ex H
    obtain ⟨x240, e5, H⟩ := selI_ex H
    obtain ⟨x241, e6, H⟩ := selI_ex H
    have e : mask [0, 1, 2, 3, 5, 6] tm = mkTm [(0, some v236), (1, some (.pointer (some a237))), (2, some (.pointer (some a238))), (3, some (.pointer (some a239))), (5, some (.int .i32 x240)), (6, some (.int .i64 x241))] := by simp only [mask, List.map_cons, List.map_nil, e0, e1, e2, e3, e5, e6] <;> rfl
    rw [e]
    refine Eq.mp (trie_Trie_Above_1_l6_step Q k v236 a237 a238 a239 x240 x241 h) ?_
    rw [← e]
    exact (trie_Trie_Above_1_l6_mask Q (k + 1) tm h).mp H0
set_option maxRecDepth 100000 in
theorem trie_Trie_Above_1_j4_step (Q : Qx) (v16 : Value) (a17 : Addr) (a18 : Addr) (a19 : Addr) (h : Hp) : trie_Trie_Above_1_j4_L Q (mkTm [(0, some v16), (1, some (.pointer (some a17))), (2, some (.pointer (some a18))), (3, some (.pointer (some a19)))]) h =
    codeWp Try.prog 81 trie_Trie_Above_1_lp trie_Trie_Above_1_cut (sub (bodyOf Try.f55) [true]) 3 (maskQ (fun e => match e with | .ret => [] | _ => []) Q) (mkTm [(0, some v16), (1, some (.pointer (some a17))), (2, some (.pointer (some a18))), (3, some (.pointer (some a19)))]) h := by kernel_rfl
theorem trie_Trie_Above_1_j4_mask (Q : Qx) (tm : Tm) (h : Hp) : trie_Trie_Above_1_j4_L Q tm h ↔ trie_Trie_Above_1_j4_L Q (mask [0, 1, 2, 3] tm) h := Iff.rfl
set_option maxRecDepth 100000 in
theorem trie_Trie_Above_1_j4_snd : SndAt Try.prog 81 none (sub (bodyOf Try.f55) [true]) (trie_Trie_Above_1_lp 1) := by
  refine join_sound (lp := trie_Trie_Above_1_lp) (cut := trie_Trie_Above_1_cut) (i := 1) (c := (sub (bodyOf Try.f55) [true])) [0, 1, 2, 3] (fun e => match e with | .ret => [] | _ => []) trie_Trie_Above_1_j4_L ?_ ?_
  · exact good_by (c := (sub (bodyOf Try.f55) [true])) (i := 3) (l := [(30, (sub (bodyOf Try.f55) [true, true, true, false]))]) (by kernel_rfl) (List.forall_mem_cons.2 ⟨trie_Trie_Above_1_l6_snd, (fun _ h => by cases h)⟩)
  · intro Q tm h H
    have H0 := H
    obtain ⟨v16, e0, H⟩ := selV_ex H
    obtain ⟨a17, e1, H⟩ := selA_ex H
    obtain ⟨a18, e2, H⟩ := selA_ex H
    obtain ⟨a19, e3, H⟩ := selA_ex H
    have e : mask [0, 1, 2, 3] tm = mkTm [(0, some v16), (1, some (.pointer (some a17))), (2, some (.pointer (some a18))), (3, some (.pointer (some a19)))] := by simp only [mask, List.map_cons, List.map_nil, e0, e1, e2, e3] <;> rfl
    rw [e]
    refine Eq.mp (trie_Trie_Above_1_j4_step Q v16 a17 a18 a19 h) ?_
    rw [← e]
    exact (trie_Trie_Above_1_j4_mask Q tm h).mp H0
set_option maxRecDepth 100000 in
theorem trie_Trie_Above_1_eq (f1 : Fn) (f1r : Array Value) (f1c : Array Value) (a2 : Addr) (a3 : Addr) (a4 : Addr) (h : Hp) (K : Value → Hp → Prop) : trie_Trie_Above_1 f1 f1r f1c a2 a3 a4 h K =
    codeWp Try.prog 81 trie_Trie_Above_1_lp trie_Trie_Above_1_cut (bodyOf Try.f55) 1 (endQ Try.prog Try.f55.results.toList K) (argTm [(.func f1 f1r f1c), (.pointer (some a2)), (.pointer (some a3)), (.pointer (some a4))]) h := by kernel_rfl
set_option maxRecDepth 100000 in
theorem trie_Trie_Above_1_ok (f1 : Fn) (f1r : Array Value) (f1c : Array Value) (a2 : Addr) (a3 : Addr) (a4 : Addr) {h : Hp} {K : Value → Hp → Prop} (H : trie_Trie_Above_1 f1 f1r f1c a2 a3 a4 h K) : CallsH Try.prog 55 #[(.func f1 f1r f1c), (.pointer (some a2)), (.pointer (some a3)), (.pointer (some a4))] h K :=
  calls_of (args := [(.func f1 f1r f1c), (.pointer (some a2)), (.pointer (some a3)), (.pointer (some a4))]) (n := 81) (lp := trie_Trie_Above_1_lp) (cut := trie_Trie_Above_1_cut) Try.func55 (c := bodyOf Try.f55) (by kernel_rfl) (by kernel_rfl) (by kernel_rfl) (good_by (c := (bodyOf Try.f55)) (i := 1) (l := [(1, (sub (bodyOf Try.f55) [true]))]) (by kernel_rfl) (List.forall_mem_cons.2 ⟨trie_Trie_Above_1_j4_snd, (fun _ h => by cases h)⟩))
    (Eq.mp (trie_Trie_Above_1_eq f1 f1r f1c a2 a3 a4 h K) H)

/-! ### (*quintet/trie.Trie).Walk$1: function 56 -/
def trie_Trie_Walk_1 (f1 : Fn) (f1r : Array Value) (f1c : Array Value) (a2 : Addr) (h : Hp) (K : Value → Hp → Prop) : Prop :=
  newC h (.cells #[(.func f1 f1r f1c)] 121 (0, 0)) fun a4 h3 => 
  ∃ p5 : Option Addr, HV Try.prog (Instr.loadAt 60 (.pointer (some a2))) h3 (.pointer p5) ∧ 
  ∃ b6 : Bool, PV Try.prog (binOp .eql 60 (.pointer p5) (.pointer none)) (.bool b6) ∧
  br b6
  (K (.tuple #[]) h3)
  (∃ p7 : Option Addr, HV Try.prog (Instr.loadAt 60 (.pointer (some a2))) h3 (.pointer p7) ∧ 
  drf p7 fun a8 =>
  ∃ b9 : Bool, HV Try.prog (Instr.loadAt 4 (.pointer (some (a8.add 5)))) h3 (.bool b9) ∧ 
  br (!b9)
  (K (.tuple #[]) h3)
  (newC h3 (.cells #[.nilFunc] 122 (0, 0)) fun a11 h10 => 
  HU Try.prog (Instr.storeAt 122 (.pointer (some a11)) (.func (.func 57) #[] #[(.pointer (some a2)), (.pointer (some a4)), (.pointer (some a11))])) h10 fun h12 => 
  ∃ v13 : Value, HV Try.prog (Instr.loadAt 122 (.pointer (some a11))) h12 v13 ∧ 
  HN Try.prog (callS v13 #[(.int .i32 0), (.int .u32 0), (.int .i64 0)]) h12 fun r15 h14 =>
  ∃ b16 : Bool, r15 = (.bool b16) ∧ 
  K (.tuple #[]) h14))
def trie_Trie_Walk_1_lp (i : Nat) (Q : Qx) (tm : Tm) (h : Hp) : Prop := False
def trie_Trie_Walk_1_cut (i : Nat) : Option (List Nat) := none
set_option maxRecDepth 100000 in
theorem trie_Trie_Walk_1_eq (f1 : Fn) (f1r : Array Value) (f1c : Array Value) (a2 : Addr) (h : Hp) (K : Value → Hp → Prop) : trie_Trie_Walk_1 f1 f1r f1c a2 h K =
    codeWp Try.prog 16 trie_Trie_Walk_1_lp trie_Trie_Walk_1_cut (bodyOf Try.f56) 1 (endQ Try.prog Try.f56.results.toList K) (argTm [(.func f1 f1r f1c), (.pointer (some a2))]) h := by kernel_rfl
set_option maxRecDepth 100000 in
theorem trie_Trie_Walk_1_ok (f1 : Fn) (f1r : Array Value) (f1c : Array Value) (a2 : Addr) {h : Hp} {K : Value → Hp → Prop} (H : trie_Trie_Walk_1 f1 f1r f1c a2 h K) : CallsH Try.prog 56 #[(.func f1 f1r f1c), (.pointer (some a2))] h K :=
  calls_of (args := [(.func f1 f1r f1c), (.pointer (some a2))]) (n := 16) (lp := trie_Trie_Walk_1_lp) (cut := trie_Trie_Walk_1_cut) Try.func56 (c := bodyOf Try.f56) (by kernel_rfl) (by kernel_rfl) (by kernel_rfl) (good_by (c := (bodyOf Try.f56)) (i := 1) (l := []) (by kernel_rfl) (fun _ h => by cases h))
    (Eq.mp (trie_Trie_Walk_1_eq f1 f1r f1c a2 h K) H)

/-! ### quintet/quintetlaw12.awake: function 38 -/
def quintetlaw12_awake_j1 (K0 : Bool → Hp → Prop) (p6 : Option Addr) (h : Hp) : Prop :=
  CallsH Try.prog 31 #[(.pointer p6), (.int .u32 128), (.int .i64 1), (.int .i64 5)] h fun r47 h46 =>
  ∃ x48 : Int, r47 = (.int .i64 x48) ∧ 
  CallsH Try.prog 31 #[(.pointer p6), (.int .u32 160), (.int .i64 3), (.int .i64 6)] h46 fun r50 h49 =>
  ∃ x51 : Int, r50 = (.int .i64 x51) ∧ 
  CallsH Try.prog 30 #[(.pointer p6), (.int .u32 191)] h49 fun r53 h52 =>
  ∃ x54 : Int, ∃ x55 : Int, ∃ x56 : Int, ∃ b57 : Bool, r53 = (.tuple #[(.agg #[(.int .u32 x54), (.int .i64 x55), (.int .i64 x56)]), (.bool b57)]) ∧ 
  newC h52 (.cells #[(.int .u32 0), (.int .i64 0), (.int .i64 0)] 66 (0, 0)) fun a59 h58 => 
  HU Try.prog (Instr.storeAt 66 (.pointer (some a59)) (.agg #[(.int .u32 x54), (.int .i64 x55), (.int .i64 x56)])) h58 fun h60 => 
  CallsH Try.prog 36 #[(.pointer p6)] h60 fun r62 h61 =>
  ∃ x63 : Int, r62 = (.int .i64 x63) ∧ 
  CallsH Try.prog 32 #[(.pointer p6), (.int .u32 160), (.int .i64 3)] h61 fun r65 h64 =>
  ∃ x66 : Int, r65 = (.int .i64 x66) ∧ 
  CallsH Try.prog 29 #[(.pointer p6), (.int .u32 128), (.int .i64 1)] h64 fun r68 h67 =>
  ∃ x69 : Int, ∃ b70 : Bool, r68 = (.tuple #[(.int .i64 x69), (.bool b70)]) ∧ 
  br (x48 == 0)
  (br (x51 == 0)
  (br b57
  (∃ x71 : Int, ∃ x72 : Int, ∃ x73 : Int, HV Try.prog (Instr.loadAt 66 (.pointer (some a59))) h67 (.agg #[(.int .u32 x71), (.int .i64 x72), (.int .i64 x73)]) ∧ 
  ∃ b74 : Bool, PV Try.prog (binOp .eql 66 (.agg #[(.int .u32 x71), (.int .i64 x72), (.int .i64 x73)]) (.agg #[(.int .u32 160), (.int .i64 3), (.int .i64 6)])) (.bool b74) ∧
  br b74
  (br (x63 == 4)
  (br (x66 == 0)
  (br (x69 == 5)
  (br b70
  (CallsH Try.prog 36 #[(.pointer p6)] h67 fun r76 h75 =>
  ∃ x77 : Int, r76 = (.int .i64 x77) ∧ 
  br (x77 == 2)
  (CallsH Try.prog 37 #[(.pointer p6)] h75 fun r79 h78 =>
  ∃ x80 : Int, r79 = (.int .i64 x80) ∧ 
  br (x80 == 4)
  (CallsH Try.prog 31 #[(.pointer p6), (.int .u32 160), (.int .i64 2), (.int .i64 0)] h78 fun r82 h81 =>
  ∃ x83 : Int, r82 = (.int .i64 x83) ∧ 
  K0 (x83 == 120) h81)
  (K0 false h78))
  (K0 false h75))
  (K0 false h67))
  (K0 false h67))
  (K0 false h67))
  (K0 false h67))
  (K0 false h67))
  (K0 false h67))
  (K0 false h67))
  (K0 false h67)
def quintetlaw12_awake_j1_L (Q : Qx) (tm : Tm) (h : Hp) : Prop :=
  selP (tm 1) fun p6 =>
  quintetlaw12_awake_j1 (fun (b45 : Bool) h => Q (.ret) (mkTm [(0, some (.bool b45))]) h) p6 h
def quintetlaw12_awake (h : Hp) (K : Value → Hp → Prop) : Prop :=
  CallsH Try.prog 27 #[(.int .i64 8), (.int .i64 20)] h fun r2 h1 =>
  ∃ p3 : Option Addr, ∃ x4 : Int, r2 = (.tuple #[(.pointer p3), (.int .i64 x4)]) ∧ 
  br (x4 != 0)
  (K (.bool false) h1)
  (∃ b84 : Bool, PV Try.prog (binOp .eql 60 (.pointer p3) (.pointer none)) (.bool b84) ∧
  br b84
  (K (.bool false) h1)
  (quintetlaw12_awake_j1
  (fun (b85 : Bool) (h86 : Hp) =>
  K (.bool b85) h86)
  p3 h1))
def quintetlaw12_awake_lp (i : Nat) (Q : Qx) (tm : Tm) (h : Hp) : Prop := match Nat.beq i 7 with
  | true => quintetlaw12_awake_j1_L Q tm h
  | false => False
def quintetlaw12_awake_cut (i : Nat) : Option (List Nat) := match Nat.beq i 7 with
  | true => some [1]
  | false => none
set_option maxRecDepth 100000 in
theorem quintetlaw12_awake_j1_step (Q : Qx) (p6 : Option Addr) (h : Hp) : quintetlaw12_awake_j1_L Q (mkTm [(1, some (.pointer p6))]) h =
    codeWp Try.prog 83 quintetlaw12_awake_lp quintetlaw12_awake_cut (sub (bodyOf Try.f38) [true, true, true]) 15 (maskQ (fun e => match e with | .ret => [0] | _ => []) Q) (mkTm [(1, some (.pointer p6))]) h := by kernel_rfl
theorem quintetlaw12_awake_j1_mask (Q : Qx) (tm : Tm) (h : Hp) : quintetlaw12_awake_j1_L Q tm h ↔ quintetlaw12_awake_j1_L Q (mask [1] tm) h := Iff.rfl
set_option maxRecDepth 100000 in
theorem quintetlaw12_awake_j1_snd : SndAt Try.prog 83 none (sub (bodyOf Try.f38) [true, true, true]) (quintetlaw12_awake_lp 7) := by
  refine join_sound (lp := quintetlaw12_awake_lp) (cut := quintetlaw12_awake_cut) (i := 7) (c := (sub (bodyOf Try.f38) [true, true, true])) [1] (fun e => match e with | .ret => [0] | _ => []) quintetlaw12_awake_j1_L ?_ ?_
  · exact good_by (c := (sub (bodyOf Try.f38) [true, true, true])) (i := 15) (l := []) (by kernel_rfl) (fun _ h => by cases h)
  · intro Q tm h H
    have H0 := H
    obtain ⟨p6, e1, H⟩ := selP_ex H
    have e : mask [1] tm = mkTm [(1, some (.pointer p6))] := by simp only [mask, List.map_cons, List.map_nil, e1] <;> rfl
    rw [e]
    refine Eq.mp (quintetlaw12_awake_j1_step Q p6 h) ?_
    rw [← e]
    exact (quintetlaw12_awake_j1_mask Q tm h).mp H0
set_option maxRecDepth 100000 in
theorem quintetlaw12_awake_eq (h : Hp) (K : Value → Hp → Prop) : quintetlaw12_awake  h K =
    codeWp Try.prog 83 quintetlaw12_awake_lp quintetlaw12_awake_cut (bodyOf Try.f38) 1 (endQ Try.prog Try.f38.results.toList K) (argTm []) h := by kernel_rfl
set_option maxRecDepth 100000 in
theorem quintetlaw12_awake_ok {h : Hp} {K : Value → Hp → Prop} (H : quintetlaw12_awake  h K) : CallsH Try.prog 38 #[] h K :=
  calls_of (args := []) (n := 83) (lp := quintetlaw12_awake_lp) (cut := quintetlaw12_awake_cut) Try.func38 (c := bodyOf Try.f38) (by kernel_rfl) (by kernel_rfl) (by kernel_rfl) (good_by (c := (bodyOf Try.f38)) (i := 1) (l := [(7, (sub (bodyOf Try.f38) [true, true, true]))]) (by kernel_rfl) (List.forall_mem_cons.2 ⟨quintetlaw12_awake_j1_snd, (fun _ h => by cases h)⟩))
    (Eq.mp (quintetlaw12_awake_eq  h K) H)

/-! ### quintet/quintetlaw12.same: function 33 -/
def quintetlaw12_same (f1 : Fn) (f1r : Array Value) (f1c : Array Value) (A2 : Option Addr) (l2 : Nat) (c2 : Nat) (x3 : Int) (h : Hp) (K : Value → Hp → Prop) : Prop :=
  newC h (.cells #[(.func f1 f1r f1c)] 73 (0, 0)) fun a5 h4 => 
  newC h4 (.cells #[(.slice A2 l2 c2)] 79 (0, 0)) fun a7 h6 => 
  newC h6 (.cells #[(.int .i64 x3)] 3 (0, 0)) fun a9 h8 => 
  newC h8 (.cells #[(.bool false)] 4 (0, 0)) fun a11 h10 => 
  ∃ v12 : Value, HV Try.prog (Instr.loadAt 73 (.pointer (some a5))) h10 v12 ∧ 
  ∃ b13 : Bool, PV Try.prog (binOp .eql 73 v12 .nilFunc) (.bool b13) ∧
  br b13
  (HU Try.prog (Instr.storeAt 4 (.pointer (some a11)) (.bool false)) h10 fun h14 => 
  shut [] h14 fun h15 =>
  ∃ b16 : Bool, HV Try.prog (Instr.loadAt 4 (.pointer (some a11))) h15 (.bool b16) ∧ K (.bool b16) h15)
  (∃ x17 : Int, HV Try.prog (Instr.loadAt 3 (.pointer (some a9))) h10 (.int .i64 x17) ∧ 
  br (decide (x17 < 0))
  (∃ x18 : Int, HV Try.prog (Instr.loadAt 3 (.pointer (some a9))) h10 (.int .i64 x18) ∧ 
  HU Try.prog (Instr.storeAt 3 (.pointer (some a9)) (.int .i64 (IntKind.i64.wrap (0 - (IntKind.i64.wrap (x18 + 1)))))) h10 fun h19 => 
  ∃ x20 : Int, HV Try.prog (Instr.loadAt 3 (.pointer (some a9))) h19 (.int .i64 x20) ∧ 
  ∃ A21 : Option Addr, ∃ l21 : Nat, ∃ c21 : Nat, HV Try.prog (Instr.loadAt 79 (.pointer (some a7))) h19 (.slice A21 l21 c21) ∧ 
  ∃ x22 : Int, PV Try.prog (binOp .rem 3 (.int .i64 x20) (.int .i64 (IntKind.i64.wrap ((l21 : Int) + 1)))) (.int .i64 x22) ∧
  HU Try.prog (Instr.storeAt 3 (.pointer (some a9)) (.int .i64 x22)) h19 fun h23 => 
  newC h23 (.cells #[(.int .i64 0)] 3 (0, 0)) fun a25 h24 => 
  HU Try.prog (Instr.storeAt 3 (.pointer (some a25)) (.int .i64 0)) h24 fun h26 => 
  ∃ v27 : Value, HV Try.prog (Instr.loadAt 73 (.pointer (some a5))) h26 v27 ∧ 
  RangeW Try.prog 92 v27 #[25] (sub (bodyOf Try.f33) [true, true, true, true, true, false, true, false, false]) (sub (bodyOf Try.f33) [true, true, true, true, true, false, true, false, true]) (mkTm [(4, some (.pointer (some a7))), (5, some (.pointer (some a9))), (6, some (.pointer (some a11))), (7, some (.pointer (some a25)))]) h26
  (fun (D28 : Nat) (h29 : Hp) =>
  ∃ x67 : Int, HV Try.prog (Instr.loadAt 3 (.pointer (some a9))) h29 (.int .i64 x67) ∧ 
  br (decide (x67 > 0))
  (∃ x68 : Int, HV Try.prog (Instr.loadAt 3 (.pointer (some a25))) h29 (.int .i64 x68) ∧ 
  ∃ x69 : Int, HV Try.prog (Instr.loadAt 3 (.pointer (some a9))) h29 (.int .i64 x69) ∧ 
  br (x68 != x69)
  (HU Try.prog (Instr.storeAt 4 (.pointer (some a11)) (.bool false)) h29 fun h70 => 
  shut (D28 :: []) h70 fun h71 =>
  ∃ b72 : Bool, HV Try.prog (Instr.loadAt 4 (.pointer (some a11))) h71 (.bool b72) ∧ K (.bool b72) h71)
  (HU Try.prog (Instr.storeAt 3 (.pointer (some a25)) (.int .i64 0)) h29 fun h73 => 
  ∃ v74 : Value, HV Try.prog (Instr.loadAt 73 (.pointer (some a5))) h73 v74 ∧ 
  RangeW Try.prog 92 v74 #[51] (sub (bodyOf Try.f33) [true, true, true, true, true, true, true, true, false, true, false, false]) (sub (bodyOf Try.f33) [true, true, true, true, true, true, true, true, false, true, false, true]) (mkTm [(3, some (.pointer (some a5))), (4, some (.pointer (some a7))), (6, some (.pointer (some a11))), (7, some (.pointer (some a25)))]) h73
  (fun (D75 : Nat) (h76 : Hp) =>
  ∃ x80 : Int, HV Try.prog (Instr.loadAt 3 (.pointer (some a25))) h76 (.int .i64 x80) ∧ 
  ∃ A81 : Option Addr, ∃ l81 : Nat, ∃ c81 : Nat, HV Try.prog (Instr.loadAt 79 (.pointer (some a7))) h76 (.slice A81 l81 c81) ∧ 
  HU Try.prog (Instr.storeAt 4 (.pointer (some a11)) (.bool (x80 == (l81 : Int)))) h76 fun h82 => 
  shut (D75 :: (D28 :: [])) h82 fun h83 =>
  ∃ b84 : Bool, HV Try.prog (Instr.loadAt 4 (.pointer (some a11))) h83 (.bool b84) ∧ K (.bool b84) h83)
  (fun (c79 : Code) (D77 : Nat) (h78 : Hp) =>
  jmpQ c79
  (shut (D77 :: (D28 :: [])) h78 fun h85 =>
  ∃ b86 : Bool, HV Try.prog (Instr.loadAt 4 (.pointer (some a11))) h85 (.bool b86) ∧ K (.bool b86) h85)
  [])))
  (HU Try.prog (Instr.storeAt 3 (.pointer (some a25)) (.int .i64 0)) h29 fun h87 => 
  ∃ v88 : Value, HV Try.prog (Instr.loadAt 73 (.pointer (some a5))) h87 v88 ∧ 
  RangeW Try.prog 92 v88 #[51] (sub (bodyOf Try.f33) [true, true, true, true, true, true, true, true, false, true, false, false]) (sub (bodyOf Try.f33) [true, true, true, true, true, true, true, true, false, true, false, true]) (mkTm [(3, some (.pointer (some a5))), (4, some (.pointer (some a7))), (6, some (.pointer (some a11))), (7, some (.pointer (some a25)))]) h87
  (fun (D89 : Nat) (h90 : Hp) =>
  ∃ x94 : Int, HV Try.prog (Instr.loadAt 3 (.pointer (some a25))) h90 (.int .i64 x94) ∧ 
  ∃ A95 : Option Addr, ∃ l95 : Nat, ∃ c95 : Nat, HV Try.prog (Instr.loadAt 79 (.pointer (some a7))) h90 (.slice A95 l95 c95) ∧ 
  HU Try.prog (Instr.storeAt 4 (.pointer (some a11)) (.bool (x94 == (l95 : Int)))) h90 fun h96 => 
  shut (D89 :: (D28 :: [])) h96 fun h97 =>
  ∃ b98 : Bool, HV Try.prog (Instr.loadAt 4 (.pointer (some a11))) h97 (.bool b98) ∧ K (.bool b98) h97)
  (fun (c93 : Code) (D91 : Nat) (h92 : Hp) =>
  jmpQ c93
  (shut (D91 :: (D28 :: [])) h92 fun h99 =>
  ∃ b100 : Bool, HV Try.prog (Instr.loadAt 4 (.pointer (some a11))) h99 (.bool b100) ∧ K (.bool b100) h99)
  [])))
  (fun (c32 : Code) (D30 : Nat) (h31 : Hp) =>
  jmpQ c32
  (shut (D30 :: []) h31 fun h101 =>
  ∃ b102 : Bool, HV Try.prog (Instr.loadAt 4 (.pointer (some a11))) h101 (.bool b102) ∧ K (.bool b102) h101)
  [(0, ∃ x33 : Int, HV Try.prog (Instr.loadAt 3 (.pointer (some a9))) h31 (.int .i64 x33) ∧ 
  br (decide (x33 > 0))
  (∃ x34 : Int, HV Try.prog (Instr.loadAt 3 (.pointer (some a25))) h31 (.int .i64 x34) ∧ 
  ∃ x35 : Int, HV Try.prog (Instr.loadAt 3 (.pointer (some a9))) h31 (.int .i64 x35) ∧ 
  br (x34 != x35)
  (HU Try.prog (Instr.storeAt 4 (.pointer (some a11)) (.bool false)) h31 fun h36 => 
  shut (D30 :: []) h36 fun h37 =>
  ∃ b38 : Bool, HV Try.prog (Instr.loadAt 4 (.pointer (some a11))) h37 (.bool b38) ∧ K (.bool b38) h37)
  (HU Try.prog (Instr.storeAt 3 (.pointer (some a25)) (.int .i64 0)) h31 fun h39 => 
  ∃ v40 : Value, HV Try.prog (Instr.loadAt 73 (.pointer (some a5))) h39 v40 ∧ 
  RangeW Try.prog 92 v40 #[51] (sub (bodyOf Try.f33) [true, true, true, true, true, true, true, true, false, true, false, false]) (sub (bodyOf Try.f33) [true, true, true, true, true, true, true, true, false, true, false, true]) (mkTm [(3, some (.pointer (some a5))), (4, some (.pointer (some a7))), (6, some (.pointer (some a11))), (7, some (.pointer (some a25)))]) h39
  (fun (D41 : Nat) (h42 : Hp) =>
  ∃ x46 : Int, HV Try.prog (Instr.loadAt 3 (.pointer (some a25))) h42 (.int .i64 x46) ∧ 
  ∃ A47 : Option Addr, ∃ l47 : Nat, ∃ c47 : Nat, HV Try.prog (Instr.loadAt 79 (.pointer (some a7))) h42 (.slice A47 l47 c47) ∧ 
  HU Try.prog (Instr.storeAt 4 (.pointer (some a11)) (.bool (x46 == (l47 : Int)))) h42 fun h48 => 
  shut (D41 :: (D30 :: [])) h48 fun h49 =>
  ∃ b50 : Bool, HV Try.prog (Instr.loadAt 4 (.pointer (some a11))) h49 (.bool b50) ∧ K (.bool b50) h49)
  (fun (c45 : Code) (D43 : Nat) (h44 : Hp) =>
  jmpQ c45
  (shut (D43 :: (D30 :: [])) h44 fun h51 =>
  ∃ b52 : Bool, HV Try.prog (Instr.loadAt 4 (.pointer (some a11))) h51 (.bool b52) ∧ K (.bool b52) h51)
  [])))
  (HU Try.prog (Instr.storeAt 3 (.pointer (some a25)) (.int .i64 0)) h31 fun h53 => 
  ∃ v54 : Value, HV Try.prog (Instr.loadAt 73 (.pointer (some a5))) h53 v54 ∧ 
  RangeW Try.prog 92 v54 #[51] (sub (bodyOf Try.f33) [true, true, true, true, true, true, true, true, false, true, false, false]) (sub (bodyOf Try.f33) [true, true, true, true, true, true, true, true, false, true, false, true]) (mkTm [(3, some (.pointer (some a5))), (4, some (.pointer (some a7))), (6, some (.pointer (some a11))), (7, some (.pointer (some a25)))]) h53
  (fun (D55 : Nat) (h56 : Hp) =>
  ∃ x60 : Int, HV Try.prog (Instr.loadAt 3 (.pointer (some a25))) h56 (.int .i64 x60) ∧ 
  ∃ A61 : Option Addr, ∃ l61 : Nat, ∃ c61 : Nat, HV Try.prog (Instr.loadAt 79 (.pointer (some a7))) h56 (.slice A61 l61 c61) ∧ 
  HU Try.prog (Instr.storeAt 4 (.pointer (some a11)) (.bool (x60 == (l61 : Int)))) h56 fun h62 => 
  shut (D55 :: (D30 :: [])) h62 fun h63 =>
  ∃ b64 : Bool, HV Try.prog (Instr.loadAt 4 (.pointer (some a11))) h63 (.bool b64) ∧ K (.bool b64) h63)
  (fun (c59 : Code) (D57 : Nat) (h58 : Hp) =>
  jmpQ c59
  (shut (D57 :: (D30 :: [])) h58 fun h65 =>
  ∃ b66 : Bool, HV Try.prog (Instr.loadAt 4 (.pointer (some a11))) h65 (.bool b66) ∧ K (.bool b66) h65)
  [])))]))
  (∃ x103 : Int, HV Try.prog (Instr.loadAt 3 (.pointer (some a9))) h10 (.int .i64 x103) ∧ 
  ∃ A104 : Option Addr, ∃ l104 : Nat, ∃ c104 : Nat, HV Try.prog (Instr.loadAt 79 (.pointer (some a7))) h10 (.slice A104 l104 c104) ∧ 
  ∃ x105 : Int, PV Try.prog (binOp .rem 3 (.int .i64 x103) (.int .i64 (IntKind.i64.wrap ((l104 : Int) + 1)))) (.int .i64 x105) ∧
  HU Try.prog (Instr.storeAt 3 (.pointer (some a9)) (.int .i64 x105)) h10 fun h106 => 
  newC h106 (.cells #[(.int .i64 0)] 3 (0, 0)) fun a108 h107 => 
  HU Try.prog (Instr.storeAt 3 (.pointer (some a108)) (.int .i64 0)) h107 fun h109 => 
  ∃ v110 : Value, HV Try.prog (Instr.loadAt 73 (.pointer (some a5))) h109 v110 ∧ 
  RangeW Try.prog 92 v110 #[25] (sub (bodyOf Try.f33) [true, true, true, true, true, false, true, false, false]) (sub (bodyOf Try.f33) [true, true, true, true, true, false, true, false, true]) (mkTm [(4, some (.pointer (some a7))), (5, some (.pointer (some a9))), (6, some (.pointer (some a11))), (7, some (.pointer (some a108)))]) h109
  (fun (D111 : Nat) (h112 : Hp) =>
  ∃ x150 : Int, HV Try.prog (Instr.loadAt 3 (.pointer (some a9))) h112 (.int .i64 x150) ∧ 
  br (decide (x150 > 0))
  (∃ x151 : Int, HV Try.prog (Instr.loadAt 3 (.pointer (some a108))) h112 (.int .i64 x151) ∧ 
  ∃ x152 : Int, HV Try.prog (Instr.loadAt 3 (.pointer (some a9))) h112 (.int .i64 x152) ∧ 
  br (x151 != x152)
  (HU Try.prog (Instr.storeAt 4 (.pointer (some a11)) (.bool false)) h112 fun h153 => 
  shut (D111 :: []) h153 fun h154 =>
  ∃ b155 : Bool, HV Try.prog (Instr.loadAt 4 (.pointer (some a11))) h154 (.bool b155) ∧ K (.bool b155) h154)
  (HU Try.prog (Instr.storeAt 3 (.pointer (some a108)) (.int .i64 0)) h112 fun h156 => 
  ∃ v157 : Value, HV Try.prog (Instr.loadAt 73 (.pointer (some a5))) h156 v157 ∧ 
  RangeW Try.prog 92 v157 #[51] (sub (bodyOf Try.f33) [true, true, true, true, true, true, true, true, false, true, false, false]) (sub (bodyOf Try.f33) [true, true, true, true, true, true, true, true, false, true, false, true]) (mkTm [(3, some (.pointer (some a5))), (4, some (.pointer (some a7))), (6, some (.pointer (some a11))), (7, some (.pointer (some a108)))]) h156
  (fun (D158 : Nat) (h159 : Hp) =>
  ∃ x163 : Int, HV Try.prog (Instr.loadAt 3 (.pointer (some a108))) h159 (.int .i64 x163) ∧ 
  ∃ A164 : Option Addr, ∃ l164 : Nat, ∃ c164 : Nat, HV Try.prog (Instr.loadAt 79 (.pointer (some a7))) h159 (.slice A164 l164 c164) ∧ 
  HU Try.prog (Instr.storeAt 4 (.pointer (some a11)) (.bool (x163 == (l164 : Int)))) h159 fun h165 => 
  shut (D158 :: (D111 :: [])) h165 fun h166 =>
  ∃ b167 : Bool, HV Try.prog (Instr.loadAt 4 (.pointer (some a11))) h166 (.bool b167) ∧ K (.bool b167) h166)
  (fun (c162 : Code) (D160 : Nat) (h161 : Hp) =>
  jmpQ c162
  (shut (D160 :: (D111 :: [])) h161 fun h168 =>
  ∃ b169 : Bool, HV Try.prog (Instr.loadAt 4 (.pointer (some a11))) h168 (.bool b169) ∧ K (.bool b169) h168)
  [])))
  (HU Try.prog (Instr.storeAt 3 (.pointer (some a108)) (.int .i64 0)) h112 fun h170 => 
  ∃ v171 : Value, HV Try.prog (Instr.loadAt 73 (.pointer (some a5))) h170 v171 ∧ 
  RangeW Try.prog 92 v171 #[51] (sub (bodyOf Try.f33) [true, true, true, true, true, true, true, true, false, true, false, false]) (sub (bodyOf Try.f33) [true, true, true, true, true, true, true, true, false, true, false, true]) (mkTm [(3, some (.pointer (some a5))), (4, some (.pointer (some a7))), (6, some (.pointer (some a11))), (7, some (.pointer (some a108)))]) h170
  (fun (D172 : Nat) (h173 : Hp) =>
  ∃ x177 : Int, HV Try.prog (Instr.loadAt 3 (.pointer (some a108))) h173 (.int .i64 x177) ∧ 
  ∃ A178 : Option Addr, ∃ l178 : Nat, ∃ c178 : Nat, HV Try.prog (Instr.loadAt 79 (.pointer (some a7))) h173 (.slice A178 l178 c178) ∧ 
  HU Try.prog (Instr.storeAt 4 (.pointer (some a11)) (.bool (x177 == (l178 : Int)))) h173 fun h179 => 
  shut (D172 :: (D111 :: [])) h179 fun h180 =>
  ∃ b181 : Bool, HV Try.prog (Instr.loadAt 4 (.pointer (some a11))) h180 (.bool b181) ∧ K (.bool b181) h180)
  (fun (c176 : Code) (D174 : Nat) (h175 : Hp) =>
  jmpQ c176
  (shut (D174 :: (D111 :: [])) h175 fun h182 =>
  ∃ b183 : Bool, HV Try.prog (Instr.loadAt 4 (.pointer (some a11))) h182 (.bool b183) ∧ K (.bool b183) h182)
  [])))
  (fun (c115 : Code) (D113 : Nat) (h114 : Hp) =>
  jmpQ c115
  (shut (D113 :: []) h114 fun h184 =>
  ∃ b185 : Bool, HV Try.prog (Instr.loadAt 4 (.pointer (some a11))) h184 (.bool b185) ∧ K (.bool b185) h184)
  [(0, ∃ x116 : Int, HV Try.prog (Instr.loadAt 3 (.pointer (some a9))) h114 (.int .i64 x116) ∧ 
  br (decide (x116 > 0))
  (∃ x117 : Int, HV Try.prog (Instr.loadAt 3 (.pointer (some a108))) h114 (.int .i64 x117) ∧ 
  ∃ x118 : Int, HV Try.prog (Instr.loadAt 3 (.pointer (some a9))) h114 (.int .i64 x118) ∧ 
  br (x117 != x118)
  (HU Try.prog (Instr.storeAt 4 (.pointer (some a11)) (.bool false)) h114 fun h119 => 
  shut (D113 :: []) h119 fun h120 =>
  ∃ b121 : Bool, HV Try.prog (Instr.loadAt 4 (.pointer (some a11))) h120 (.bool b121) ∧ K (.bool b121) h120)
  (HU Try.prog (Instr.storeAt 3 (.pointer (some a108)) (.int .i64 0)) h114 fun h122 => 
  ∃ v123 : Value, HV Try.prog (Instr.loadAt 73 (.pointer (some a5))) h122 v123 ∧ 
  RangeW Try.prog 92 v123 #[51] (sub (bodyOf Try.f33) [true, true, true, true, true, true, true, true, false, true, false, false]) (sub (bodyOf Try.f33) [true, true, true, true, true, true, true, true, false, true, false, true]) (mkTm [(3, some (.pointer (some a5))), (4, some (.pointer (some a7))), (6, some (.pointer (some a11))), (7, some (.pointer (some a108)))]) h122
  (fun (D124 : Nat) (h125 : Hp) =>
  ∃ x129 : Int, HV Try.prog (Instr.loadAt 3 (.pointer (some a108))) h125 (.int .i64 x129) ∧ 
  ∃ A130 : Option Addr, ∃ l130 : Nat, ∃ c130 : Nat, HV Try.prog (Instr.loadAt 79 (.pointer (some a7))) h125 (.slice A130 l130 c130) ∧ 
  HU Try.prog (Instr.storeAt 4 (.pointer (some a11)) (.bool (x129 == (l130 : Int)))) h125 fun h131 => 
  shut (D124 :: (D113 :: [])) h131 fun h132 =>
  ∃ b133 : Bool, HV Try.prog (Instr.loadAt 4 (.pointer (some a11))) h132 (.bool b133) ∧ K (.bool b133) h132)
  (fun (c128 : Code) (D126 : Nat) (h127 : Hp) =>
  jmpQ c128
  (shut (D126 :: (D113 :: [])) h127 fun h134 =>
  ∃ b135 : Bool, HV Try.prog (Instr.loadAt 4 (.pointer (some a11))) h134 (.bool b135) ∧ K (.bool b135) h134)
  [])))
  (HU Try.prog (Instr.storeAt 3 (.pointer (some a108)) (.int .i64 0)) h114 fun h136 => 
  ∃ v137 : Value, HV Try.prog (Instr.loadAt 73 (.pointer (some a5))) h136 v137 ∧ 
  RangeW Try.prog 92 v137 #[51] (sub (bodyOf Try.f33) [true, true, true, true, true, true, true, true, false, true, false, false]) (sub (bodyOf Try.f33) [true, true, true, true, true, true, true, true, false, true, false, true]) (mkTm [(3, some (.pointer (some a5))), (4, some (.pointer (some a7))), (6, some (.pointer (some a11))), (7, some (.pointer (some a108)))]) h136
  (fun (D138 : Nat) (h139 : Hp) =>
  ∃ x143 : Int, HV Try.prog (Instr.loadAt 3 (.pointer (some a108))) h139 (.int .i64 x143) ∧ 
  ∃ A144 : Option Addr, ∃ l144 : Nat, ∃ c144 : Nat, HV Try.prog (Instr.loadAt 79 (.pointer (some a7))) h139 (.slice A144 l144 c144) ∧ 
  HU Try.prog (Instr.storeAt 4 (.pointer (some a11)) (.bool (x143 == (l144 : Int)))) h139 fun h145 => 
  shut (D138 :: (D113 :: [])) h145 fun h146 =>
  ∃ b147 : Bool, HV Try.prog (Instr.loadAt 4 (.pointer (some a11))) h146 (.bool b147) ∧ K (.bool b147) h146)
  (fun (c142 : Code) (D140 : Nat) (h141 : Hp) =>
  jmpQ c142
  (shut (D140 :: (D113 :: [])) h141 fun h148 =>
  ∃ b149 : Bool, HV Try.prog (Instr.loadAt 4 (.pointer (some a11))) h148 (.bool b149) ∧ K (.bool b149) h148)
  [])))])))
def quintetlaw12_same_lp (i : Nat) (Q : Qr) (tm : Tm) (dl : List Nat) (h : Hp) : Prop := False
def quintetlaw12_same_cut (i : Nat) : Option (List Nat) := match Nat.beq i 506 with
  | true => some [4, 5, 6, 7]
  | false => match Nat.beq i 4090 with
  | true => some [3, 4, 6, 7]
  | false => none
set_option maxRecDepth 100000 in
theorem quintetlaw12_same_eq (f1 : Fn) (f1r : Array Value) (f1c : Array Value) (A2 : Option Addr) (l2 : Nat) (c2 : Nat) (x3 : Int) (h : Hp) (K : Value → Hp → Prop) : quintetlaw12_same f1 f1r f1c A2 l2 c2 x3 h K =
    rcodeWp Try.prog 92 quintetlaw12_same_lp quintetlaw12_same_cut (bodyOf Try.f33) 1 (endR Try.prog Try.f33.results.toList K) (argTm [(.func f1 f1r f1c), (.slice A2 l2 c2), (.int .i64 x3)]) [] h := by kernel_rfl
set_option maxRecDepth 100000 in
theorem quintetlaw12_same_ok (f1 : Fn) (f1r : Array Value) (f1c : Array Value) (A2 : Option Addr) (l2 : Nat) (c2 : Nat) (x3 : Int) {h : Hp} {K : Value → Hp → Prop} (H : quintetlaw12_same f1 f1r f1c A2 l2 c2 x3 h K) : CallsH Try.prog 33 #[(.func f1 f1r f1c), (.slice A2 l2 c2), (.int .i64 x3)] h K :=
  calls_ofR (args := [(.func f1 f1r f1c), (.slice A2 l2 c2), (.int .i64 x3)]) (n := 92) (lp := quintetlaw12_same_lp) (cut := quintetlaw12_same_cut) Try.func33 (c := bodyOf Try.f33) (by kernel_rfl) (by kernel_rfl) (by kernel_rfl) (good_byR (c := (bodyOf Try.f33)) (i := 1) (l := []) (by kernel_rfl) (fun _ h => by cases h))
    (Eq.mp (quintetlaw12_same_eq f1 f1r f1c A2 l2 c2 x3 h K) H)
/-- A round of the range at 506. -/
def quintetlaw12_same_r1 (a186 : Addr) (a187 : Addr) (a188 : Addr) (a189 : Addr) (x190 : Int) (x191 : Int) (x192 : Int) (l193 : Nat) (h : Hp) (K : Value → Hp → Prop) : Prop :=
  newC h (.cells #[(.int .u32 0), (.int .i64 0), (.int .i64 0)] 66 (0, 0)) fun a195 h194 => 
  HU Try.prog (Instr.storeAt 66 (.pointer (some a195)) (.agg #[(.int .u32 x190), (.int .i64 x191), (.int .i64 x192)])) h194 fun h196 => 
  rbeg l193 h196 fun h197 =>
  ∃ x198 : Int, HV Try.prog (Instr.loadAt 3 (.pointer (some a189))) h197 (.int .i64 x198) ∧ 
  ∃ A199 : Option Addr, ∃ l199 : Nat, ∃ c199 : Nat, HV Try.prog (Instr.loadAt 79 (.pointer (some a186))) h197 (.slice A199 l199 c199) ∧ 
  br (decide (x198 ≥ (l199 : Int)))
  (HU Try.prog (Instr.storeAt 4 (.pointer (some a188)) (.bool false)) h197 fun h200 => 
  rend l193 (some .ret) h200 fun h201 => K (.bool false) h201)
  (∃ x202 : Int, ∃ x203 : Int, ∃ x204 : Int, HV Try.prog (Instr.loadAt 66 (.pointer (some a195))) h197 (.agg #[(.int .u32 x202), (.int .i64 x203), (.int .i64 x204)]) ∧ 
  ∃ A205 : Option Addr, ∃ l205 : Nat, ∃ c205 : Nat, HV Try.prog (Instr.loadAt 79 (.pointer (some a186))) h197 (.slice A205 l205 c205) ∧ 
  ∃ x206 : Int, HV Try.prog (Instr.loadAt 3 (.pointer (some a189))) h197 (.int .i64 x206) ∧ 
  ∃ a207 : Addr, PV Try.prog (Instr.indexAt 79 (.slice A205 l205 c205) (.int .i64 x206)) (.pointer (some a207)) ∧
  ∃ x208 : Int, ∃ x209 : Int, ∃ x210 : Int, HV Try.prog (Instr.loadAt 66 (.pointer (some a207))) h197 (.agg #[(.int .u32 x208), (.int .i64 x209), (.int .i64 x210)]) ∧ 
  ∃ b211 : Bool, PV Try.prog (binOp .neq 66 (.agg #[(.int .u32 x202), (.int .i64 x203), (.int .i64 x204)]) (.agg #[(.int .u32 x208), (.int .i64 x209), (.int .i64 x210)])) (.bool b211) ∧
  br b211
  (HU Try.prog (Instr.storeAt 4 (.pointer (some a188)) (.bool false)) h197 fun h212 => 
  rend l193 (some .ret) h212 fun h213 => K (.bool false) h213)
  (∃ x214 : Int, HV Try.prog (Instr.loadAt 3 (.pointer (some a189))) h197 (.int .i64 x214) ∧ 
  HU Try.prog (Instr.storeAt 3 (.pointer (some a189)) (.int .i64 (IntKind.i64.wrap (x214 + 1)))) h197 fun h215 => 
  ∃ x216 : Int, HV Try.prog (Instr.loadAt 3 (.pointer (some a189))) h215 (.int .i64 x216) ∧ 
  ∃ x217 : Int, HV Try.prog (Instr.loadAt 3 (.pointer (some a187))) h215 (.int .i64 x217) ∧ 
  br (x216 == x217)
  (rend l193 (some (.exit 0)) h215 fun h218 => K (.bool false) h218)
  (rend l193 none h215 fun h219 => K (.bool true) h219)))
set_option maxRecDepth 100000 in
theorem quintetlaw12_same_r1_eq (a186 : Addr) (a187 : Addr) (a188 : Addr) (a189 : Addr) (x190 : Int) (x191 : Int) (x192 : Int) (l193 : Nat) (h : Hp) (K : Value → Hp → Prop) : quintetlaw12_same_r1 a186 a187 a188 a189 x190 x191 x192 l193 h K =
    roundW Try.prog 92 lp0 cut0 l193 (sub (bodyOf Try.f33) [true, true, true, true, true, false, true, false, false]) (sub (bodyOf Try.f33) [true, true, true, true, true, false, true, false, true]) 1 K (prmTm [25] [(.agg #[(.int .u32 x190), (.int .i64 x191), (.int .i64 x192)])] (mkTm [(4, some (.pointer (some a186))), (5, some (.pointer (some a187))), (6, some (.pointer (some a188))), (7, some (.pointer (some a189)))])) h := by kernel_rfl
set_option maxRecDepth 100000 in
theorem quintetlaw12_same_r1_ok (a186 : Addr) (a187 : Addr) (a188 : Addr) (a189 : Addr) (x190 : Int) (x191 : Int) (x192 : Int) {l193 D : Nat} {h : Hp} {r : Loop} {K : Value → Hp → Prop} (hr : h[l193]? = some (.loop r)) (ok : RecOK 92 #[25] (sub (bodyOf Try.f33) [true, true, true, true, true, false, true, false, false]) (sub (bodyOf Try.f33) [true, true, true, true, true, false, true, false, true]) (mkTm [(4, some (.pointer (some a186))), (5, some (.pointer (some a187))), (6, some (.pointer (some a188))), (7, some (.pointer (some a189)))]) D r) (H : quintetlaw12_same_r1 a186 a187 a188 a189 x190 x191 x192 l193 h K) : HN Try.prog (callS (yieldV l193) #[(.agg #[(.int .u32 x190), (.int .i64 x191), (.int .i64 x192)])]) h K :=
  round_sound (lp := lp0) (ps := [25]) (vs := [(.agg #[(.int .u32 x190), (.int .i64 x191), (.int .i64 x192)])]) (i := 1) (good_by (l := []) (by kernel_rfl) (fun _ h => by cases h)) (good_by (l := []) (by kernel_rfl) (fun _ h => by cases h)) hr ok rfl (by kernel_rfl)
    (Eq.mp (quintetlaw12_same_r1_eq a186 a187 a188 a189 x190 x191 x192 l193 h K) H)
/-- A round of the range at 4090. -/
def quintetlaw12_same_r2 (a220 : Addr) (a221 : Addr) (a222 : Addr) (a223 : Addr) (x224 : Int) (x225 : Int) (x226 : Int) (l227 : Nat) (h : Hp) (K : Value → Hp → Prop) : Prop :=
  newC h (.cells #[(.int .u32 0), (.int .i64 0), (.int .i64 0)] 66 (0, 0)) fun a229 h228 => 
  HU Try.prog (Instr.storeAt 66 (.pointer (some a229)) (.agg #[(.int .u32 x224), (.int .i64 x225), (.int .i64 x226)])) h228 fun h230 => 
  rbeg l227 h230 fun h231 =>
  ∃ x232 : Int, HV Try.prog (Instr.loadAt 3 (.pointer (some a223))) h231 (.int .i64 x232) ∧ 
  ∃ A233 : Option Addr, ∃ l233 : Nat, ∃ c233 : Nat, HV Try.prog (Instr.loadAt 79 (.pointer (some a221))) h231 (.slice A233 l233 c233) ∧ 
  br (decide (x232 ≥ (l233 : Int)))
  (HU Try.prog (Instr.storeAt 4 (.pointer (some a222)) (.bool false)) h231 fun h234 => 
  rend l227 (some .ret) h234 fun h235 => K (.bool false) h235)
  (∃ x236 : Int, ∃ x237 : Int, ∃ x238 : Int, HV Try.prog (Instr.loadAt 66 (.pointer (some a229))) h231 (.agg #[(.int .u32 x236), (.int .i64 x237), (.int .i64 x238)]) ∧ 
  ∃ A239 : Option Addr, ∃ l239 : Nat, ∃ c239 : Nat, HV Try.prog (Instr.loadAt 79 (.pointer (some a221))) h231 (.slice A239 l239 c239) ∧ 
  ∃ x240 : Int, HV Try.prog (Instr.loadAt 3 (.pointer (some a223))) h231 (.int .i64 x240) ∧ 
  ∃ a241 : Addr, PV Try.prog (Instr.indexAt 79 (.slice A239 l239 c239) (.int .i64 x240)) (.pointer (some a241)) ∧
  ∃ x242 : Int, ∃ x243 : Int, ∃ x244 : Int, HV Try.prog (Instr.loadAt 66 (.pointer (some a241))) h231 (.agg #[(.int .u32 x242), (.int .i64 x243), (.int .i64 x244)]) ∧ 
  ∃ b245 : Bool, PV Try.prog (binOp .neq 66 (.agg #[(.int .u32 x236), (.int .i64 x237), (.int .i64 x238)]) (.agg #[(.int .u32 x242), (.int .i64 x243), (.int .i64 x244)])) (.bool b245) ∧
  br b245
  (HU Try.prog (Instr.storeAt 4 (.pointer (some a222)) (.bool false)) h231 fun h246 => 
  rend l227 (some .ret) h246 fun h247 => K (.bool false) h247)
  (∃ x248 : Int, HV Try.prog (Instr.loadAt 3 (.pointer (some a223))) h231 (.int .i64 x248) ∧ 
  HU Try.prog (Instr.storeAt 3 (.pointer (some a223)) (.int .i64 (IntKind.i64.wrap (x248 + 1)))) h231 fun h249 => 
  ∃ x250 : Int, HV Try.prog (Instr.loadAt 3 (.pointer (some a223))) h249 (.int .i64 x250) ∧ 
  br (decide (x250 > 2))
  (rend l227 none h249 fun h251 => K (.bool true) h251)
  (newC h249 (.cells #[(.int .i64 0)] 3 (0, 0)) fun a253 h252 => 
  HU Try.prog (Instr.storeAt 3 (.pointer (some a253)) (.int .i64 0)) h252 fun h254 => 
  ∃ v255 : Value, HV Try.prog (Instr.loadAt 73 (.pointer (some a220))) h254 v255 ∧ 
  RangeN Try.prog 92 l227 v255 #[69] (sub (bodyOf Try.f33) [true, true, true, true, true, true, true, true, false, true, false, true, false, true, true, true, true, false, true, false, false]) (sub (bodyOf Try.f33) [true, true, true, true, true, true, true, true, false, true, false, true, false, true, true, true, true, false, true, false, true]) (mkTm [(4, some (.pointer (some a221))), (6, some (.pointer (some a222))), (10, some (.pointer (some a253)))]) h254
  (fun (h256 : Hp) =>
  ∃ x259 : Int, HV Try.prog (Instr.loadAt 3 (.pointer (some a253))) h256 (.int .i64 x259) ∧ 
  ∃ A260 : Option Addr, ∃ l260 : Nat, ∃ c260 : Nat, HV Try.prog (Instr.loadAt 79 (.pointer (some a221))) h256 (.slice A260 l260 c260) ∧ 
  br (x259 != (l260 : Int))
  (HU Try.prog (Instr.storeAt 4 (.pointer (some a222)) (.bool false)) h256 fun h261 => 
  rend l227 (some .ret) h261 fun h262 => K (.bool false) h262)
  (rend l227 none h256 fun h263 => K (.bool true) h263))
  (fun (c258 : Code) (h257 : Hp) =>
  jmpQ c258
  (rend l227 (some .ret) h257 fun h264 => K (.bool false) h264)
  []))))
def quintetlaw12_same_r2_lp (l : Nat) (i : Nat) (Q : Qx) (tm : Tm) (h : Hp) : Prop := match Nat.beq i 890 with
  | true => rngN Try.prog 92 l (.tmp 68) #[69] (sub (bodyOf Try.f33) [true, true, true, true, true, true, true, true, false, true, false, true, false, true, true, true, true, false, true, false, false]) (sub (bodyOf Try.f33) [true, true, true, true, true, true, true, true, false, true, false, true, false, true, true, true, true, false, true, false, true]) [4, 6, 10] Q tm h
  | false => False
set_option maxRecDepth 100000 in
theorem quintetlaw12_same_r2_snd890 (l : Nat) : SndAt Try.prog 92 (some l) (sub (bodyOf Try.f33) [true, true, true, true, true, true, true, true, false, true, false, true, false, true, true, true, true, false, true, false]) (quintetlaw12_same_r2_lp l 890) :=
  rngN_snd (g := .tmp 68) (ps := #[69]) (ca := (sub (bodyOf Try.f33) [true, true, true, true, true, true, true, true, false, true, false, true, false, true, true, true, true, false, true, false, false])) (cb := (sub (bodyOf Try.f33) [true, true, true, true, true, true, true, true, false, true, false, true, false, true, true, true, true, false, true, false, true])) (live := [4, 6, 10]) (by kernel_rfl)
set_option maxRecDepth 100000 in
theorem quintetlaw12_same_r2_eq (a220 : Addr) (a221 : Addr) (a222 : Addr) (a223 : Addr) (x224 : Int) (x225 : Int) (x226 : Int) (l227 : Nat) (h : Hp) (K : Value → Hp → Prop) : quintetlaw12_same_r2 a220 a221 a222 a223 x224 x225 x226 l227 h K =
    roundW Try.prog 92 (quintetlaw12_same_r2_lp l227) cut0 l227 (sub (bodyOf Try.f33) [true, true, true, true, true, true, true, true, false, true, false, false]) (sub (bodyOf Try.f33) [true, true, true, true, true, true, true, true, false, true, false, true]) 1 K (prmTm [51] [(.agg #[(.int .u32 x224), (.int .i64 x225), (.int .i64 x226)])] (mkTm [(3, some (.pointer (some a220))), (4, some (.pointer (some a221))), (6, some (.pointer (some a222))), (7, some (.pointer (some a223)))])) h := by kernel_rfl
set_option maxRecDepth 100000 in
theorem quintetlaw12_same_r2_ok (a220 : Addr) (a221 : Addr) (a222 : Addr) (a223 : Addr) (x224 : Int) (x225 : Int) (x226 : Int) {l227 D : Nat} {h : Hp} {r : Loop} {K : Value → Hp → Prop} (hr : h[l227]? = some (.loop r)) (ok : RecOK 92 #[51] (sub (bodyOf Try.f33) [true, true, true, true, true, true, true, true, false, true, false, false]) (sub (bodyOf Try.f33) [true, true, true, true, true, true, true, true, false, true, false, true]) (mkTm [(3, some (.pointer (some a220))), (4, some (.pointer (some a221))), (6, some (.pointer (some a222))), (7, some (.pointer (some a223)))]) D r) (H : quintetlaw12_same_r2 a220 a221 a222 a223 x224 x225 x226 l227 h K) : HN Try.prog (callS (yieldV l227) #[(.agg #[(.int .u32 x224), (.int .i64 x225), (.int .i64 x226)])]) h K :=
  round_sound (lp := (quintetlaw12_same_r2_lp l227)) (ps := [51]) (vs := [(.agg #[(.int .u32 x224), (.int .i64 x225), (.int .i64 x226)])]) (i := 1) (good_by (l := []) (by kernel_rfl) (fun _ h => by cases h)) (good_by (l := [(890, (sub (bodyOf Try.f33) [true, true, true, true, true, true, true, true, false, true, false, true, false, true, true, true, true, false, true, false]))]) (by kernel_rfl) (List.forall_mem_cons.2 ⟨quintetlaw12_same_r2_snd890 l227, (fun _ h => by cases h)⟩)) hr ok rfl (by kernel_rfl)
    (Eq.mp (quintetlaw12_same_r2_eq a220 a221 a222 a223 x224 x225 x226 l227 h K) H)
/-- A round of the range at 2094458. -/
def quintetlaw12_same_r3 (a265 : Addr) (a266 : Addr) (a267 : Addr) (x268 : Int) (x269 : Int) (x270 : Int) (l271 : Nat) (h : Hp) (K : Value → Hp → Prop) : Prop :=
  newC h (.cells #[(.int .u32 0), (.int .i64 0), (.int .i64 0)] 66 (0, 0)) fun a273 h272 => 
  HU Try.prog (Instr.storeAt 66 (.pointer (some a273)) (.agg #[(.int .u32 x268), (.int .i64 x269), (.int .i64 x270)])) h272 fun h274 => 
  rbeg l271 h274 fun h275 =>
  ∃ x276 : Int, HV Try.prog (Instr.loadAt 3 (.pointer (some a267))) h275 (.int .i64 x276) ∧ 
  ∃ A277 : Option Addr, ∃ l277 : Nat, ∃ c277 : Nat, HV Try.prog (Instr.loadAt 79 (.pointer (some a265))) h275 (.slice A277 l277 c277) ∧ 
  br (decide (x276 ≥ (l277 : Int)))
  (HU Try.prog (Instr.storeAt 4 (.pointer (some a266)) (.bool false)) h275 fun h278 => 
  rend l271 (some .ret) h278 fun h279 => K (.bool false) h279)
  (∃ x280 : Int, ∃ x281 : Int, ∃ x282 : Int, HV Try.prog (Instr.loadAt 66 (.pointer (some a273))) h275 (.agg #[(.int .u32 x280), (.int .i64 x281), (.int .i64 x282)]) ∧ 
  ∃ A283 : Option Addr, ∃ l283 : Nat, ∃ c283 : Nat, HV Try.prog (Instr.loadAt 79 (.pointer (some a265))) h275 (.slice A283 l283 c283) ∧ 
  ∃ x284 : Int, HV Try.prog (Instr.loadAt 3 (.pointer (some a267))) h275 (.int .i64 x284) ∧ 
  ∃ a285 : Addr, PV Try.prog (Instr.indexAt 79 (.slice A283 l283 c283) (.int .i64 x284)) (.pointer (some a285)) ∧
  ∃ x286 : Int, ∃ x287 : Int, ∃ x288 : Int, HV Try.prog (Instr.loadAt 66 (.pointer (some a285))) h275 (.agg #[(.int .u32 x286), (.int .i64 x287), (.int .i64 x288)]) ∧ 
  ∃ b289 : Bool, PV Try.prog (binOp .neq 66 (.agg #[(.int .u32 x280), (.int .i64 x281), (.int .i64 x282)]) (.agg #[(.int .u32 x286), (.int .i64 x287), (.int .i64 x288)])) (.bool b289) ∧
  br b289
  (HU Try.prog (Instr.storeAt 4 (.pointer (some a266)) (.bool false)) h275 fun h290 => 
  rend l271 (some .ret) h290 fun h291 => K (.bool false) h291)
  (∃ x292 : Int, HV Try.prog (Instr.loadAt 3 (.pointer (some a267))) h275 (.int .i64 x292) ∧ 
  HU Try.prog (Instr.storeAt 3 (.pointer (some a267)) (.int .i64 (IntKind.i64.wrap (x292 + 1)))) h275 fun h293 => 
  rend l271 none h293 fun h294 => K (.bool true) h294))
set_option maxRecDepth 100000 in
theorem quintetlaw12_same_r3_eq (a265 : Addr) (a266 : Addr) (a267 : Addr) (x268 : Int) (x269 : Int) (x270 : Int) (l271 : Nat) (h : Hp) (K : Value → Hp → Prop) : quintetlaw12_same_r3 a265 a266 a267 x268 x269 x270 l271 h K =
    roundW Try.prog 92 lp0 cut0 l271 (sub (bodyOf Try.f33) [true, true, true, true, true, true, true, true, false, true, false, true, false, true, true, true, true, false, true, false, false]) (sub (bodyOf Try.f33) [true, true, true, true, true, true, true, true, false, true, false, true, false, true, true, true, true, false, true, false, true]) 1 K (prmTm [69] [(.agg #[(.int .u32 x268), (.int .i64 x269), (.int .i64 x270)])] (mkTm [(4, some (.pointer (some a265))), (6, some (.pointer (some a266))), (10, some (.pointer (some a267)))])) h := by kernel_rfl
set_option maxRecDepth 100000 in
theorem quintetlaw12_same_r3_ok (a265 : Addr) (a266 : Addr) (a267 : Addr) (x268 : Int) (x269 : Int) (x270 : Int) {l271 D : Nat} {h : Hp} {r : Loop} {K : Value → Hp → Prop} (hr : h[l271]? = some (.loop r)) (ok : RecOK 92 #[69] (sub (bodyOf Try.f33) [true, true, true, true, true, true, true, true, false, true, false, true, false, true, true, true, true, false, true, false, false]) (sub (bodyOf Try.f33) [true, true, true, true, true, true, true, true, false, true, false, true, false, true, true, true, true, false, true, false, true]) (mkTm [(4, some (.pointer (some a265))), (6, some (.pointer (some a266))), (10, some (.pointer (some a267)))]) D r) (H : quintetlaw12_same_r3 a265 a266 a267 x268 x269 x270 l271 h K) : HN Try.prog (callS (yieldV l271) #[(.agg #[(.int .u32 x268), (.int .i64 x269), (.int .i64 x270)])]) h K :=
  round_sound (lp := lp0) (ps := [69]) (vs := [(.agg #[(.int .u32 x268), (.int .i64 x269), (.int .i64 x270)])]) (i := 1) (good_by (l := []) (by kernel_rfl) (fun _ h => by cases h)) (good_by (l := []) (by kernel_rfl) (fun _ h => by cases h)) hr ok rfl (by kernel_rfl)
    (Eq.mp (quintetlaw12_same_r3_eq a265 a266 a267 x268 x269 x270 l271 h K) H)

/-! ### (*quintet/trie.Trie).may: function 50 -/
def trie_Trie_may (p1 : Option Addr) (x2 : Int) (x3 : Int) (h : Hp) (K : Value → Hp → Prop) : Prop :=
  br (decide (x3 ≥ 0))
  (drf p1 fun a4 =>
  ∃ x5 : Int, HV Try.prog (Instr.loadAt 3 (.pointer (some a4))) h (.int .i64 x5) ∧ 
  br (decide (x3 ≤ x5))
  (drf p1 fun a6 =>
  ∃ x7 : Int, HV Try.prog (Instr.loadAt 3 (.pointer (some a6))) h (.int .i64 x7) ∧ 
  ∃ x8 : Int, PV Try.prog (binOp .shr 88 (.int .u64 (IntKind.u64.wrap (x2))) (.int .i64 x7)) (.int .u64 x8) ∧
  br (x8 == 0)
  (∃ x9 : Int, PV Try.prog (binOp .shl 88 (.int .u64 (IntKind.u64.wrap (x2))) (.int .i64 x3)) (.int .u64 x9) ∧
  drf p1 fun a10 =>
  ∃ x11 : Int, HV Try.prog (Instr.loadAt 3 (.pointer (some a10))) h (.int .i64 x11) ∧ 
  ∃ x12 : Int, PV Try.prog (binOp .shl 88 (.int .u64 1) (.int .i64 x11)) (.int .u64 x12) ∧
  K (.bool ((bAnd .u64 x9 (IntKind.u64.wrap (x12 - 1))) == 0)) h)
  (K (.bool false) h))
  (K (.bool false) h))
  (K (.bool false) h)
def trie_Trie_may_lp (i : Nat) (Q : Qx) (tm : Tm) (h : Hp) : Prop := False
def trie_Trie_may_cut (i : Nat) : Option (List Nat) := none
set_option maxRecDepth 100000 in
theorem trie_Trie_may_eq (p1 : Option Addr) (x2 : Int) (x3 : Int) (h : Hp) (K : Value → Hp → Prop) : trie_Trie_may p1 x2 x3 h K =
    codeWp Try.prog 41 trie_Trie_may_lp trie_Trie_may_cut (bodyOf Try.f50) 1 (endQ Try.prog Try.f50.results.toList K) (argTm [(.pointer p1), (.int .u32 x2), (.int .i64 x3)]) h := by kernel_rfl
set_option maxRecDepth 100000 in
theorem trie_Trie_may_ok (p1 : Option Addr) (x2 : Int) (x3 : Int) {h : Hp} {K : Value → Hp → Prop} (H : trie_Trie_may p1 x2 x3 h K) : CallsH Try.prog 50 #[(.pointer p1), (.int .u32 x2), (.int .i64 x3)] h K :=
  calls_of (args := [(.pointer p1), (.int .u32 x2), (.int .i64 x3)]) (n := 41) (lp := trie_Trie_may_lp) (cut := trie_Trie_may_cut) Try.func50 (c := bodyOf Try.f50) (by kernel_rfl) (by kernel_rfl) (by kernel_rfl) (good_by (c := (bodyOf Try.f50)) (i := 1) (l := []) (by kernel_rfl) (fun _ h => by cases h))
    (Eq.mp (trie_Trie_may_eq p1 x2 x3 h K) H)

/-! ### (*quintet/trie.Trie).down: function 51 -/
def trie_Trie_down_l1 (p6 : Option Addr) (x7 : Int) (x8 : Int) (x10 : Int) (K0 : Int → Int → Hp → Prop) (K1 : Int → Int → Hp → Prop)  : Nat → Int → Int → Hp → Prop
  | 0, _, _, _ => False
  | k + 1, x9, x11, h =>
    br (decide (x11 < x10))
    (drf p6 fun a24 =>
    ∃ A25 : Option Addr, ∃ l25 : Nat, ∃ c25 : Nat, HV Try.prog (Instr.loadAt 108 (.pointer (some (a24.add 2)))) h (.slice A25 l25 c25) ∧ 
    CallsH Try.prog 53 #[(.pointer p6), (.int .u32 x7), (.int .i64 x11)] h fun r27 h26 =>
    ∃ x28 : Int, r27 = (.int .i64 x28) ∧ HV Try.prog (Instr.loadAt 108 (.pointer (some (a24.add 2)))) h26 (.slice A25 l25 c25) ∧ 
    ∃ a29 : Addr, PV Try.prog (Instr.indexAt 108 (.slice A25 l25 c25) (.int .i32 x9)) (.pointer (some a29)) ∧
    ∃ a30 : Addr, PV Try.prog (Instr.indexAt 114 (.pointer (some a29)) (.int .i64 x28)) (.pointer (some a30)) ∧
    ∃ x31 : Int, HV Try.prog (Instr.loadAt 21 (.pointer (some a30))) h26 (.int .i32 x31) ∧ 
    br (x31 == 0)
    (K0 x9 x11 h26)
    (trie_Trie_down_l1 p6 x7 x8 x10 K0 K1 k x31 (IntKind.i64.wrap (x11 + 1)) h26))
    (K1 x8 x9 h)
def trie_Trie_down_l1_L (Q : Qx) (k : Nat) (tm : Tm) (h : Hp) : Prop :=
  selP (tm 0) fun p6 =>
  selI .u32 (tm 1) fun x7 =>
  selI .i64 (tm 2) fun x8 =>
  selI .i32 (tm 8) fun x9 =>
  selI .i64 (tm 16) fun x10 =>
  selI .i64 (tm 17) fun x11 =>
  trie_Trie_down_l1 p6 x7 x8 x10 (fun (x20 : Int) (x21 : Int) h => Q (.ret) (mkTm [(6, some (.int .i32 x20)), (7, some (.int .i64 x21))]) h) (fun (x22 : Int) (x23 : Int) h => Q (.exit 0) (mkTm [(2, some (.int .i64 x22)), (8, some (.int .i32 x23))]) h) k x9 x11 h
def trie_Trie_down (p1 : Option Addr) (x2 : Int) (x3 : Int) (h : Hp) (K : Value → Hp → Prop) : Prop :=
  drf p1 fun a4 =>
  ∃ b5 : Bool, HV Try.prog (Instr.loadAt 4 (.pointer (some (a4.add 5)))) h (.bool b5) ∧ 
  br (!b5)
  (K (.tuple #[(.int .i32 0), (.int .i64 (-1))]) h)
  (∃ k38, trie_Trie_down_l1 p1 x2 x3 x3
  (fun (x32 : Int) (x33 : Int) (h34 : Hp) =>
  K (.tuple #[(.int .i32 x32), (.int .i64 x33)]) h34)
  (fun (x35 : Int) (x36 : Int) (h37 : Hp) =>
  K (.tuple #[(.int .i32 x36), (.int .i64 x35)]) h37)
  k38 0 0 h)
def trie_Trie_down_lp (i : Nat) (Q : Qx) (tm : Tm) (h : Hp) : Prop := match Nat.beq i 122 with
  | true => ∃ k, trie_Trie_down_l1_L Q k tm h
  | false => False
def trie_Trie_down_cut (i : Nat) : Option (List Nat) := none
set_option maxRecDepth 100000 in
theorem trie_Trie_down_l1_step (Q : Qx) (k : Nat) (p6 : Option Addr) (x7 : Int) (x8 : Int) (x9 : Int) (x10 : Int) (x11 : Int) (h : Hp) : trie_Trie_down_l1_L Q (k + 1) (mkTm [(0, some (.pointer p6)), (1, some (.int .u32 x7)), (2, some (.int .i64 x8)), (8, some (.int .i32 x9)), (16, some (.int .i64 x10)), (17, some (.int .i64 x11))]) h =
    codeWp Try.prog 41 trie_Trie_down_lp trie_Trie_down_cut (sub (bodyOf Try.f51) [true, true, true, false, true, false, false]) 244 (thenQ (fun tm h => trie_Trie_down_l1_L Q k (mask [0, 1, 2, 8, 16, 17] tm) h) (maskQ (fun e => match e with | .ret => [6, 7] | .exit 0 => [2, 8] | _ => []) Q)) (mkTm [(0, some (.pointer p6)), (1, some (.int .u32 x7)), (2, some (.int .i64 x8)), (8, some (.int .i32 x9)), (16, some (.int .i64 x10)), (17, some (.int .i64 x11))]) h := by kernel_rfl
theorem trie_Trie_down_l1_mask (Q : Qx) (k : Nat) (tm : Tm) (h : Hp) : trie_Trie_down_l1_L Q k tm h ↔ trie_Trie_down_l1_L Q k (mask [0, 1, 2, 8, 16, 17] tm) h := Iff.rfl
set_option maxRecDepth 100000 in
theorem trie_Trie_down_l1_snd : SndAt Try.prog 41 none (sub (bodyOf Try.f51) [true, true, true, false, true, false]) (trie_Trie_down_lp 122) := by
  refine loop_sound (lp := trie_Trie_down_lp) (cut := trie_Trie_down_cut) (i := 122) (c := (sub (bodyOf Try.f51) [true, true, true, false, true, false, false])) [0, 1, 2, 8, 16, 17] (fun e => match e with | .ret => [6, 7] | .exit 0 => [2, 8] | _ => []) trie_Trie_down_l1_L ?_ ?_ ?_
  · exact good_by (c := (sub (bodyOf Try.f51) [true, true, true, false, true, false, false])) (i := 244) (l := []) (by kernel_rfl) (fun _ h => by cases h)
  · intro Q tm h H
    obtain ⟨p6, e0, H⟩ := selP_ex H
    obtain ⟨x7, e1, H⟩ := selI_ex H
    obtain ⟨x8, e2, H⟩ := selI_ex H
    obtain ⟨x9, e8, H⟩ := selI_ex H
    obtain ⟨x10, e16, H⟩ := selI_ex H
    obtain ⟨x11, e17, H⟩ := selI_ex H
    exact H
  · intro Q k tm h H
    have H0 := H
    obtain ⟨p6, e0, H⟩ := selP_ex H
    obtain ⟨x7, e1, H⟩ := selI_ex H
    obtain ⟨x8, e2, H⟩ := selI_ex H
    obtain ⟨x9, e8, H⟩ := selI_ex H
    obtain ⟨x10, e16, H⟩ := selI_ex H
    obtain ⟨x11, e17, H⟩ := selI_ex H
    have e : mask [0, 1, 2, 8, 16, 17] tm = mkTm [(0, some (.pointer p6)), (1, some (.int .u32 x7)), (2, some (.int .i64 x8)), (8, some (.int .i32 x9)), (16, some (.int .i64 x10)), (17, some (.int .i64 x11))] := by simp only [mask, List.map_cons, List.map_nil, e0, e1, e2, e8, e16, e17] <;> rfl
    rw [e]
    refine Eq.mp (trie_Trie_down_l1_step Q k p6 x7 x8 x9 x10 x11 h) ?_
    rw [← e]
    exact (trie_Trie_down_l1_mask Q (k + 1) tm h).mp H0
set_option maxRecDepth 100000 in
theorem trie_Trie_down_eq (p1 : Option Addr) (x2 : Int) (x3 : Int) (h : Hp) (K : Value → Hp → Prop) : trie_Trie_down p1 x2 x3 h K =
    codeWp Try.prog 41 trie_Trie_down_lp trie_Trie_down_cut (bodyOf Try.f51) 1 (endQ Try.prog Try.f51.results.toList K) (argTm [(.pointer p1), (.int .u32 x2), (.int .i64 x3)]) h := by kernel_rfl
set_option maxRecDepth 100000 in
theorem trie_Trie_down_ok (p1 : Option Addr) (x2 : Int) (x3 : Int) {h : Hp} {K : Value → Hp → Prop} (H : trie_Trie_down p1 x2 x3 h K) : CallsH Try.prog 51 #[(.pointer p1), (.int .u32 x2), (.int .i64 x3)] h K :=
  calls_of (args := [(.pointer p1), (.int .u32 x2), (.int .i64 x3)]) (n := 41) (lp := trie_Trie_down_lp) (cut := trie_Trie_down_cut) Try.func51 (c := bodyOf Try.f51) (by kernel_rfl) (by kernel_rfl) (by kernel_rfl) (good_by (c := (bodyOf Try.f51)) (i := 1) (l := [(122, (sub (bodyOf Try.f51) [true, true, true, false, true, false]))]) (by kernel_rfl) (List.forall_mem_cons.2 ⟨trie_Trie_down_l1_snd, (fun _ h => by cases h)⟩))
    (Eq.mp (trie_Trie_down_eq p1 x2 x3 h K) H)

/-! ### (*quintet/trie.Trie).take: function 52 -/
def trie_Trie_take (p1 : Option Addr) (h : Hp) (K : Value → Hp → Prop) : Prop :=
  drf p1 fun a2 =>
  ∃ x3 : Int, HV Try.prog (Instr.loadAt 3 (.pointer (some (a2.add 4)))) h (.int .i64 x3) ∧ 
  drf p1 fun a4 =>
  HU Try.prog (Instr.storeAt 3 (.pointer (some (a4.add 4))) (.int .i64 (IntKind.i64.wrap (x3 + 1)))) h fun h5 => 
  drf p1 fun a6 =>
  ∃ x7 : Int, HV Try.prog (Instr.loadAt 21 (.pointer (some (a6.add 3)))) h5 (.int .i32 x7) ∧ 
  br (decide (x7 > 0))
  (drf p1 fun a8 =>
  ∃ x9 : Int, HV Try.prog (Instr.loadAt 21 (.pointer (some (a8.add 3)))) h5 (.int .i32 x9) ∧ 
  drf p1 fun a10 =>
  ∃ A11 : Option Addr, ∃ l11 : Nat, ∃ c11 : Nat, HV Try.prog (Instr.loadAt 108 (.pointer (some (a10.add 2)))) h5 (.slice A11 l11 c11) ∧ 
  ∃ a12 : Addr, PV Try.prog (Instr.indexAt 108 (.slice A11 l11 c11) (.int .i32 x9)) (.pointer (some a12)) ∧
  ∃ a13 : Addr, PV Try.prog (Instr.indexAt 114 (.pointer (some a12)) (.int .i64 0)) (.pointer (some a13)) ∧
  ∃ x14 : Int, HV Try.prog (Instr.loadAt 21 (.pointer (some a13))) h5 (.int .i32 x14) ∧ 
  drf p1 fun a15 =>
  HU Try.prog (Instr.storeAt 21 (.pointer (some (a15.add 3))) (.int .i32 x14)) h5 fun h16 => 
  drf p1 fun a17 =>
  ∃ A18 : Option Addr, ∃ l18 : Nat, ∃ c18 : Nat, HV Try.prog (Instr.loadAt 108 (.pointer (some (a17.add 2)))) h16 (.slice A18 l18 c18) ∧ 
  ∃ a19 : Addr, PV Try.prog (Instr.indexAt 108 (.slice A18 l18 c18) (.int .i32 x9)) (.pointer (some a19)) ∧
  HU Try.prog (Instr.storeAt 116 (.pointer (some a19)) (.agg #[(.int .i32 0), (.int .i32 0), (.bool false), (.int .i64 0)])) h16 fun h20 => 
  K (.int .i32 x9) h20)
  (drf p1 fun a21 =>
  ∃ A22 : Option Addr, ∃ l22 : Nat, ∃ c22 : Nat, HV Try.prog (Instr.loadAt 108 (.pointer (some (a21.add 2)))) h5 (.slice A22 l22 c22) ∧ 
  newC h5 (.cells #[(.int .i32 0), (.int .i32 0), (.bool false), (.int .i64 0)] 116 (0, 0)) fun a24 h23 => 
  HW Try.prog (Builtin.append_ #[108, 108] 108 #[(.slice A22 l22 c22), (.slice (some a24) 1 1)]) h23 fun r26 h25 =>
  ∃ A27 : Option Addr, ∃ l27 : Nat, ∃ c27 : Nat, r26 = (.slice A27 l27 c27) ∧ 
  drf p1 fun a28 =>
  HU Try.prog (Instr.storeAt 108 (.pointer (some (a28.add 2))) (.slice A27 l27 c27)) h25 fun h29 => 
  drf p1 fun a30 =>
  ∃ A31 : Option Addr, ∃ l31 : Nat, ∃ c31 : Nat, HV Try.prog (Instr.loadAt 108 (.pointer (some (a30.add 2)))) h29 (.slice A31 l31 c31) ∧ 
  K (.int .i32 (IntKind.i32.wrap (IntKind.i64.wrap ((l31 : Int) - 1)))) h29)
def trie_Trie_take_lp (i : Nat) (Q : Qx) (tm : Tm) (h : Hp) : Prop := False
def trie_Trie_take_cut (i : Nat) : Option (List Nat) := none
set_option maxRecDepth 100000 in
theorem trie_Trie_take_eq (p1 : Option Addr) (h : Hp) (K : Value → Hp → Prop) : trie_Trie_take p1 h K =
    codeWp Try.prog 57 trie_Trie_take_lp trie_Trie_take_cut (bodyOf Try.f52) 1 (endQ Try.prog Try.f52.results.toList K) (argTm [(.pointer p1)]) h := by kernel_rfl
set_option maxRecDepth 100000 in
theorem trie_Trie_take_ok (p1 : Option Addr) {h : Hp} {K : Value → Hp → Prop} (H : trie_Trie_take p1 h K) : CallsH Try.prog 52 #[(.pointer p1)] h K :=
  calls_of (args := [(.pointer p1)]) (n := 57) (lp := trie_Trie_take_lp) (cut := trie_Trie_take_cut) Try.func52 (c := bodyOf Try.f52) (by kernel_rfl) (by kernel_rfl) (by kernel_rfl) (good_by (c := (bodyOf Try.f52)) (i := 1) (l := []) (by kernel_rfl) (fun _ h => by cases h))
    (Eq.mp (trie_Trie_take_eq p1 h K) H)

/-! ### (*quintet/trie.Trie).bit: function 53 -/
def trie_Trie_bit (p1 : Option Addr) (x2 : Int) (x3 : Int) (h : Hp) (K : Value → Hp → Prop) : Prop :=
  drf p1 fun a4 =>
  ∃ x5 : Int, HV Try.prog (Instr.loadAt 3 (.pointer (some a4))) h (.int .i64 x5) ∧ 
  ∃ x6 : Int, PV Try.prog (binOp .shr 33 (.int .u32 x2) (.int .i64 (IntKind.i64.wrap ((IntKind.i64.wrap (x5 - 1)) - x3)))) (.int .u32 x6) ∧
  K (.int .i64 (IntKind.i64.wrap (bAnd .u32 x6 1))) h
def trie_Trie_bit_lp (i : Nat) (Q : Qx) (tm : Tm) (h : Hp) : Prop := False
def trie_Trie_bit_cut (i : Nat) : Option (List Nat) := none
set_option maxRecDepth 100000 in
theorem trie_Trie_bit_eq (p1 : Option Addr) (x2 : Int) (x3 : Int) (h : Hp) (K : Value → Hp → Prop) : trie_Trie_bit p1 x2 x3 h K =
    codeWp Try.prog 18 trie_Trie_bit_lp trie_Trie_bit_cut (bodyOf Try.f53) 1 (endQ Try.prog Try.f53.results.toList K) (argTm [(.pointer p1), (.int .u32 x2), (.int .i64 x3)]) h := by kernel_rfl
set_option maxRecDepth 100000 in
theorem trie_Trie_bit_ok (p1 : Option Addr) (x2 : Int) (x3 : Int) {h : Hp} {K : Value → Hp → Prop} (H : trie_Trie_bit p1 x2 x3 h K) : CallsH Try.prog 53 #[(.pointer p1), (.int .u32 x2), (.int .i64 x3)] h K :=
  calls_of (args := [(.pointer p1), (.int .u32 x2), (.int .i64 x3)]) (n := 18) (lp := trie_Trie_bit_lp) (cut := trie_Trie_bit_cut) Try.func53 (c := bodyOf Try.f53) (by kernel_rfl) (by kernel_rfl) (by kernel_rfl) (good_by (c := (bodyOf Try.f53)) (i := 1) (l := []) (by kernel_rfl) (fun _ h => by cases h))
    (Eq.mp (trie_Trie_bit_eq p1 x2 x3 h K) H)

/-! ### (*quintet/trie.Trie).give: function 54 -/
def trie_Trie_give (p1 : Option Addr) (x2 : Int) (h : Hp) (K : Value → Hp → Prop) : Prop :=
  drf p1 fun a3 =>
  ∃ x4 : Int, HV Try.prog (Instr.loadAt 3 (.pointer (some (a3.add 4)))) h (.int .i64 x4) ∧ 
  drf p1 fun a5 =>
  HU Try.prog (Instr.storeAt 3 (.pointer (some (a5.add 4))) (.int .i64 (IntKind.i64.wrap (x4 - 1)))) h fun h6 => 
  drf p1 fun a7 =>
  ∃ A8 : Option Addr, ∃ l8 : Nat, ∃ c8 : Nat, HV Try.prog (Instr.loadAt 108 (.pointer (some (a7.add 2)))) h6 (.slice A8 l8 c8) ∧ 
  drf p1 fun a9 =>
  ∃ x10 : Int, HV Try.prog (Instr.loadAt 21 (.pointer (some (a9.add 3)))) h6 (.int .i32 x10) ∧ 
  ∃ a11 : Addr, PV Try.prog (Instr.indexAt 108 (.slice A8 l8 c8) (.int .i32 x2)) (.pointer (some a11)) ∧
  HU Try.prog (Instr.storeAt 116 (.pointer (some a11)) (.agg #[(.int .i32 x10), (.int .i32 0), (.bool false), (.int .i64 0)])) h6 fun h12 => 
  drf p1 fun a13 =>
  HU Try.prog (Instr.storeAt 21 (.pointer (some (a13.add 3))) (.int .i32 x2)) h12 fun h14 => 
  K (.tuple #[]) h14
def trie_Trie_give_lp (i : Nat) (Q : Qx) (tm : Tm) (h : Hp) : Prop := False
def trie_Trie_give_cut (i : Nat) : Option (List Nat) := none
set_option maxRecDepth 100000 in
theorem trie_Trie_give_eq (p1 : Option Addr) (x2 : Int) (h : Hp) (K : Value → Hp → Prop) : trie_Trie_give p1 x2 h K =
    codeWp Try.prog 27 trie_Trie_give_lp trie_Trie_give_cut (bodyOf Try.f54) 1 (endQ Try.prog Try.f54.results.toList K) (argTm [(.pointer p1), (.int .i32 x2)]) h := by kernel_rfl
set_option maxRecDepth 100000 in
theorem trie_Trie_give_ok (p1 : Option Addr) (x2 : Int) {h : Hp} {K : Value → Hp → Prop} (H : trie_Trie_give p1 x2 h K) : CallsH Try.prog 54 #[(.pointer p1), (.int .i32 x2)] h K :=
  calls_of (args := [(.pointer p1), (.int .i32 x2)]) (n := 27) (lp := trie_Trie_give_lp) (cut := trie_Trie_give_cut) Try.func54 (c := bodyOf Try.f54) (by kernel_rfl) (by kernel_rfl) (by kernel_rfl) (good_by (c := (bodyOf Try.f54)) (i := 1) (l := []) (by kernel_rfl) (fun _ h => by cases h))
    (Eq.mp (trie_Trie_give_eq p1 x2 h K) H)

end Go.Proofs.Ytofjbbfnkefoaaa.Fs
