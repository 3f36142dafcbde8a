/- Printed by sx.py: words over the heap alone for Go functions, and that each call does what its word says. -/
import Derived.Test.YtofjbbfnkefoaaaSxSel
import Derived.Test.YtofjbbfnkefoaaaSxRound
import Derived.Test.YtofjbbfnkefoaaaProg
namespace Go.Proofs.Ytofjbbfnkefoaaa.Fs
open Go Go.RowKit Go.Proofs.Ytofjbbfnkefoaaa.Sx
set_option linter.unusedVariables false

/-! ### quintet/quintetlaw12.TrieRuns: function 8 -/
def quintetlaw12_TrieRuns_l7 (A287 : Option Addr) (l287 : Nat) (c287 : Nat) (p288 : Option Addr) (p289 : Option Addr) (a290 : Addr) (a291 : Addr) (K0 : Bool → Hp → Prop) (K1 : (Option Addr) → (Option Addr) → Addr → Addr → Hp → Prop)  : Nat → Int → Hp → Prop
  | 0, _, _ => False
  | k + 1, x292, h =>
    br (decide (x292 < (l287 : Int)))
    (∃ a318 : Addr, PV Try.prog (Instr.indexAt 77 (.slice A287 l287 c287) (.int .i64 x292)) (.pointer (some a318)) ∧
    ∃ b319 : Bool, HV Try.prog (Instr.loadAt 4 (.pointer (some (a318.add 1)))) h (.bool b319) ∧ 
    br b319
    (∃ a320 : Addr, PV Try.prog (Instr.indexAt 77 (.slice A287 l287 c287) (.int .i64 x292)) (.pointer (some a320)) ∧
    ∃ x321 : Int, ∃ b322 : Bool, ∃ x323 : Int, ∃ x324 : Int, ∃ x325 : Int, HV Try.prog (Instr.loadAt 83 (.pointer (some a320))) h (.agg #[(.int .i64 x321), (.bool b322), (.int .u32 x323), (.int .i64 x324), (.int .i64 x325)]) ∧ 
    CallsH Try.prog 39 #[(.pointer p289), (.pointer (some a291)), (.agg #[(.int .i64 x321), (.bool b322), (.int .u32 x323), (.int .i64 x324), (.int .i64 x325)])] h fun r327 h326 =>
    ∃ b328 : Bool, r327 = (.bool b328) ∧ 
    br (!b328)
    (K0 false h326)
    (quintetlaw12_TrieRuns_l7 A287 l287 c287 p288 p289 a290 a291 K0 K1 k (IntKind.i64.wrap (x292 + 1)) h326))
    (∃ a329 : Addr, PV Try.prog (Instr.indexAt 77 (.slice A287 l287 c287) (.int .i64 x292)) (.pointer (some a329)) ∧
    ∃ x330 : Int, ∃ b331 : Bool, ∃ x332 : Int, ∃ x333 : Int, ∃ x334 : Int, HV Try.prog (Instr.loadAt 83 (.pointer (some a329))) h (.agg #[(.int .i64 x330), (.bool b331), (.int .u32 x332), (.int .i64 x333), (.int .i64 x334)]) ∧ 
    CallsH Try.prog 39 #[(.pointer p288), (.pointer (some a290)), (.agg #[(.int .i64 x330), (.bool b331), (.int .u32 x332), (.int .i64 x333), (.int .i64 x334)])] h fun r336 h335 =>
    ∃ b337 : Bool, r336 = (.bool b337) ∧ 
    br (!b337)
    (K0 false h335)
    (quintetlaw12_TrieRuns_l7 A287 l287 c287 p288 p289 a290 a291 K0 K1 k (IntKind.i64.wrap (x292 + 1)) h335)))
    (K1 p288 p289 a290 a291 h)
def quintetlaw12_TrieRuns_l7_L (Q : Qx) (k : Nat) (tm : Tm) (h : Hp) : Prop :=
  selS (tm 2) fun A287 l287 c287 =>
  selP (tm 7) fun p288 =>
  selP (tm 9) fun p289 =>
  selA (tm 11) fun a290 =>
  selA (tm 12) fun a291 =>
  selI .i64 (tm 13) fun x292 =>
  quintetlaw12_TrieRuns_l7 A287 l287 c287 p288 p289 a290 a291 (fun (b313 : Bool) h => Q (.ret) (mkTm [(6, some (.bool b313))]) h) (fun (p314 : Option Addr) (p315 : Option Addr) (a316 : Addr) (a317 : Addr) h => Q (.exit 0) (mkTm [(7, some (.pointer p314)), (9, some (.pointer p315)), (11, some (.pointer (some a316))), (12, some (.pointer (some a317)))]) h) k x292 h
def quintetlaw12_TrieRuns_j6 (K0 : Bool → Hp → Prop) (x199 : Int) (x200 : Int) (A201 : Option Addr) (l201 : Nat) (c201 : Nat) (p202 : Option Addr) (p203 : Option Addr) (h : Hp) : Prop :=
  newC h (.cells #[(.int .i64 x199), (.int .i64 x200), (.int .i64 0), (.slice none 0 0)] 81 (0, 0)) fun a284 h283 => 
  newC h283 (.cells #[(.int .i64 x199), (.int .i64 x200), (.int .i64 0), (.slice none 0 0)] 81 (0, 0)) fun a286 h285 => 
  ∃ k360, quintetlaw12_TrieRuns_l7 A201 l201 c201 p202 p203 a284 a286
  (fun (b338 : Bool) (h339 : Hp) =>
  K0 b338 h339)
  (fun (p340 : Option Addr) (p341 : Option Addr) (a342 : Addr) (a343 : Addr) (h344 : Hp) =>
  CallsH Try.prog 38 #[] h344 fun r346 h345 =>
  ∃ b347 : Bool, r346 = (.bool b347) ∧ 
  br b347
  (CallsH Try.prog 39 #[(.pointer p340), (.pointer (some a342)), (.agg #[(.int .i64 5), (.bool false), (.int .u32 0), (.int .i64 0), (.int .i64 0)])] h345 fun r349 h348 =>
  ∃ b350 : Bool, r349 = (.bool b350) ∧ 
  br b350
  (CallsH Try.prog 39 #[(.pointer p341), (.pointer (some a343)), (.agg #[(.int .i64 5), (.bool false), (.int .u32 0), (.int .i64 0), (.int .i64 0)])] h348 fun r352 h351 =>
  ∃ b353 : Bool, r352 = (.bool b353) ∧ 
  br b353
  (CallsH Try.prog 39 #[(.pointer p340), (.pointer (some a342)), (.agg #[(.int .i64 6), (.bool false), (.int .u32 0), (.int .i64 0), (.int .i64 0)])] h351 fun r355 h354 =>
  ∃ b356 : Bool, r355 = (.bool b356) ∧ 
  br b356
  (CallsH Try.prog 39 #[(.pointer p341), (.pointer (some a343)), (.agg #[(.int .i64 6), (.bool false), (.int .u32 0), (.int .i64 0), (.int .i64 0)])] h354 fun r358 h357 =>
  ∃ b359 : Bool, r358 = (.bool b359) ∧ 
  K0 b359 h357)
  (K0 false h354))
  (K0 false h351))
  (K0 false h348))
  (K0 false h345))
  k360 0 h285
def quintetlaw12_TrieRuns_j6_L (Q : Qx) (tm : Tm) (h : Hp) : Prop :=
  selI .i64 (tm 0) fun x199 =>
  selI .i64 (tm 1) fun x200 =>
  selS (tm 2) fun A201 l201 c201 =>
  selP (tm 7) fun p202 =>
  selP (tm 9) fun p203 =>
  quintetlaw12_TrieRuns_j6 (fun (b282 : Bool) h => Q (.ret) (mkTm [(6, some (.bool b282))]) h) x199 x200 A201 l201 c201 p202 p203 h
def quintetlaw12_TrieRuns_j4 (K0 : Bool → Hp → Prop) (x21 : Int) (x22 : Int) (A23 : Option Addr) (l23 : Nat) (c23 : Nat) (p24 : Option Addr) (x25 : Int) (p26 : Option Addr) (x27 : Int) (h : Hp) : Prop :=
  br (x25 != 0)
  (K0 false h)
  (br (x27 != 0)
  (K0 false h)
  (∃ b361 : Bool, PV Try.prog (binOp .eql 60 (.pointer p24) (.pointer none)) (.bool b361) ∧
  br b361
  (K0 false h)
  (∃ b362 : Bool, PV Try.prog (binOp .eql 60 (.pointer p26) (.pointer none)) (.bool b362) ∧
  br b362
  (K0 false h)
  (quintetlaw12_TrieRuns_j6
  (fun (b363 : Bool) (h364 : Hp) =>
  K0 b363 h364)
  x21 x22 A23 l23 c23 p24 p26 h))))
def quintetlaw12_TrieRuns_j4_L (Q : Qx) (tm : Tm) (h : Hp) : Prop :=
  selI .i64 (tm 0) fun x21 =>
  selI .i64 (tm 1) fun x22 =>
  selS (tm 2) fun A23 l23 c23 =>
  selP (tm 7) fun p24 =>
  selI .i64 (tm 8) fun x25 =>
  selP (tm 9) fun p26 =>
  selI .i64 (tm 10) fun x27 =>
  quintetlaw12_TrieRuns_j4 (fun (b196 : Bool) h => Q (.ret) (mkTm [(6, some (.bool b196))]) h) x21 x22 A23 l23 c23 p24 x25 p26 x27 h
def quintetlaw12_TrieRuns (x1 : Int) (x2 : Int) (A3 : Option Addr) (l3 : Nat) (c3 : Nat) (h : Hp) (K : Value → Hp → Prop) : Prop :=
  CallsH Try.prog 27 #[(.int .i64 x1), (.int .i64 x2)] h fun r5 h4 =>
  ∃ p6 : Option Addr, ∃ x7 : Int, r5 = (.tuple #[(.pointer p6), (.int .i64 x7)]) ∧ 
  CallsH Try.prog 27 #[(.int .i64 x1), (.int .i64 x2)] h4 fun r9 h8 =>
  ∃ p10 : Option Addr, ∃ x11 : Int, r9 = (.tuple #[(.pointer p10), (.int .i64 x11)]) ∧ 
  CallsH Try.prog 28 #[(.int .i64 x1), (.int .i64 x2)] h8 fun r366 h365 =>
  ∃ b367 : Bool, r366 = (.bool b367) ∧ 
  br (!b367)
  (CallsH Try.prog 38 #[] h365 fun r369 h368 =>
  ∃ b370 : Bool, r369 = (.bool b370) ∧ 
  br b370
  (K (.bool (x7 == x11)) h368)
  (K (.bool false) h368))
  (br (decide ((l3 : Int) > 16777216))
  (CallsH Try.prog 38 #[] h365 fun r372 h371 =>
  ∃ b373 : Bool, r372 = (.bool b373) ∧ 
  br b373
  (K (.bool (x7 == x11)) h371)
  (K (.bool false) h371))
  (quintetlaw12_TrieRuns_j4
  (fun (b374 : Bool) (h375 : Hp) =>
  K (.bool b374) h375)
  x1 x2 A3 l3 c3 p6 x7 p10 x11 h365))
def quintetlaw12_TrieRuns_lp (i : Nat) (Q : Qx) (tm : Tm) (h : Hp) : Prop := match Nat.beq i 2042 with
  | true => ∃ k, quintetlaw12_TrieRuns_l7_L Q k tm h
  | false => match Nat.beq i 31 with
  | true => quintetlaw12_TrieRuns_j6_L Q tm h
  | false => match Nat.beq i 15 with
  | true => quintetlaw12_TrieRuns_j4_L Q tm h
  | false => False
def quintetlaw12_TrieRuns_cut (i : Nat) : Option (List Nat) := match Nat.beq i 15 with
  | true => some [0, 1, 2, 7, 8, 9, 10]
  | false => match Nat.beq i 31 with
  | true => some [0, 1, 2, 7, 9]
  | false => none
set_option maxRecDepth 100000 in
theorem quintetlaw12_TrieRuns_l7_step (Q : Qx) (k : Nat) (A287 : Option Addr) (l287 : Nat) (c287 : Nat) (p288 : Option Addr) (p289 : Option Addr) (a290 : Addr) (a291 : Addr) (x292 : Int) (h : Hp) : quintetlaw12_TrieRuns_l7_L Q (k + 1) (mkTm [(2, some (.slice A287 l287 c287)), (7, some (.pointer p288)), (9, some (.pointer p289)), (11, some (.pointer (some a290))), (12, some (.pointer (some a291))), (13, some (.int .i64 x292))]) h =
    codeWp Try.prog 116 quintetlaw12_TrieRuns_lp quintetlaw12_TrieRuns_cut (sub (bodyOf Try.f8) [true, true, true, true, true, true, true, false, true, false, false]) 4084 (thenQ (fun tm h => quintetlaw12_TrieRuns_l7_L Q k (mask [2, 7, 9, 11, 12, 13] tm) h) (maskQ (fun e => match e with | .ret => [6] | .exit 0 => [7, 9, 11, 12] | _ => []) Q)) (mkTm [(2, some (.slice A287 l287 c287)), (7, some (.pointer p288)), (9, some (.pointer p289)), (11, some (.pointer (some a290))), (12, some (.pointer (some a291))), (13, some (.int .i64 x292))]) h := by kernel_rfl
theorem quintetlaw12_TrieRuns_l7_mask (Q : Qx) (k : Nat) (tm : Tm) (h : Hp) : quintetlaw12_TrieRuns_l7_L Q k tm h ↔ quintetlaw12_TrieRuns_l7_L Q k (mask [2, 7, 9, 11, 12, 13] tm) h := Iff.rfl
set_option maxRecDepth 100000 in
theorem quintetlaw12_TrieRuns_l7_snd : SndAt Try.prog 116 none (sub (bodyOf Try.f8) [true, true, true, true, true, true, true, false, true, false]) (quintetlaw12_TrieRuns_lp 2042) := by
  refine loop_sound (lp := quintetlaw12_TrieRuns_lp) (cut := quintetlaw12_TrieRuns_cut) (i := 2042) (c := (sub (bodyOf Try.f8) [true, true, true, true, true, true, true, false, true, false, false])) [2, 7, 9, 11, 12, 13] (fun e => match e with | .ret => [6] | .exit 0 => [7, 9, 11, 12] | _ => []) quintetlaw12_TrieRuns_l7_L ?_ ?_ ?_
  · exact good_by (c := (sub (bodyOf Try.f8) [true, true, true, true, true, true, true, false, true, false, false])) (i := 4084) (l := []) (by kernel_rfl) (fun _ h => by cases h)
  · intro Q tm h H
    obtain ⟨A287, l287, c287, e2, H⟩ := selS_ex H
    obtain ⟨p288, e7, H⟩ := selP_ex H
    obtain ⟨p289, e9, H⟩ := selP_ex H
    obtain ⟨a290, e11, H⟩ := selA_ex H
    obtain ⟨a291, e12, H⟩ := selA_ex H
    obtain ⟨x292, e13, H⟩ := selI_ex H
    exact H
  · intro Q k tm h H
    have H0 := H
    obtain ⟨A287, l287, c287, e2, H⟩ := selS_ex H
    obtain ⟨p288, e7, H⟩ := selP_ex H
    obtain ⟨p289, e9, H⟩ := selP_ex H
    obtain ⟨a290, e11, H⟩ := selA_ex H
    obtain ⟨a291, e12, H⟩ := selA_ex H
    obtain ⟨x292, e13, H⟩ := selI_ex H
    have e : mask [2, 7, 9, 11, 12, 13] tm = mkTm [(2, some (.slice A287 l287 c287)), (7, some (.pointer p288)), (9, some (.pointer p289)), (11, some (.pointer (some a290))), (12, some (.pointer (some a291))), (13, some (.int .i64 x292))] := by simp only [mask, List.map_cons, List.map_nil, e2, e7, e9, e11, e12, e13] <;> rfl
    rw [e]
    refine Eq.mp (quintetlaw12_TrieRuns_l7_step Q k A287 l287 c287 p288 p289 a290 a291 x292 h) ?_
    rw [← e]
    exact (quintetlaw12_TrieRuns_l7_mask Q (k + 1) tm h).mp H0
set_option maxRecDepth 100000 in
theorem quintetlaw12_TrieRuns_j6_step (Q : Qx) (x199 : Int) (x200 : Int) (A201 : Option Addr) (l201 : Nat) (c201 : Nat) (p202 : Option Addr) (p203 : Option Addr) (h : Hp) : quintetlaw12_TrieRuns_j6_L Q (mkTm [(0, some (.int .i64 x199)), (1, some (.int .i64 x200)), (2, some (.slice A201 l201 c201)), (7, some (.pointer p202)), (9, some (.pointer p203))]) h =
    codeWp Try.prog 116 quintetlaw12_TrieRuns_lp quintetlaw12_TrieRuns_cut (sub (bodyOf Try.f8) [true, true, true, true, true]) 63 (maskQ (fun e => match e with | .ret => [6] | _ => []) Q) (mkTm [(0, some (.int .i64 x199)), (1, some (.int .i64 x200)), (2, some (.slice A201 l201 c201)), (7, some (.pointer p202)), (9, some (.pointer p203))]) h := by kernel_rfl
theorem quintetlaw12_TrieRuns_j6_mask (Q : Qx) (tm : Tm) (h : Hp) : quintetlaw12_TrieRuns_j6_L Q tm h ↔ quintetlaw12_TrieRuns_j6_L Q (mask [0, 1, 2, 7, 9] tm) h := Iff.rfl
set_option maxRecDepth 100000 in
theorem quintetlaw12_TrieRuns_j6_snd : SndAt Try.prog 116 none (sub (bodyOf Try.f8) [true, true, true, true, true]) (quintetlaw12_TrieRuns_lp 31) := by
  refine join_sound (lp := quintetlaw12_TrieRuns_lp) (cut := quintetlaw12_TrieRuns_cut) (i := 31) (c := (sub (bodyOf Try.f8) [true, true, true, true, true])) [0, 1, 2, 7, 9] (fun e => match e with | .ret => [6] | _ => []) quintetlaw12_TrieRuns_j6_L ?_ ?_
  · exact good_by (c := (sub (bodyOf Try.f8) [true, true, true, true, true])) (i := 63) (l := [(2042, (sub (bodyOf Try.f8) [true, true, true, true, true, true, true, false, true, false]))]) (by kernel_rfl) (List.forall_mem_cons.2 ⟨quintetlaw12_TrieRuns_l7_snd, (fun _ h => by cases h)⟩)
  · intro Q tm h H
    have H0 := H
    obtain ⟨x199, e0, H⟩ := selI_ex H
    obtain ⟨x200, e1, H⟩ := selI_ex H
    obtain ⟨A201, l201, c201, e2, H⟩ := selS_ex H
    obtain ⟨p202, e7, H⟩ := selP_ex H
    obtain ⟨p203, e9, H⟩ := selP_ex H
    have e : mask [0, 1, 2, 7, 9] tm = mkTm [(0, some (.int .i64 x199)), (1, some (.int .i64 x200)), (2, some (.slice A201 l201 c201)), (7, some (.pointer p202)), (9, some (.pointer p203))] := by simp only [mask, List.map_cons, List.map_nil, e0, e1, e2, e7, e9] <;> rfl
    rw [e]
    refine Eq.mp (quintetlaw12_TrieRuns_j6_step Q x199 x200 A201 l201 c201 p202 p203 h) ?_
    rw [← e]
    exact (quintetlaw12_TrieRuns_j6_mask Q tm h).mp H0
set_option maxRecDepth 100000 in
theorem quintetlaw12_TrieRuns_j4_step (Q : Qx) (x21 : Int) (x22 : Int) (A23 : Option Addr) (l23 : Nat) (c23 : Nat) (p24 : Option Addr) (x25 : Int) (p26 : Option Addr) (x27 : Int) (h : Hp) : quintetlaw12_TrieRuns_j4_L Q (mkTm [(0, some (.int .i64 x21)), (1, some (.int .i64 x22)), (2, some (.slice A23 l23 c23)), (7, some (.pointer p24)), (8, some (.int .i64 x25)), (9, some (.pointer p26)), (10, some (.int .i64 x27))]) h =
    codeWp Try.prog 116 quintetlaw12_TrieRuns_lp quintetlaw12_TrieRuns_cut (sub (bodyOf Try.f8) [true, true, true, true]) 31 (maskQ (fun e => match e with | .ret => [6] | _ => []) Q) (mkTm [(0, some (.int .i64 x21)), (1, some (.int .i64 x22)), (2, some (.slice A23 l23 c23)), (7, some (.pointer p24)), (8, some (.int .i64 x25)), (9, some (.pointer p26)), (10, some (.int .i64 x27))]) h := by kernel_rfl
theorem quintetlaw12_TrieRuns_j4_mask (Q : Qx) (tm : Tm) (h : Hp) : quintetlaw12_TrieRuns_j4_L Q tm h ↔ quintetlaw12_TrieRuns_j4_L Q (mask [0, 1, 2, 7, 8, 9, 10] tm) h := Iff.rfl
set_option maxRecDepth 100000 in
theorem quintetlaw12_TrieRuns_j4_snd : SndAt Try.prog 116 none (sub (bodyOf Try.f8) [true, true, true, true]) (quintetlaw12_TrieRuns_lp 15) := by
  refine join_sound (lp := quintetlaw12_TrieRuns_lp) (cut := quintetlaw12_TrieRuns_cut) (i := 15) (c := (sub (bodyOf Try.f8) [true, true, true, true])) [0, 1, 2, 7, 8, 9, 10] (fun e => match e with | .ret => [6] | _ => []) quintetlaw12_TrieRuns_j4_L ?_ ?_
  · exact good_by (c := (sub (bodyOf Try.f8) [true, true, true, true])) (i := 31) (l := [(31, (sub (bodyOf Try.f8) [true, true, true, true, true]))]) (by kernel_rfl) (List.forall_mem_cons.2 ⟨quintetlaw12_TrieRuns_j6_snd, (fun _ h => by cases h)⟩)
  · intro Q tm h H
    have H0 := H
    obtain ⟨x21, e0, H⟩ := selI_ex H
    obtain ⟨x22, e1, H⟩ := selI_ex H
    obtain ⟨A23, l23, c23, e2, H⟩ := selS_ex H
    obtain ⟨p24, e7, H⟩ := selP_ex H
    obtain ⟨x25, e8, H⟩ := selI_ex H
    obtain ⟨p26, e9, H⟩ := selP_ex H
    obtain ⟨x27, e10, H⟩ := selI_ex H
    have e : mask [0, 1, 2, 7, 8, 9, 10] tm = mkTm [(0, some (.int .i64 x21)), (1, some (.int .i64 x22)), (2, some (.slice A23 l23 c23)), (7, some (.pointer p24)), (8, some (.int .i64 x25)), (9, some (.pointer p26)), (10, some (.int .i64 x27))] := by simp only [mask, List.map_cons, List.map_nil, e0, e1, e2, e7, e8, e9, e10] <;> rfl
    rw [e]
    refine Eq.mp (quintetlaw12_TrieRuns_j4_step Q x21 x22 A23 l23 c23 p24 x25 p26 x27 h) ?_
    rw [← e]
    exact (quintetlaw12_TrieRuns_j4_mask Q tm h).mp H0
set_option maxRecDepth 100000 in
theorem quintetlaw12_TrieRuns_eq (x1 : Int) (x2 : Int) (A3 : Option Addr) (l3 : Nat) (c3 : Nat) (h : Hp) (K : Value → Hp → Prop) : quintetlaw12_TrieRuns x1 x2 A3 l3 c3 h K =
    codeWp Try.prog 116 quintetlaw12_TrieRuns_lp quintetlaw12_TrieRuns_cut (bodyOf Try.f8) 1 (endQ Try.prog Try.f8.results.toList K) (argTm [(.int .i64 x1), (.int .i64 x2), (.slice A3 l3 c3)]) h := by kernel_rfl
set_option maxRecDepth 100000 in
theorem quintetlaw12_TrieRuns_ok (x1 : Int) (x2 : Int) (A3 : Option Addr) (l3 : Nat) (c3 : Nat) {h : Hp} {K : Value → Hp → Prop} (H : quintetlaw12_TrieRuns x1 x2 A3 l3 c3 h K) : CallsH Try.prog 8 #[(.int .i64 x1), (.int .i64 x2), (.slice A3 l3 c3)] h K :=
  calls_of (args := [(.int .i64 x1), (.int .i64 x2), (.slice A3 l3 c3)]) (n := 116) (lp := quintetlaw12_TrieRuns_lp) (cut := quintetlaw12_TrieRuns_cut) Try.func8 (c := bodyOf Try.f8) (by kernel_rfl) (by kernel_rfl) (by kernel_rfl) (good_by (c := (bodyOf Try.f8)) (i := 1) (l := [(15, (sub (bodyOf Try.f8) [true, true, true, true]))]) (by kernel_rfl) (List.forall_mem_cons.2 ⟨quintetlaw12_TrieRuns_j4_snd, (fun _ h => by cases h)⟩))
    (Eq.mp (quintetlaw12_TrieRuns_eq x1 x2 A3 l3 c3 h K) H)

/-! ### quintet/quintetlaw12.TrieLongest: function 9 -/
def quintetlaw12_TrieLongest_j12 (K0 : Int → Int → (Option Addr) → (Option Addr) → Nat → Nat → (Option Addr) → Nat → Nat → Addr → Bool → (Option Addr) → Nat → Nat → Int → Hp → Prop) (x703 : Int) (x704 : Int) (p705 : Option Addr) (A706 : Option Addr) (l706 : Nat) (c706 : Nat) (A707 : Option Addr) (l707 : Nat) (c707 : Nat) (a708 : Addr) (b709 : Bool) (A710 : Option Addr) (l710 : Nat) (c710 : Nat) (x711 : Int) (h : Hp) : Prop :=
  ∃ x739 : Int, PV Try.prog (binOp .shr 88 (.int .u64 (IntKind.u64.wrap (x704))) (.int .u64 (IntKind.u64.wrap (x703)))) (.int .u64 x739) ∧
  br (x739 == 0)
  (∃ a740 : Addr, PV Try.prog (Instr.indexAt 79 (.slice A706 l706 c706) (.int .i64 x711)) (.pointer (some a740)) ∧
  ∃ x741 : Int, HV Try.prog (Instr.loadAt 3 (.pointer (some (a740.add 1)))) h (.int .i64 x741) ∧ 
  ∃ x742 : Int, PV Try.prog (binOp .shr 88 (.int .u64 (IntKind.u64.wrap (x704))) (.int .u64 (IntKind.u64.wrap (IntKind.i64.wrap (x703 - x741))))) (.int .u64 x742) ∧
  ∃ a743 : Addr, PV Try.prog (Instr.indexAt 79 (.slice A706 l706 c706) (.int .i64 x711)) (.pointer (some a743)) ∧
  ∃ x744 : Int, HV Try.prog (Instr.loadAt 33 (.pointer (some a743))) h (.int .u32 x744) ∧ 
  ∃ a745 : Addr, PV Try.prog (Instr.indexAt 79 (.slice A706 l706 c706) (.int .i64 x711)) (.pointer (some a745)) ∧
  ∃ x746 : Int, HV Try.prog (Instr.loadAt 3 (.pointer (some (a745.add 1)))) h (.int .i64 x746) ∧ 
  ∃ x747 : Int, PV Try.prog (binOp .shr 88 (.int .u64 (IntKind.u64.wrap (x744))) (.int .u64 (IntKind.u64.wrap (IntKind.i64.wrap (x703 - x746))))) (.int .u64 x747) ∧
  br (x742 == x747)
  (∃ a748 : Addr, PV Try.prog (Instr.indexAt 79 (.slice A706 l706 c706) (.int .i64 x711)) (.pointer (some a748)) ∧
  ∃ x749 : Int, ∃ x750 : Int, ∃ x751 : Int, HV Try.prog (Instr.loadAt 66 (.pointer (some a748))) h (.agg #[(.int .u32 x749), (.int .i64 x750), (.int .i64 x751)]) ∧ 
  newC h (.cells #[(.int .u32 x749), (.int .i64 x750), (.int .i64 x751)] 66 (0, 0)) fun a753 h752 => 
  HW Try.prog (Builtin.append_ #[79, 79] 79 #[(.slice A710 l710 c710), (.slice (some a753) 1 1)]) h752 fun r755 h754 =>
  ∃ A756 : Option Addr, ∃ l756 : Nat, ∃ c756 : Nat, r755 = (.slice A756 l756 c756) ∧ 
  K0 x703 x704 p705 A706 l706 c706 A707 l707 c707 a708 b709 A756 l756 c756 x711 h754)
  (K0 x703 x704 p705 A706 l706 c706 A707 l707 c707 a708 b709 A710 l710 c710 x711 h))
  (K0 x703 x704 p705 A706 l706 c706 A707 l707 c707 a708 b709 A710 l710 c710 x711 h)
def quintetlaw12_TrieLongest_j12_L (Q : Qx) (tm : Tm) (h : Hp) : Prop :=
  selI .i64 (tm 0) fun x703 =>
  selI .u32 (tm 2) fun x704 =>
  selP (tm 7) fun p705 =>
  selS (tm 8) fun A706 l706 c706 =>
  selS (tm 9) fun A707 l707 c707 =>
  selA (tm 10) fun a708 =>
  selB (tm 11) fun b709 =>
  selS (tm 12) fun A710 l710 c710 =>
  selI .i64 (tm 13) fun x711 =>
  quintetlaw12_TrieLongest_j12 (fun (x730 : Int) (x731 : Int) (p732 : Option Addr) (A733 : Option Addr) (l733 : Nat) (c733 : Nat) (A734 : Option Addr) (l734 : Nat) (c734 : Nat) (a735 : Addr) (b736 : Bool) (A737 : Option Addr) (l737 : Nat) (c737 : Nat) (x738 : Int) h => Q (.normal) (mkTm [(0, some (.int .i64 x730)), (2, some (.int .u32 x731)), (7, some (.pointer p732)), (8, some (.slice A733 l733 c733)), (9, some (.slice A734 l734 c734)), (10, some (.pointer (some a735))), (11, some (.bool b736)), (12, some (.slice A737 l737 c737)), (13, some (.int .i64 x738))]) h) x703 x704 p705 A706 l706 c706 A707 l707 c707 a708 b709 A710 l710 c710 x711 h
def quintetlaw12_TrieLongest_l11 (x545 : Int) (x546 : Int) (p547 : Option Addr) (A548 : Option Addr) (l548 : Nat) (c548 : Nat) (A549 : Option Addr) (l549 : Nat) (c549 : Nat) (a550 : Addr) (b551 : Bool) (K0 : Bool → Hp → Prop) (K1 : (Option Addr) → (Option Addr) → Nat → Nat → (Option Addr) → Nat → Nat → Addr → Bool → (Option Addr) → Nat → Nat → Hp → Prop)  : Nat → (Option Addr) → Nat → Nat → Int → Hp → Prop
  | 0, _, _, _, _, _ => False
  | k + 1, A552, l552, c552, x553, h =>
    br (decide (x553 < (l548 : Int)))
    (∃ a681 : Addr, PV Try.prog (Instr.indexAt 79 (.slice A548 l548 c548) (.int .i64 x553)) (.pointer (some a681)) ∧
    ∃ x682 : Int, HV Try.prog (Instr.loadAt 33 (.pointer (some a681))) h (.int .u32 x682) ∧ 
    ∃ a683 : Addr, PV Try.prog (Instr.indexAt 79 (.slice A548 l548 c548) (.int .i64 x553)) (.pointer (some a683)) ∧
    ∃ x684 : Int, HV Try.prog (Instr.loadAt 3 (.pointer (some (a683.add 1)))) h (.int .i64 x684) ∧ 
    CallsH Try.prog 29 #[(.pointer p547), (.int .u32 x682), (.int .i64 x684)] h fun r686 h685 =>
    ∃ x687 : Int, ∃ b688 : Bool, r686 = (.tuple #[(.int .i64 x687), (.bool b688)]) ∧ 
    br (!b688)
    (K0 false h685)
    (∃ a757 : Addr, PV Try.prog (Instr.indexAt 79 (.slice A548 l548 c548) (.int .i64 x553)) (.pointer (some a757)) ∧
    ∃ x758 : Int, HV Try.prog (Instr.loadAt 3 (.pointer (some (a757.add 2)))) h685 (.int .i64 x758) ∧ 
    br (x687 != x758)
    (K0 false h685)
    (br (decide (x553 > 0))
    (∃ a759 : Addr, PV Try.prog (Instr.indexAt 79 (.slice A548 l548 c548) (.int .i64 (IntKind.i64.wrap (x553 - 1)))) (.pointer (some a759)) ∧
    ∃ x760 : Int, HV Try.prog (Instr.loadAt 33 (.pointer (some a759))) h685 (.int .u32 x760) ∧ 
    ∃ a761 : Addr, PV Try.prog (Instr.indexAt 79 (.slice A548 l548 c548) (.int .i64 x553)) (.pointer (some a761)) ∧
    ∃ x762 : Int, HV Try.prog (Instr.loadAt 33 (.pointer (some a761))) h685 (.int .u32 x762) ∧ 
    br (decide (x760 > x762))
    (K0 false h685)
    (∃ a763 : Addr, PV Try.prog (Instr.indexAt 79 (.slice A548 l548 c548) (.int .i64 (IntKind.i64.wrap (x553 - 1)))) (.pointer (some a763)) ∧
    ∃ x764 : Int, HV Try.prog (Instr.loadAt 33 (.pointer (some a763))) h685 (.int .u32 x764) ∧ 
    ∃ a765 : Addr, PV Try.prog (Instr.indexAt 79 (.slice A548 l548 c548) (.int .i64 x553)) (.pointer (some a765)) ∧
    ∃ x766 : Int, HV Try.prog (Instr.loadAt 33 (.pointer (some a765))) h685 (.int .u32 x766) ∧ 
    br (x764 == x766)
    (∃ a767 : Addr, PV Try.prog (Instr.indexAt 79 (.slice A548 l548 c548) (.int .i64 (IntKind.i64.wrap (x553 - 1)))) (.pointer (some a767)) ∧
    ∃ x768 : Int, HV Try.prog (Instr.loadAt 3 (.pointer (some (a767.add 1)))) h685 (.int .i64 x768) ∧ 
    ∃ a769 : Addr, PV Try.prog (Instr.indexAt 79 (.slice A548 l548 c548) (.int .i64 x553)) (.pointer (some a769)) ∧
    ∃ x770 : Int, HV Try.prog (Instr.loadAt 3 (.pointer (some (a769.add 1)))) h685 (.int .i64 x770) ∧ 
    br (decide (x768 ≥ x770))
    (K0 false h685)
    (quintetlaw12_TrieLongest_j12
    (fun (x771 : Int) (x772 : Int) (p773 : Option Addr) (A774 : Option Addr) (l774 : Nat) (c774 : Nat) (A775 : Option Addr) (l775 : Nat) (c775 : Nat) (a776 : Addr) (b777 : Bool) (A778 : Option Addr) (l778 : Nat) (c778 : Nat) (x779 : Int) (h780 : Hp) =>
    quintetlaw12_TrieLongest_l11 x545 x546 p547 A548 l548 c548 A549 l549 c549 a550 b551 K0 K1 k A778 l778 c778 (IntKind.i64.wrap (x779 + 1)) h780)
    x545 x546 p547 A548 l548 c548 A549 l549 c549 a550 b551 A552 l552 c552 x553 h685))
    (quintetlaw12_TrieLongest_j12
    (fun (x781 : Int) (x782 : Int) (p783 : Option Addr) (A784 : Option Addr) (l784 : Nat) (c784 : Nat) (A785 : Option Addr) (l785 : Nat) (c785 : Nat) (a786 : Addr) (b787 : Bool) (A788 : Option Addr) (l788 : Nat) (c788 : Nat) (x789 : Int) (h790 : Hp) =>
    quintetlaw12_TrieLongest_l11 x545 x546 p547 A548 l548 c548 A549 l549 c549 a550 b551 K0 K1 k A788 l788 c788 (IntKind.i64.wrap (x789 + 1)) h790)
    x545 x546 p547 A548 l548 c548 A549 l549 c549 a550 b551 A552 l552 c552 x553 h685)))
    (quintetlaw12_TrieLongest_j12
    (fun (x791 : Int) (x792 : Int) (p793 : Option Addr) (A794 : Option Addr) (l794 : Nat) (c794 : Nat) (A795 : Option Addr) (l795 : Nat) (c795 : Nat) (a796 : Addr) (b797 : Bool) (A798 : Option Addr) (l798 : Nat) (c798 : Nat) (x799 : Int) (h800 : Hp) =>
    quintetlaw12_TrieLongest_l11 x545 x546 p547 A548 l548 c548 A549 l549 c549 a550 b551 K0 K1 k A798 l798 c798 (IntKind.i64.wrap (x799 + 1)) h800)
    x545 x546 p547 A548 l548 c548 A549 l549 c549 a550 b551 A552 l552 c552 x553 h685))))
    (K1 p547 A548 l548 c548 A549 l549 c549 a550 b551 A552 l552 c552 h)
def quintetlaw12_TrieLongest_l11_L (Q : Qx) (k : Nat) (tm : Tm) (h : Hp) : Prop :=
  selI .i64 (tm 0) fun x545 =>
  selI .u32 (tm 2) fun x546 =>
  selP (tm 7) fun p547 =>
  selS (tm 8) fun A548 l548 c548 =>
  selS (tm 9) fun A549 l549 c549 =>
  selA (tm 10) fun a550 =>
  selB (tm 11) fun b551 =>
  selS (tm 12) fun A552 l552 c552 =>
  selI .i64 (tm 13) fun x553 =>
  quintetlaw12_TrieLongest_l11 x545 x546 p547 A548 l548 c548 A549 l549 c549 a550 b551 (fun (b674 : Bool) h => Q (.ret) (mkTm [(6, some (.bool b674))]) h) (fun (p675 : Option Addr) (A676 : Option Addr) (l676 : Nat) (c676 : Nat) (A677 : Option Addr) (l677 : Nat) (c677 : Nat) (a678 : Addr) (b679 : Bool) (A680 : Option Addr) (l680 : Nat) (c680 : Nat) h => Q (.exit 0) (mkTm [(7, some (.pointer p675)), (8, some (.slice A676 l676 c676)), (9, some (.slice A677 l677 c677)), (10, some (.pointer (some a678))), (11, some (.bool b679)), (12, some (.slice A680 l680 c680))]) h) k A552 l552 c552 x553 h
def quintetlaw12_TrieLongest_l16 (p917 : Option Addr) (A918 : Option Addr) (l918 : Nat) (c918 : Nat) (A919 : Option Addr) (l919 : Nat) (c919 : Nat) (a920 : Addr) (b921 : Bool) (A922 : Option Addr) (l922 : Nat) (c922 : Nat) (K0 : Bool → Hp → Prop) (K1 : (Option Addr) → (Option Addr) → Nat → Nat → Addr → Bool → (Option Addr) → Nat → Nat → Hp → Prop)  : Nat → Int → Hp → Prop
  | 0, _, _ => False
  | k + 1, x923, h =>
    br (decide (x923 < (l922 : Int)))
    (∃ a939 : Addr, PV Try.prog (Instr.indexAt 79 (.slice A919 l919 c919) (.int .i64 x923)) (.pointer (some a939)) ∧
    ∃ x940 : Int, ∃ x941 : Int, ∃ x942 : Int, HV Try.prog (Instr.loadAt 66 (.pointer (some a939))) h (.agg #[(.int .u32 x940), (.int .i64 x941), (.int .i64 x942)]) ∧ 
    ∃ a943 : Addr, PV Try.prog (Instr.indexAt 79 (.slice A922 l922 c922) (.int .i64 x923)) (.pointer (some a943)) ∧
    ∃ x944 : Int, ∃ x945 : Int, ∃ x946 : Int, HV Try.prog (Instr.loadAt 66 (.pointer (some a943))) h (.agg #[(.int .u32 x944), (.int .i64 x945), (.int .i64 x946)]) ∧ 
    ∃ b947 : Bool, PV Try.prog (binOp .neq 66 (.agg #[(.int .u32 x940), (.int .i64 x941), (.int .i64 x942)]) (.agg #[(.int .u32 x944), (.int .i64 x945), (.int .i64 x946)])) (.bool b947) ∧
    br b947
    (K0 false h)
    (quintetlaw12_TrieLongest_l16 p917 A918 l918 c918 A919 l919 c919 a920 b921 A922 l922 c922 K0 K1 k (IntKind.i64.wrap (x923 + 1)) h))
    (K1 p917 A918 l918 c918 a920 b921 A922 l922 c922 h)
def quintetlaw12_TrieLongest_l16_L (Q : Qx) (k : Nat) (tm : Tm) (h : Hp) : Prop :=
  selP (tm 7) fun p917 =>
  selS (tm 8) fun A918 l918 c918 =>
  selS (tm 9) fun A919 l919 c919 =>
  selA (tm 10) fun a920 =>
  selB (tm 11) fun b921 =>
  selS (tm 12) fun A922 l922 c922 =>
  selI .i64 (tm 16) fun x923 =>
  quintetlaw12_TrieLongest_l16 p917 A918 l918 c918 A919 l919 c919 a920 b921 A922 l922 c922 (fun (b933 : Bool) h => Q (.ret) (mkTm [(6, some (.bool b933))]) h) (fun (p934 : Option Addr) (A935 : Option Addr) (l935 : Nat) (c935 : Nat) (a936 : Addr) (b937 : Bool) (A938 : Option Addr) (l938 : Nat) (c938 : Nat) h => Q (.exit 2) (mkTm [(7, some (.pointer p934)), (8, some (.slice A935 l935 c935)), (10, some (.pointer (some a936))), (11, some (.bool b937)), (12, some (.slice A938 l938 c938))]) h) k x923 h
def quintetlaw12_TrieLongest_j17 (K0 : Bool → Hp → Prop) (p964 : Option Addr) (A965 : Option Addr) (l965 : Nat) (c965 : Nat) (a966 : Addr) (a967 : Addr) (h : Hp) : Prop :=
  CallsH Try.prog 38 #[] h fun r989 h988 =>
  ∃ b990 : Bool, r989 = (.bool b990) ∧ 
  br b990
  (∃ x991 : Int, ∃ x992 : Int, ∃ x993 : Int, HV Try.prog (Instr.loadAt 66 (.pointer (some a966))) h988 (.agg #[(.int .u32 x991), (.int .i64 x992), (.int .i64 x993)]) ∧ 
  ∃ x994 : Int, ∃ x995 : Int, ∃ x996 : Int, HV Try.prog (Instr.loadAt 66 (.pointer (some a967))) h988 (.agg #[(.int .u32 x994), (.int .i64 x995), (.int .i64 x996)]) ∧ 
  ∃ b997 : Bool, PV Try.prog (binOp .eql 66 (.agg #[(.int .u32 x991), (.int .i64 x992), (.int .i64 x993)]) (.agg #[(.int .u32 x994), (.int .i64 x995), (.int .i64 x996)])) (.bool b997) ∧
  br b997
  (CallsH Try.prog 36 #[(.pointer p964)] h988 fun r999 h998 =>
  ∃ x1000 : Int, r999 = (.int .i64 x1000) ∧ 
  br (decide ((l965 : Int) ≤ x1000))
  (CallsH Try.prog 36 #[(.pointer p964)] h998 fun r1002 h1001 =>
  ∃ x1003 : Int, r1002 = (.int .i64 x1003) ∧ 
  CallsH Try.prog 37 #[(.pointer p964)] h1001 fun r1005 h1004 =>
  ∃ x1006 : Int, r1005 = (.int .i64 x1006) ∧ 
  K0 (decide (x1003 ≤ x1006)) h1004)
  (K0 false h998))
  (K0 false h988))
  (K0 false h988)
def quintetlaw12_TrieLongest_j17_L (Q : Qx) (tm : Tm) (h : Hp) : Prop :=
  selP (tm 7) fun p964 =>
  selS (tm 8) fun A965 l965 c965 =>
  selA (tm 10) fun a966 =>
  selA (tm 17) fun a967 =>
  quintetlaw12_TrieLongest_j17 (fun (b987 : Bool) h => Q (.ret) (mkTm [(6, some (.bool b987))]) h) p964 A965 l965 c965 a966 a967 h
def quintetlaw12_TrieLongest_j15 (K0 : Bool → Hp → Prop) (p810 : Option Addr) (A811 : Option Addr) (l811 : Nat) (c811 : Nat) (A812 : Option Addr) (l812 : Nat) (c812 : Nat) (a813 : Addr) (b814 : Bool) (A815 : Option Addr) (l815 : Nat) (c815 : Nat) (h : Hp) : Prop :=
  ∃ k1016, quintetlaw12_TrieLongest_l16 p810 A811 l811 c811 A812 l812 c812 a813 b814 A815 l815 c815
  (fun (b948 : Bool) (h949 : Hp) =>
  K0 b948 h949)
  (fun (p950 : Option Addr) (A951 : Option Addr) (l951 : Nat) (c951 : Nat) (a952 : Addr) (b953 : Bool) (A954 : Option Addr) (l954 : Nat) (c954 : Nat) (h955 : Hp) =>
  newC h955 (.cells #[(.int .u32 0), (.int .i64 0), (.int .i64 0)] 66 (0, 0)) fun a957 h956 => 
  HU Try.prog (Instr.storeAt 66 (.pointer (some a957)) (.agg #[(.int .u32 0), (.int .i64 0), (.int .i64 0)])) h956 fun h958 => 
  br b953
  (∃ a1007 : Addr, PV Try.prog (Instr.indexAt 79 (.slice A954 l954 c954) (.int .i64 (IntKind.i64.wrap ((l954 : Int) - 1)))) (.pointer (some a1007)) ∧
  ∃ x1008 : Int, ∃ x1009 : Int, ∃ x1010 : Int, HV Try.prog (Instr.loadAt 66 (.pointer (some a1007))) h958 (.agg #[(.int .u32 x1008), (.int .i64 x1009), (.int .i64 x1010)]) ∧ 
  HU Try.prog (Instr.storeAt 66 (.pointer (some a957)) (.agg #[(.int .u32 x1008), (.int .i64 x1009), (.int .i64 x1010)])) h958 fun h1011 => 
  quintetlaw12_TrieLongest_j17
  (fun (b1012 : Bool) (h1013 : Hp) =>
  K0 b1012 h1013)
  p950 A951 l951 c951 a952 a957 h1011)
  (quintetlaw12_TrieLongest_j17
  (fun (b1014 : Bool) (h1015 : Hp) =>
  K0 b1014 h1015)
  p950 A951 l951 c951 a952 a957 h958))
  k1016 0 h
def quintetlaw12_TrieLongest_j15_L (Q : Qx) (tm : Tm) (h : Hp) : Prop :=
  selP (tm 7) fun p810 =>
  selS (tm 8) fun A811 l811 c811 =>
  selS (tm 9) fun A812 l812 c812 =>
  selA (tm 10) fun a813 =>
  selB (tm 11) fun b814 =>
  selS (tm 12) fun A815 l815 c815 =>
  quintetlaw12_TrieLongest_j15 (fun (b916 : Bool) h => Q (.ret) (mkTm [(6, some (.bool b916))]) h) p810 A811 l811 c811 A812 l812 c812 a813 b814 A815 l815 c815 h
def quintetlaw12_TrieLongest_j9 (K0 : Bool → Hp → Prop) (x16 : Int) (A17 : Option Addr) (l17 : Nat) (c17 : Nat) (x18 : Int) (h : Hp) : Prop :=
  CallsH Try.prog 40 #[(.int .i64 x16), (.slice A17 l17 c17)] h fun r521 h520 =>
  ∃ p522 : Option Addr, r521 = (.pointer p522) ∧ 
  ∃ b523 : Bool, PV Try.prog (binOp .eql 60 (.pointer p522) (.pointer none)) (.bool b523) ∧
  br b523
  (K0 false h520)
  (CallsH Try.prog 35 #[(.pointer p522)] h520 fun r525 h524 =>
  ∃ v526 : Value, r525 = v526 ∧ 
  CallsH Try.prog 41 #[v526] h524 fun r528 h527 =>
  ∃ A529 : Option Addr, ∃ l529 : Nat, ∃ c529 : Nat, r528 = (.slice A529 l529 c529) ∧ 
  CallsH Try.prog 34 #[(.pointer p522), (.int .u32 x18), (.int .i64 x16)] h527 fun r531 h530 =>
  ∃ v532 : Value, r531 = v532 ∧ 
  CallsH Try.prog 41 #[v532] h530 fun r534 h533 =>
  ∃ A535 : Option Addr, ∃ l535 : Nat, ∃ c535 : Nat, r534 = (.slice A535 l535 c535) ∧ 
  CallsH Try.prog 30 #[(.pointer p522), (.int .u32 x18)] h533 fun r537 h536 =>
  ∃ x538 : Int, ∃ x539 : Int, ∃ x540 : Int, ∃ b541 : Bool, r537 = (.tuple #[(.agg #[(.int .u32 x538), (.int .i64 x539), (.int .i64 x540)]), (.bool b541)]) ∧ 
  newC h536 (.cells #[(.int .u32 0), (.int .i64 0), (.int .i64 0)] 66 (0, 0)) fun a543 h542 => 
  HU Try.prog (Instr.storeAt 66 (.pointer (some a543)) (.agg #[(.int .u32 x538), (.int .i64 x539), (.int .i64 x540)])) h542 fun h544 => 
  ∃ k1019, quintetlaw12_TrieLongest_l11 x16 x18 p522 A529 l529 c529 A535 l535 c535 a543 b541
  (fun (b801 : Bool) (h802 : Hp) =>
  K0 b801 h802)
  (fun (p803 : Option Addr) (A804 : Option Addr) (l804 : Nat) (c804 : Nat) (A805 : Option Addr) (l805 : Nat) (c805 : Nat) (a806 : Addr) (b807 : Bool) (A808 : Option Addr) (l808 : Nat) (c808 : Nat) (h809 : Hp) =>
  br ((l805 : Int) != (l808 : Int))
  (K0 false h809)
  (br (!(b807 == (decide ((l808 : Int) > 0))))
  (K0 false h809)
  (quintetlaw12_TrieLongest_j15
  (fun (b1017 : Bool) (h1018 : Hp) =>
  K0 b1017 h1018)
  p803 A804 l804 c804 A805 l805 c805 a806 b807 A808 l808 c808 h809)))
  k1019 none 0 0 0 h544)
def quintetlaw12_TrieLongest_j9_L (Q : Qx) (tm : Tm) (h : Hp) : Prop :=
  selI .i64 (tm 0) fun x16 =>
  selS (tm 1) fun A17 l17 c17 =>
  selI .u32 (tm 2) fun x18 =>
  quintetlaw12_TrieLongest_j9 (fun (b519 : Bool) h => Q (.ret) (mkTm [(6, some (.bool b519))]) h) x16 A17 l17 c17 x18 h
def quintetlaw12_TrieLongest (x1 : Int) (A2 : Option Addr) (l2 : Nat) (c2 : Nat) (x3 : Int) (h : Hp) (K : Value → Hp → Prop) : Prop :=
  br (x1 != 8)
  (br (x1 != 16)
  (br (x1 != 32)
  (CallsH Try.prog 38 #[] h fun r1021 h1020 =>
  ∃ b1022 : Bool, r1021 = (.bool b1022) ∧ 
  K (.bool b1022) h1020)
  (br (decide ((l2 : Int) > 16777216))
  (CallsH Try.prog 38 #[] h fun r1024 h1023 =>
  ∃ b1025 : Bool, r1024 = (.bool b1025) ∧ 
  K (.bool b1025) h1023)
  (quintetlaw12_TrieLongest_j9
  (fun (b1026 : Bool) (h1027 : Hp) =>
  K (.bool b1026) h1027)
  x1 A2 l2 c2 x3 h)))
  (br (decide ((l2 : Int) > 16777216))
  (CallsH Try.prog 38 #[] h fun r1029 h1028 =>
  ∃ b1030 : Bool, r1029 = (.bool b1030) ∧ 
  K (.bool b1030) h1028)
  (quintetlaw12_TrieLongest_j9
  (fun (b1031 : Bool) (h1032 : Hp) =>
  K (.bool b1031) h1032)
  x1 A2 l2 c2 x3 h)))
  (br (decide ((l2 : Int) > 16777216))
  (CallsH Try.prog 38 #[] h fun r1034 h1033 =>
  ∃ b1035 : Bool, r1034 = (.bool b1035) ∧ 
  K (.bool b1035) h1033)
  (quintetlaw12_TrieLongest_j9
  (fun (b1036 : Bool) (h1037 : Hp) =>
  K (.bool b1036) h1037)
  x1 A2 l2 c2 x3 h))
def quintetlaw12_TrieLongest_lp (i : Nat) (Q : Qx) (tm : Tm) (h : Hp) : Prop := match Nat.beq i 130889 with
  | true => quintetlaw12_TrieLongest_j12_L Q tm h
  | false => match Nat.beq i 4090 with
  | true => ∃ k, quintetlaw12_TrieLongest_l11_L Q k tm h
  | false => match Nat.beq i 16378 with
  | true => ∃ k, quintetlaw12_TrieLongest_l16_L Q k tm h
  | false => match Nat.beq i 8191 with
  | true => quintetlaw12_TrieLongest_j17_L Q tm h
  | false => match Nat.beq i 1023 with
  | true => quintetlaw12_TrieLongest_j15_L Q tm h
  | false => match Nat.beq i 3 with
  | true => quintetlaw12_TrieLongest_j9_L Q tm h
  | false => False
def quintetlaw12_TrieLongest_cut (i : Nat) : Option (List Nat) := match Nat.beq i 3 with
  | true => some [0, 1, 2]
  | false => match Nat.beq i 1023 with
  | true => some [7, 8, 9, 10, 11, 12]
  | false => match Nat.beq i 8191 with
  | true => some [7, 8, 10, 17]
  | false => match Nat.beq i 130889 with
  | true => some [0, 2, 7, 8, 9, 10, 11, 12, 13]
  | false => none
set_option maxRecDepth 100000 in
theorem quintetlaw12_TrieLongest_j12_step (Q : Qx) (x703 : Int) (x704 : Int) (p705 : Option Addr) (A706 : Option Addr) (l706 : Nat) (c706 : Nat) (A707 : Option Addr) (l707 : Nat) (c707 : Nat) (a708 : Addr) (b709 : Bool) (A710 : Option Addr) (l710 : Nat) (c710 : Nat) (x711 : Int) (h : Hp) : quintetlaw12_TrieLongest_j12_L Q (mkTm [(0, some (.int .i64 x703)), (2, some (.int .u32 x704)), (7, some (.pointer p705)), (8, some (.slice A706 l706 c706)), (9, some (.slice A707 l707 c707)), (10, some (.pointer (some a708))), (11, some (.bool b709)), (12, some (.slice A710 l710 c710)), (13, some (.int .i64 x711))]) h =
    codeWp Try.prog 228 quintetlaw12_TrieLongest_lp quintetlaw12_TrieLongest_cut (sub (bodyOf Try.f9) [true, true, true, true, true, true, true, true, false, true, false, false, true, false, false, true, true]) 261779 (maskQ (fun e => match e with | .normal => [0, 2, 7, 8, 9, 10, 11, 12, 13] | _ => []) Q) (mkTm [(0, some (.int .i64 x703)), (2, some (.int .u32 x704)), (7, some (.pointer p705)), (8, some (.slice A706 l706 c706)), (9, some (.slice A707 l707 c707)), (10, some (.pointer (some a708))), (11, some (.bool b709)), (12, some (.slice A710 l710 c710)), (13, some (.int .i64 x711))]) h := by kernel_rfl
theorem quintetlaw12_TrieLongest_j12_mask (Q : Qx) (tm : Tm) (h : Hp) : quintetlaw12_TrieLongest_j12_L Q tm h ↔ quintetlaw12_TrieLongest_j12_L Q (mask [0, 2, 7, 8, 9, 10, 11, 12, 13] tm) h := Iff.rfl
set_option maxRecDepth 100000 in
theorem quintetlaw12_TrieLongest_j12_snd : SndAt Try.prog 228 none (sub (bodyOf Try.f9) [true, true, true, true, true, true, true, true, false, true, false, false, true, false, false, true, true]) (quintetlaw12_TrieLongest_lp 130889) := by
  refine join_sound (lp := quintetlaw12_TrieLongest_lp) (cut := quintetlaw12_TrieLongest_cut) (i := 130889) (c := (sub (bodyOf Try.f9) [true, true, true, true, true, true, true, true, false, true, false, false, true, false, false, true, true])) [0, 2, 7, 8, 9, 10, 11, 12, 13] (fun e => match e with | .normal => [0, 2, 7, 8, 9, 10, 11, 12, 13] | _ => []) quintetlaw12_TrieLongest_j12_L ?_ ?_
  · exact good_by (c := (sub (bodyOf Try.f9) [true, true, true, true, true, true, true, true, false, true, false, false, true, false, false, true, true])) (i := 261779) (l := []) (by kernel_rfl) (fun _ h => by cases h)
  · intro Q tm h H
    have H0 := H
    obtain ⟨x703, e0, H⟩ := selI_ex H
    obtain ⟨x704, e2, H⟩ := selI_ex H
    obtain ⟨p705, e7, H⟩ := selP_ex H
    obtain ⟨A706, l706, c706, e8, H⟩ := selS_ex H
    obtain ⟨A707, l707, c707, e9, H⟩ := selS_ex H
    obtain ⟨a708, e10, H⟩ := selA_ex H
    obtain ⟨b709, e11, H⟩ := selB_ex H
    obtain ⟨A710, l710, c710, e12, H⟩ := selS_ex H
    obtain ⟨x711, e13, H⟩ := selI_ex H
    have e : mask [0, 2, 7, 8, 9, 10, 11, 12, 13] tm = mkTm [(0, some (.int .i64 x703)), (2, some (.int .u32 x704)), (7, some (.pointer p705)), (8, some (.slice A706 l706 c706)), (9, some (.slice A707 l707 c707)), (10, some (.pointer (some a708))), (11, some (.bool b709)), (12, some (.slice A710 l710 c710)), (13, some (.int .i64 x711))] := by simp only [mask, List.map_cons, List.map_nil, e0, e2, e7, e8, e9, e10, e11, e12, e13] <;> rfl
    rw [e]
    refine Eq.mp (quintetlaw12_TrieLongest_j12_step Q x703 x704 p705 A706 l706 c706 A707 l707 c707 a708 b709 A710 l710 c710 x711 h) ?_
    rw [← e]
    exact (quintetlaw12_TrieLongest_j12_mask Q tm h).mp H0
set_option maxRecDepth 100000 in
theorem quintetlaw12_TrieLongest_l11_step (Q : Qx) (k : Nat) (x545 : Int) (x546 : Int) (p547 : Option Addr) (A548 : Option Addr) (l548 : Nat) (c548 : Nat) (A549 : Option Addr) (l549 : Nat) (c549 : Nat) (a550 : Addr) (b551 : Bool) (A552 : Option Addr) (l552 : Nat) (c552 : Nat) (x553 : Int) (h : Hp) : quintetlaw12_TrieLongest_l11_L Q (k + 1) (mkTm [(0, some (.int .i64 x545)), (2, some (.int .u32 x546)), (7, some (.pointer p547)), (8, some (.slice A548 l548 c548)), (9, some (.slice A549 l549 c549)), (10, some (.pointer (some a550))), (11, some (.bool b551)), (12, some (.slice A552 l552 c552)), (13, some (.int .i64 x553))]) h =
    codeWp Try.prog 228 quintetlaw12_TrieLongest_lp quintetlaw12_TrieLongest_cut (sub (bodyOf Try.f9) [true, true, true, true, true, true, true, true, false, true, false, false]) 8180 (thenQ (fun tm h => quintetlaw12_TrieLongest_l11_L Q k (mask [0, 2, 7, 8, 9, 10, 11, 12, 13] tm) h) (maskQ (fun e => match e with | .ret => [6] | .exit 0 => [7, 8, 9, 10, 11, 12] | _ => []) Q)) (mkTm [(0, some (.int .i64 x545)), (2, some (.int .u32 x546)), (7, some (.pointer p547)), (8, some (.slice A548 l548 c548)), (9, some (.slice A549 l549 c549)), (10, some (.pointer (some a550))), (11, some (.bool b551)), (12, some (.slice A552 l552 c552)), (13, some (.int .i64 x553))]) h := by kernel_rfl
theorem quintetlaw12_TrieLongest_l11_mask (Q : Qx) (k : Nat) (tm : Tm) (h : Hp) : quintetlaw12_TrieLongest_l11_L Q k tm h ↔ quintetlaw12_TrieLongest_l11_L Q k (mask [0, 2, 7, 8, 9, 10, 11, 12, 13] tm) h := Iff.rfl
set_option maxRecDepth 100000 in
theorem quintetlaw12_TrieLongest_l11_snd : SndAt Try.prog 228 none (sub (bodyOf Try.f9) [true, true, true, true, true, true, true, true, false, true, false]) (quintetlaw12_TrieLongest_lp 4090) := by
  refine loop_sound (lp := quintetlaw12_TrieLongest_lp) (cut := quintetlaw12_TrieLongest_cut) (i := 4090) (c := (sub (bodyOf Try.f9) [true, true, true, true, true, true, true, true, false, true, false, false])) [0, 2, 7, 8, 9, 10, 11, 12, 13] (fun e => match e with | .ret => [6] | .exit 0 => [7, 8, 9, 10, 11, 12] | _ => []) quintetlaw12_TrieLongest_l11_L ?_ ?_ ?_
  · exact good_by (c := (sub (bodyOf Try.f9) [true, true, true, true, true, true, true, true, false, true, false, false])) (i := 8180) (l := [(130889, (sub (bodyOf Try.f9) [true, true, true, true, true, true, true, true, false, true, false, false, true, false, false, true, true]))]) (by kernel_rfl) (List.forall_mem_cons.2 ⟨quintetlaw12_TrieLongest_j12_snd, (fun _ h => by cases h)⟩)
  · intro Q tm h H
    obtain ⟨x545, e0, H⟩ := selI_ex H
    obtain ⟨x546, e2, H⟩ := selI_ex H
    obtain ⟨p547, e7, H⟩ := selP_ex H
    obtain ⟨A548, l548, c548, e8, H⟩ := selS_ex H
    obtain ⟨A549, l549, c549, e9, H⟩ := selS_ex H
    obtain ⟨a550, e10, H⟩ := selA_ex H
    obtain ⟨b551, e11, H⟩ := selB_ex H
    obtain ⟨A552, l552, c552, e12, H⟩ := selS_ex H
    obtain ⟨x553, e13, H⟩ := selI_ex H
    exact H
  · intro Q k tm h H
    have H0 := H
    obtain ⟨x545, e0, H⟩ := selI_ex H
    obtain ⟨x546, e2, H⟩ := selI_ex H
    obtain ⟨p547, e7, H⟩ := selP_ex H
    obtain ⟨A548, l548, c548, e8, H⟩ := selS_ex H
    obtain ⟨A549, l549, c549, e9, H⟩ := selS_ex H
    obtain ⟨a550, e10, H⟩ := selA_ex H
    obtain ⟨b551, e11, H⟩ := selB_ex H
    obtain ⟨A552, l552, c552, e12, H⟩ := selS_ex H
    obtain ⟨x553, e13, H⟩ := selI_ex H
    have e : mask [0, 2, 7, 8, 9, 10, 11, 12, 13] tm = mkTm [(0, some (.int .i64 x545)), (2, some (.int .u32 x546)), (7, some (.pointer p547)), (8, some (.slice A548 l548 c548)), (9, some (.slice A549 l549 c549)), (10, some (.pointer (some a550))), (11, some (.bool b551)), (12, some (.slice A552 l552 c552)), (13, some (.int .i64 x553))] := by simp only [mask, List.map_cons, List.map_nil, e0, e2, e7, e8, e9, e10, e11, e12, e13] <;> rfl
    rw [e]
    refine Eq.mp (quintetlaw12_TrieLongest_l11_step Q k x545 x546 p547 A548 l548 c548 A549 l549 c549 a550 b551 A552 l552 c552 x553 h) ?_
    rw [← e]
    exact (quintetlaw12_TrieLongest_l11_mask Q (k + 1) tm h).mp H0
set_option maxRecDepth 100000 in
theorem quintetlaw12_TrieLongest_l16_step (Q : Qx) (k : Nat) (p917 : Option Addr) (A918 : Option Addr) (l918 : Nat) (c918 : Nat) (A919 : Option Addr) (l919 : Nat) (c919 : Nat) (a920 : Addr) (b921 : Bool) (A922 : Option Addr) (l922 : Nat) (c922 : Nat) (x923 : Int) (h : Hp) : quintetlaw12_TrieLongest_l16_L Q (k + 1) (mkTm [(7, some (.pointer p917)), (8, some (.slice A918 l918 c918)), (9, some (.slice A919 l919 c919)), (10, some (.pointer (some a920))), (11, some (.bool b921)), (12, some (.slice A922 l922 c922)), (16, some (.int .i64 x923))]) h =
    codeWp Try.prog 228 quintetlaw12_TrieLongest_lp quintetlaw12_TrieLongest_cut (sub (bodyOf Try.f9) [true, true, true, true, true, true, true, true, true, true, false, true, false, false]) 32756 (thenQ (fun tm h => quintetlaw12_TrieLongest_l16_L Q k (mask [7, 8, 9, 10, 11, 12, 16] tm) h) (maskQ (fun e => match e with | .ret => [6] | .exit 2 => [7, 8, 10, 11, 12] | _ => []) Q)) (mkTm [(7, some (.pointer p917)), (8, some (.slice A918 l918 c918)), (9, some (.slice A919 l919 c919)), (10, some (.pointer (some a920))), (11, some (.bool b921)), (12, some (.slice A922 l922 c922)), (16, some (.int .i64 x923))]) h := by kernel_rfl
theorem quintetlaw12_TrieLongest_l16_mask (Q : Qx) (k : Nat) (tm : Tm) (h : Hp) : quintetlaw12_TrieLongest_l16_L Q k tm h ↔ quintetlaw12_TrieLongest_l16_L Q k (mask [7, 8, 9, 10, 11, 12, 16] tm) h := Iff.rfl
set_option maxRecDepth 100000 in
theorem quintetlaw12_TrieLongest_l16_snd : SndAt Try.prog 228 none (sub (bodyOf Try.f9) [true, true, true, true, true, true, true, true, true, true, false, true, false]) (quintetlaw12_TrieLongest_lp 16378) := by
  refine loop_sound (lp := quintetlaw12_TrieLongest_lp) (cut := quintetlaw12_TrieLongest_cut) (i := 16378) (c := (sub (bodyOf Try.f9) [true, true, true, true, true, true, true, true, true, true, false, true, false, false])) [7, 8, 9, 10, 11, 12, 16] (fun e => match e with | .ret => [6] | .exit 2 => [7, 8, 10, 11, 12] | _ => []) quintetlaw12_TrieLongest_l16_L ?_ ?_ ?_
  · exact good_by (c := (sub (bodyOf Try.f9) [true, true, true, true, true, true, true, true, true, true, false, true, false, false])) (i := 32756) (l := []) (by kernel_rfl) (fun _ h => by cases h)
  · intro Q tm h H
    obtain ⟨p917, e7, H⟩ := selP_ex H
    obtain ⟨A918, l918, c918, e8, H⟩ := selS_ex H
    obtain ⟨A919, l919, c919, e9, H⟩ := selS_ex H
    obtain ⟨a920, e10, H⟩ := selA_ex H
    obtain ⟨b921, e11, H⟩ := selB_ex H
    obtain ⟨A922, l922, c922, e12, H⟩ := selS_ex H
    obtain ⟨x923, e16, H⟩ := selI_ex H
    exact H
  · intro Q k tm h H
    have H0 := H
    obtain ⟨p917, e7, H⟩ := selP_ex H
    obtain ⟨A918, l918, c918, e8, H⟩ := selS_ex H
    obtain ⟨A919, l919, c919, e9, H⟩ := selS_ex H
    obtain ⟨a920, e10, H⟩ := selA_ex H
    obtain ⟨b921, e11, H⟩ := selB_ex H
    obtain ⟨A922, l922, c922, e12, H⟩ := selS_ex H
    obtain ⟨x923, e16, H⟩ := selI_ex H
    have e : mask [7, 8, 9, 10, 11, 12, 16] tm = mkTm [(7, some (.pointer p917)), (8, some (.slice A918 l918 c918)), (9, some (.slice A919 l919 c919)), (10, some (.pointer (some a920))), (11, some (.bool b921)), (12, some (.slice A922 l922 c922)), (16, some (.int .i64 x923))] := by simp only [mask, List.map_cons, List.map_nil, e7, e8, e9, e10, e11, e12, e16] <;> rfl
    rw [e]
    refine Eq.mp (quintetlaw12_TrieLongest_l16_step Q k p917 A918 l918 c918 A919 l919 c919 a920 b921 A922 l922 c922 x923 h) ?_
    rw [← e]
    exact (quintetlaw12_TrieLongest_l16_mask Q (k + 1) tm h).mp H0
set_option maxRecDepth 100000 in
theorem quintetlaw12_TrieLongest_j17_step (Q : Qx) (p964 : Option Addr) (A965 : Option Addr) (l965 : Nat) (c965 : Nat) (a966 : Addr) (a967 : Addr) (h : Hp) : quintetlaw12_TrieLongest_j17_L Q (mkTm [(7, some (.pointer p964)), (8, some (.slice A965 l965 c965)), (10, some (.pointer (some a966))), (17, some (.pointer (some a967)))]) h =
    codeWp Try.prog 228 quintetlaw12_TrieLongest_lp quintetlaw12_TrieLongest_cut (sub (bodyOf Try.f9) [true, true, true, true, true, true, true, true, true, true, true, true, true]) 16383 (maskQ (fun e => match e with | .ret => [6] | _ => []) Q) (mkTm [(7, some (.pointer p964)), (8, some (.slice A965 l965 c965)), (10, some (.pointer (some a966))), (17, some (.pointer (some a967)))]) h := by kernel_rfl
theorem quintetlaw12_TrieLongest_j17_mask (Q : Qx) (tm : Tm) (h : Hp) : quintetlaw12_TrieLongest_j17_L Q tm h ↔ quintetlaw12_TrieLongest_j17_L Q (mask [7, 8, 10, 17] tm) h := Iff.rfl
set_option maxRecDepth 100000 in
theorem quintetlaw12_TrieLongest_j17_snd : SndAt Try.prog 228 none (sub (bodyOf Try.f9) [true, true, true, true, true, true, true, true, true, true, true, true, true]) (quintetlaw12_TrieLongest_lp 8191) := by
  refine join_sound (lp := quintetlaw12_TrieLongest_lp) (cut := quintetlaw12_TrieLongest_cut) (i := 8191) (c := (sub (bodyOf Try.f9) [true, true, true, true, true, true, true, true, true, true, true, true, true])) [7, 8, 10, 17] (fun e => match e with | .ret => [6] | _ => []) quintetlaw12_TrieLongest_j17_L ?_ ?_
  · exact good_by (c := (sub (bodyOf Try.f9) [true, true, true, true, true, true, true, true, true, true, true, true, true])) (i := 16383) (l := []) (by kernel_rfl) (fun _ h => by cases h)
  · intro Q tm h H
    have H0 := H
    obtain ⟨p964, e7, H⟩ := selP_ex H
    obtain ⟨A965, l965, c965, e8, H⟩ := selS_ex H
    obtain ⟨a966, e10, H⟩ := selA_ex H
    obtain ⟨a967, e17, H⟩ := selA_ex H
    have e : mask [7, 8, 10, 17] tm = mkTm [(7, some (.pointer p964)), (8, some (.slice A965 l965 c965)), (10, some (.pointer (some a966))), (17, some (.pointer (some a967)))] := by simp only [mask, List.map_cons, List.map_nil, e7, e8, e10, e17] <;> rfl
    rw [e]
    refine Eq.mp (quintetlaw12_TrieLongest_j17_step Q p964 A965 l965 c965 a966 a967 h) ?_
    rw [← e]
    exact (quintetlaw12_TrieLongest_j17_mask Q tm h).mp H0
set_option maxRecDepth 100000 in
theorem quintetlaw12_TrieLongest_j15_step (Q : Qx) (p810 : Option Addr) (A811 : Option Addr) (l811 : Nat) (c811 : Nat) (A812 : Option Addr) (l812 : Nat) (c812 : Nat) (a813 : Addr) (b814 : Bool) (A815 : Option Addr) (l815 : Nat) (c815 : Nat) (h : Hp) : quintetlaw12_TrieLongest_j15_L Q (mkTm [(7, some (.pointer p810)), (8, some (.slice A811 l811 c811)), (9, some (.slice A812 l812 c812)), (10, some (.pointer (some a813))), (11, some (.bool b814)), (12, some (.slice A815 l815 c815))]) h =
    codeWp Try.prog 228 quintetlaw12_TrieLongest_lp quintetlaw12_TrieLongest_cut (sub (bodyOf Try.f9) [true, true, true, true, true, true, true, true, true, true]) 2047 (maskQ (fun e => match e with | .ret => [6] | _ => []) Q) (mkTm [(7, some (.pointer p810)), (8, some (.slice A811 l811 c811)), (9, some (.slice A812 l812 c812)), (10, some (.pointer (some a813))), (11, some (.bool b814)), (12, some (.slice A815 l815 c815))]) h := by kernel_rfl
theorem quintetlaw12_TrieLongest_j15_mask (Q : Qx) (tm : Tm) (h : Hp) : quintetlaw12_TrieLongest_j15_L Q tm h ↔ quintetlaw12_TrieLongest_j15_L Q (mask [7, 8, 9, 10, 11, 12] tm) h := Iff.rfl
set_option maxRecDepth 100000 in
theorem quintetlaw12_TrieLongest_j15_snd : SndAt Try.prog 228 none (sub (bodyOf Try.f9) [true, true, true, true, true, true, true, true, true, true]) (quintetlaw12_TrieLongest_lp 1023) := by
  refine join_sound (lp := quintetlaw12_TrieLongest_lp) (cut := quintetlaw12_TrieLongest_cut) (i := 1023) (c := (sub (bodyOf Try.f9) [true, true, true, true, true, true, true, true, true, true])) [7, 8, 9, 10, 11, 12] (fun e => match e with | .ret => [6] | _ => []) quintetlaw12_TrieLongest_j15_L ?_ ?_
  · exact good_by (c := (sub (bodyOf Try.f9) [true, true, true, true, true, true, true, true, true, true])) (i := 2047) (l := [(16378, (sub (bodyOf Try.f9) [true, true, true, true, true, true, true, true, true, true, false, true, false])), (8191, (sub (bodyOf Try.f9) [true, true, true, true, true, true, true, true, true, true, true, true, true]))]) (by kernel_rfl) (List.forall_mem_cons.2 ⟨quintetlaw12_TrieLongest_l16_snd, (List.forall_mem_cons.2 ⟨quintetlaw12_TrieLongest_j17_snd, (fun _ h => by cases h)⟩)⟩)
  · intro Q tm h H
    have H0 := H
    obtain ⟨p810, e7, H⟩ := selP_ex H
    obtain ⟨A811, l811, c811, e8, H⟩ := selS_ex H
    obtain ⟨A812, l812, c812, e9, H⟩ := selS_ex H
    obtain ⟨a813, e10, H⟩ := selA_ex H
    obtain ⟨b814, e11, H⟩ := selB_ex H
    obtain ⟨A815, l815, c815, e12, H⟩ := selS_ex H
    have e : mask [7, 8, 9, 10, 11, 12] tm = mkTm [(7, some (.pointer p810)), (8, some (.slice A811 l811 c811)), (9, some (.slice A812 l812 c812)), (10, some (.pointer (some a813))), (11, some (.bool b814)), (12, some (.slice A815 l815 c815))] := by simp only [mask, List.map_cons, List.map_nil, e7, e8, e9, e10, e11, e12] <;> rfl
    rw [e]
    refine Eq.mp (quintetlaw12_TrieLongest_j15_step Q p810 A811 l811 c811 A812 l812 c812 a813 b814 A815 l815 c815 h) ?_
    rw [← e]
    exact (quintetlaw12_TrieLongest_j15_mask Q tm h).mp H0
set_option maxRecDepth 100000 in
theorem quintetlaw12_TrieLongest_j9_step (Q : Qx) (x16 : Int) (A17 : Option Addr) (l17 : Nat) (c17 : Nat) (x18 : Int) (h : Hp) : quintetlaw12_TrieLongest_j9_L Q (mkTm [(0, some (.int .i64 x16)), (1, some (.slice A17 l17 c17)), (2, some (.int .u32 x18))]) h =
    codeWp Try.prog 228 quintetlaw12_TrieLongest_lp quintetlaw12_TrieLongest_cut (sub (bodyOf Try.f9) [true, true]) 7 (maskQ (fun e => match e with | .ret => [6] | _ => []) Q) (mkTm [(0, some (.int .i64 x16)), (1, some (.slice A17 l17 c17)), (2, some (.int .u32 x18))]) h := by kernel_rfl
theorem quintetlaw12_TrieLongest_j9_mask (Q : Qx) (tm : Tm) (h : Hp) : quintetlaw12_TrieLongest_j9_L Q tm h ↔ quintetlaw12_TrieLongest_j9_L Q (mask [0, 1, 2] tm) h := Iff.rfl
set_option maxRecDepth 100000 in
theorem quintetlaw12_TrieLongest_j9_snd : SndAt Try.prog 228 none (sub (bodyOf Try.f9) [true, true]) (quintetlaw12_TrieLongest_lp 3) := by
  refine join_sound (lp := quintetlaw12_TrieLongest_lp) (cut := quintetlaw12_TrieLongest_cut) (i := 3) (c := (sub (bodyOf Try.f9) [true, true])) [0, 1, 2] (fun e => match e with | .ret => [6] | _ => []) quintetlaw12_TrieLongest_j9_L ?_ ?_
  · exact good_by (c := (sub (bodyOf Try.f9) [true, true])) (i := 7) (l := [(4090, (sub (bodyOf Try.f9) [true, true, true, true, true, true, true, true, false, true, false])), (1023, (sub (bodyOf Try.f9) [true, true, true, true, true, true, true, true, true, true]))]) (by kernel_rfl) (List.forall_mem_cons.2 ⟨quintetlaw12_TrieLongest_l11_snd, (List.forall_mem_cons.2 ⟨quintetlaw12_TrieLongest_j15_snd, (fun _ h => by cases h)⟩)⟩)
  · intro Q tm h H
    have H0 := H
    obtain ⟨x16, e0, H⟩ := selI_ex H
    obtain ⟨A17, l17, c17, e1, H⟩ := selS_ex H
    obtain ⟨x18, e2, H⟩ := selI_ex H
    have e : mask [0, 1, 2] tm = mkTm [(0, some (.int .i64 x16)), (1, some (.slice A17 l17 c17)), (2, some (.int .u32 x18))] := by simp only [mask, List.map_cons, List.map_nil, e0, e1, e2] <;> rfl
    rw [e]
    refine Eq.mp (quintetlaw12_TrieLongest_j9_step Q x16 A17 l17 c17 x18 h) ?_
    rw [← e]
    exact (quintetlaw12_TrieLongest_j9_mask Q tm h).mp H0
set_option maxRecDepth 100000 in
theorem quintetlaw12_TrieLongest_eq (x1 : Int) (A2 : Option Addr) (l2 : Nat) (c2 : Nat) (x3 : Int) (h : Hp) (K : Value → Hp → Prop) : quintetlaw12_TrieLongest x1 A2 l2 c2 x3 h K =
    codeWp Try.prog 228 quintetlaw12_TrieLongest_lp quintetlaw12_TrieLongest_cut (bodyOf Try.f9) 1 (endQ Try.prog Try.f9.results.toList K) (argTm [(.int .i64 x1), (.slice A2 l2 c2), (.int .u32 x3)]) h := by kernel_rfl
set_option maxRecDepth 100000 in
theorem quintetlaw12_TrieLongest_ok (x1 : Int) (A2 : Option Addr) (l2 : Nat) (c2 : Nat) (x3 : Int) {h : Hp} {K : Value → Hp → Prop} (H : quintetlaw12_TrieLongest x1 A2 l2 c2 x3 h K) : CallsH Try.prog 9 #[(.int .i64 x1), (.slice A2 l2 c2), (.int .u32 x3)] h K :=
  calls_of (args := [(.int .i64 x1), (.slice A2 l2 c2), (.int .u32 x3)]) (n := 228) (lp := quintetlaw12_TrieLongest_lp) (cut := quintetlaw12_TrieLongest_cut) Try.func9 (c := bodyOf Try.f9) (by kernel_rfl) (by kernel_rfl) (by kernel_rfl) (good_by (c := (bodyOf Try.f9)) (i := 1) (l := [(3, (sub (bodyOf Try.f9) [true, true]))]) (by kernel_rfl) (List.forall_mem_cons.2 ⟨quintetlaw12_TrieLongest_j9_snd, (fun _ h => by cases h)⟩))
    (Eq.mp (quintetlaw12_TrieLongest_eq x1 A2 l2 c2 x3 h K) H)

/-! ### quintet/quintetlaw12.TrieTurned: function 10 -/
def quintetlaw12_TrieTurned_l9 (x281 : Int) (A282 : Option Addr) (l282 : Nat) (c282 : Nat) (x283 : Int) (K0 : Bool → Hp → Prop) (K1 : Int → (Option Addr) → Nat → Nat → Int → Hp → Prop)  : Nat → Int → Hp → Prop
  | 0, _, _ => False
  | k + 1, x284, h =>
    br (decide (x284 < x283))
    (∃ a300 : Addr, PV Try.prog (Instr.indexAt 79 (.slice A282 l282 c282) (.int .i64 x283)) (.pointer (some a300)) ∧
    ∃ x301 : Int, HV Try.prog (Instr.loadAt 33 (.pointer (some a300))) h (.int .u32 x301) ∧ 
    ∃ a302 : Addr, PV Try.prog (Instr.indexAt 79 (.slice A282 l282 c282) (.int .i64 x284)) (.pointer (some a302)) ∧
    ∃ x303 : Int, HV Try.prog (Instr.loadAt 33 (.pointer (some a302))) h (.int .u32 x303) ∧ 
    br (x301 == x303)
    (∃ a304 : Addr, PV Try.prog (Instr.indexAt 79 (.slice A282 l282 c282) (.int .i64 x283)) (.pointer (some a304)) ∧
    ∃ x305 : Int, HV Try.prog (Instr.loadAt 3 (.pointer (some (a304.add 1)))) h (.int .i64 x305) ∧ 
    ∃ a306 : Addr, PV Try.prog (Instr.indexAt 79 (.slice A282 l282 c282) (.int .i64 x284)) (.pointer (some a306)) ∧
    ∃ x307 : Int, HV Try.prog (Instr.loadAt 3 (.pointer (some (a306.add 1)))) h (.int .i64 x307) ∧ 
    br (x305 == x307)
    (CallsH Try.prog 38 #[] h fun r309 h308 =>
    ∃ b310 : Bool, r309 = (.bool b310) ∧ 
    K0 b310 h308)
    (quintetlaw12_TrieTurned_l9 x281 A282 l282 c282 x283 K0 K1 k (IntKind.i64.wrap (x284 + 1)) h))
    (quintetlaw12_TrieTurned_l9 x281 A282 l282 c282 x283 K0 K1 k (IntKind.i64.wrap (x284 + 1)) h))
    (K1 x281 A282 l282 c282 x283 h)
def quintetlaw12_TrieTurned_l9_L (Q : Qx) (k : Nat) (tm : Tm) (h : Hp) : Prop :=
  selI .i64 (tm 0) fun x281 =>
  selS (tm 1) fun A282 l282 c282 =>
  selI .i64 (tm 5) fun x283 =>
  selI .i64 (tm 6) fun x284 =>
  quintetlaw12_TrieTurned_l9 x281 A282 l282 c282 x283 (fun (b296 : Bool) h => Q (.ret) (mkTm [(4, some (.bool b296))]) h) (fun (x297 : Int) (A298 : Option Addr) (l298 : Nat) (c298 : Nat) (x299 : Int) h => Q (.exit 2) (mkTm [(0, some (.int .i64 x297)), (1, some (.slice A298 l298 c298)), (5, some (.int .i64 x299))]) h) k x284 h
def quintetlaw12_TrieTurned_l8 (x238 : Int) (A239 : Option Addr) (l239 : Nat) (c239 : Nat) (K0 : Bool → Hp → Prop) (K1 : Int → (Option Addr) → Nat → Nat → Hp → Prop)  : Nat → Int → Hp → Prop
  | 0, _, _ => False
  | k + 1, x240, h =>
    br (decide (x240 < (l239 : Int)))
    (∃ k317, quintetlaw12_TrieTurned_l9 x238 A239 l239 c239 x240
    (fun (b311 : Bool) (h312 : Hp) =>
    K0 b311 h312)
    (fun (x313 : Int) (A314 : Option Addr) (l314 : Nat) (c314 : Nat) (x315 : Int) (h316 : Hp) =>
    quintetlaw12_TrieTurned_l8 x238 A239 l239 c239 K0 K1 k (IntKind.i64.wrap (x315 + 1)) h316)
    k317 0 h)
    (K1 x238 A239 l239 c239 h)
def quintetlaw12_TrieTurned_l8_L (Q : Qx) (k : Nat) (tm : Tm) (h : Hp) : Prop :=
  selI .i64 (tm 0) fun x238 =>
  selS (tm 1) fun A239 l239 c239 =>
  selI .i64 (tm 5) fun x240 =>
  quintetlaw12_TrieTurned_l8 x238 A239 l239 c239 (fun (b278 : Bool) h => Q (.ret) (mkTm [(4, some (.bool b278))]) h) (fun (x279 : Int) (A280 : Option Addr) (l280 : Nat) (c280 : Nat) h => Q (.exit 0) (mkTm [(0, some (.int .i64 x279)), (1, some (.slice A280 l280 c280))]) h) k x240 h
def quintetlaw12_TrieTurned_l10 (x323 : Int) (A324 : Option Addr) (l324 : Nat) (c324 : Nat) (K0 : Int → (Option Addr) → Nat → Nat → (Option Addr) → Nat → Nat → Hp → Prop)  : Nat → (Option Addr) → Nat → Nat → (Option Addr) → Nat → Nat → Int → Hp → Prop
  | 0, _, _, _, _, _, _, _, _ => False
  | k + 1, A325, l325, c325, A326, l326, c326, x327, h =>
    br (decide (x327 < (l324 : Int)))
    (∃ a357 : Addr, PV Try.prog (Instr.indexAt 79 (.slice A324 l324 c324) (.int .i64 (IntKind.i64.wrap ((IntKind.i64.wrap ((l324 : Int) - 1)) - x327)))) (.pointer (some a357)) ∧
    ∃ x358 : Int, ∃ x359 : Int, ∃ x360 : Int, HV Try.prog (Instr.loadAt 66 (.pointer (some a357))) h (.agg #[(.int .u32 x358), (.int .i64 x359), (.int .i64 x360)]) ∧ 
    newC h (.cells #[(.int .u32 0), (.int .i64 0), (.int .i64 0)] 66 (0, 0)) fun a362 h361 => 
    HU Try.prog (Instr.storeAt 66 (.pointer (some a362)) (.agg #[(.int .u32 x358), (.int .i64 x359), (.int .i64 x360)])) h361 fun h363 => 
    ∃ a364 : Addr, PV Try.prog (Instr.indexAt 79 (.slice A324 l324 c324) (.int .i64 x327)) (.pointer (some a364)) ∧
    ∃ x365 : Int, HV Try.prog (Instr.loadAt 33 (.pointer (some a364))) h363 (.int .u32 x365) ∧ 
    ∃ a366 : Addr, PV Try.prog (Instr.indexAt 79 (.slice A324 l324 c324) (.int .i64 x327)) (.pointer (some a366)) ∧
    ∃ x367 : Int, HV Try.prog (Instr.loadAt 3 (.pointer (some (a366.add 1)))) h363 (.int .i64 x367) ∧ 
    ∃ a368 : Addr, PV Try.prog (Instr.indexAt 79 (.slice A324 l324 c324) (.int .i64 x327)) (.pointer (some a368)) ∧
    ∃ x369 : Int, HV Try.prog (Instr.loadAt 3 (.pointer (some (a368.add 2)))) h363 (.int .i64 x369) ∧ 
    newC h363 (.cells #[(.int .i64 0), (.bool false), (.int .u32 x365), (.int .i64 x367), (.int .i64 x369)] 83 (0, 0)) fun a371 h370 => 
    HW Try.prog (Builtin.append_ #[77, 77] 77 #[(.slice A325 l325 c325), (.slice (some a371) 1 1)]) h370 fun r373 h372 =>
    ∃ A374 : Option Addr, ∃ l374 : Nat, ∃ c374 : Nat, r373 = (.slice A374 l374 c374) ∧ 
    ∃ x375 : Int, HV Try.prog (Instr.loadAt 33 (.pointer (some a362))) h372 (.int .u32 x375) ∧ 
    ∃ x376 : Int, HV Try.prog (Instr.loadAt 3 (.pointer (some (a362.add 1)))) h372 (.int .i64 x376) ∧ 
    ∃ x377 : Int, HV Try.prog (Instr.loadAt 3 (.pointer (some (a362.add 2)))) h372 (.int .i64 x377) ∧ 
    newC h372 (.cells #[(.int .i64 0), (.bool false), (.int .u32 x375), (.int .i64 x376), (.int .i64 x377)] 83 (0, 0)) fun a379 h378 => 
    HW Try.prog (Builtin.append_ #[77, 77] 77 #[(.slice A326 l326 c326), (.slice (some a379) 1 1)]) h378 fun r381 h380 =>
    ∃ A382 : Option Addr, ∃ l382 : Nat, ∃ c382 : Nat, r381 = (.slice A382 l382 c382) ∧ 
    quintetlaw12_TrieTurned_l10 x323 A324 l324 c324 K0 k A374 l374 c374 A382 l382 c382 (IntKind.i64.wrap (x327 + 1)) h380)
    (K0 x323 A325 l325 c325 A326 l326 c326 h)
def quintetlaw12_TrieTurned_l10_L (Q : Qx) (k : Nat) (tm : Tm) (h : Hp) : Prop :=
  selI .i64 (tm 0) fun x323 =>
  selS (tm 1) fun A324 l324 c324 =>
  selS (tm 7) fun A325 l325 c325 =>
  selS (tm 8) fun A326 l326 c326 =>
  selI .i64 (tm 9) fun x327 =>
  quintetlaw12_TrieTurned_l10 x323 A324 l324 c324 (fun (x354 : Int) (A355 : Option Addr) (l355 : Nat) (c355 : Nat) (A356 : Option Addr) (l356 : Nat) (c356 : Nat) h => Q (.exit 4) (mkTm [(0, some (.int .i64 x354)), (7, some (.slice A355 l355 c355)), (8, some (.slice A356 l356 c356))]) h) k A325 l325 c325 A326 l326 c326 x327 h
def quintetlaw12_TrieTurned_j11 (K0 : Bool → Hp → Prop) (p395 : Option Addr) (p396 : Option Addr) (h : Hp) : Prop :=
  CallsH Try.prog 38 #[] h fun r426 h425 =>
  ∃ b427 : Bool, r426 = (.bool b427) ∧ 
  br b427
  (CallsH Try.prog 35 #[(.pointer p396)] h425 fun r429 h428 =>
  ∃ v430 : Value, r429 = v430 ∧ 
  CallsH Try.prog 35 #[(.pointer p395)] h428 fun r432 h431 =>
  ∃ v433 : Value, r432 = v433 ∧ 
  CallsH Try.prog 41 #[v433] h431 fun r435 h434 =>
  ∃ A436 : Option Addr, ∃ l436 : Nat, ∃ c436 : Nat, r435 = (.slice A436 l436 c436) ∧ 
  CallsH Try.prog 33 #[v430, (.slice A436 l436 c436), (.int .i64 1)] h434 fun r438 h437 =>
  ∃ b439 : Bool, r438 = (.bool b439) ∧ 
  br b439
  (CallsH Try.prog 36 #[(.pointer p395)] h437 fun r441 h440 =>
  ∃ x442 : Int, r441 = (.int .i64 x442) ∧ 
  CallsH Try.prog 36 #[(.pointer p396)] h440 fun r444 h443 =>
  ∃ x445 : Int, r444 = (.int .i64 x445) ∧ 
  br (x442 == x445)
  (CallsH Try.prog 37 #[(.pointer p395)] h443 fun r447 h446 =>
  ∃ x448 : Int, r447 = (.int .i64 x448) ∧ 
  CallsH Try.prog 37 #[(.pointer p396)] h446 fun r450 h449 =>
  ∃ x451 : Int, r450 = (.int .i64 x451) ∧ 
  K0 (x448 == x451) h449)
  (K0 false h443))
  (K0 false h437))
  (K0 false h425)
def quintetlaw12_TrieTurned_j11_L (Q : Qx) (tm : Tm) (h : Hp) : Prop :=
  selP (tm 11) fun p395 =>
  selP (tm 12) fun p396 =>
  quintetlaw12_TrieTurned_j11 (fun (b424 : Bool) h => Q (.ret) (mkTm [(4, some (.bool b424))]) h) p395 p396 h
def quintetlaw12_TrieTurned_j6 (K0 : Bool → Hp → Prop) (x15 : Int) (A16 : Option Addr) (l16 : Nat) (c16 : Nat) (h : Hp) : Prop :=
  ∃ k457, quintetlaw12_TrieTurned_l8 x15 A16 l16 c16
  (fun (b318 : Bool) (h319 : Hp) =>
  K0 b318 h319)
  (fun (x320 : Int) (A321 : Option Addr) (l321 : Nat) (c321 : Nat) (h322 : Hp) =>
  ∃ k456, quintetlaw12_TrieTurned_l10 x320 A321 l321 c321
  (fun (x383 : Int) (A384 : Option Addr) (l384 : Nat) (c384 : Nat) (A385 : Option Addr) (l385 : Nat) (c385 : Nat) (h386 : Hp) =>
  CallsH Try.prog 40 #[(.int .i64 x383), (.slice A384 l384 c384)] h386 fun r388 h387 =>
  ∃ p389 : Option Addr, r388 = (.pointer p389) ∧ 
  CallsH Try.prog 40 #[(.int .i64 x383), (.slice A385 l385 c385)] h387 fun r391 h390 =>
  ∃ p392 : Option Addr, r391 = (.pointer p392) ∧ 
  ∃ b452 : Bool, PV Try.prog (binOp .eql 60 (.pointer p389) (.pointer none)) (.bool b452) ∧
  br b452
  (K0 false h390)
  (∃ b453 : Bool, PV Try.prog (binOp .eql 60 (.pointer p392) (.pointer none)) (.bool b453) ∧
  br b453
  (K0 false h390)
  (quintetlaw12_TrieTurned_j11
  (fun (b454 : Bool) (h455 : Hp) =>
  K0 b454 h455)
  p389 p392 h390)))
  k456 none 0 0 none 0 0 0 h322)
  k457 0 h
def quintetlaw12_TrieTurned_j6_L (Q : Qx) (tm : Tm) (h : Hp) : Prop :=
  selI .i64 (tm 0) fun x15 =>
  selS (tm 1) fun A16 l16 c16 =>
  quintetlaw12_TrieTurned_j6 (fun (b237 : Bool) h => Q (.ret) (mkTm [(4, some (.bool b237))]) h) x15 A16 l16 c16 h
def quintetlaw12_TrieTurned (x1 : Int) (A2 : Option Addr) (l2 : Nat) (c2 : Nat) (h : Hp) (K : Value → Hp → Prop) : Prop :=
  br (x1 != 8)
  (br (x1 != 16)
  (br (x1 != 32)
  (CallsH Try.prog 38 #[] h fun r459 h458 =>
  ∃ b460 : Bool, r459 = (.bool b460) ∧ 
  K (.bool b460) h458)
  (br (decide ((l2 : Int) > 4000))
  (CallsH Try.prog 38 #[] h fun r462 h461 =>
  ∃ b463 : Bool, r462 = (.bool b463) ∧ 
  K (.bool b463) h461)
  (quintetlaw12_TrieTurned_j6
  (fun (b464 : Bool) (h465 : Hp) =>
  K (.bool b464) h465)
  x1 A2 l2 c2 h)))
  (br (decide ((l2 : Int) > 4000))
  (CallsH Try.prog 38 #[] h fun r467 h466 =>
  ∃ b468 : Bool, r467 = (.bool b468) ∧ 
  K (.bool b468) h466)
  (quintetlaw12_TrieTurned_j6
  (fun (b469 : Bool) (h470 : Hp) =>
  K (.bool b469) h470)
  x1 A2 l2 c2 h)))
  (br (decide ((l2 : Int) > 4000))
  (CallsH Try.prog 38 #[] h fun r472 h471 =>
  ∃ b473 : Bool, r472 = (.bool b473) ∧ 
  K (.bool b473) h471)
  (quintetlaw12_TrieTurned_j6
  (fun (b474 : Bool) (h475 : Hp) =>
  K (.bool b474) h475)
  x1 A2 l2 c2 h))
def quintetlaw12_TrieTurned_lp (i : Nat) (Q : Qx) (tm : Tm) (h : Hp) : Prop := match Nat.beq i 3730 with
  | true => ∃ k, quintetlaw12_TrieTurned_l9_L Q k tm h
  | false => match Nat.beq i 58 with
  | true => ∃ k, quintetlaw12_TrieTurned_l8_L Q k tm h
  | false => match Nat.beq i 506 with
  | true => ∃ k, quintetlaw12_TrieTurned_l10_L Q k tm h
  | false => match Nat.beq i 511 with
  | true => quintetlaw12_TrieTurned_j11_L Q tm h
  | false => match Nat.beq i 3 with
  | true => quintetlaw12_TrieTurned_j6_L Q tm h
  | false => False
def quintetlaw12_TrieTurned_cut (i : Nat) : Option (List Nat) := match Nat.beq i 3 with
  | true => some [0, 1]
  | false => match Nat.beq i 511 with
  | true => some [11, 12]
  | false => none
set_option maxRecDepth 100000 in
theorem quintetlaw12_TrieTurned_l9_step (Q : Qx) (k : Nat) (x281 : Int) (A282 : Option Addr) (l282 : Nat) (c282 : Nat) (x283 : Int) (x284 : Int) (h : Hp) : quintetlaw12_TrieTurned_l9_L Q (k + 1) (mkTm [(0, some (.int .i64 x281)), (1, some (.slice A282 l282 c282)), (5, some (.int .i64 x283)), (6, some (.int .i64 x284))]) h =
    codeWp Try.prog 143 quintetlaw12_TrieTurned_lp quintetlaw12_TrieTurned_cut (sub (bodyOf Try.f10) [true, true, false, true, false, false, true, false, false, true, false, false]) 7460 (thenQ (fun tm h => quintetlaw12_TrieTurned_l9_L Q k (mask [0, 1, 5, 6] tm) h) (maskQ (fun e => match e with | .ret => [4] | .exit 2 => [0, 1, 5] | _ => []) Q)) (mkTm [(0, some (.int .i64 x281)), (1, some (.slice A282 l282 c282)), (5, some (.int .i64 x283)), (6, some (.int .i64 x284))]) h := by kernel_rfl
theorem quintetlaw12_TrieTurned_l9_mask (Q : Qx) (k : Nat) (tm : Tm) (h : Hp) : quintetlaw12_TrieTurned_l9_L Q k tm h ↔ quintetlaw12_TrieTurned_l9_L Q k (mask [0, 1, 5, 6] tm) h := Iff.rfl
set_option maxRecDepth 100000 in
theorem quintetlaw12_TrieTurned_l9_snd : SndAt Try.prog 143 none (sub (bodyOf Try.f10) [true, true, false, true, false, false, true, false, false, true, false]) (quintetlaw12_TrieTurned_lp 3730) := by
  refine loop_sound (lp := quintetlaw12_TrieTurned_lp) (cut := quintetlaw12_TrieTurned_cut) (i := 3730) (c := (sub (bodyOf Try.f10) [true, true, false, true, false, false, true, false, false, true, false, false])) [0, 1, 5, 6] (fun e => match e with | .ret => [4] | .exit 2 => [0, 1, 5] | _ => []) quintetlaw12_TrieTurned_l9_L ?_ ?_ ?_
  · exact good_by (c := (sub (bodyOf Try.f10) [true, true, false, true, false, false, true, false, false, true, false, false])) (i := 7460) (l := []) (by kernel_rfl) (fun _ h => by cases h)
  · intro Q tm h H
    obtain ⟨x281, e0, H⟩ := selI_ex H
    obtain ⟨A282, l282, c282, e1, H⟩ := selS_ex H
    obtain ⟨x283, e5, H⟩ := selI_ex H
    obtain ⟨x284, e6, H⟩ := selI_ex H
    exact H
  · intro Q k tm h H
    have H0 := H
    obtain ⟨x281, e0, H⟩ := selI_ex H
    obtain ⟨A282, l282, c282, e1, H⟩ := selS_ex H
    obtain ⟨x283, e5, H⟩ := selI_ex H
    obtain ⟨x284, e6, H⟩ := selI_ex H
    have e : mask [0, 1, 5, 6] tm = mkTm [(0, some (.int .i64 x281)), (1, some (.slice A282 l282 c282)), (5, some (.int .i64 x283)), (6, some (.int .i64 x284))] := by simp only [mask, List.map_cons, List.map_nil, e0, e1, e5, e6] <;> rfl
    rw [e]
    refine Eq.mp (quintetlaw12_TrieTurned_l9_step Q k x281 A282 l282 c282 x283 x284 h) ?_
    rw [← e]
    exact (quintetlaw12_TrieTurned_l9_mask Q (k + 1) tm h).mp H0
set_option maxRecDepth 100000 in
theorem quintetlaw12_TrieTurned_l8_step (Q : Qx) (k : Nat) (x238 : Int) (A239 : Option Addr) (l239 : Nat) (c239 : Nat) (x240 : Int) (h : Hp) : quintetlaw12_TrieTurned_l8_L Q (k + 1) (mkTm [(0, some (.int .i64 x238)), (1, some (.slice A239 l239 c239)), (5, some (.int .i64 x240))]) h =
    codeWp Try.prog 143 quintetlaw12_TrieTurned_lp quintetlaw12_TrieTurned_cut (sub (bodyOf Try.f10) [true, true, false, true, false, false]) 116 (thenQ (fun tm h => quintetlaw12_TrieTurned_l8_L Q k (mask [0, 1, 5] tm) h) (maskQ (fun e => match e with | .ret => [4] | .exit 0 => [0, 1] | _ => []) Q)) (mkTm [(0, some (.int .i64 x238)), (1, some (.slice A239 l239 c239)), (5, some (.int .i64 x240))]) h := by kernel_rfl
theorem quintetlaw12_TrieTurned_l8_mask (Q : Qx) (k : Nat) (tm : Tm) (h : Hp) : quintetlaw12_TrieTurned_l8_L Q k tm h ↔ quintetlaw12_TrieTurned_l8_L Q k (mask [0, 1, 5] tm) h := Iff.rfl
set_option maxRecDepth 100000 in
theorem quintetlaw12_TrieTurned_l8_snd : SndAt Try.prog 143 none (sub (bodyOf Try.f10) [true, true, false, true, false]) (quintetlaw12_TrieTurned_lp 58) := by
  refine loop_sound (lp := quintetlaw12_TrieTurned_lp) (cut := quintetlaw12_TrieTurned_cut) (i := 58) (c := (sub (bodyOf Try.f10) [true, true, false, true, false, false])) [0, 1, 5] (fun e => match e with | .ret => [4] | .exit 0 => [0, 1] | _ => []) quintetlaw12_TrieTurned_l8_L ?_ ?_ ?_
  · exact good_by (c := (sub (bodyOf Try.f10) [true, true, false, true, false, false])) (i := 116) (l := [(3730, (sub (bodyOf Try.f10) [true, true, false, true, false, false, true, false, false, true, false]))]) (by kernel_rfl) (List.forall_mem_cons.2 ⟨quintetlaw12_TrieTurned_l9_snd, (fun _ h => by cases h)⟩)
  · intro Q tm h H
    obtain ⟨x238, e0, H⟩ := selI_ex H
    obtain ⟨A239, l239, c239, e1, H⟩ := selS_ex H
    obtain ⟨x240, e5, H⟩ := selI_ex H
    exact H
  · intro Q k tm h H
    have H0 := H
    obtain ⟨x238, e0, H⟩ := selI_ex H
    obtain ⟨A239, l239, c239, e1, H⟩ := selS_ex H
    obtain ⟨x240, e5, H⟩ := selI_ex H
    have e : mask [0, 1, 5] tm = mkTm [(0, some (.int .i64 x238)), (1, some (.slice A239 l239 c239)), (5, some (.int .i64 x240))] := by simp only [mask, List.map_cons, List.map_nil, e0, e1, e5] <;> rfl
    rw [e]
    refine Eq.mp (quintetlaw12_TrieTurned_l8_step Q k x238 A239 l239 c239 x240 h) ?_
    rw [← e]
    exact (quintetlaw12_TrieTurned_l8_mask Q (k + 1) tm h).mp H0
set_option maxRecDepth 100000 in
theorem quintetlaw12_TrieTurned_l10_step (Q : Qx) (k : Nat) (x323 : Int) (A324 : Option Addr) (l324 : Nat) (c324 : Nat) (A325 : Option Addr) (l325 : Nat) (c325 : Nat) (A326 : Option Addr) (l326 : Nat) (c326 : Nat) (x327 : Int) (h : Hp) : quintetlaw12_TrieTurned_l10_L Q (k + 1) (mkTm [(0, some (.int .i64 x323)), (1, some (.slice A324 l324 c324)), (7, some (.slice A325 l325 c325)), (8, some (.slice A326 l326 c326)), (9, some (.int .i64 x327))]) h =
    codeWp Try.prog 143 quintetlaw12_TrieTurned_lp quintetlaw12_TrieTurned_cut (sub (bodyOf Try.f10) [true, true, true, true, true, false, true, false, false]) 1012 (thenQ (fun tm h => quintetlaw12_TrieTurned_l10_L Q k (mask [0, 1, 7, 8, 9] tm) h) (maskQ (fun e => match e with | .exit 4 => [0, 7, 8] | _ => []) Q)) (mkTm [(0, some (.int .i64 x323)), (1, some (.slice A324 l324 c324)), (7, some (.slice A325 l325 c325)), (8, some (.slice A326 l326 c326)), (9, some (.int .i64 x327))]) h := by kernel_rfl
theorem quintetlaw12_TrieTurned_l10_mask (Q : Qx) (k : Nat) (tm : Tm) (h : Hp) : quintetlaw12_TrieTurned_l10_L Q k tm h ↔ quintetlaw12_TrieTurned_l10_L Q k (mask [0, 1, 7, 8, 9] tm) h := Iff.rfl
set_option maxRecDepth 100000 in
theorem quintetlaw12_TrieTurned_l10_snd : SndAt Try.prog 143 none (sub (bodyOf Try.f10) [true, true, true, true, true, false, true, false]) (quintetlaw12_TrieTurned_lp 506) := by
  refine loop_sound (lp := quintetlaw12_TrieTurned_lp) (cut := quintetlaw12_TrieTurned_cut) (i := 506) (c := (sub (bodyOf Try.f10) [true, true, true, true, true, false, true, false, false])) [0, 1, 7, 8, 9] (fun e => match e with | .exit 4 => [0, 7, 8] | _ => []) quintetlaw12_TrieTurned_l10_L ?_ ?_ ?_
  · exact good_by (c := (sub (bodyOf Try.f10) [true, true, true, true, true, false, true, false, false])) (i := 1012) (l := []) (by kernel_rfl) (fun _ h => by cases h)
  · intro Q tm h H
    obtain ⟨x323, e0, H⟩ := selI_ex H
    obtain ⟨A324, l324, c324, e1, H⟩ := selS_ex H
    obtain ⟨A325, l325, c325, e7, H⟩ := selS_ex H
    obtain ⟨A326, l326, c326, e8, H⟩ := selS_ex H
    obtain ⟨x327, e9, H⟩ := selI_ex H
    exact H
  · intro Q k tm h H
    have H0 := H
    obtain ⟨x323, e0, H⟩ := selI_ex H
    obtain ⟨A324, l324, c324, e1, H⟩ := selS_ex H
    obtain ⟨A325, l325, c325, e7, H⟩ := selS_ex H
    obtain ⟨A326, l326, c326, e8, H⟩ := selS_ex H
    obtain ⟨x327, e9, H⟩ := selI_ex H
    have e : mask [0, 1, 7, 8, 9] tm = mkTm [(0, some (.int .i64 x323)), (1, some (.slice A324 l324 c324)), (7, some (.slice A325 l325 c325)), (8, some (.slice A326 l326 c326)), (9, some (.int .i64 x327))] := by simp only [mask, List.map_cons, List.map_nil, e0, e1, e7, e8, e9] <;> rfl
    rw [e]
    refine Eq.mp (quintetlaw12_TrieTurned_l10_step Q k x323 A324 l324 c324 A325 l325 c325 A326 l326 c326 x327 h) ?_
    rw [← e]
    exact (quintetlaw12_TrieTurned_l10_mask Q (k + 1) tm h).mp H0
set_option maxRecDepth 100000 in
theorem quintetlaw12_TrieTurned_j11_step (Q : Qx) (p395 : Option Addr) (p396 : Option Addr) (h : Hp) : quintetlaw12_TrieTurned_j11_L Q (mkTm [(11, some (.pointer p395)), (12, some (.pointer p396))]) h =
    codeWp Try.prog 143 quintetlaw12_TrieTurned_lp quintetlaw12_TrieTurned_cut (sub (bodyOf Try.f10) [true, true, true, true, true, true, true, true, true]) 1023 (maskQ (fun e => match e with | .ret => [4] | _ => []) Q) (mkTm [(11, some (.pointer p395)), (12, some (.pointer p396))]) h := by kernel_rfl
theorem quintetlaw12_TrieTurned_j11_mask (Q : Qx) (tm : Tm) (h : Hp) : quintetlaw12_TrieTurned_j11_L Q tm h ↔ quintetlaw12_TrieTurned_j11_L Q (mask [11, 12] tm) h := Iff.rfl
set_option maxRecDepth 100000 in
theorem quintetlaw12_TrieTurned_j11_snd : SndAt Try.prog 143 none (sub (bodyOf Try.f10) [true, true, true, true, true, true, true, true, true]) (quintetlaw12_TrieTurned_lp 511) := by
  refine join_sound (lp := quintetlaw12_TrieTurned_lp) (cut := quintetlaw12_TrieTurned_cut) (i := 511) (c := (sub (bodyOf Try.f10) [true, true, true, true, true, true, true, true, true])) [11, 12] (fun e => match e with | .ret => [4] | _ => []) quintetlaw12_TrieTurned_j11_L ?_ ?_
  · exact good_by (c := (sub (bodyOf Try.f10) [true, true, true, true, true, true, true, true, true])) (i := 1023) (l := []) (by kernel_rfl) (fun _ h => by cases h)
  · intro Q tm h H
    have H0 := H
    obtain ⟨p395, e11, H⟩ := selP_ex H
    obtain ⟨p396, e12, H⟩ := selP_ex H
    have e : mask [11, 12] tm = mkTm [(11, some (.pointer p395)), (12, some (.pointer p396))] := by simp only [mask, List.map_cons, List.map_nil, e11, e12] <;> rfl
    rw [e]
    refine Eq.mp (quintetlaw12_TrieTurned_j11_step Q p395 p396 h) ?_
    rw [← e]
    exact (quintetlaw12_TrieTurned_j11_mask Q tm h).mp H0
set_option maxRecDepth 100000 in
theorem quintetlaw12_TrieTurned_j6_step (Q : Qx) (x15 : Int) (A16 : Option Addr) (l16 : Nat) (c16 : Nat) (h : Hp) : quintetlaw12_TrieTurned_j6_L Q (mkTm [(0, some (.int .i64 x15)), (1, some (.slice A16 l16 c16))]) h =
    codeWp Try.prog 143 quintetlaw12_TrieTurned_lp quintetlaw12_TrieTurned_cut (sub (bodyOf Try.f10) [true, true]) 7 (maskQ (fun e => match e with | .ret => [4] | _ => []) Q) (mkTm [(0, some (.int .i64 x15)), (1, some (.slice A16 l16 c16))]) h := by kernel_rfl
theorem quintetlaw12_TrieTurned_j6_mask (Q : Qx) (tm : Tm) (h : Hp) : quintetlaw12_TrieTurned_j6_L Q tm h ↔ quintetlaw12_TrieTurned_j6_L Q (mask [0, 1] tm) h := Iff.rfl
set_option maxRecDepth 100000 in
theorem quintetlaw12_TrieTurned_j6_snd : SndAt Try.prog 143 none (sub (bodyOf Try.f10) [true, true]) (quintetlaw12_TrieTurned_lp 3) := by
  refine join_sound (lp := quintetlaw12_TrieTurned_lp) (cut := quintetlaw12_TrieTurned_cut) (i := 3) (c := (sub (bodyOf Try.f10) [true, true])) [0, 1] (fun e => match e with | .ret => [4] | _ => []) quintetlaw12_TrieTurned_j6_L ?_ ?_
  · exact good_by (c := (sub (bodyOf Try.f10) [true, true])) (i := 7) (l := [(58, (sub (bodyOf Try.f10) [true, true, false, true, false])), (506, (sub (bodyOf Try.f10) [true, true, true, true, true, false, true, false])), (511, (sub (bodyOf Try.f10) [true, true, true, true, true, true, true, true, true]))]) (by kernel_rfl) (List.forall_mem_cons.2 ⟨quintetlaw12_TrieTurned_l8_snd, (List.forall_mem_cons.2 ⟨quintetlaw12_TrieTurned_l10_snd, (List.forall_mem_cons.2 ⟨quintetlaw12_TrieTurned_j11_snd, (fun _ h => by cases h)⟩)⟩)⟩)
  · intro Q tm h H
    have H0 := H
    obtain ⟨x15, e0, H⟩ := selI_ex H
    obtain ⟨A16, l16, c16, e1, H⟩ := selS_ex H
    have e : mask [0, 1] tm = mkTm [(0, some (.int .i64 x15)), (1, some (.slice A16 l16 c16))] := by simp only [mask, List.map_cons, List.map_nil, e0, e1] <;> rfl
    rw [e]
    refine Eq.mp (quintetlaw12_TrieTurned_j6_step Q x15 A16 l16 c16 h) ?_
    rw [← e]
    exact (quintetlaw12_TrieTurned_j6_mask Q tm h).mp H0
set_option maxRecDepth 100000 in
theorem quintetlaw12_TrieTurned_eq (x1 : Int) (A2 : Option Addr) (l2 : Nat) (c2 : Nat) (h : Hp) (K : Value → Hp → Prop) : quintetlaw12_TrieTurned x1 A2 l2 c2 h K =
    codeWp Try.prog 143 quintetlaw12_TrieTurned_lp quintetlaw12_TrieTurned_cut (bodyOf Try.f10) 1 (endQ Try.prog Try.f10.results.toList K) (argTm [(.int .i64 x1), (.slice A2 l2 c2)]) h := by kernel_rfl
set_option maxRecDepth 100000 in
theorem quintetlaw12_TrieTurned_ok (x1 : Int) (A2 : Option Addr) (l2 : Nat) (c2 : Nat) {h : Hp} {K : Value → Hp → Prop} (H : quintetlaw12_TrieTurned x1 A2 l2 c2 h K) : CallsH Try.prog 10 #[(.int .i64 x1), (.slice A2 l2 c2)] h K :=
  calls_of (args := [(.int .i64 x1), (.slice A2 l2 c2)]) (n := 143) (lp := quintetlaw12_TrieTurned_lp) (cut := quintetlaw12_TrieTurned_cut) Try.func10 (c := bodyOf Try.f10) (by kernel_rfl) (by kernel_rfl) (by kernel_rfl) (good_by (c := (bodyOf Try.f10)) (i := 1) (l := [(3, (sub (bodyOf Try.f10) [true, true]))]) (by kernel_rfl) (List.forall_mem_cons.2 ⟨quintetlaw12_TrieTurned_j6_snd, (fun _ h => by cases h)⟩))
    (Eq.mp (quintetlaw12_TrieTurned_eq x1 A2 l2 c2 h K) H)

/-! ### quintet/quintetlaw12.TrieUndone: function 11 -/
def quintetlaw12_TrieUndone_l34 (p1050 : Option Addr) (A1051 : Option Addr) (l1051 : Nat) (c1051 : Nat) (K0 : Bool → Hp → Prop) (K1 : (Option Addr) → Hp → Prop)  : Nat → Int → Hp → Prop
  | 0, _, _ => False
  | k + 1, x1052, h =>
    br (decide (x1052 < (l1051 : Int)))
    (∃ a1062 : Addr, PV Try.prog (Instr.indexAt 79 (.slice A1051 l1051 c1051) (.int .i64 x1052)) (.pointer (some a1062)) ∧
    ∃ x1063 : Int, HV Try.prog (Instr.loadAt 33 (.pointer (some a1062))) h (.int .u32 x1063) ∧ 
    ∃ a1064 : Addr, PV Try.prog (Instr.indexAt 79 (.slice A1051 l1051 c1051) (.int .i64 x1052)) (.pointer (some a1064)) ∧
    ∃ x1065 : Int, HV Try.prog (Instr.loadAt 3 (.pointer (some (a1064.add 1)))) h (.int .i64 x1065) ∧ 
    CallsH Try.prog 32 #[(.pointer p1050), (.int .u32 x1063), (.int .i64 x1065)] h fun r1067 h1066 =>
    ∃ x1068 : Int, r1067 = (.int .i64 x1068) ∧ 
    br (x1068 != 0)
    (K0 false h1066)
    (quintetlaw12_TrieUndone_l34 p1050 A1051 l1051 c1051 K0 K1 k (IntKind.i64.wrap (x1052 + 1)) h1066))
    (K1 p1050 h)
def quintetlaw12_TrieUndone_l34_L (Q : Qx) (k : Nat) (tm : Tm) (h : Hp) : Prop :=
  selP (tm 9) fun p1050 =>
  selS (tm 18) fun A1051 l1051 c1051 =>
  selI .i64 (tm 19) fun x1052 =>
  quintetlaw12_TrieUndone_l34 p1050 A1051 l1051 c1051 (fun (b1060 : Bool) h => Q (.ret) (mkTm [(8, some (.bool b1060))]) h) (fun (p1061 : Option Addr) h => Q (.exit 0) (mkTm [(9, some (.pointer p1061))]) h) k x1052 h
def quintetlaw12_TrieUndone_j33 (K0 : Bool → Hp → Prop) (p1000 : Option Addr) (h : Hp) : Prop :=
  CallsH Try.prog 35 #[(.pointer p1000)] h fun r1045 h1044 =>
  ∃ v1046 : Value, r1045 = v1046 ∧ 
  CallsH Try.prog 41 #[v1046] h1044 fun r1048 h1047 =>
  ∃ A1049 : Option Addr, ∃ l1049 : Nat, ∃ c1049 : Nat, r1048 = (.slice A1049 l1049 c1049) ∧ 
  ∃ k1085, quintetlaw12_TrieUndone_l34 p1000 A1049 l1049 c1049
  (fun (b1069 : Bool) (h1070 : Hp) =>
  K0 b1069 h1070)
  (fun (p1071 : Option Addr) (h1072 : Hp) =>
  CallsH Try.prog 38 #[] h1072 fun r1074 h1073 =>
  ∃ b1075 : Bool, r1074 = (.bool b1075) ∧ 
  br b1075
  (CallsH Try.prog 36 #[(.pointer p1071)] h1073 fun r1077 h1076 =>
  ∃ x1078 : Int, r1077 = (.int .i64 x1078) ∧ 
  br (x1078 == 0)
  (CallsH Try.prog 35 #[(.pointer p1071)] h1076 fun r1080 h1079 =>
  ∃ v1081 : Value, r1080 = v1081 ∧ 
  CallsH Try.prog 33 #[v1081, (.slice none 0 0), (.int .i64 0)] h1079 fun r1083 h1082 =>
  ∃ b1084 : Bool, r1083 = (.bool b1084) ∧ 
  K0 b1084 h1082)
  (K0 false h1076))
  (K0 false h1073))
  k1085 0 h1047
def quintetlaw12_TrieUndone_j33_L (Q : Qx) (tm : Tm) (h : Hp) : Prop :=
  selP (tm 9) fun p1000 =>
  quintetlaw12_TrieUndone_j33 (fun (b1043 : Bool) h => Q (.ret) (mkTm [(8, some (.bool b1043))]) h) p1000 h
def quintetlaw12_TrieUndone_j31 (K0 : Bool → Hp → Prop) (p902 : Option Addr) (x903 : Int) (b904 : Bool) (x905 : Int) (x906 : Int) (h : Hp) : Prop :=
  br (x905 != 0)
  (br (x905 != 120)
  (br (x905 != 122)
  (K0 false h)
  (br b904
  (K0 false h)
  (br (x906 != x903)
  (K0 false h)
  (quintetlaw12_TrieUndone_j33
  (fun (b1086 : Bool) (h1087 : Hp) =>
  K0 b1086 h1087)
  p902 h))))
  (br b904
  (K0 false h)
  (br (x906 != x903)
  (K0 false h)
  (quintetlaw12_TrieUndone_j33
  (fun (b1088 : Bool) (h1089 : Hp) =>
  K0 b1088 h1089)
  p902 h))))
  (quintetlaw12_TrieUndone_j33
  (fun (b1090 : Bool) (h1091 : Hp) =>
  K0 b1090 h1091)
  p902 h)
def quintetlaw12_TrieUndone_j31_L (Q : Qx) (tm : Tm) (h : Hp) : Prop :=
  selP (tm 9) fun p902 =>
  selI .i64 (tm 11) fun x903 =>
  selB (tm 14) fun b904 =>
  selI .i64 (tm 15) fun x905 =>
  selI .i64 (tm 16) fun x906 =>
  quintetlaw12_TrieUndone_j31 (fun (b999 : Bool) h => Q (.ret) (mkTm [(8, some (.bool b999))]) h) p902 x903 b904 x905 x906 h
def quintetlaw12_TrieUndone_j27 (K0 : Bool → Hp → Prop) (p690 : Option Addr) (x691 : Int) (x692 : Int) (b693 : Bool) (x694 : Int) (x695 : Int) (h : Hp) : Prop :=
  br (x694 == 0)
  (br b693
  (br (x695 != x691)
  (K0 false h)
  (CallsH Try.prog 37 #[(.pointer p690)] h fun r1093 h1092 =>
  ∃ x1094 : Int, r1093 = (.int .i64 x1094) ∧ 
  br (x1094 != x692)
  (K0 false h1092)
  (quintetlaw12_TrieUndone_j31
  (fun (b1095 : Bool) (h1096 : Hp) =>
  K0 b1095 h1096)
  p690 x691 b693 x694 x695 h1092)))
  (quintetlaw12_TrieUndone_j31
  (fun (b1097 : Bool) (h1098 : Hp) =>
  K0 b1097 h1098)
  p690 x691 b693 x694 x695 h))
  (quintetlaw12_TrieUndone_j31
  (fun (b1099 : Bool) (h1100 : Hp) =>
  K0 b1099 h1100)
  p690 x691 b693 x694 x695 h)
def quintetlaw12_TrieUndone_j27_L (Q : Qx) (tm : Tm) (h : Hp) : Prop :=
  selP (tm 9) fun p690 =>
  selI .i64 (tm 11) fun x691 =>
  selI .i64 (tm 12) fun x692 =>
  selB (tm 14) fun b693 =>
  selI .i64 (tm 15) fun x694 =>
  selI .i64 (tm 16) fun x695 =>
  quintetlaw12_TrieUndone_j27 (fun (b898 : Bool) h => Q (.ret) (mkTm [(8, some (.bool b898))]) h) p690 x691 x692 b693 x694 x695 h
def quintetlaw12_TrieUndone_j35 (K0 : Bool → Hp → Prop) (K1 : (Option Addr) → Int → Int → Bool → Int → Int → Hp → Prop) (x1101 : Int) (x1102 : Int) (p1103 : Option Addr) (A1104 : Option Addr) (l1104 : Nat) (c1104 : Nat) (x1105 : Int) (x1106 : Int) (b1107 : Bool) (x1108 : Int) (x1109 : Int) (b1110 : Bool) (h : Hp) : Prop :=
  br b1110
  (CallsH Try.prog 32 #[(.pointer p1103), (.int .u32 x1101), (.int .i64 x1102)] h fun r1135 h1134 =>
  ∃ x1136 : Int, r1135 = (.int .i64 x1136) ∧ 
  br (x1136 != 0)
  (K0 false h1134)
  (CallsH Try.prog 36 #[(.pointer p1103)] h1134 fun r1138 h1137 =>
  ∃ x1139 : Int, r1138 = (.int .i64 x1139) ∧ 
  br (x1139 != x1105)
  (K0 false h1137)
  (CallsH Try.prog 35 #[(.pointer p1103)] h1137 fun r1141 h1140 =>
  ∃ v1142 : Value, r1141 = v1142 ∧ 
  CallsH Try.prog 33 #[v1142, (.slice A1104 l1104 c1104), (.int .i64 0)] h1140 fun r1144 h1143 =>
  ∃ b1145 : Bool, r1144 = (.bool b1145) ∧ 
  br (!b1145)
  (K0 false h1143)
  (CallsH Try.prog 37 #[(.pointer p1103)] h1143 fun r1147 h1146 =>
  ∃ x1148 : Int, r1147 = (.int .i64 x1148) ∧ 
  ∃ x1149 : Int, PV Try.prog (Builtin.max_ #[3, 3] 3 #[(.int .i64 x1106), (.int .i64 x1109)]) (.int .i64 x1149) ∧
  br (x1148 != x1149)
  (K0 false h1146)
  (br (decide (x1109 < x1105))
  (K0 false h1146)
  (br (decide (x1109 > (IntKind.i64.wrap ((IntKind.i64.wrap (x1105 + x1102)) + 1))))
  (K0 false h1146)
  (K1 p1103 x1105 x1106 b1107 x1108 x1109 h1146)))))))
  (K1 p1103 x1105 x1106 b1107 x1108 x1109 h)
def quintetlaw12_TrieUndone_j35_L (Q : Qx) (tm : Tm) (h : Hp) : Prop :=
  selI .u32 (tm 2) fun x1101 =>
  selI .i64 (tm 3) fun x1102 =>
  selP (tm 9) fun p1103 =>
  selS (tm 10) fun A1104 l1104 c1104 =>
  selI .i64 (tm 11) fun x1105 =>
  selI .i64 (tm 12) fun x1106 =>
  selB (tm 14) fun b1107 =>
  selI .i64 (tm 15) fun x1108 =>
  selI .i64 (tm 16) fun x1109 =>
  selB (tm 67) fun b1110 =>
  quintetlaw12_TrieUndone_j35 (fun (b1127 : Bool) h => Q (.ret) (mkTm [(8, some (.bool b1127))]) h) (fun (p1128 : Option Addr) (x1129 : Int) (x1130 : Int) (b1131 : Bool) (x1132 : Int) (x1133 : Int) h => Q (.normal) (mkTm [(9, some (.pointer p1128)), (11, some (.int .i64 x1129)), (12, some (.int .i64 x1130)), (14, some (.bool b1131)), (15, some (.int .i64 x1132)), (16, some (.int .i64 x1133))]) h) x1101 x1102 p1103 A1104 l1104 c1104 x1105 x1106 b1107 x1108 x1109 b1110 h
def quintetlaw12_TrieUndone_j18 (K0 : Bool → Hp → Prop) (x17 : Int) (A18 : Option Addr) (l18 : Nat) (c18 : Nat) (x19 : Int) (x20 : Int) (h : Hp) : Prop :=
  CallsH Try.prog 40 #[(.int .i64 x17), (.slice A18 l18 c18)] h fun r598 h597 =>
  ∃ p599 : Option Addr, r598 = (.pointer p599) ∧ 
  ∃ b600 : Bool, PV Try.prog (binOp .eql 60 (.pointer p599) (.pointer none)) (.bool b600) ∧
  br b600
  (K0 false h597)
  (CallsH Try.prog 35 #[(.pointer p599)] h597 fun r602 h601 =>
  ∃ v603 : Value, r602 = v603 ∧ 
  CallsH Try.prog 41 #[v603] h601 fun r605 h604 =>
  ∃ A606 : Option Addr, ∃ l606 : Nat, ∃ c606 : Nat, r605 = (.slice A606 l606 c606) ∧ 
  CallsH Try.prog 36 #[(.pointer p599)] h604 fun r608 h607 =>
  ∃ x609 : Int, r608 = (.int .i64 x609) ∧ 
  CallsH Try.prog 37 #[(.pointer p599)] h607 fun r611 h610 =>
  ∃ x612 : Int, r611 = (.int .i64 x612) ∧ 
  CallsH Try.prog 29 #[(.pointer p599), (.int .u32 x19), (.int .i64 x20)] h610 fun r614 h613 =>
  ∃ x615 : Int, ∃ b616 : Bool, r614 = (.tuple #[(.int .i64 x615), (.bool b616)]) ∧ 
  CallsH Try.prog 31 #[(.pointer p599), (.int .u32 x19), (.int .i64 x20), (.int .i64 7)] h613 fun r618 h617 =>
  ∃ x619 : Int, r618 = (.int .i64 x619) ∧ 
  CallsH Try.prog 36 #[(.pointer p599)] h617 fun r621 h620 =>
  ∃ x622 : Int, r621 = (.int .i64 x622) ∧ 
  br (x619 == 0)
  (quintetlaw12_TrieUndone_j35
  (fun (b1150 : Bool) (h1151 : Hp) =>
  K0 b1150 h1151)
  (fun (p1152 : Option Addr) (x1153 : Int) (x1154 : Int) (b1155 : Bool) (x1156 : Int) (x1157 : Int) (h1158 : Hp) =>
  quintetlaw12_TrieUndone_j27
  (fun (b1159 : Bool) (h1160 : Hp) =>
  K0 b1159 h1160)
  p1152 x1153 x1154 b1155 x1156 x1157 h1158)
  x19 x20 p599 A606 l606 c606 x609 x612 b616 x619 x622 (!b616) h620)
  (quintetlaw12_TrieUndone_j35
  (fun (b1161 : Bool) (h1162 : Hp) =>
  K0 b1161 h1162)
  (fun (p1163 : Option Addr) (x1164 : Int) (x1165 : Int) (b1166 : Bool) (x1167 : Int) (x1168 : Int) (h1169 : Hp) =>
  quintetlaw12_TrieUndone_j27
  (fun (b1170 : Bool) (h1171 : Hp) =>
  K0 b1170 h1171)
  p1163 x1164 x1165 b1166 x1167 x1168 h1169)
  x19 x20 p599 A606 l606 c606 x609 x612 b616 x619 x622 false h620))
def quintetlaw12_TrieUndone_j18_L (Q : Qx) (tm : Tm) (h : Hp) : Prop :=
  selI .i64 (tm 0) fun x17 =>
  selS (tm 1) fun A18 l18 c18 =>
  selI .u32 (tm 2) fun x19 =>
  selI .i64 (tm 3) fun x20 =>
  quintetlaw12_TrieUndone_j18 (fun (b596 : Bool) h => Q (.ret) (mkTm [(8, some (.bool b596))]) h) x17 A18 l18 c18 x19 x20 h
def quintetlaw12_TrieUndone (x1 : Int) (A2 : Option Addr) (l2 : Nat) (c2 : Nat) (x3 : Int) (x4 : Int) (h : Hp) (K : Value → Hp → Prop) : Prop :=
  br (x1 != 8)
  (br (x1 != 16)
  (br (x1 != 32)
  (CallsH Try.prog 38 #[] h fun r1173 h1172 =>
  ∃ b1174 : Bool, r1173 = (.bool b1174) ∧ 
  K (.bool b1174) h1172)
  (br (decide ((l2 : Int) > 16777216))
  (CallsH Try.prog 38 #[] h fun r1176 h1175 =>
  ∃ b1177 : Bool, r1176 = (.bool b1177) ∧ 
  K (.bool b1177) h1175)
  (quintetlaw12_TrieUndone_j18
  (fun (b1178 : Bool) (h1179 : Hp) =>
  K (.bool b1178) h1179)
  x1 A2 l2 c2 x3 x4 h)))
  (br (decide ((l2 : Int) > 16777216))
  (CallsH Try.prog 38 #[] h fun r1181 h1180 =>
  ∃ b1182 : Bool, r1181 = (.bool b1182) ∧ 
  K (.bool b1182) h1180)
  (quintetlaw12_TrieUndone_j18
  (fun (b1183 : Bool) (h1184 : Hp) =>
  K (.bool b1183) h1184)
  x1 A2 l2 c2 x3 x4 h)))
  (br (decide ((l2 : Int) > 16777216))
  (CallsH Try.prog 38 #[] h fun r1186 h1185 =>
  ∃ b1187 : Bool, r1186 = (.bool b1187) ∧ 
  K (.bool b1187) h1185)
  (quintetlaw12_TrieUndone_j18
  (fun (b1188 : Bool) (h1189 : Hp) =>
  K (.bool b1188) h1189)
  x1 A2 l2 c2 x3 x4 h))
def quintetlaw12_TrieUndone_lp (i : Nat) (Q : Qx) (tm : Tm) (h : Hp) : Prop := match Nat.beq i 262138 with
  | true => ∃ k, quintetlaw12_TrieUndone_l34_L Q k tm h
  | false => match Nat.beq i 8191 with
  | true => quintetlaw12_TrieUndone_j33_L Q tm h
  | false => match Nat.beq i 4095 with
  | true => quintetlaw12_TrieUndone_j31_L Q tm h
  | false => match Nat.beq i 2047 with
  | true => quintetlaw12_TrieUndone_j27_L Q tm h
  | false => match Nat.beq i 4094 with
  | true => quintetlaw12_TrieUndone_j35_L Q tm h
  | false => match Nat.beq i 3 with
  | true => quintetlaw12_TrieUndone_j18_L Q tm h
  | false => False
def quintetlaw12_TrieUndone_cut (i : Nat) : Option (List Nat) := match Nat.beq i 3 with
  | true => some [0, 1, 2, 3]
  | false => match Nat.beq i 4094 with
  | true => some [2, 3, 9, 10, 11, 12, 14, 15, 16, 67]
  | false => match Nat.beq i 2047 with
  | true => some [9, 11, 12, 14, 15, 16]
  | false => match Nat.beq i 4095 with
  | true => some [9, 11, 14, 15, 16]
  | false => match Nat.beq i 8191 with
  | true => some [9]
  | false => none
set_option maxRecDepth 100000 in
theorem quintetlaw12_TrieUndone_l34_step (Q : Qx) (k : Nat) (p1050 : Option Addr) (A1051 : Option Addr) (l1051 : Nat) (c1051 : Nat) (x1052 : Int) (h : Hp) : quintetlaw12_TrieUndone_l34_L Q (k + 1) (mkTm [(9, some (.pointer p1050)), (18, some (.slice A1051 l1051 c1051)), (19, some (.int .i64 x1052))]) h =
    codeWp Try.prog 176 quintetlaw12_TrieUndone_lp quintetlaw12_TrieUndone_cut (sub (bodyOf Try.f11) [true, true, true, true, true, true, true, true, true, true, true, true, true, true, false, true, false, false]) 524276 (thenQ (fun tm h => quintetlaw12_TrieUndone_l34_L Q k (mask [9, 18, 19] tm) h) (maskQ (fun e => match e with | .ret => [8] | .exit 0 => [9] | _ => []) Q)) (mkTm [(9, some (.pointer p1050)), (18, some (.slice A1051 l1051 c1051)), (19, some (.int .i64 x1052))]) h := by kernel_rfl
theorem quintetlaw12_TrieUndone_l34_mask (Q : Qx) (k : Nat) (tm : Tm) (h : Hp) : quintetlaw12_TrieUndone_l34_L Q k tm h ↔ quintetlaw12_TrieUndone_l34_L Q k (mask [9, 18, 19] tm) h := Iff.rfl
set_option maxRecDepth 100000 in
theorem quintetlaw12_TrieUndone_l34_snd : SndAt Try.prog 176 none (sub (bodyOf Try.f11) [true, true, true, true, true, true, true, true, true, true, true, true, true, true, false, true, false]) (quintetlaw12_TrieUndone_lp 262138) := by
  refine loop_sound (lp := quintetlaw12_TrieUndone_lp) (cut := quintetlaw12_TrieUndone_cut) (i := 262138) (c := (sub (bodyOf Try.f11) [true, true, true, true, true, true, true, true, true, true, true, true, true, true, false, true, false, false])) [9, 18, 19] (fun e => match e with | .ret => [8] | .exit 0 => [9] | _ => []) quintetlaw12_TrieUndone_l34_L ?_ ?_ ?_
  · exact good_by (c := (sub (bodyOf Try.f11) [true, true, true, true, true, true, true, true, true, true, true, true, true, true, false, true, false, false])) (i := 524276) (l := []) (by kernel_rfl) (fun _ h => by cases h)
  · intro Q tm h H
    obtain ⟨p1050, e9, H⟩ := selP_ex H
    obtain ⟨A1051, l1051, c1051, e18, H⟩ := selS_ex H
    obtain ⟨x1052, e19, H⟩ := selI_ex H
    exact H
  · intro Q k tm h H
    have H0 := H
    obtain ⟨p1050, e9, H⟩ := selP_ex H
    obtain ⟨A1051, l1051, c1051, e18, H⟩ := selS_ex H
    obtain ⟨x1052, e19, H⟩ := selI_ex H
    have e : mask [9, 18, 19] tm = mkTm [(9, some (.pointer p1050)), (18, some (.slice A1051 l1051 c1051)), (19, some (.int .i64 x1052))] := by simp only [mask, List.map_cons, List.map_nil, e9, e18, e19] <;> rfl
    rw [e]
    refine Eq.mp (quintetlaw12_TrieUndone_l34_step Q k p1050 A1051 l1051 c1051 x1052 h) ?_
    rw [← e]
    exact (quintetlaw12_TrieUndone_l34_mask Q (k + 1) tm h).mp H0
set_option maxRecDepth 100000 in
theorem quintetlaw12_TrieUndone_j33_step (Q : Qx) (p1000 : Option Addr) (h : Hp) : quintetlaw12_TrieUndone_j33_L Q (mkTm [(9, some (.pointer p1000))]) h =
    codeWp Try.prog 176 quintetlaw12_TrieUndone_lp quintetlaw12_TrieUndone_cut (sub (bodyOf Try.f11) [true, true, true, true, true, true, true, true, true, true, true, true, true]) 16383 (maskQ (fun e => match e with | .ret => [8] | _ => []) Q) (mkTm [(9, some (.pointer p1000))]) h := by kernel_rfl
theorem quintetlaw12_TrieUndone_j33_mask (Q : Qx) (tm : Tm) (h : Hp) : quintetlaw12_TrieUndone_j33_L Q tm h ↔ quintetlaw12_TrieUndone_j33_L Q (mask [9] tm) h := Iff.rfl
set_option maxRecDepth 100000 in
theorem quintetlaw12_TrieUndone_j33_snd : SndAt Try.prog 176 none (sub (bodyOf Try.f11) [true, true, true, true, true, true, true, true, true, true, true, true, true]) (quintetlaw12_TrieUndone_lp 8191) := by
  refine join_sound (lp := quintetlaw12_TrieUndone_lp) (cut := quintetlaw12_TrieUndone_cut) (i := 8191) (c := (sub (bodyOf Try.f11) [true, true, true, true, true, true, true, true, true, true, true, true, true])) [9] (fun e => match e with | .ret => [8] | _ => []) quintetlaw12_TrieUndone_j33_L ?_ ?_
  · exact good_by (c := (sub (bodyOf Try.f11) [true, true, true, true, true, true, true, true, true, true, true, true, true])) (i := 16383) (l := [(262138, (sub (bodyOf Try.f11) [true, true, true, true, true, true, true, true, true, true, true, true, true, true, false, true, false]))]) (by kernel_rfl) (List.forall_mem_cons.2 ⟨quintetlaw12_TrieUndone_l34_snd, (fun _ h => by cases h)⟩)
  · intro Q tm h H
    have H0 := H
    obtain ⟨p1000, e9, H⟩ := selP_ex H
    have e : mask [9] tm = mkTm [(9, some (.pointer p1000))] := by simp only [mask, List.map_cons, List.map_nil, e9] <;> rfl
    rw [e]
    refine Eq.mp (quintetlaw12_TrieUndone_j33_step Q p1000 h) ?_
    rw [← e]
    exact (quintetlaw12_TrieUndone_j33_mask Q tm h).mp H0
set_option maxRecDepth 100000 in
theorem quintetlaw12_TrieUndone_j31_step (Q : Qx) (p902 : Option Addr) (x903 : Int) (b904 : Bool) (x905 : Int) (x906 : Int) (h : Hp) : quintetlaw12_TrieUndone_j31_L Q (mkTm [(9, some (.pointer p902)), (11, some (.int .i64 x903)), (14, some (.bool b904)), (15, some (.int .i64 x905)), (16, some (.int .i64 x906))]) h =
    codeWp Try.prog 176 quintetlaw12_TrieUndone_lp quintetlaw12_TrieUndone_cut (sub (bodyOf Try.f11) [true, true, true, true, true, true, true, true, true, true, true, true]) 8191 (maskQ (fun e => match e with | .ret => [8] | _ => []) Q) (mkTm [(9, some (.pointer p902)), (11, some (.int .i64 x903)), (14, some (.bool b904)), (15, some (.int .i64 x905)), (16, some (.int .i64 x906))]) h := by kernel_rfl
theorem quintetlaw12_TrieUndone_j31_mask (Q : Qx) (tm : Tm) (h : Hp) : quintetlaw12_TrieUndone_j31_L Q tm h ↔ quintetlaw12_TrieUndone_j31_L Q (mask [9, 11, 14, 15, 16] tm) h := Iff.rfl
set_option maxRecDepth 100000 in
theorem quintetlaw12_TrieUndone_j31_snd : SndAt Try.prog 176 none (sub (bodyOf Try.f11) [true, true, true, true, true, true, true, true, true, true, true, true]) (quintetlaw12_TrieUndone_lp 4095) := by
  refine join_sound (lp := quintetlaw12_TrieUndone_lp) (cut := quintetlaw12_TrieUndone_cut) (i := 4095) (c := (sub (bodyOf Try.f11) [true, true, true, true, true, true, true, true, true, true, true, true])) [9, 11, 14, 15, 16] (fun e => match e with | .ret => [8] | _ => []) quintetlaw12_TrieUndone_j31_L ?_ ?_
  · exact good_by (c := (sub (bodyOf Try.f11) [true, true, true, true, true, true, true, true, true, true, true, true])) (i := 8191) (l := [(8191, (sub (bodyOf Try.f11) [true, true, true, true, true, true, true, true, true, true, true, true, true]))]) (by kernel_rfl) (List.forall_mem_cons.2 ⟨quintetlaw12_TrieUndone_j33_snd, (fun _ h => by cases h)⟩)
  · intro Q tm h H
    have H0 := H
    obtain ⟨p902, e9, H⟩ := selP_ex H
    obtain ⟨x903, e11, H⟩ := selI_ex H
    obtain ⟨b904, e14, H⟩ := selB_ex H
    obtain ⟨x905, e15, H⟩ := selI_ex H
    obtain ⟨x906, e16, H⟩ := selI_ex H
    have e : mask [9, 11, 14, 15, 16] tm = mkTm [(9, some (.pointer p902)), (11, some (.int .i64 x903)), (14, some (.bool b904)), (15, some (.int .i64 x905)), (16, some (.int .i64 x906))] := by simp only [mask, List.map_cons, List.map_nil, e9, e11, e14, e15, e16] <;> rfl
    rw [e]
    refine Eq.mp (quintetlaw12_TrieUndone_j31_step Q p902 x903 b904 x905 x906 h) ?_
    rw [← e]
    exact (quintetlaw12_TrieUndone_j31_mask Q tm h).mp H0
set_option maxRecDepth 100000 in
theorem quintetlaw12_TrieUndone_j27_step (Q : Qx) (p690 : Option Addr) (x691 : Int) (x692 : Int) (b693 : Bool) (x694 : Int) (x695 : Int) (h : Hp) : quintetlaw12_TrieUndone_j27_L Q (mkTm [(9, some (.pointer p690)), (11, some (.int .i64 x691)), (12, some (.int .i64 x692)), (14, some (.bool b693)), (15, some (.int .i64 x694)), (16, some (.int .i64 x695))]) h =
    codeWp Try.prog 176 quintetlaw12_TrieUndone_lp quintetlaw12_TrieUndone_cut (sub (bodyOf Try.f11) [true, true, true, true, true, true, true, true, true, true, true]) 4095 (maskQ (fun e => match e with | .ret => [8] | _ => []) Q) (mkTm [(9, some (.pointer p690)), (11, some (.int .i64 x691)), (12, some (.int .i64 x692)), (14, some (.bool b693)), (15, some (.int .i64 x694)), (16, some (.int .i64 x695))]) h := by kernel_rfl
theorem quintetlaw12_TrieUndone_j27_mask (Q : Qx) (tm : Tm) (h : Hp) : quintetlaw12_TrieUndone_j27_L Q tm h ↔ quintetlaw12_TrieUndone_j27_L Q (mask [9, 11, 12, 14, 15, 16] tm) h := Iff.rfl
set_option maxRecDepth 100000 in
theorem quintetlaw12_TrieUndone_j27_snd : SndAt Try.prog 176 none (sub (bodyOf Try.f11) [true, true, true, true, true, true, true, true, true, true, true]) (quintetlaw12_TrieUndone_lp 2047) := by
  refine join_sound (lp := quintetlaw12_TrieUndone_lp) (cut := quintetlaw12_TrieUndone_cut) (i := 2047) (c := (sub (bodyOf Try.f11) [true, true, true, true, true, true, true, true, true, true, true])) [9, 11, 12, 14, 15, 16] (fun e => match e with | .ret => [8] | _ => []) quintetlaw12_TrieUndone_j27_L ?_ ?_
  · exact good_by (c := (sub (bodyOf Try.f11) [true, true, true, true, true, true, true, true, true, true, true])) (i := 4095) (l := [(4095, (sub (bodyOf Try.f11) [true, true, true, true, true, true, true, true, true, true, true, true]))]) (by kernel_rfl) (List.forall_mem_cons.2 ⟨quintetlaw12_TrieUndone_j31_snd, (fun _ h => by cases h)⟩)
  · intro Q tm h H
    have H0 := H
    obtain ⟨p690, e9, H⟩ := selP_ex H
    obtain ⟨x691, e11, H⟩ := selI_ex H
    obtain ⟨x692, e12, H⟩ := selI_ex H
    obtain ⟨b693, e14, H⟩ := selB_ex H
    obtain ⟨x694, e15, H⟩ := selI_ex H
    obtain ⟨x695, e16, H⟩ := selI_ex H
    have e : mask [9, 11, 12, 14, 15, 16] tm = mkTm [(9, some (.pointer p690)), (11, some (.int .i64 x691)), (12, some (.int .i64 x692)), (14, some (.bool b693)), (15, some (.int .i64 x694)), (16, some (.int .i64 x695))] := by simp only [mask, List.map_cons, List.map_nil, e9, e11, e12, e14, e15, e16] <;> rfl
    rw [e]
    refine Eq.mp (quintetlaw12_TrieUndone_j27_step Q p690 x691 x692 b693 x694 x695 h) ?_
    rw [← e]
    exact (quintetlaw12_TrieUndone_j27_mask Q tm h).mp H0
set_option maxRecDepth 100000 in
theorem quintetlaw12_TrieUndone_j35_step (Q : Qx) (x1101 : Int) (x1102 : Int) (p1103 : Option Addr) (A1104 : Option Addr) (l1104 : Nat) (c1104 : Nat) (x1105 : Int) (x1106 : Int) (b1107 : Bool) (x1108 : Int) (x1109 : Int) (b1110 : Bool) (h : Hp) : quintetlaw12_TrieUndone_j35_L Q (mkTm [(2, some (.int .u32 x1101)), (3, some (.int .i64 x1102)), (9, some (.pointer p1103)), (10, some (.slice A1104 l1104 c1104)), (11, some (.int .i64 x1105)), (12, some (.int .i64 x1106)), (14, some (.bool b1107)), (15, some (.int .i64 x1108)), (16, some (.int .i64 x1109)), (67, some (.bool b1110))]) h =
    codeWp Try.prog 176 quintetlaw12_TrieUndone_lp quintetlaw12_TrieUndone_cut (sub (bodyOf Try.f11) [true, true, true, true, true, true, true, true, true, true, false, true]) 8189 (maskQ (fun e => match e with | .ret => [8] | .normal => [9, 11, 12, 14, 15, 16] | _ => []) Q) (mkTm [(2, some (.int .u32 x1101)), (3, some (.int .i64 x1102)), (9, some (.pointer p1103)), (10, some (.slice A1104 l1104 c1104)), (11, some (.int .i64 x1105)), (12, some (.int .i64 x1106)), (14, some (.bool b1107)), (15, some (.int .i64 x1108)), (16, some (.int .i64 x1109)), (67, some (.bool b1110))]) h := by kernel_rfl
theorem quintetlaw12_TrieUndone_j35_mask (Q : Qx) (tm : Tm) (h : Hp) : quintetlaw12_TrieUndone_j35_L Q tm h ↔ quintetlaw12_TrieUndone_j35_L Q (mask [2, 3, 9, 10, 11, 12, 14, 15, 16, 67] tm) h := Iff.rfl
set_option maxRecDepth 100000 in
theorem quintetlaw12_TrieUndone_j35_snd : SndAt Try.prog 176 none (sub (bodyOf Try.f11) [true, true, true, true, true, true, true, true, true, true, false, true]) (quintetlaw12_TrieUndone_lp 4094) := by
  refine join_sound (lp := quintetlaw12_TrieUndone_lp) (cut := quintetlaw12_TrieUndone_cut) (i := 4094) (c := (sub (bodyOf Try.f11) [true, true, true, true, true, true, true, true, true, true, false, true])) [2, 3, 9, 10, 11, 12, 14, 15, 16, 67] (fun e => match e with | .ret => [8] | .normal => [9, 11, 12, 14, 15, 16] | _ => []) quintetlaw12_TrieUndone_j35_L ?_ ?_
  · exact good_by (c := (sub (bodyOf Try.f11) [true, true, true, true, true, true, true, true, true, true, false, true])) (i := 8189) (l := []) (by kernel_rfl) (fun _ h => by cases h)
  · intro Q tm h H
    have H0 := H
    obtain ⟨x1101, e2, H⟩ := selI_ex H
    obtain ⟨x1102, e3, H⟩ := selI_ex H
    obtain ⟨p1103, e9, H⟩ := selP_ex H
    obtain ⟨A1104, l1104, c1104, e10, H⟩ := selS_ex H
    obtain ⟨x1105, e11, H⟩ := selI_ex H
    obtain ⟨x1106, e12, H⟩ := selI_ex H
    obtain ⟨b1107, e14, H⟩ := selB_ex H
    obtain ⟨x1108, e15, H⟩ := selI_ex H
    obtain ⟨x1109, e16, H⟩ := selI_ex H
    obtain ⟨b1110, e67, H⟩ := selB_ex H
    have e : mask [2, 3, 9, 10, 11, 12, 14, 15, 16, 67] tm = mkTm [(2, some (.int .u32 x1101)), (3, some (.int .i64 x1102)), (9, some (.pointer p1103)), (10, some (.slice A1104 l1104 c1104)), (11, some (.int .i64 x1105)), (12, some (.int .i64 x1106)), (14, some (.bool b1107)), (15, some (.int .i64 x1108)), (16, some (.int .i64 x1109)), (67, some (.bool b1110))] := by simp only [mask, List.map_cons, List.map_nil, e2, e3, e9, e10, e11, e12, e14, e15, e16, e67] <;> rfl
    rw [e]
    refine Eq.mp (quintetlaw12_TrieUndone_j35_step Q x1101 x1102 p1103 A1104 l1104 c1104 x1105 x1106 b1107 x1108 x1109 b1110 h) ?_
    rw [← e]
    exact (quintetlaw12_TrieUndone_j35_mask Q tm h).mp H0
set_option maxRecDepth 100000 in
theorem quintetlaw12_TrieUndone_j18_step (Q : Qx) (x17 : Int) (A18 : Option Addr) (l18 : Nat) (c18 : Nat) (x19 : Int) (x20 : Int) (h : Hp) : quintetlaw12_TrieUndone_j18_L Q (mkTm [(0, some (.int .i64 x17)), (1, some (.slice A18 l18 c18)), (2, some (.int .u32 x19)), (3, some (.int .i64 x20))]) h =
    codeWp Try.prog 176 quintetlaw12_TrieUndone_lp quintetlaw12_TrieUndone_cut (sub (bodyOf Try.f11) [true, true]) 7 (maskQ (fun e => match e with | .ret => [8] | _ => []) Q) (mkTm [(0, some (.int .i64 x17)), (1, some (.slice A18 l18 c18)), (2, some (.int .u32 x19)), (3, some (.int .i64 x20))]) h := by kernel_rfl
theorem quintetlaw12_TrieUndone_j18_mask (Q : Qx) (tm : Tm) (h : Hp) : quintetlaw12_TrieUndone_j18_L Q tm h ↔ quintetlaw12_TrieUndone_j18_L Q (mask [0, 1, 2, 3] tm) h := Iff.rfl
set_option maxRecDepth 100000 in
theorem quintetlaw12_TrieUndone_j18_snd : SndAt Try.prog 176 none (sub (bodyOf Try.f11) [true, true]) (quintetlaw12_TrieUndone_lp 3) := by
  refine join_sound (lp := quintetlaw12_TrieUndone_lp) (cut := quintetlaw12_TrieUndone_cut) (i := 3) (c := (sub (bodyOf Try.f11) [true, true])) [0, 1, 2, 3] (fun e => match e with | .ret => [8] | _ => []) quintetlaw12_TrieUndone_j18_L ?_ ?_
  · exact good_by (c := (sub (bodyOf Try.f11) [true, true])) (i := 7) (l := [(4094, (sub (bodyOf Try.f11) [true, true, true, true, true, true, true, true, true, true, false, true])), (2047, (sub (bodyOf Try.f11) [true, true, true, true, true, true, true, true, true, true, true]))]) (by kernel_rfl) (List.forall_mem_cons.2 ⟨quintetlaw12_TrieUndone_j35_snd, (List.forall_mem_cons.2 ⟨quintetlaw12_TrieUndone_j27_snd, (fun _ h => by cases h)⟩)⟩)
  · intro Q tm h H
    have H0 := H
    obtain ⟨x17, e0, H⟩ := selI_ex H
    obtain ⟨A18, l18, c18, e1, H⟩ := selS_ex H
    obtain ⟨x19, e2, H⟩ := selI_ex H
    obtain ⟨x20, e3, H⟩ := selI_ex H
    have e : mask [0, 1, 2, 3] tm = mkTm [(0, some (.int .i64 x17)), (1, some (.slice A18 l18 c18)), (2, some (.int .u32 x19)), (3, some (.int .i64 x20))] := by simp only [mask, List.map_cons, List.map_nil, e0, e1, e2, e3] <;> rfl
    rw [e]
    refine Eq.mp (quintetlaw12_TrieUndone_j18_step Q x17 A18 l18 c18 x19 x20 h) ?_
    rw [← e]
    exact (quintetlaw12_TrieUndone_j18_mask Q tm h).mp H0
set_option maxRecDepth 100000 in
theorem quintetlaw12_TrieUndone_eq (x1 : Int) (A2 : Option Addr) (l2 : Nat) (c2 : Nat) (x3 : Int) (x4 : Int) (h : Hp) (K : Value → Hp → Prop) : quintetlaw12_TrieUndone x1 A2 l2 c2 x3 x4 h K =
    codeWp Try.prog 176 quintetlaw12_TrieUndone_lp quintetlaw12_TrieUndone_cut (bodyOf Try.f11) 1 (endQ Try.prog Try.f11.results.toList K) (argTm [(.int .i64 x1), (.slice A2 l2 c2), (.int .u32 x3), (.int .i64 x4)]) h := by kernel_rfl
set_option maxRecDepth 100000 in
theorem quintetlaw12_TrieUndone_ok (x1 : Int) (A2 : Option Addr) (l2 : Nat) (c2 : Nat) (x3 : Int) (x4 : Int) {h : Hp} {K : Value → Hp → Prop} (H : quintetlaw12_TrieUndone x1 A2 l2 c2 x3 x4 h K) : CallsH Try.prog 11 #[(.int .i64 x1), (.slice A2 l2 c2), (.int .u32 x3), (.int .i64 x4)] h K :=
  calls_of (args := [(.int .i64 x1), (.slice A2 l2 c2), (.int .u32 x3), (.int .i64 x4)]) (n := 176) (lp := quintetlaw12_TrieUndone_lp) (cut := quintetlaw12_TrieUndone_cut) Try.func11 (c := bodyOf Try.f11) (by kernel_rfl) (by kernel_rfl) (by kernel_rfl) (good_by (c := (bodyOf Try.f11)) (i := 1) (l := [(3, (sub (bodyOf Try.f11) [true, true]))]) (by kernel_rfl) (List.forall_mem_cons.2 ⟨quintetlaw12_TrieUndone_j18_snd, (fun _ h => by cases h)⟩))
    (Eq.mp (quintetlaw12_TrieUndone_eq x1 A2 l2 c2 x3 x4 h K) H)

/-! ### quintet/quintetlaw12.step: function 39 -/
def quintetlaw12_step (p1 : Option Addr) (p2 : Option Addr) (x3 : Int) (b4 : Bool) (x5 : Int) (x6 : Int) (x7 : Int) (h : Hp) (K : Value → Hp → Prop) : Prop :=
  newC h (.cells #[(.int .i64 x3), (.bool b4), (.int .u32 x5), (.int .i64 x6), (.int .i64 x7)] 83 (0, 0)) fun a9 h8 => 
  ∃ x10 : Int, HV Try.prog (Instr.loadAt 3 (.pointer (some a9))) h8 (.int .i64 x10) ∧ 
  br (x10 == 0)
  (∃ x11 : Int, HV Try.prog (Instr.loadAt 33 (.pointer (some (a9.add 2)))) h8 (.int .u32 x11) ∧ 
  ∃ x12 : Int, HV Try.prog (Instr.loadAt 3 (.pointer (some (a9.add 3)))) h8 (.int .i64 x12) ∧ 
  ∃ x13 : Int, HV Try.prog (Instr.loadAt 3 (.pointer (some (a9.add 4)))) h8 (.int .i64 x13) ∧ 
  CallsH Try.prog 31 #[(.pointer p1), (.int .u32 x11), (.int .i64 x12), (.int .i64 x13)] h8 fun r15 h14 =>
  ∃ x16 : Int, r15 = (.int .i64 x16) ∧ 
  ∃ x17 : Int, HV Try.prog (Instr.loadAt 33 (.pointer (some (a9.add 2)))) h14 (.int .u32 x17) ∧ HV Try.prog (Instr.loadAt 33 (.pointer (some (a9.add 2)))) h8 (.int .u32 x17) ∧ 
  ∃ x18 : Int, HV Try.prog (Instr.loadAt 3 (.pointer (some (a9.add 3)))) h14 (.int .i64 x18) ∧ HV Try.prog (Instr.loadAt 3 (.pointer (some (a9.add 3)))) h8 (.int .i64 x18) ∧ 
  ∃ x19 : Int, HV Try.prog (Instr.loadAt 3 (.pointer (some (a9.add 4)))) h14 (.int .i64 x19) ∧ HV Try.prog (Instr.loadAt 3 (.pointer (some (a9.add 4)))) h8 (.int .i64 x19) ∧ 
  CallsH Try.prog 58 #[(.pointer p2), (.int .u32 x17), (.int .i64 x18), (.int .i64 x19)] h14 fun r21 h20 =>
  ∃ x22 : Int, r21 = (.int .i64 x22) ∧ 
  K (.bool (x16 == x22)) h20)
  (br (x10 == 1)
  (∃ x23 : Int, HV Try.prog (Instr.loadAt 33 (.pointer (some (a9.add 2)))) h8 (.int .u32 x23) ∧ 
  ∃ x24 : Int, HV Try.prog (Instr.loadAt 3 (.pointer (some (a9.add 3)))) h8 (.int .i64 x24) ∧ 
  CallsH Try.prog 32 #[(.pointer p1), (.int .u32 x23), (.int .i64 x24)] h8 fun r26 h25 =>
  ∃ x27 : Int, r26 = (.int .i64 x27) ∧ 
  ∃ x28 : Int, HV Try.prog (Instr.loadAt 33 (.pointer (some (a9.add 2)))) h25 (.int .u32 x28) ∧ HV Try.prog (Instr.loadAt 33 (.pointer (some (a9.add 2)))) h8 (.int .u32 x28) ∧ 
  ∃ x29 : Int, HV Try.prog (Instr.loadAt 3 (.pointer (some (a9.add 3)))) h25 (.int .i64 x29) ∧ HV Try.prog (Instr.loadAt 3 (.pointer (some (a9.add 3)))) h8 (.int .i64 x29) ∧ 
  CallsH Try.prog 59 #[(.pointer p2), (.int .u32 x28), (.int .i64 x29)] h25 fun r31 h30 =>
  ∃ x32 : Int, r31 = (.int .i64 x32) ∧ 
  K (.bool (x27 == x32)) h30)
  (br (x10 == 2)
  (∃ x33 : Int, HV Try.prog (Instr.loadAt 33 (.pointer (some (a9.add 2)))) h8 (.int .u32 x33) ∧ 
  ∃ x34 : Int, HV Try.prog (Instr.loadAt 3 (.pointer (some (a9.add 3)))) h8 (.int .i64 x34) ∧ 
  CallsH Try.prog 29 #[(.pointer p1), (.int .u32 x33), (.int .i64 x34)] h8 fun r36 h35 =>
  ∃ x37 : Int, ∃ b38 : Bool, r36 = (.tuple #[(.int .i64 x37), (.bool b38)]) ∧ 
  ∃ x39 : Int, HV Try.prog (Instr.loadAt 33 (.pointer (some (a9.add 2)))) h35 (.int .u32 x39) ∧ 
  ∃ x40 : Int, HV Try.prog (Instr.loadAt 3 (.pointer (some (a9.add 3)))) h35 (.int .i64 x40) ∧ 
  CallsH Try.prog 60 #[(.pointer p2), (.int .u32 x39), (.int .i64 x40)] h35 fun r42 h41 =>
  ∃ x43 : Int, ∃ b44 : Bool, r42 = (.tuple #[(.int .i64 x43), (.bool b44)]) ∧ 
  br (x37 == x43)
  (K (.bool (b38 == b44)) h41)
  (K (.bool false) h41))
  (br (x10 == 3)
  (∃ x45 : Int, HV Try.prog (Instr.loadAt 33 (.pointer (some (a9.add 2)))) h8 (.int .u32 x45) ∧ 
  CallsH Try.prog 30 #[(.pointer p1), (.int .u32 x45)] h8 fun r47 h46 =>
  ∃ x48 : Int, ∃ x49 : Int, ∃ x50 : Int, ∃ b51 : Bool, r47 = (.tuple #[(.agg #[(.int .u32 x48), (.int .i64 x49), (.int .i64 x50)]), (.bool b51)]) ∧ 
  newC h46 (.cells #[(.int .u32 0), (.int .i64 0), (.int .i64 0)] 66 (0, 0)) fun a53 h52 => 
  HU Try.prog (Instr.storeAt 66 (.pointer (some a53)) (.agg #[(.int .u32 x48), (.int .i64 x49), (.int .i64 x50)])) h52 fun h54 => 
  ∃ x55 : Int, HV Try.prog (Instr.loadAt 33 (.pointer (some (a9.add 2)))) h54 (.int .u32 x55) ∧ 
  CallsH Try.prog 61 #[(.pointer p2), (.int .u32 x55)] h54 fun r57 h56 =>
  ∃ x58 : Int, ∃ x59 : Int, ∃ x60 : Int, ∃ b61 : Bool, r57 = (.tuple #[(.agg #[(.int .u32 x58), (.int .i64 x59), (.int .i64 x60)]), (.bool b61)]) ∧ 
  newC h56 (.cells #[(.int .u32 0), (.int .i64 0), (.int .i64 0)] 66 (0, 0)) fun a63 h62 => 
  HU Try.prog (Instr.storeAt 66 (.pointer (some a63)) (.agg #[(.int .u32 x58), (.int .i64 x59), (.int .i64 x60)])) h62 fun h64 => 
  ∃ x65 : Int, ∃ x66 : Int, ∃ x67 : Int, HV Try.prog (Instr.loadAt 66 (.pointer (some a53))) h64 (.agg #[(.int .u32 x65), (.int .i64 x66), (.int .i64 x67)]) ∧ 
  ∃ x68 : Int, ∃ x69 : Int, ∃ x70 : Int, HV Try.prog (Instr.loadAt 66 (.pointer (some a63))) h64 (.agg #[(.int .u32 x68), (.int .i64 x69), (.int .i64 x70)]) ∧ 
  ∃ b71 : Bool, PV Try.prog (binOp .eql 66 (.agg #[(.int .u32 x65), (.int .i64 x66), (.int .i64 x67)]) (.agg #[(.int .u32 x68), (.int .i64 x69), (.int .i64 x70)])) (.bool b71) ∧
  br b71
  (K (.bool (b51 == b61)) h64)
  (K (.bool false) h64))
  (br (x10 == 4)
  (∃ x72 : Int, HV Try.prog (Instr.loadAt 33 (.pointer (some (a9.add 2)))) h8 (.int .u32 x72) ∧ 
  ∃ x73 : Int, HV Try.prog (Instr.loadAt 3 (.pointer (some (a9.add 3)))) h8 (.int .i64 x73) ∧ 
  CallsH Try.prog 34 #[(.pointer p1), (.int .u32 x72), (.int .i64 x73)] h8 fun r75 h74 =>
  ∃ v76 : Value, r75 = v76 ∧ 
  ∃ x77 : Int, HV Try.prog (Instr.loadAt 33 (.pointer (some (a9.add 2)))) h74 (.int .u32 x77) ∧ HV Try.prog (Instr.loadAt 33 (.pointer (some (a9.add 2)))) h8 (.int .u32 x77) ∧ 
  ∃ x78 : Int, HV Try.prog (Instr.loadAt 3 (.pointer (some (a9.add 3)))) h74 (.int .i64 x78) ∧ HV Try.prog (Instr.loadAt 3 (.pointer (some (a9.add 3)))) h8 (.int .i64 x78) ∧ 
  CallsH Try.prog 62 #[(.pointer p2), (.int .u32 x77), (.int .i64 x78)] h74 fun r80 h79 =>
  ∃ A81 : Option Addr, ∃ l81 : Nat, ∃ c81 : Nat, r80 = (.slice A81 l81 c81) ∧ 
  ∃ x82 : Int, HV Try.prog (Instr.loadAt 3 (.pointer (some (a9.add 4)))) h79 (.int .i64 x82) ∧ HV Try.prog (Instr.loadAt 3 (.pointer (some (a9.add 4)))) h74 (.int .i64 x82) ∧ HV Try.prog (Instr.loadAt 3 (.pointer (some (a9.add 4)))) h8 (.int .i64 x82) ∧ 
  CallsH Try.prog 33 #[v76, (.slice A81 l81 c81), (.int .i64 x82)] h79 fun r84 h83 =>
  ∃ b85 : Bool, r84 = (.bool b85) ∧ 
  K (.bool b85) h83)
  (br (x10 == 5)
  (CallsH Try.prog 35 #[(.pointer p1)] h8 fun r87 h86 =>
  ∃ v88 : Value, r87 = v88 ∧ 
  drf p2 fun a89 =>
  ∃ A90 : Option Addr, ∃ l90 : Nat, ∃ c90 : Nat, HV Try.prog (Instr.loadAt 79 (.pointer (some (a89.add 3)))) h86 (.slice A90 l90 c90) ∧ HV Try.prog (Instr.loadAt 79 (.pointer (some (a89.add 3)))) h8 (.slice A90 l90 c90) ∧ 
  ∃ x91 : Int, HV Try.prog (Instr.loadAt 3 (.pointer (some (a9.add 4)))) h86 (.int .i64 x91) ∧ HV Try.prog (Instr.loadAt 3 (.pointer (some (a9.add 4)))) h8 (.int .i64 x91) ∧ 
  CallsH Try.prog 33 #[v88, (.slice A90 l90 c90), (.int .i64 x91)] h86 fun r93 h92 =>
  ∃ b94 : Bool, r93 = (.bool b94) ∧ 
  K (.bool b94) h92)
  (br (x10 == 6)
  (CallsH Try.prog 36 #[(.pointer p1)] h8 fun r96 h95 =>
  ∃ x97 : Int, r96 = (.int .i64 x97) ∧ 
  CallsH Try.prog 63 #[(.pointer p2)] h95 fun r99 h98 =>
  ∃ x100 : Int, r99 = (.int .i64 x100) ∧ 
  br (x97 == x100)
  (CallsH Try.prog 37 #[(.pointer p1)] h98 fun r102 h101 =>
  ∃ x103 : Int, r102 = (.int .i64 x103) ∧ 
  drf p2 fun a104 =>
  ∃ x105 : Int, HV Try.prog (Instr.loadAt 3 (.pointer (some (a104.add 2)))) h101 (.int .i64 x105) ∧ HV Try.prog (Instr.loadAt 3 (.pointer (some (a104.add 2)))) h98 (.int .i64 x105) ∧ 
  K (.bool (x103 == x105)) h101)
  (K (.bool false) h98))
  (K (.bool true) h8)))))))
def quintetlaw12_step_lp (i : Nat) (Q : Qx) (tm : Tm) (h : Hp) : Prop := False
def quintetlaw12_step_cut (i : Nat) : Option (List Nat) := none
set_option maxRecDepth 100000 in
theorem quintetlaw12_step_eq (p1 : Option Addr) (p2 : Option Addr) (x3 : Int) (b4 : Bool) (x5 : Int) (x6 : Int) (x7 : Int) (h : Hp) (K : Value → Hp → Prop) : quintetlaw12_step p1 p2 x3 b4 x5 x6 x7 h K =
    codeWp Try.prog 147 quintetlaw12_step_lp quintetlaw12_step_cut (bodyOf Try.f39) 1 (endQ Try.prog Try.f39.results.toList K) (argTm [(.pointer p1), (.pointer p2), (.agg #[(.int .i64 x3), (.bool b4), (.int .u32 x5), (.int .i64 x6), (.int .i64 x7)])]) h := by kernel_rfl
set_option maxRecDepth 100000 in
theorem quintetlaw12_step_ok (p1 : Option Addr) (p2 : Option Addr) (x3 : Int) (b4 : Bool) (x5 : Int) (x6 : Int) (x7 : Int) {h : Hp} {K : Value → Hp → Prop} (H : quintetlaw12_step p1 p2 x3 b4 x5 x6 x7 h K) : CallsH Try.prog 39 #[(.pointer p1), (.pointer p2), (.agg #[(.int .i64 x3), (.bool b4), (.int .u32 x5), (.int .i64 x6), (.int .i64 x7)])] h K :=
  calls_of (args := [(.pointer p1), (.pointer p2), (.agg #[(.int .i64 x3), (.bool b4), (.int .u32 x5), (.int .i64 x6), (.int .i64 x7)])]) (n := 147) (lp := quintetlaw12_step_lp) (cut := quintetlaw12_step_cut) Try.func39 (c := bodyOf Try.f39) (by kernel_rfl) (by kernel_rfl) (by kernel_rfl) (good_by (c := (bodyOf Try.f39)) (i := 1) (l := []) (by kernel_rfl) (fun _ h => by cases h))
    (Eq.mp (quintetlaw12_step_eq p1 p2 x3 b4 x5 x6 x7 h K) H)

/-! ### quintet/quintetlaw12.played: function 40 -/
def quintetlaw12_played_l3 (A54 : Option Addr) (l54 : Nat) (c54 : Nat) (p55 : Option Addr) (K0 : (Option Addr) → Hp → Prop)  : Nat → Int → Hp → Prop
  | 0, _, _ => False
  | k + 1, x56, h =>
    br (decide (x56 < (l54 : Int)))
    (∃ a76 : Addr, PV Try.prog (Instr.indexAt 77 (.slice A54 l54 c54) (.int .i64 x56)) (.pointer (some a76)) ∧
    ∃ x77 : Int, HV Try.prog (Instr.loadAt 3 (.pointer (some a76))) h (.int .i64 x77) ∧ 
    br (x77 == 1)
    (∃ a78 : Addr, PV Try.prog (Instr.indexAt 77 (.slice A54 l54 c54) (.int .i64 x56)) (.pointer (some a78)) ∧
    ∃ x79 : Int, HV Try.prog (Instr.loadAt 33 (.pointer (some (a78.add 2)))) h (.int .u32 x79) ∧ 
    ∃ a80 : Addr, PV Try.prog (Instr.indexAt 77 (.slice A54 l54 c54) (.int .i64 x56)) (.pointer (some a80)) ∧
    ∃ x81 : Int, HV Try.prog (Instr.loadAt 3 (.pointer (some (a80.add 3)))) h (.int .i64 x81) ∧ 
    CallsH Try.prog 32 #[(.pointer p55), (.int .u32 x79), (.int .i64 x81)] h fun r83 h82 =>
    ∃ x84 : Int, r83 = (.int .i64 x84) ∧ 
    quintetlaw12_played_l3 A54 l54 c54 p55 K0 k (IntKind.i64.wrap (x56 + 1)) h82)
    (∃ a85 : Addr, PV Try.prog (Instr.indexAt 77 (.slice A54 l54 c54) (.int .i64 x56)) (.pointer (some a85)) ∧
    ∃ x86 : Int, HV Try.prog (Instr.loadAt 33 (.pointer (some (a85.add 2)))) h (.int .u32 x86) ∧ 
    ∃ a87 : Addr, PV Try.prog (Instr.indexAt 77 (.slice A54 l54 c54) (.int .i64 x56)) (.pointer (some a87)) ∧
    ∃ x88 : Int, HV Try.prog (Instr.loadAt 3 (.pointer (some (a87.add 3)))) h (.int .i64 x88) ∧ 
    ∃ a89 : Addr, PV Try.prog (Instr.indexAt 77 (.slice A54 l54 c54) (.int .i64 x56)) (.pointer (some a89)) ∧
    ∃ x90 : Int, HV Try.prog (Instr.loadAt 3 (.pointer (some (a89.add 4)))) h (.int .i64 x90) ∧ 
    CallsH Try.prog 31 #[(.pointer p55), (.int .u32 x86), (.int .i64 x88), (.int .i64 x90)] h fun r92 h91 =>
    ∃ x93 : Int, r92 = (.int .i64 x93) ∧ 
    quintetlaw12_played_l3 A54 l54 c54 p55 K0 k (IntKind.i64.wrap (x56 + 1)) h91))
    (K0 p55 h)
def quintetlaw12_played_l3_L (Q : Qx) (k : Nat) (tm : Tm) (h : Hp) : Prop :=
  selS (tm 1) fun A54 l54 c54 =>
  selP (tm 5) fun p55 =>
  selI .i64 (tm 7) fun x56 =>
  quintetlaw12_played_l3 A54 l54 c54 p55 (fun (p75 : Option Addr) h => Q (.exit 0) (mkTm [(5, some (.pointer p75))]) h) k x56 h
def quintetlaw12_played_j2 (K0 : (Option Addr) → Hp → Prop) (A8 : Option Addr) (l8 : Nat) (c8 : Nat) (p9 : Option Addr) (h : Hp) : Prop :=
  ∃ k96, quintetlaw12_played_l3 A8 l8 c8 p9
  (fun (p94 : Option Addr) (h95 : Hp) =>
  K0 p94 h95)
  k96 0 h
def quintetlaw12_played_j2_L (Q : Qx) (tm : Tm) (h : Hp) : Prop :=
  selS (tm 1) fun A8 l8 c8 =>
  selP (tm 5) fun p9 =>
  quintetlaw12_played_j2 (fun (p53 : Option Addr) h => Q (.ret) (mkTm [(4, some (.pointer p53))]) h) A8 l8 c8 p9 h
def quintetlaw12_played (x1 : Int) (A2 : Option Addr) (l2 : Nat) (c2 : Nat) (h : Hp) (K : Value → Hp → Prop) : Prop :=
  CallsH Try.prog 27 #[(.int .i64 x1), (.int .i64 1048576)] h fun r4 h3 =>
  ∃ p5 : Option Addr, ∃ x6 : Int, r4 = (.tuple #[(.pointer p5), (.int .i64 x6)]) ∧ 
  br (x6 != 0)
  (K (.pointer none) h3)
  (∃ b97 : Bool, PV Try.prog (binOp .eql 60 (.pointer p5) (.pointer none)) (.bool b97) ∧
  br b97
  (K (.pointer none) h3)
  (quintetlaw12_played_j2
  (fun (p98 : Option Addr) (h99 : Hp) =>
  K (.pointer p98) h99)
  A2 l2 c2 p5 h3))
def quintetlaw12_played_lp (i : Nat) (Q : Qx) (tm : Tm) (h : Hp) : Prop := match Nat.beq i 122 with
  | true => ∃ k, quintetlaw12_played_l3_L Q k tm h
  | false => match Nat.beq i 7 with
  | true => quintetlaw12_played_j2_L Q tm h
  | false => False
def quintetlaw12_played_cut (i : Nat) : Option (List Nat) := match Nat.beq i 7 with
  | true => some [1, 5]
  | false => none
set_option maxRecDepth 100000 in
theorem quintetlaw12_played_l3_step (Q : Qx) (k : Nat) (A54 : Option Addr) (l54 : Nat) (c54 : Nat) (p55 : Option Addr) (x56 : Int) (h : Hp) : quintetlaw12_played_l3_L Q (k + 1) (mkTm [(1, some (.slice A54 l54 c54)), (5, some (.pointer p55)), (7, some (.int .i64 x56))]) h =
    codeWp Try.prog 61 quintetlaw12_played_lp quintetlaw12_played_cut (sub (bodyOf Try.f40) [true, true, true, false, true, false, false]) 244 (thenQ (fun tm h => quintetlaw12_played_l3_L Q k (mask [1, 5, 7] tm) h) (maskQ (fun e => match e with | .exit 0 => [5] | _ => []) Q)) (mkTm [(1, some (.slice A54 l54 c54)), (5, some (.pointer p55)), (7, some (.int .i64 x56))]) h := by kernel_rfl
theorem quintetlaw12_played_l3_mask (Q : Qx) (k : Nat) (tm : Tm) (h : Hp) : quintetlaw12_played_l3_L Q k tm h ↔ quintetlaw12_played_l3_L Q k (mask [1, 5, 7] tm) h := Iff.rfl
set_option maxRecDepth 100000 in
theorem quintetlaw12_played_l3_snd : SndAt Try.prog 61 none (sub (bodyOf Try.f40) [true, true, true, false, true, false]) (quintetlaw12_played_lp 122) := by
  refine loop_sound (lp := quintetlaw12_played_lp) (cut := quintetlaw12_played_cut) (i := 122) (c := (sub (bodyOf Try.f40) [true, true, true, false, true, false, false])) [1, 5, 7] (fun e => match e with | .exit 0 => [5] | _ => []) quintetlaw12_played_l3_L ?_ ?_ ?_
  · exact good_by (c := (sub (bodyOf Try.f40) [true, true, true, false, true, false, false])) (i := 244) (l := []) (by kernel_rfl) (fun _ h => by cases h)
  · intro Q tm h H
    obtain ⟨A54, l54, c54, e1, H⟩ := selS_ex H
    obtain ⟨p55, e5, H⟩ := selP_ex H
    obtain ⟨x56, e7, H⟩ := selI_ex H
    exact H
  · intro Q k tm h H
    have H0 := H
    obtain ⟨A54, l54, c54, e1, H⟩ := selS_ex H
    obtain ⟨p55, e5, H⟩ := selP_ex H
    obtain ⟨x56, e7, H⟩ := selI_ex H
    have e : mask [1, 5, 7] tm = mkTm [(1, some (.slice A54 l54 c54)), (5, some (.pointer p55)), (7, some (.int .i64 x56))] := by simp only [mask, List.map_cons, List.map_nil, e1, e5, e7] <;> rfl
    rw [e]
    refine Eq.mp (quintetlaw12_played_l3_step Q k A54 l54 c54 p55 x56 h) ?_
    rw [← e]
    exact (quintetlaw12_played_l3_mask Q (k + 1) tm h).mp H0
set_option maxRecDepth 100000 in
theorem quintetlaw12_played_j2_step (Q : Qx) (A8 : Option Addr) (l8 : Nat) (c8 : Nat) (p9 : Option Addr) (h : Hp) : quintetlaw12_played_j2_L Q (mkTm [(1, some (.slice A8 l8 c8)), (5, some (.pointer p9))]) h =
    codeWp Try.prog 61 quintetlaw12_played_lp quintetlaw12_played_cut (sub (bodyOf Try.f40) [true, true, true]) 15 (maskQ (fun e => match e with | .ret => [4] | _ => []) Q) (mkTm [(1, some (.slice A8 l8 c8)), (5, some (.pointer p9))]) h := by kernel_rfl
theorem quintetlaw12_played_j2_mask (Q : Qx) (tm : Tm) (h : Hp) : quintetlaw12_played_j2_L Q tm h ↔ quintetlaw12_played_j2_L Q (mask [1, 5] tm) h := Iff.rfl
set_option maxRecDepth 100000 in
theorem quintetlaw12_played_j2_snd : SndAt Try.prog 61 none (sub (bodyOf Try.f40) [true, true, true]) (quintetlaw12_played_lp 7) := by
  refine join_sound (lp := quintetlaw12_played_lp) (cut := quintetlaw12_played_cut) (i := 7) (c := (sub (bodyOf Try.f40) [true, true, true])) [1, 5] (fun e => match e with | .ret => [4] | _ => []) quintetlaw12_played_j2_L ?_ ?_
  · exact good_by (c := (sub (bodyOf Try.f40) [true, true, true])) (i := 15) (l := [(122, (sub (bodyOf Try.f40) [true, true, true, false, true, false]))]) (by kernel_rfl) (List.forall_mem_cons.2 ⟨quintetlaw12_played_l3_snd, (fun _ h => by cases h)⟩)
  · intro Q tm h H
    have H0 := H
    obtain ⟨A8, l8, c8, e1, H⟩ := selS_ex H
    obtain ⟨p9, e5, H⟩ := selP_ex H
    have e : mask [1, 5] tm = mkTm [(1, some (.slice A8 l8 c8)), (5, some (.pointer p9))] := by simp only [mask, List.map_cons, List.map_nil, e1, e5] <;> rfl
    rw [e]
    refine Eq.mp (quintetlaw12_played_j2_step Q A8 l8 c8 p9 h) ?_
    rw [← e]
    exact (quintetlaw12_played_j2_mask Q tm h).mp H0
set_option maxRecDepth 100000 in
theorem quintetlaw12_played_eq (x1 : Int) (A2 : Option Addr) (l2 : Nat) (c2 : Nat) (h : Hp) (K : Value → Hp → Prop) : quintetlaw12_played x1 A2 l2 c2 h K =
    codeWp Try.prog 61 quintetlaw12_played_lp quintetlaw12_played_cut (bodyOf Try.f40) 1 (endQ Try.prog Try.f40.results.toList K) (argTm [(.int .i64 x1), (.slice A2 l2 c2)]) h := by kernel_rfl
set_option maxRecDepth 100000 in
theorem quintetlaw12_played_ok (x1 : Int) (A2 : Option Addr) (l2 : Nat) (c2 : Nat) {h : Hp} {K : Value → Hp → Prop} (H : quintetlaw12_played x1 A2 l2 c2 h K) : CallsH Try.prog 40 #[(.int .i64 x1), (.slice A2 l2 c2)] h K :=
  calls_of (args := [(.int .i64 x1), (.slice A2 l2 c2)]) (n := 61) (lp := quintetlaw12_played_lp) (cut := quintetlaw12_played_cut) Try.func40 (c := bodyOf Try.f40) (by kernel_rfl) (by kernel_rfl) (by kernel_rfl) (good_by (c := (bodyOf Try.f40)) (i := 1) (l := [(7, (sub (bodyOf Try.f40) [true, true, true]))]) (by kernel_rfl) (List.forall_mem_cons.2 ⟨quintetlaw12_played_j2_snd, (fun _ h => by cases h)⟩))
    (Eq.mp (quintetlaw12_played_eq x1 A2 l2 c2 h K) H)

/-! ### quintet/quintetlaw12.told: function 41 -/
def quintetlaw12_told (f1 : Fn) (f1r : Array Value) (f1c : Array Value) (h : Hp) (K : Value → Hp → Prop) : Prop :=
  newC h (.cells #[(.slice none 0 0)] 79 (0, 0)) fun a3 h2 => 
  ∃ b4 : Bool, PV Try.prog (binOp .eql 73 (.func f1 f1r f1c) .nilFunc) (.bool b4) ∧
  br b4
  (∃ A5 : Option Addr, ∃ l5 : Nat, ∃ c5 : Nat, HV Try.prog (Instr.loadAt 79 (.pointer (some a3))) h2 (.slice A5 l5 c5) ∧ 
  shut [] h2 fun h6 =>
  K (.slice A5 l5 c5) h6)
  (RangeW Try.prog 15 (.func f1 f1r f1c) #[9] (sub (bodyOf Try.f41) [true, true, true, false, true, false, false]) (sub (bodyOf Try.f41) [true, true, true, false, true, false, true]) (mkTm [(3, some (.pointer (some a3)))]) h2
  (fun (D7 : Nat) (h8 : Hp) =>
  ∃ A12 : Option Addr, ∃ l12 : Nat, ∃ c12 : Nat, HV Try.prog (Instr.loadAt 79 (.pointer (some a3))) h8 (.slice A12 l12 c12) ∧ 
  shut (D7 :: []) h8 fun h13 =>
  K (.slice A12 l12 c12) h13)
  (fun (c11 : Code) (D9 : Nat) (h10 : Hp) =>
  jmpQ c11
  (shut (D9 :: []) h10 fun h14 =>
  K (.slice none 0 0) h14)
  []))
def quintetlaw12_told_lp (i : Nat) (Q : Qr) (tm : Tm) (dl : List Nat) (h : Hp) : Prop := False
def quintetlaw12_told_cut (i : Nat) : Option (List Nat) := match Nat.beq i 122 with
  | true => some [3]
  | false => none
set_option maxRecDepth 100000 in
theorem quintetlaw12_told_eq (f1 : Fn) (f1r : Array Value) (f1c : Array Value) (h : Hp) (K : Value → Hp → Prop) : quintetlaw12_told f1 f1r f1c h K =
    rcodeWp Try.prog 15 quintetlaw12_told_lp quintetlaw12_told_cut (bodyOf Try.f41) 1 (endR Try.prog Try.f41.results.toList K) (argTm [(.func f1 f1r f1c)]) [] h := by kernel_rfl
set_option maxRecDepth 100000 in
theorem quintetlaw12_told_ok (f1 : Fn) (f1r : Array Value) (f1c : Array Value) {h : Hp} {K : Value → Hp → Prop} (H : quintetlaw12_told f1 f1r f1c h K) : CallsH Try.prog 41 #[(.func f1 f1r f1c)] h K :=
  calls_ofR (args := [(.func f1 f1r f1c)]) (n := 15) (lp := quintetlaw12_told_lp) (cut := quintetlaw12_told_cut) Try.func41 (c := bodyOf Try.f41) (by kernel_rfl) (by kernel_rfl) (by kernel_rfl) (good_byR (c := (bodyOf Try.f41)) (i := 1) (l := []) (by kernel_rfl) (fun _ h => by cases h))
    (Eq.mp (quintetlaw12_told_eq f1 f1r f1c h K) H)
/-- A round of the range at 122. -/
def quintetlaw12_told_r1 (a15 : Addr) (x16 : Int) (x17 : Int) (x18 : Int) (l19 : Nat) (h : Hp) (K : Value → Hp → Prop) : Prop :=
  newC h (.cells #[(.int .u32 0), (.int .i64 0), (.int .i64 0)] 66 (0, 0)) fun a21 h20 => 
  HU Try.prog (Instr.storeAt 66 (.pointer (some a21)) (.agg #[(.int .u32 x16), (.int .i64 x17), (.int .i64 x18)])) h20 fun h22 => 
  rbeg l19 h22 fun h23 =>
  ∃ A24 : Option Addr, ∃ l24 : Nat, ∃ c24 : Nat, HV Try.prog (Instr.loadAt 79 (.pointer (some a15))) h23 (.slice A24 l24 c24) ∧ 
  ∃ x25 : Int, ∃ x26 : Int, ∃ x27 : Int, HV Try.prog (Instr.loadAt 66 (.pointer (some a21))) h23 (.agg #[(.int .u32 x25), (.int .i64 x26), (.int .i64 x27)]) ∧ 
  newC h23 (.cells #[(.int .u32 x25), (.int .i64 x26), (.int .i64 x27)] 66 (0, 0)) fun a29 h28 => 
  HW Try.prog (Builtin.append_ #[79, 79] 79 #[(.slice A24 l24 c24), (.slice (some a29) 1 1)]) h28 fun r31 h30 =>
  ∃ A32 : Option Addr, ∃ l32 : Nat, ∃ c32 : Nat, r31 = (.slice A32 l32 c32) ∧ 
  HU Try.prog (Instr.storeAt 79 (.pointer (some a15)) (.slice A32 l32 c32)) h30 fun h33 => 
  rend l19 none h33 fun h34 => K (.bool true) h34
set_option maxRecDepth 100000 in
theorem quintetlaw12_told_r1_eq (a15 : Addr) (x16 : Int) (x17 : Int) (x18 : Int) (l19 : Nat) (h : Hp) (K : Value → Hp → Prop) : quintetlaw12_told_r1 a15 x16 x17 x18 l19 h K =
    roundW Try.prog 15 lp0 cut0 l19 (sub (bodyOf Try.f41) [true, true, true, false, true, false, false]) (sub (bodyOf Try.f41) [true, true, true, false, true, false, true]) 1 K (prmTm [9] [(.agg #[(.int .u32 x16), (.int .i64 x17), (.int .i64 x18)])] (mkTm [(3, some (.pointer (some a15)))])) h := by kernel_rfl
set_option maxRecDepth 100000 in
theorem quintetlaw12_told_r1_ok (a15 : Addr) (x16 : Int) (x17 : Int) (x18 : Int) {l19 D : Nat} {h : Hp} {r : Loop} {K : Value → Hp → Prop} (hr : h[l19]? = some (.loop r)) (ok : RecOK 15 #[9] (sub (bodyOf Try.f41) [true, true, true, false, true, false, false]) (sub (bodyOf Try.f41) [true, true, true, false, true, false, true]) (mkTm [(3, some (.pointer (some a15)))]) D r) (H : quintetlaw12_told_r1 a15 x16 x17 x18 l19 h K) : HN Try.prog (callS (yieldV l19) #[(.agg #[(.int .u32 x16), (.int .i64 x17), (.int .i64 x18)])]) h K :=
  round_sound (ps := [9]) (vs := [(.agg #[(.int .u32 x16), (.int .i64 x17), (.int .i64 x18)])]) (i := 1) (good_by (l := []) (by kernel_rfl) (fun _ h => by cases h)) (good_by (l := []) (by kernel_rfl) (fun _ h => by cases h)) hr ok rfl (by kernel_rfl)
    (Eq.mp (quintetlaw12_told_r1_eq a15 x16 x17 x18 l19 h K) H)

/-! ### (*quintet/quintetref12.Trie).Put: function 58 -/
def quintetref12_Trie_Put (p1 : Option Addr) (x2 : Int) (x3 : Int) (x4 : Int) (h : Hp) (K : Value → Hp → Prop) : Prop :=
  CallsH Try.prog 73 #[(.pointer p1), (.int .u32 x2), (.int .i64 x3)] h fun r6 h5 =>
  ∃ b7 : Bool, r6 = (.bool b7) ∧ 
  br (!b7)
  (K (.int .i64 120) h5)
  (CallsH Try.prog 74 #[(.pointer p1), (.int .u32 x2), (.int .i64 x3)] h5 fun r9 h8 =>
  ∃ x10 : Int, r9 = (.int .i64 x10) ∧ 
  br (decide (x10 ≥ 0))
  (drf p1 fun a11 =>
  ∃ A12 : Option Addr, ∃ l12 : Nat, ∃ c12 : Nat, HV Try.prog (Instr.loadAt 79 (.pointer (some (a11.add 3)))) h8 (.slice A12 l12 c12) ∧ 
  ∃ a13 : Addr, PV Try.prog (Instr.indexAt 79 (.slice A12 l12 c12) (.int .i64 x10)) (.pointer (some a13)) ∧
  HU Try.prog (Instr.storeAt 3 (.pointer (some (a13.add 2))) (.int .i64 x4)) h8 fun h14 => 
  K (.int .i64 0) h14)
  (drf p1 fun a15 =>
  ∃ A16 : Option Addr, ∃ l16 : Nat, ∃ c16 : Nat, HV Try.prog (Instr.loadAt 79 (.pointer (some (a15.add 3)))) h8 (.slice A16 l16 c16) ∧ 
  CallsH Try.prog 75 #[(.slice A16 l16 c16), (.agg #[(.int .u32 x2), (.int .i64 x3), (.int .i64 x4)])] h8 fun r18 h17 =>
  ∃ A19 : Option Addr, ∃ l19 : Nat, ∃ c19 : Nat, r18 = (.slice A19 l19 c19) ∧ 
  drf p1 fun a20 =>
  ∃ x21 : Int, HV Try.prog (Instr.loadAt 3 (.pointer (some (a20.add 1)))) h17 (.int .i64 x21) ∧ 
  CallsH Try.prog 76 #[(.pointer p1), (.slice A19 l19 c19), (.int .i64 x21)] h17 fun r23 h22 =>
  ∃ x24 : Int, r23 = (.int .i64 x24) ∧ 
  drf p1 fun a25 =>
  ∃ x26 : Int, HV Try.prog (Instr.loadAt 3 (.pointer (some (a25.add 1)))) h22 (.int .i64 x26) ∧ 
  br (decide (x24 > x26))
  (K (.int .i64 122) h22)
  (drf p1 fun a27 =>
  HU Try.prog (Instr.storeAt 79 (.pointer (some (a27.add 3))) (.slice A19 l19 c19)) h22 fun h28 => 
  drf p1 fun a29 =>
  ∃ x30 : Int, HV Try.prog (Instr.loadAt 3 (.pointer (some (a29.add 2)))) h28 (.int .i64 x30) ∧ 
  ∃ x31 : Int, PV Try.prog (Builtin.max_ #[3, 3] 3 #[(.int .i64 x30), (.int .i64 x24)]) (.int .i64 x31) ∧
  drf p1 fun a32 =>
  HU Try.prog (Instr.storeAt 3 (.pointer (some (a32.add 2))) (.int .i64 x31)) h28 fun h33 => 
  K (.int .i64 0) h33)))
def quintetref12_Trie_Put_lp (i : Nat) (Q : Qx) (tm : Tm) (h : Hp) : Prop := False
def quintetref12_Trie_Put_cut (i : Nat) : Option (List Nat) := none
set_option maxRecDepth 100000 in
theorem quintetref12_Trie_Put_eq (p1 : Option Addr) (x2 : Int) (x3 : Int) (x4 : Int) (h : Hp) (K : Value → Hp → Prop) : quintetref12_Trie_Put p1 x2 x3 x4 h K =
    codeWp Try.prog 66 quintetref12_Trie_Put_lp quintetref12_Trie_Put_cut (bodyOf Try.f58) 1 (endQ Try.prog Try.f58.results.toList K) (argTm [(.pointer p1), (.int .u32 x2), (.int .i64 x3), (.int .i64 x4)]) h := by kernel_rfl
set_option maxRecDepth 100000 in
theorem quintetref12_Trie_Put_ok (p1 : Option Addr) (x2 : Int) (x3 : Int) (x4 : Int) {h : Hp} {K : Value → Hp → Prop} (H : quintetref12_Trie_Put p1 x2 x3 x4 h K) : CallsH Try.prog 58 #[(.pointer p1), (.int .u32 x2), (.int .i64 x3), (.int .i64 x4)] h K :=
  calls_of (args := [(.pointer p1), (.int .u32 x2), (.int .i64 x3), (.int .i64 x4)]) (n := 66) (lp := quintetref12_Trie_Put_lp) (cut := quintetref12_Trie_Put_cut) Try.func58 (c := bodyOf Try.f58) (by kernel_rfl) (by kernel_rfl) (by kernel_rfl) (good_by (c := (bodyOf Try.f58)) (i := 1) (l := []) (by kernel_rfl) (fun _ h => by cases h))
    (Eq.mp (quintetref12_Trie_Put_eq p1 x2 x3 x4 h K) H)

/-! ### (*quintet/quintetref12.Trie).Cut: function 59 -/
def quintetref12_Trie_Cut_l1 (p10 : Option Addr) (x11 : Int) (K0 : (Option Addr) → (Option Addr) → Nat → Nat → Hp → Prop)  : Nat → (Option Addr) → Nat → Nat → Int → Hp → Prop
  | 0, _, _, _, _, _ => False
  | k + 1, A12, l12, c12, x13, h =>
    drf p10 fun a29 =>
    ∃ A30 : Option Addr, ∃ l30 : Nat, ∃ c30 : Nat, HV Try.prog (Instr.loadAt 79 (.pointer (some (a29.add 3)))) h (.slice A30 l30 c30) ∧ 
    br (decide (x13 < (l30 : Int)))
    (br (x13 != x11)
    (drf p10 fun a31 =>
    ∃ A32 : Option Addr, ∃ l32 : Nat, ∃ c32 : Nat, HV Try.prog (Instr.loadAt 79 (.pointer (some (a31.add 3)))) h (.slice A32 l32 c32) ∧ 
    ∃ a33 : Addr, PV Try.prog (Instr.indexAt 79 (.slice A32 l32 c32) (.int .i64 x13)) (.pointer (some a33)) ∧
    ∃ x34 : Int, ∃ x35 : Int, ∃ x36 : Int, HV Try.prog (Instr.loadAt 66 (.pointer (some a33))) h (.agg #[(.int .u32 x34), (.int .i64 x35), (.int .i64 x36)]) ∧ 
    newC h (.cells #[(.int .u32 x34), (.int .i64 x35), (.int .i64 x36)] 66 (0, 0)) fun a38 h37 => 
    HW Try.prog (Builtin.append_ #[79, 79] 79 #[(.slice A12 l12 c12), (.slice (some a38) 1 1)]) h37 fun r40 h39 =>
    ∃ A41 : Option Addr, ∃ l41 : Nat, ∃ c41 : Nat, r40 = (.slice A41 l41 c41) ∧ 
    quintetref12_Trie_Cut_l1 p10 x11 K0 k A41 l41 c41 (IntKind.i64.wrap (x13 + 1)) h39)
    (quintetref12_Trie_Cut_l1 p10 x11 K0 k A12 l12 c12 (IntKind.i64.wrap (x13 + 1)) h))
    (K0 p10 A12 l12 c12 h)
def quintetref12_Trie_Cut_l1_L (Q : Qx) (k : Nat) (tm : Tm) (h : Hp) : Prop :=
  selP (tm 0) fun p10 =>
  selI .i64 (tm 7) fun x11 =>
  selS (tm 8) fun A12 l12 c12 =>
  selI .i64 (tm 9) fun x13 =>
  quintetref12_Trie_Cut_l1 p10 x11 (fun (p27 : Option Addr) (A28 : Option Addr) (l28 : Nat) (c28 : Nat) h => Q (.exit 0) (mkTm [(0, some (.pointer p27)), (8, some (.slice A28 l28 c28))]) h) k A12 l12 c12 x13 h
def quintetref12_Trie_Cut (p1 : Option Addr) (x2 : Int) (x3 : Int) (h : Hp) (K : Value → Hp → Prop) : Prop :=
  CallsH Try.prog 73 #[(.pointer p1), (.int .u32 x2), (.int .i64 x3)] h fun r5 h4 =>
  ∃ b6 : Bool, r5 = (.bool b6) ∧ 
  br (!b6)
  (K (.int .i64 120) h4)
  (CallsH Try.prog 74 #[(.pointer p1), (.int .u32 x2), (.int .i64 x3)] h4 fun r8 h7 =>
  ∃ x9 : Int, r8 = (.int .i64 x9) ∧ 
  br (decide (x9 < 0))
  (K (.int .i64 121) h7)
  (∃ k47, quintetref12_Trie_Cut_l1 p1 x9
  (fun (p42 : Option Addr) (A43 : Option Addr) (l43 : Nat) (c43 : Nat) (h44 : Hp) =>
  drf p42 fun a45 =>
  HU Try.prog (Instr.storeAt 79 (.pointer (some (a45.add 3))) (.slice A43 l43 c43)) h44 fun h46 => 
  K (.int .i64 0) h46)
  k47 none 0 0 0 h7))
def quintetref12_Trie_Cut_lp (i : Nat) (Q : Qx) (tm : Tm) (h : Hp) : Prop := match Nat.beq i 506 with
  | true => ∃ k, quintetref12_Trie_Cut_l1_L Q k tm h
  | false => False
def quintetref12_Trie_Cut_cut (i : Nat) : Option (List Nat) := none
set_option maxRecDepth 100000 in
theorem quintetref12_Trie_Cut_l1_step (Q : Qx) (k : Nat) (p10 : Option Addr) (x11 : Int) (A12 : Option Addr) (l12 : Nat) (c12 : Nat) (x13 : Int) (h : Hp) : quintetref12_Trie_Cut_l1_L Q (k + 1) (mkTm [(0, some (.pointer p10)), (7, some (.int .i64 x11)), (8, some (.slice A12 l12 c12)), (9, some (.int .i64 x13))]) h =
    codeWp Try.prog 47 quintetref12_Trie_Cut_lp quintetref12_Trie_Cut_cut (sub (bodyOf Try.f59) [true, true, true, true, true, false, true, false, false]) 1012 (thenQ (fun tm h => quintetref12_Trie_Cut_l1_L Q k (mask [0, 7, 8, 9] tm) h) (maskQ (fun e => match e with | .exit 0 => [0, 8] | _ => []) Q)) (mkTm [(0, some (.pointer p10)), (7, some (.int .i64 x11)), (8, some (.slice A12 l12 c12)), (9, some (.int .i64 x13))]) h := by kernel_rfl
theorem quintetref12_Trie_Cut_l1_mask (Q : Qx) (k : Nat) (tm : Tm) (h : Hp) : quintetref12_Trie_Cut_l1_L Q k tm h ↔ quintetref12_Trie_Cut_l1_L Q k (mask [0, 7, 8, 9] tm) h := Iff.rfl
set_option maxRecDepth 100000 in
theorem quintetref12_Trie_Cut_l1_snd : SndAt Try.prog 47 none (sub (bodyOf Try.f59) [true, true, true, true, true, false, true, false]) (quintetref12_Trie_Cut_lp 506) := by
  refine loop_sound (lp := quintetref12_Trie_Cut_lp) (cut := quintetref12_Trie_Cut_cut) (i := 506) (c := (sub (bodyOf Try.f59) [true, true, true, true, true, false, true, false, false])) [0, 7, 8, 9] (fun e => match e with | .exit 0 => [0, 8] | _ => []) quintetref12_Trie_Cut_l1_L ?_ ?_ ?_
  · exact good_by (c := (sub (bodyOf Try.f59) [true, true, true, true, true, false, true, false, false])) (i := 1012) (l := []) (by kernel_rfl) (fun _ h => by cases h)
  · intro Q tm h H
    obtain ⟨p10, e0, H⟩ := selP_ex H
    obtain ⟨x11, e7, H⟩ := selI_ex H
    obtain ⟨A12, l12, c12, e8, H⟩ := selS_ex H
    obtain ⟨x13, e9, H⟩ := selI_ex H
    exact H
  · intro Q k tm h H
    have H0 := H
    obtain ⟨p10, e0, H⟩ := selP_ex H
    obtain ⟨x11, e7, H⟩ := selI_ex H
    obtain ⟨A12, l12, c12, e8, H⟩ := selS_ex H
    obtain ⟨x13, e9, H⟩ := selI_ex H
    have e : mask [0, 7, 8, 9] tm = mkTm [(0, some (.pointer p10)), (7, some (.int .i64 x11)), (8, some (.slice A12 l12 c12)), (9, some (.int .i64 x13))] := by simp only [mask, List.map_cons, List.map_nil, e0, e7, e8, e9] <;> rfl
    rw [e]
    refine Eq.mp (quintetref12_Trie_Cut_l1_step Q k p10 x11 A12 l12 c12 x13 h) ?_
    rw [← e]
    exact (quintetref12_Trie_Cut_l1_mask Q (k + 1) tm h).mp H0
set_option maxRecDepth 100000 in
theorem quintetref12_Trie_Cut_eq (p1 : Option Addr) (x2 : Int) (x3 : Int) (h : Hp) (K : Value → Hp → Prop) : quintetref12_Trie_Cut p1 x2 x3 h K =
    codeWp Try.prog 47 quintetref12_Trie_Cut_lp quintetref12_Trie_Cut_cut (bodyOf Try.f59) 1 (endQ Try.prog Try.f59.results.toList K) (argTm [(.pointer p1), (.int .u32 x2), (.int .i64 x3)]) h := by kernel_rfl
set_option maxRecDepth 100000 in
theorem quintetref12_Trie_Cut_ok (p1 : Option Addr) (x2 : Int) (x3 : Int) {h : Hp} {K : Value → Hp → Prop} (H : quintetref12_Trie_Cut p1 x2 x3 h K) : CallsH Try.prog 59 #[(.pointer p1), (.int .u32 x2), (.int .i64 x3)] h K :=
  calls_of (args := [(.pointer p1), (.int .u32 x2), (.int .i64 x3)]) (n := 47) (lp := quintetref12_Trie_Cut_lp) (cut := quintetref12_Trie_Cut_cut) Try.func59 (c := bodyOf Try.f59) (by kernel_rfl) (by kernel_rfl) (by kernel_rfl) (good_by (c := (bodyOf Try.f59)) (i := 1) (l := [(506, (sub (bodyOf Try.f59) [true, true, true, true, true, false, true, false]))]) (by kernel_rfl) (List.forall_mem_cons.2 ⟨quintetref12_Trie_Cut_l1_snd, (fun _ h => by cases h)⟩))
    (Eq.mp (quintetref12_Trie_Cut_eq p1 x2 x3 h K) H)

/-! ### (*quintet/quintetref12.Trie).Get: function 60 -/
def quintetref12_Trie_Get (p1 : Option Addr) (x2 : Int) (x3 : Int) (h : Hp) (K : Value → Hp → Prop) : Prop :=
  CallsH Try.prog 74 #[(.pointer p1), (.int .u32 x2), (.int .i64 x3)] h fun r5 h4 =>
  ∃ x6 : Int, r5 = (.int .i64 x6) ∧ 
  br (decide (x6 < 0))
  (K (.tuple #[(.int .i64 0), (.bool false)]) h4)
  (drf p1 fun a7 =>
  ∃ A8 : Option Addr, ∃ l8 : Nat, ∃ c8 : Nat, HV Try.prog (Instr.loadAt 79 (.pointer (some (a7.add 3)))) h4 (.slice A8 l8 c8) ∧ 
  ∃ a9 : Addr, PV Try.prog (Instr.indexAt 79 (.slice A8 l8 c8) (.int .i64 x6)) (.pointer (some a9)) ∧
  ∃ x10 : Int, HV Try.prog (Instr.loadAt 3 (.pointer (some (a9.add 2)))) h4 (.int .i64 x10) ∧ 
  K (.tuple #[(.int .i64 x10), (.bool true)]) h4)
def quintetref12_Trie_Get_lp (i : Nat) (Q : Qx) (tm : Tm) (h : Hp) : Prop := False
def quintetref12_Trie_Get_cut (i : Nat) : Option (List Nat) := none
set_option maxRecDepth 100000 in
theorem quintetref12_Trie_Get_eq (p1 : Option Addr) (x2 : Int) (x3 : Int) (h : Hp) (K : Value → Hp → Prop) : quintetref12_Trie_Get p1 x2 x3 h K =
    codeWp Try.prog 23 quintetref12_Trie_Get_lp quintetref12_Trie_Get_cut (bodyOf Try.f60) 1 (endQ Try.prog Try.f60.results.toList K) (argTm [(.pointer p1), (.int .u32 x2), (.int .i64 x3)]) h := by kernel_rfl
set_option maxRecDepth 100000 in
theorem quintetref12_Trie_Get_ok (p1 : Option Addr) (x2 : Int) (x3 : Int) {h : Hp} {K : Value → Hp → Prop} (H : quintetref12_Trie_Get p1 x2 x3 h K) : CallsH Try.prog 60 #[(.pointer p1), (.int .u32 x2), (.int .i64 x3)] h K :=
  calls_of (args := [(.pointer p1), (.int .u32 x2), (.int .i64 x3)]) (n := 23) (lp := quintetref12_Trie_Get_lp) (cut := quintetref12_Trie_Get_cut) Try.func60 (c := bodyOf Try.f60) (by kernel_rfl) (by kernel_rfl) (by kernel_rfl) (good_by (c := (bodyOf Try.f60)) (i := 1) (l := []) (by kernel_rfl) (fun _ h => by cases h))
    (Eq.mp (quintetref12_Trie_Get_eq p1 x2 x3 h K) H)

/-! ### (*quintet/quintetref12.Trie).Longest: function 61 -/
def quintetref12_Trie_Longest (p1 : Option Addr) (x2 : Int) (h : Hp) (K : Value → Hp → Prop) : Prop :=
  newC h (.cells #[(.int .u32 0), (.int .i64 0), (.int .i64 0)] 66 (0, 0)) fun a4 h3 => 
  drf p1 fun a5 =>
  ∃ x6 : Int, HV Try.prog (Instr.loadAt 3 (.pointer (some a5))) h3 (.int .i64 x6) ∧ 
  CallsH Try.prog 62 #[(.pointer p1), (.int .u32 x2), (.int .i64 x6)] h3 fun r8 h7 =>
  ∃ A9 : Option Addr, ∃ l9 : Nat, ∃ c9 : Nat, r8 = (.slice A9 l9 c9) ∧ 
  br ((l9 : Int) == 0)
  (HU Try.prog (Instr.storeAt 66 (.pointer (some a4)) (.agg #[(.int .u32 0), (.int .i64 0), (.int .i64 0)])) h7 fun h10 => 
  ∃ x11 : Int, ∃ x12 : Int, ∃ x13 : Int, HV Try.prog (Instr.loadAt 66 (.pointer (some a4))) h10 (.agg #[(.int .u32 x11), (.int .i64 x12), (.int .i64 x13)]) ∧ K (.tuple #[(.agg #[(.int .u32 x11), (.int .i64 x12), (.int .i64 x13)]), (.bool false)]) h10)
  (∃ a14 : Addr, PV Try.prog (Instr.indexAt 79 (.slice A9 l9 c9) (.int .i64 (IntKind.i64.wrap ((l9 : Int) - 1)))) (.pointer (some a14)) ∧
  ∃ x15 : Int, ∃ x16 : Int, ∃ x17 : Int, HV Try.prog (Instr.loadAt 66 (.pointer (some a14))) h7 (.agg #[(.int .u32 x15), (.int .i64 x16), (.int .i64 x17)]) ∧ 
  HU Try.prog (Instr.storeAt 66 (.pointer (some a4)) (.agg #[(.int .u32 x15), (.int .i64 x16), (.int .i64 x17)])) h7 fun h18 => 
  ∃ x19 : Int, ∃ x20 : Int, ∃ x21 : Int, HV Try.prog (Instr.loadAt 66 (.pointer (some a4))) h18 (.agg #[(.int .u32 x19), (.int .i64 x20), (.int .i64 x21)]) ∧ K (.tuple #[(.agg #[(.int .u32 x19), (.int .i64 x20), (.int .i64 x21)]), (.bool true)]) h18)
def quintetref12_Trie_Longest_lp (i : Nat) (Q : Qx) (tm : Tm) (h : Hp) : Prop := False
def quintetref12_Trie_Longest_cut (i : Nat) : Option (List Nat) := none
set_option maxRecDepth 100000 in
theorem quintetref12_Trie_Longest_eq (p1 : Option Addr) (x2 : Int) (h : Hp) (K : Value → Hp → Prop) : quintetref12_Trie_Longest p1 x2 h K =
    codeWp Try.prog 24 quintetref12_Trie_Longest_lp quintetref12_Trie_Longest_cut (bodyOf Try.f61) 1 (endQ Try.prog Try.f61.results.toList K) (argTm [(.pointer p1), (.int .u32 x2)]) h := by kernel_rfl
set_option maxRecDepth 100000 in
theorem quintetref12_Trie_Longest_ok (p1 : Option Addr) (x2 : Int) {h : Hp} {K : Value → Hp → Prop} (H : quintetref12_Trie_Longest p1 x2 h K) : CallsH Try.prog 61 #[(.pointer p1), (.int .u32 x2)] h K :=
  calls_of (args := [(.pointer p1), (.int .u32 x2)]) (n := 24) (lp := quintetref12_Trie_Longest_lp) (cut := quintetref12_Trie_Longest_cut) Try.func61 (c := bodyOf Try.f61) (by kernel_rfl) (by kernel_rfl) (by kernel_rfl) (good_by (c := (bodyOf Try.f61)) (i := 1) (l := []) (by kernel_rfl) (fun _ h => by cases h))
    (Eq.mp (quintetref12_Trie_Longest_eq p1 x2 h K) H)

/-! ### (*quintet/quintetref12.Trie).Above: function 62 -/
def quintetref12_Trie_Above_l1 (p7 : Option Addr) (x8 : Int) (x9 : Int) (K0 : (Option Addr) → Nat → Nat → Hp → Prop)  : Nat → (Option Addr) → Nat → Nat → Int → Hp → Prop
  | 0, _, _, _, _, _ => False
  | k + 1, A10, l10, c10, x11, h =>
    br (decide (x11 ≤ x9))
    (drf p7 fun a32 =>
    ∃ x33 : Int, HV Try.prog (Instr.loadAt 3 (.pointer (some a32))) h (.int .i64 x33) ∧ 
    CallsH Try.prog 77 #[(.int .i64 x33), (.int .u32 x8), (.int .i64 x11)] h fun r35 h34 =>
    ∃ x36 : Int, r35 = (.int .u32 x36) ∧ 
    CallsH Try.prog 74 #[(.pointer p7), (.int .u32 x36), (.int .i64 x11)] h34 fun r38 h37 =>
    ∃ x39 : Int, r38 = (.int .i64 x39) ∧ 
    br (decide (x39 ≥ 0))
    (drf p7 fun a40 =>
    ∃ A41 : Option Addr, ∃ l41 : Nat, ∃ c41 : Nat, HV Try.prog (Instr.loadAt 79 (.pointer (some (a40.add 3)))) h37 (.slice A41 l41 c41) ∧ 
    ∃ a42 : Addr, PV Try.prog (Instr.indexAt 79 (.slice A41 l41 c41) (.int .i64 x39)) (.pointer (some a42)) ∧
    ∃ x43 : Int, ∃ x44 : Int, ∃ x45 : Int, HV Try.prog (Instr.loadAt 66 (.pointer (some a42))) h37 (.agg #[(.int .u32 x43), (.int .i64 x44), (.int .i64 x45)]) ∧ 
    newC h37 (.cells #[(.int .u32 x43), (.int .i64 x44), (.int .i64 x45)] 66 (0, 0)) fun a47 h46 => 
    HW Try.prog (Builtin.append_ #[79, 79] 79 #[(.slice A10 l10 c10), (.slice (some a47) 1 1)]) h46 fun r49 h48 =>
    ∃ A50 : Option Addr, ∃ l50 : Nat, ∃ c50 : Nat, r49 = (.slice A50 l50 c50) ∧ 
    quintetref12_Trie_Above_l1 p7 x8 x9 K0 k A50 l50 c50 (IntKind.i64.wrap (x11 + 1)) h48)
    (quintetref12_Trie_Above_l1 p7 x8 x9 K0 k A10 l10 c10 (IntKind.i64.wrap (x11 + 1)) h37))
    (K0 A10 l10 c10 h)
def quintetref12_Trie_Above_l1_L (Q : Qx) (k : Nat) (tm : Tm) (h : Hp) : Prop :=
  selP (tm 0) fun p7 =>
  selI .u32 (tm 1) fun x8 =>
  selI .i64 (tm 2) fun x9 =>
  selS (tm 7) fun A10 l10 c10 =>
  selI .i64 (tm 8) fun x11 =>
  quintetref12_Trie_Above_l1 p7 x8 x9 (fun (A31 : Option Addr) (l31 : Nat) (c31 : Nat) h => Q (.exit 0) (mkTm [(7, some (.slice A31 l31 c31))]) h) k A10 l10 c10 x11 h
def quintetref12_Trie_Above (p1 : Option Addr) (x2 : Int) (x3 : Int) (h : Hp) (K : Value → Hp → Prop) : Prop :=
  CallsH Try.prog 73 #[(.pointer p1), (.int .u32 x2), (.int .i64 x3)] h fun r5 h4 =>
  ∃ b6 : Bool, r5 = (.bool b6) ∧ 
  br (!b6)
  (K (.slice none 0 0) h4)
  (∃ k53, quintetref12_Trie_Above_l1 p1 x2 x3
  (fun (A51 : Option Addr) (l51 : Nat) (c51 : Nat) (h52 : Hp) =>
  K (.slice A51 l51 c51) h52)
  k53 none 0 0 0 h4)
def quintetref12_Trie_Above_lp (i : Nat) (Q : Qx) (tm : Tm) (h : Hp) : Prop := match Nat.beq i 122 with
  | true => ∃ k, quintetref12_Trie_Above_l1_L Q k tm h
  | false => False
def quintetref12_Trie_Above_cut (i : Nat) : Option (List Nat) := none
set_option maxRecDepth 100000 in
theorem quintetref12_Trie_Above_l1_step (Q : Qx) (k : Nat) (p7 : Option Addr) (x8 : Int) (x9 : Int) (A10 : Option Addr) (l10 : Nat) (c10 : Nat) (x11 : Int) (h : Hp) : quintetref12_Trie_Above_l1_L Q (k + 1) (mkTm [(0, some (.pointer p7)), (1, some (.int .u32 x8)), (2, some (.int .i64 x9)), (7, some (.slice A10 l10 c10)), (8, some (.int .i64 x11))]) h =
    codeWp Try.prog 44 quintetref12_Trie_Above_lp quintetref12_Trie_Above_cut (sub (bodyOf Try.f62) [true, true, true, false, true, false, false]) 244 (thenQ (fun tm h => quintetref12_Trie_Above_l1_L Q k (mask [0, 1, 2, 7, 8] tm) h) (maskQ (fun e => match e with | .exit 0 => [7] | _ => []) Q)) (mkTm [(0, some (.pointer p7)), (1, some (.int .u32 x8)), (2, some (.int .i64 x9)), (7, some (.slice A10 l10 c10)), (8, some (.int .i64 x11))]) h := by kernel_rfl
theorem quintetref12_Trie_Above_l1_mask (Q : Qx) (k : Nat) (tm : Tm) (h : Hp) : quintetref12_Trie_Above_l1_L Q k tm h ↔ quintetref12_Trie_Above_l1_L Q k (mask [0, 1, 2, 7, 8] tm) h := Iff.rfl
set_option maxRecDepth 100000 in
theorem quintetref12_Trie_Above_l1_snd : SndAt Try.prog 44 none (sub (bodyOf Try.f62) [true, true, true, false, true, false]) (quintetref12_Trie_Above_lp 122) := by
  refine loop_sound (lp := quintetref12_Trie_Above_lp) (cut := quintetref12_Trie_Above_cut) (i := 122) (c := (sub (bodyOf Try.f62) [true, true, true, false, true, false, false])) [0, 1, 2, 7, 8] (fun e => match e with | .exit 0 => [7] | _ => []) quintetref12_Trie_Above_l1_L ?_ ?_ ?_
  · exact good_by (c := (sub (bodyOf Try.f62) [true, true, true, false, true, false, false])) (i := 244) (l := []) (by kernel_rfl) (fun _ h => by cases h)
  · intro Q tm h H
    obtain ⟨p7, e0, H⟩ := selP_ex H
    obtain ⟨x8, e1, H⟩ := selI_ex H
    obtain ⟨x9, e2, H⟩ := selI_ex H
    obtain ⟨A10, l10, c10, e7, H⟩ := selS_ex H
    obtain ⟨x11, e8, H⟩ := selI_ex H
    exact H
  · intro Q k tm h H
    have H0 := H
    obtain ⟨p7, e0, H⟩ := selP_ex H
    obtain ⟨x8, e1, H⟩ := selI_ex H
    obtain ⟨x9, e2, H⟩ := selI_ex H
    obtain ⟨A10, l10, c10, e7, H⟩ := selS_ex H
    obtain ⟨x11, e8, H⟩ := selI_ex H
    have e : mask [0, 1, 2, 7, 8] tm = mkTm [(0, some (.pointer p7)), (1, some (.int .u32 x8)), (2, some (.int .i64 x9)), (7, some (.slice A10 l10 c10)), (8, some (.int .i64 x11))] := by simp only [mask, List.map_cons, List.map_nil, e0, e1, e2, e7, e8] <;> rfl
    rw [e]
    refine Eq.mp (quintetref12_Trie_Above_l1_step Q k p7 x8 x9 A10 l10 c10 x11 h) ?_
    rw [← e]
    exact (quintetref12_Trie_Above_l1_mask Q (k + 1) tm h).mp H0
set_option maxRecDepth 100000 in
theorem quintetref12_Trie_Above_eq (p1 : Option Addr) (x2 : Int) (x3 : Int) (h : Hp) (K : Value → Hp → Prop) : quintetref12_Trie_Above p1 x2 x3 h K =
    codeWp Try.prog 44 quintetref12_Trie_Above_lp quintetref12_Trie_Above_cut (bodyOf Try.f62) 1 (endQ Try.prog Try.f62.results.toList K) (argTm [(.pointer p1), (.int .u32 x2), (.int .i64 x3)]) h := by kernel_rfl
set_option maxRecDepth 100000 in
theorem quintetref12_Trie_Above_ok (p1 : Option Addr) (x2 : Int) (x3 : Int) {h : Hp} {K : Value → Hp → Prop} (H : quintetref12_Trie_Above p1 x2 x3 h K) : CallsH Try.prog 62 #[(.pointer p1), (.int .u32 x2), (.int .i64 x3)] h K :=
  calls_of (args := [(.pointer p1), (.int .u32 x2), (.int .i64 x3)]) (n := 44) (lp := quintetref12_Trie_Above_lp) (cut := quintetref12_Trie_Above_cut) Try.func62 (c := bodyOf Try.f62) (by kernel_rfl) (by kernel_rfl) (by kernel_rfl) (good_by (c := (bodyOf Try.f62)) (i := 1) (l := [(122, (sub (bodyOf Try.f62) [true, true, true, false, true, false]))]) (by kernel_rfl) (List.forall_mem_cons.2 ⟨quintetref12_Trie_Above_l1_snd, (fun _ h => by cases h)⟩))
    (Eq.mp (quintetref12_Trie_Above_eq p1 x2 x3 h K) H)

/-! ### (*quintet/quintetref12.Trie).Nodes: function 63 -/
def quintetref12_Trie_Nodes (p1 : Option Addr) (h : Hp) (K : Value → Hp → Prop) : Prop :=
  drf p1 fun a2 =>
  ∃ A3 : Option Addr, ∃ l3 : Nat, ∃ c3 : Nat, HV Try.prog (Instr.loadAt 79 (.pointer (some (a2.add 3)))) h (.slice A3 l3 c3) ∧ 
  CallsH Try.prog 76 #[(.pointer p1), (.slice A3 l3 c3), (.int .i64 1048576)] h fun r5 h4 =>
  ∃ x6 : Int, r5 = (.int .i64 x6) ∧ 
  K (.int .i64 x6) h4
def quintetref12_Trie_Nodes_lp (i : Nat) (Q : Qx) (tm : Tm) (h : Hp) : Prop := False
def quintetref12_Trie_Nodes_cut (i : Nat) : Option (List Nat) := none
set_option maxRecDepth 100000 in
theorem quintetref12_Trie_Nodes_eq (p1 : Option Addr) (h : Hp) (K : Value → Hp → Prop) : quintetref12_Trie_Nodes p1 h K =
    codeWp Try.prog 9 quintetref12_Trie_Nodes_lp quintetref12_Trie_Nodes_cut (bodyOf Try.f63) 1 (endQ Try.prog Try.f63.results.toList K) (argTm [(.pointer p1)]) h := by kernel_rfl
set_option maxRecDepth 100000 in
theorem quintetref12_Trie_Nodes_ok (p1 : Option Addr) {h : Hp} {K : Value → Hp → Prop} (H : quintetref12_Trie_Nodes p1 h K) : CallsH Try.prog 63 #[(.pointer p1)] h K :=
  calls_of (args := [(.pointer p1)]) (n := 9) (lp := quintetref12_Trie_Nodes_lp) (cut := quintetref12_Trie_Nodes_cut) Try.func63 (c := bodyOf Try.f63) (by kernel_rfl) (by kernel_rfl) (by kernel_rfl) (good_by (c := (bodyOf Try.f63)) (i := 1) (l := []) (by kernel_rfl) (fun _ h => by cases h))
    (Eq.mp (quintetref12_Trie_Nodes_eq p1 h K) H)

/-! ### (*quintet/quintetref12.Trie).May: function 73 -/
def quintetref12_Trie_May (p1 : Option Addr) (x2 : Int) (x3 : Int) (h : Hp) (K : Value → Hp → Prop) : Prop :=
  br (decide (x3 ≥ 0))
  (drf p1 fun a4 =>
  ∃ x5 : Int, HV Try.prog (Instr.loadAt 3 (.pointer (some a4))) h (.int .i64 x5) ∧ 
  br (decide (x3 ≤ x5))
  (drf p1 fun a6 =>
  ∃ x7 : Int, HV Try.prog (Instr.loadAt 3 (.pointer (some a6))) h (.int .i64 x7) ∧ 
  ∃ x8 : Int, PV Try.prog (binOp .shr 88 (.int .u64 (IntKind.u64.wrap (x2))) (.int .u64 (IntKind.u64.wrap (x7)))) (.int .u64 x8) ∧
  br (x8 == 0)
  (drf p1 fun a9 =>
  ∃ x10 : Int, HV Try.prog (Instr.loadAt 3 (.pointer (some a9))) h (.int .i64 x10) ∧ 
  CallsH Try.prog 77 #[(.int .i64 x10), (.int .u32 x2), (.int .i64 x3)] h fun r12 h11 =>
  ∃ x13 : Int, r12 = (.int .u32 x13) ∧ 
  K (.bool (x13 == x2)) h11)
  (K (.bool false) h))
  (K (.bool false) h))
  (K (.bool false) h)
def quintetref12_Trie_May_lp (i : Nat) (Q : Qx) (tm : Tm) (h : Hp) : Prop := False
def quintetref12_Trie_May_cut (i : Nat) : Option (List Nat) := none
set_option maxRecDepth 100000 in
theorem quintetref12_Trie_May_eq (p1 : Option Addr) (x2 : Int) (x3 : Int) (h : Hp) (K : Value → Hp → Prop) : quintetref12_Trie_May p1 x2 x3 h K =
    codeWp Try.prog 39 quintetref12_Trie_May_lp quintetref12_Trie_May_cut (bodyOf Try.f73) 1 (endQ Try.prog Try.f73.results.toList K) (argTm [(.pointer p1), (.int .u32 x2), (.int .i64 x3)]) h := by kernel_rfl
set_option maxRecDepth 100000 in
theorem quintetref12_Trie_May_ok (p1 : Option Addr) (x2 : Int) (x3 : Int) {h : Hp} {K : Value → Hp → Prop} (H : quintetref12_Trie_May p1 x2 x3 h K) : CallsH Try.prog 73 #[(.pointer p1), (.int .u32 x2), (.int .i64 x3)] h K :=
  calls_of (args := [(.pointer p1), (.int .u32 x2), (.int .i64 x3)]) (n := 39) (lp := quintetref12_Trie_May_lp) (cut := quintetref12_Trie_May_cut) Try.func73 (c := bodyOf Try.f73) (by kernel_rfl) (by kernel_rfl) (by kernel_rfl) (good_by (c := (bodyOf Try.f73)) (i := 1) (l := []) (by kernel_rfl) (fun _ h => by cases h))
    (Eq.mp (quintetref12_Trie_May_eq p1 x2 x3 h K) H)

/-! ### (*quintet/quintetref12.Trie).at: function 74 -/
def quintetref12_Trie_at_l1 (p4 : Option Addr) (x5 : Int) (x6 : Int) (K0 : Int → Hp → Prop) (K1 : Hp → Prop)  : Nat → Int → Hp → Prop
  | 0, _, _ => False
  | k + 1, x7, h =>
    drf p4 fun a19 =>
    ∃ A20 : Option Addr, ∃ l20 : Nat, ∃ c20 : Nat, HV Try.prog (Instr.loadAt 79 (.pointer (some (a19.add 3)))) h (.slice A20 l20 c20) ∧ 
    br (decide (x7 < (l20 : Int)))
    (drf p4 fun a21 =>
    ∃ A22 : Option Addr, ∃ l22 : Nat, ∃ c22 : Nat, HV Try.prog (Instr.loadAt 79 (.pointer (some (a21.add 3)))) h (.slice A22 l22 c22) ∧ 
    ∃ a23 : Addr, PV Try.prog (Instr.indexAt 79 (.slice A22 l22 c22) (.int .i64 x7)) (.pointer (some a23)) ∧
    ∃ x24 : Int, HV Try.prog (Instr.loadAt 33 (.pointer (some a23))) h (.int .u32 x24) ∧ 
    br (x24 == x5)
    (drf p4 fun a25 =>
    ∃ A26 : Option Addr, ∃ l26 : Nat, ∃ c26 : Nat, HV Try.prog (Instr.loadAt 79 (.pointer (some (a25.add 3)))) h (.slice A26 l26 c26) ∧ 
    ∃ a27 : Addr, PV Try.prog (Instr.indexAt 79 (.slice A26 l26 c26) (.int .i64 x7)) (.pointer (some a27)) ∧
    ∃ x28 : Int, HV Try.prog (Instr.loadAt 3 (.pointer (some (a27.add 1)))) h (.int .i64 x28) ∧ 
    br (x28 == x6)
    (K0 x7 h)
    (quintetref12_Trie_at_l1 p4 x5 x6 K0 K1 k (IntKind.i64.wrap (x7 + 1)) h))
    (quintetref12_Trie_at_l1 p4 x5 x6 K0 K1 k (IntKind.i64.wrap (x7 + 1)) h))
    (K1 h)
def quintetref12_Trie_at_l1_L (Q : Qx) (k : Nat) (tm : Tm) (h : Hp) : Prop :=
  selP (tm 0) fun p4 =>
  selI .u32 (tm 1) fun x5 =>
  selI .i64 (tm 2) fun x6 =>
  selI .i64 (tm 7) fun x7 =>
  quintetref12_Trie_at_l1 p4 x5 x6 (fun (x18 : Int) h => Q (.ret) (mkTm [(6, some (.int .i64 x18))]) h) (fun  h => Q (.exit 0) (mkTm []) h) k x7 h
def quintetref12_Trie_at (p1 : Option Addr) (x2 : Int) (x3 : Int) (h : Hp) (K : Value → Hp → Prop) : Prop :=
  ∃ k32, quintetref12_Trie_at_l1 p1 x2 x3
  (fun (x29 : Int) (h30 : Hp) =>
  K (.int .i64 x29) h30)
  (fun  (h31 : Hp) =>
  K (.int .i64 (-1)) h31)
  k32 0 h
def quintetref12_Trie_at_lp (i : Nat) (Q : Qx) (tm : Tm) (h : Hp) : Prop := match Nat.beq i 26 with
  | true => ∃ k, quintetref12_Trie_at_l1_L Q k tm h
  | false => False
def quintetref12_Trie_at_cut (i : Nat) : Option (List Nat) := none
set_option maxRecDepth 100000 in
theorem quintetref12_Trie_at_l1_step (Q : Qx) (k : Nat) (p4 : Option Addr) (x5 : Int) (x6 : Int) (x7 : Int) (h : Hp) : quintetref12_Trie_at_l1_L Q (k + 1) (mkTm [(0, some (.pointer p4)), (1, some (.int .u32 x5)), (2, some (.int .i64 x6)), (7, some (.int .i64 x7))]) h =
    codeWp Try.prog 40 quintetref12_Trie_at_lp quintetref12_Trie_at_cut (sub (bodyOf Try.f74) [true, false, true, false, false]) 52 (thenQ (fun tm h => quintetref12_Trie_at_l1_L Q k (mask [0, 1, 2, 7] tm) h) (maskQ (fun e => match e with | .ret => [6] | .exit 0 => [] | _ => []) Q)) (mkTm [(0, some (.pointer p4)), (1, some (.int .u32 x5)), (2, some (.int .i64 x6)), (7, some (.int .i64 x7))]) h := by kernel_rfl
theorem quintetref12_Trie_at_l1_mask (Q : Qx) (k : Nat) (tm : Tm) (h : Hp) : quintetref12_Trie_at_l1_L Q k tm h ↔ quintetref12_Trie_at_l1_L Q k (mask [0, 1, 2, 7] tm) h := Iff.rfl
set_option maxRecDepth 100000 in
theorem quintetref12_Trie_at_l1_snd : SndAt Try.prog 40 none (sub (bodyOf Try.f74) [true, false, true, false]) (quintetref12_Trie_at_lp 26) := by
  refine loop_sound (lp := quintetref12_Trie_at_lp) (cut := quintetref12_Trie_at_cut) (i := 26) (c := (sub (bodyOf Try.f74) [true, false, true, false, false])) [0, 1, 2, 7] (fun e => match e with | .ret => [6] | .exit 0 => [] | _ => []) quintetref12_Trie_at_l1_L ?_ ?_ ?_
  · exact good_by (c := (sub (bodyOf Try.f74) [true, false, true, false, false])) (i := 52) (l := []) (by kernel_rfl) (fun _ h => by cases h)
  · intro Q tm h H
    obtain ⟨p4, e0, H⟩ := selP_ex H
    obtain ⟨x5, e1, H⟩ := selI_ex H
    obtain ⟨x6, e2, H⟩ := selI_ex H
    obtain ⟨x7, e7, H⟩ := selI_ex H
    exact H
  · intro Q k tm h H
    have H0 := H
    obtain ⟨p4, e0, H⟩ := selP_ex H
    obtain ⟨x5, e1, H⟩ := selI_ex H
    obtain ⟨x6, e2, H⟩ := selI_ex H
    obtain ⟨x7, e7, H⟩ := selI_ex H
    have e : mask [0, 1, 2, 7] tm = mkTm [(0, some (.pointer p4)), (1, some (.int .u32 x5)), (2, some (.int .i64 x6)), (7, some (.int .i64 x7))] := by simp only [mask, List.map_cons, List.map_nil, e0, e1, e2, e7] <;> rfl
    rw [e]
    refine Eq.mp (quintetref12_Trie_at_l1_step Q k p4 x5 x6 x7 h) ?_
    rw [← e]
    exact (quintetref12_Trie_at_l1_mask Q (k + 1) tm h).mp H0
set_option maxRecDepth 100000 in
theorem quintetref12_Trie_at_eq (p1 : Option Addr) (x2 : Int) (x3 : Int) (h : Hp) (K : Value → Hp → Prop) : quintetref12_Trie_at p1 x2 x3 h K =
    codeWp Try.prog 40 quintetref12_Trie_at_lp quintetref12_Trie_at_cut (bodyOf Try.f74) 1 (endQ Try.prog Try.f74.results.toList K) (argTm [(.pointer p1), (.int .u32 x2), (.int .i64 x3)]) h := by kernel_rfl
set_option maxRecDepth 100000 in
theorem quintetref12_Trie_at_ok (p1 : Option Addr) (x2 : Int) (x3 : Int) {h : Hp} {K : Value → Hp → Prop} (H : quintetref12_Trie_at p1 x2 x3 h K) : CallsH Try.prog 74 #[(.pointer p1), (.int .u32 x2), (.int .i64 x3)] h K :=
  calls_of (args := [(.pointer p1), (.int .u32 x2), (.int .i64 x3)]) (n := 40) (lp := quintetref12_Trie_at_lp) (cut := quintetref12_Trie_at_cut) Try.func74 (c := bodyOf Try.f74) (by kernel_rfl) (by kernel_rfl) (by kernel_rfl) (good_by (c := (bodyOf Try.f74)) (i := 1) (l := [(26, (sub (bodyOf Try.f74) [true, false, true, false]))]) (by kernel_rfl) (List.forall_mem_cons.2 ⟨quintetref12_Trie_at_l1_snd, (fun _ h => by cases h)⟩))
    (Eq.mp (quintetref12_Trie_at_eq p1 x2 x3 h K) H)

/-! ### quintet/quintetref12.with: function 75 -/
def quintetref12_with_l1 (A7 : Option Addr) (l7 : Nat) (c7 : Nat) (a8 : Addr) (K0 : Addr → (Option Addr) → Nat → Nat → Bool → Hp → Prop)  : Nat → (Option Addr) → Nat → Nat → Bool → Int → Hp → Prop
  | 0, _, _, _, _, _, _ => False
  | k + 1, A9, l9, c9, b10, x11, h =>
    br (decide (x11 < (l7 : Int)))
    (br (!b10)
    (∃ x85 : Int, HV Try.prog (Instr.loadAt 33 (.pointer (some a8))) h (.int .u32 x85) ∧ 
    ∃ a86 : Addr, PV Try.prog (Instr.indexAt 79 (.slice A7 l7 c7) (.int .i64 x11)) (.pointer (some a86)) ∧
    ∃ x87 : Int, HV Try.prog (Instr.loadAt 33 (.pointer (some a86))) h (.int .u32 x87) ∧ 
    br (decide (x85 < x87))
    (∃ x88 : Int, ∃ x89 : Int, ∃ x90 : Int, HV Try.prog (Instr.loadAt 66 (.pointer (some a8))) h (.agg #[(.int .u32 x88), (.int .i64 x89), (.int .i64 x90)]) ∧ 
    newC h (.cells #[(.int .u32 x88), (.int .i64 x89), (.int .i64 x90)] 66 (0, 0)) fun a92 h91 => 
    HW Try.prog (Builtin.append_ #[79, 79] 79 #[(.slice A9 l9 c9), (.slice (some a92) 1 1)]) h91 fun r94 h93 =>
    ∃ A95 : Option Addr, ∃ l95 : Nat, ∃ c95 : Nat, r94 = (.slice A95 l95 c95) ∧ 
    ∃ a96 : Addr, PV Try.prog (Instr.indexAt 79 (.slice A7 l7 c7) (.int .i64 x11)) (.pointer (some a96)) ∧
    ∃ x97 : Int, ∃ x98 : Int, ∃ x99 : Int, HV Try.prog (Instr.loadAt 66 (.pointer (some a96))) h93 (.agg #[(.int .u32 x97), (.int .i64 x98), (.int .i64 x99)]) ∧ 
    newC h93 (.cells #[(.int .u32 x97), (.int .i64 x98), (.int .i64 x99)] 66 (0, 0)) fun a101 h100 => 
    HW Try.prog (Builtin.append_ #[79, 79] 79 #[(.slice A95 l95 c95), (.slice (some a101) 1 1)]) h100 fun r103 h102 =>
    ∃ A104 : Option Addr, ∃ l104 : Nat, ∃ c104 : Nat, r103 = (.slice A104 l104 c104) ∧ 
    quintetref12_with_l1 A7 l7 c7 a8 K0 k A104 l104 c104 true (IntKind.i64.wrap (x11 + 1)) h102)
    (∃ x105 : Int, HV Try.prog (Instr.loadAt 33 (.pointer (some a8))) h (.int .u32 x105) ∧ 
    ∃ a106 : Addr, PV Try.prog (Instr.indexAt 79 (.slice A7 l7 c7) (.int .i64 x11)) (.pointer (some a106)) ∧
    ∃ x107 : Int, HV Try.prog (Instr.loadAt 33 (.pointer (some a106))) h (.int .u32 x107) ∧ 
    br (x105 == x107)
    (∃ x108 : Int, HV Try.prog (Instr.loadAt 3 (.pointer (some (a8.add 1)))) h (.int .i64 x108) ∧ 
    ∃ a109 : Addr, PV Try.prog (Instr.indexAt 79 (.slice A7 l7 c7) (.int .i64 x11)) (.pointer (some a109)) ∧
    ∃ x110 : Int, HV Try.prog (Instr.loadAt 3 (.pointer (some (a109.add 1)))) h (.int .i64 x110) ∧ 
    br (decide (x108 < x110))
    (∃ x111 : Int, ∃ x112 : Int, ∃ x113 : Int, HV Try.prog (Instr.loadAt 66 (.pointer (some a8))) h (.agg #[(.int .u32 x111), (.int .i64 x112), (.int .i64 x113)]) ∧ 
    newC h (.cells #[(.int .u32 x111), (.int .i64 x112), (.int .i64 x113)] 66 (0, 0)) fun a115 h114 => 
    HW Try.prog (Builtin.append_ #[79, 79] 79 #[(.slice A9 l9 c9), (.slice (some a115) 1 1)]) h114 fun r117 h116 =>
    ∃ A118 : Option Addr, ∃ l118 : Nat, ∃ c118 : Nat, r117 = (.slice A118 l118 c118) ∧ 
    ∃ a119 : Addr, PV Try.prog (Instr.indexAt 79 (.slice A7 l7 c7) (.int .i64 x11)) (.pointer (some a119)) ∧
    ∃ x120 : Int, ∃ x121 : Int, ∃ x122 : Int, HV Try.prog (Instr.loadAt 66 (.pointer (some a119))) h116 (.agg #[(.int .u32 x120), (.int .i64 x121), (.int .i64 x122)]) ∧ 
    newC h116 (.cells #[(.int .u32 x120), (.int .i64 x121), (.int .i64 x122)] 66 (0, 0)) fun a124 h123 => 
    HW Try.prog (Builtin.append_ #[79, 79] 79 #[(.slice A118 l118 c118), (.slice (some a124) 1 1)]) h123 fun r126 h125 =>
    ∃ A127 : Option Addr, ∃ l127 : Nat, ∃ c127 : Nat, r126 = (.slice A127 l127 c127) ∧ 
    quintetref12_with_l1 A7 l7 c7 a8 K0 k A127 l127 c127 true (IntKind.i64.wrap (x11 + 1)) h125)
    (∃ a128 : Addr, PV Try.prog (Instr.indexAt 79 (.slice A7 l7 c7) (.int .i64 x11)) (.pointer (some a128)) ∧
    ∃ x129 : Int, ∃ x130 : Int, ∃ x131 : Int, HV Try.prog (Instr.loadAt 66 (.pointer (some a128))) h (.agg #[(.int .u32 x129), (.int .i64 x130), (.int .i64 x131)]) ∧ 
    newC h (.cells #[(.int .u32 x129), (.int .i64 x130), (.int .i64 x131)] 66 (0, 0)) fun a133 h132 => 
    HW Try.prog (Builtin.append_ #[79, 79] 79 #[(.slice A9 l9 c9), (.slice (some a133) 1 1)]) h132 fun r135 h134 =>
    ∃ A136 : Option Addr, ∃ l136 : Nat, ∃ c136 : Nat, r135 = (.slice A136 l136 c136) ∧ 
    quintetref12_with_l1 A7 l7 c7 a8 K0 k A136 l136 c136 b10 (IntKind.i64.wrap (x11 + 1)) h134))
    (∃ a137 : Addr, PV Try.prog (Instr.indexAt 79 (.slice A7 l7 c7) (.int .i64 x11)) (.pointer (some a137)) ∧
    ∃ x138 : Int, ∃ x139 : Int, ∃ x140 : Int, HV Try.prog (Instr.loadAt 66 (.pointer (some a137))) h (.agg #[(.int .u32 x138), (.int .i64 x139), (.int .i64 x140)]) ∧ 
    newC h (.cells #[(.int .u32 x138), (.int .i64 x139), (.int .i64 x140)] 66 (0, 0)) fun a142 h141 => 
    HW Try.prog (Builtin.append_ #[79, 79] 79 #[(.slice A9 l9 c9), (.slice (some a142) 1 1)]) h141 fun r144 h143 =>
    ∃ A145 : Option Addr, ∃ l145 : Nat, ∃ c145 : Nat, r144 = (.slice A145 l145 c145) ∧ 
    quintetref12_with_l1 A7 l7 c7 a8 K0 k A145 l145 c145 b10 (IntKind.i64.wrap (x11 + 1)) h143)))
    (∃ a146 : Addr, PV Try.prog (Instr.indexAt 79 (.slice A7 l7 c7) (.int .i64 x11)) (.pointer (some a146)) ∧
    ∃ x147 : Int, ∃ x148 : Int, ∃ x149 : Int, HV Try.prog (Instr.loadAt 66 (.pointer (some a146))) h (.agg #[(.int .u32 x147), (.int .i64 x148), (.int .i64 x149)]) ∧ 
    newC h (.cells #[(.int .u32 x147), (.int .i64 x148), (.int .i64 x149)] 66 (0, 0)) fun a151 h150 => 
    HW Try.prog (Builtin.append_ #[79, 79] 79 #[(.slice A9 l9 c9), (.slice (some a151) 1 1)]) h150 fun r153 h152 =>
    ∃ A154 : Option Addr, ∃ l154 : Nat, ∃ c154 : Nat, r153 = (.slice A154 l154 c154) ∧ 
    quintetref12_with_l1 A7 l7 c7 a8 K0 k A154 l154 c154 b10 (IntKind.i64.wrap (x11 + 1)) h152))
    (K0 a8 A9 l9 c9 b10 h)
def quintetref12_with_l1_L (Q : Qx) (k : Nat) (tm : Tm) (h : Hp) : Prop :=
  selS (tm 0) fun A7 l7 c7 =>
  selA (tm 3) fun a8 =>
  selS (tm 5) fun A9 l9 c9 =>
  selB (tm 6) fun b10 =>
  selI .i64 (tm 7) fun x11 =>
  quintetref12_with_l1 A7 l7 c7 a8 (fun (a82 : Addr) (A83 : Option Addr) (l83 : Nat) (c83 : Nat) (b84 : Bool) h => Q (.exit 0) (mkTm [(3, some (.pointer (some a82))), (5, some (.slice A83 l83 c83)), (6, some (.bool b84))]) h) k A9 l9 c9 b10 x11 h
def quintetref12_with (A1 : Option Addr) (l1 : Nat) (c1 : Nat) (x2 : Int) (x3 : Int) (x4 : Int) (h : Hp) (K : Value → Hp → Prop) : Prop :=
  newC h (.cells #[(.int .u32 x2), (.int .i64 x3), (.int .i64 x4)] 66 (0, 0)) fun a6 h5 => 
  ∃ k167, quintetref12_with_l1 A1 l1 c1 a6
  (fun (a155 : Addr) (A156 : Option Addr) (l156 : Nat) (c156 : Nat) (b157 : Bool) (h158 : Hp) =>
  br (!b157)
  (∃ x159 : Int, ∃ x160 : Int, ∃ x161 : Int, HV Try.prog (Instr.loadAt 66 (.pointer (some a155))) h158 (.agg #[(.int .u32 x159), (.int .i64 x160), (.int .i64 x161)]) ∧ 
  newC h158 (.cells #[(.int .u32 x159), (.int .i64 x160), (.int .i64 x161)] 66 (0, 0)) fun a163 h162 => 
  HW Try.prog (Builtin.append_ #[79, 79] 79 #[(.slice A156 l156 c156), (.slice (some a163) 1 1)]) h162 fun r165 h164 =>
  ∃ A166 : Option Addr, ∃ l166 : Nat, ∃ c166 : Nat, r165 = (.slice A166 l166 c166) ∧ 
  K (.slice A166 l166 c166) h164)
  (K (.slice A156 l156 c156) h158))
  k167 none 0 0 false 0 h5
def quintetref12_with_lp (i : Nat) (Q : Qx) (tm : Tm) (h : Hp) : Prop := match Nat.beq i 122 with
  | true => ∃ k, quintetref12_with_l1_L Q k tm h
  | false => False
def quintetref12_with_cut (i : Nat) : Option (List Nat) := none
set_option maxRecDepth 100000 in
theorem quintetref12_with_l1_step (Q : Qx) (k : Nat) (A7 : Option Addr) (l7 : Nat) (c7 : Nat) (a8 : Addr) (A9 : Option Addr) (l9 : Nat) (c9 : Nat) (b10 : Bool) (x11 : Int) (h : Hp) : quintetref12_with_l1_L Q (k + 1) (mkTm [(0, some (.slice A7 l7 c7)), (3, some (.pointer (some a8))), (5, some (.slice A9 l9 c9)), (6, some (.bool b10)), (7, some (.int .i64 x11))]) h =
    codeWp Try.prog 64 quintetref12_with_lp quintetref12_with_cut (sub (bodyOf Try.f75) [true, true, true, false, true, false, false]) 244 (thenQ (fun tm h => quintetref12_with_l1_L Q k (mask [0, 3, 5, 6, 7] tm) h) (maskQ (fun e => match e with | .exit 0 => [3, 5, 6] | _ => []) Q)) (mkTm [(0, some (.slice A7 l7 c7)), (3, some (.pointer (some a8))), (5, some (.slice A9 l9 c9)), (6, some (.bool b10)), (7, some (.int .i64 x11))]) h := by kernel_rfl
theorem quintetref12_with_l1_mask (Q : Qx) (k : Nat) (tm : Tm) (h : Hp) : quintetref12_with_l1_L Q k tm h ↔ quintetref12_with_l1_L Q k (mask [0, 3, 5, 6, 7] tm) h := Iff.rfl
set_option maxRecDepth 100000 in
theorem quintetref12_with_l1_snd : SndAt Try.prog 64 none (sub (bodyOf Try.f75) [true, true, true, false, true, false]) (quintetref12_with_lp 122) := by
  refine loop_sound (lp := quintetref12_with_lp) (cut := quintetref12_with_cut) (i := 122) (c := (sub (bodyOf Try.f75) [true, true, true, false, true, false, false])) [0, 3, 5, 6, 7] (fun e => match e with | .exit 0 => [3, 5, 6] | _ => []) quintetref12_with_l1_L ?_ ?_ ?_
  · exact good_by (c := (sub (bodyOf Try.f75) [true, true, true, false, true, false, false])) (i := 244) (l := []) (by kernel_rfl) (fun _ h => by cases h)
  · intro Q tm h H
    obtain ⟨A7, l7, c7, e0, H⟩ := selS_ex H
    obtain ⟨a8, e3, H⟩ := selA_ex H
    obtain ⟨A9, l9, c9, e5, H⟩ := selS_ex H
    obtain ⟨b10, e6, H⟩ := selB_ex H
    obtain ⟨x11, e7, H⟩ := selI_ex H
    exact H
  · intro Q k tm h H
    have H0 := H
    obtain ⟨A7, l7, c7, e0, H⟩ := selS_ex H
    obtain ⟨a8, e3, H⟩ := selA_ex H
    obtain ⟨A9, l9, c9, e5, H⟩ := selS_ex H
    obtain ⟨b10, e6, H⟩ := selB_ex H
    obtain ⟨x11, e7, H⟩ := selI_ex H
    have e : mask [0, 3, 5, 6, 7] tm = mkTm [(0, some (.slice A7 l7 c7)), (3, some (.pointer (some a8))), (5, some (.slice A9 l9 c9)), (6, some (.bool b10)), (7, some (.int .i64 x11))] := by simp only [mask, List.map_cons, List.map_nil, e0, e3, e5, e6, e7] <;> rfl
    rw [e]
    refine Eq.mp (quintetref12_with_l1_step Q k A7 l7 c7 a8 A9 l9 c9 b10 x11 h) ?_
    rw [← e]
    exact (quintetref12_with_l1_mask Q (k + 1) tm h).mp H0
set_option maxRecDepth 100000 in
theorem quintetref12_with_eq (A1 : Option Addr) (l1 : Nat) (c1 : Nat) (x2 : Int) (x3 : Int) (x4 : Int) (h : Hp) (K : Value → Hp → Prop) : quintetref12_with A1 l1 c1 x2 x3 x4 h K =
    codeWp Try.prog 64 quintetref12_with_lp quintetref12_with_cut (bodyOf Try.f75) 1 (endQ Try.prog Try.f75.results.toList K) (argTm [(.slice A1 l1 c1), (.agg #[(.int .u32 x2), (.int .i64 x3), (.int .i64 x4)])]) h := by kernel_rfl
set_option maxRecDepth 100000 in
theorem quintetref12_with_ok (A1 : Option Addr) (l1 : Nat) (c1 : Nat) (x2 : Int) (x3 : Int) (x4 : Int) {h : Hp} {K : Value → Hp → Prop} (H : quintetref12_with A1 l1 c1 x2 x3 x4 h K) : CallsH Try.prog 75 #[(.slice A1 l1 c1), (.agg #[(.int .u32 x2), (.int .i64 x3), (.int .i64 x4)])] h K :=
  calls_of (args := [(.slice A1 l1 c1), (.agg #[(.int .u32 x2), (.int .i64 x3), (.int .i64 x4)])]) (n := 64) (lp := quintetref12_with_lp) (cut := quintetref12_with_cut) Try.func75 (c := bodyOf Try.f75) (by kernel_rfl) (by kernel_rfl) (by kernel_rfl) (good_by (c := (bodyOf Try.f75)) (i := 1) (l := [(122, (sub (bodyOf Try.f75) [true, true, true, false, true, false]))]) (by kernel_rfl) (List.forall_mem_cons.2 ⟨quintetref12_with_l1_snd, (fun _ h => by cases h)⟩))
    (Eq.mp (quintetref12_with_eq A1 l1 c1 x2 x3 x4 h K) H)

/-! ### (*quintet/quintetref12.Trie).nodes: function 76 -/
def quintetref12_Trie_nodes_l7 (p198 : Option Addr) (A199 : Option Addr) (l199 : Nat) (c199 : Nat) (x200 : Int) (x202 : Int) (K0 : (Option Addr) → (Option Addr) → Nat → Nat → Int → Int → Int → Hp → Prop)  : Nat → Int → Int → Hp → Prop
  | 0, _, _, _ => False
  | k + 1, x201, x203, h =>
    ∃ a227 : Addr, PV Try.prog (Instr.indexAt 79 (.slice A199 l199 c199) (.int .i64 x202)) (.pointer (some a227)) ∧
    ∃ x228 : Int, HV Try.prog (Instr.loadAt 3 (.pointer (some (a227.add 1)))) h (.int .i64 x228) ∧ 
    br (decide (x203 ≤ x228))
    (br (decide (x202 > 0))
    (∃ a229 : Addr, PV Try.prog (Instr.indexAt 79 (.slice A199 l199 c199) (.int .i64 (IntKind.i64.wrap (x202 - 1)))) (.pointer (some a229)) ∧
    ∃ x230 : Int, HV Try.prog (Instr.loadAt 3 (.pointer (some (a229.add 1)))) h (.int .i64 x230) ∧ 
    br (decide (x230 ≥ x203))
    (drf p198 fun a231 =>
    ∃ x232 : Int, HV Try.prog (Instr.loadAt 3 (.pointer (some a231))) h (.int .i64 x232) ∧ 
    ∃ a233 : Addr, PV Try.prog (Instr.indexAt 79 (.slice A199 l199 c199) (.int .i64 (IntKind.i64.wrap (x202 - 1)))) (.pointer (some a233)) ∧
    ∃ x234 : Int, HV Try.prog (Instr.loadAt 33 (.pointer (some a233))) h (.int .u32 x234) ∧ 
    CallsH Try.prog 77 #[(.int .i64 x232), (.int .u32 x234), (.int .i64 x203)] h fun r236 h235 =>
    ∃ x237 : Int, r236 = (.int .u32 x237) ∧ 
    drf p198 fun a238 =>
    ∃ x239 : Int, HV Try.prog (Instr.loadAt 3 (.pointer (some a238))) h235 (.int .i64 x239) ∧ HV Try.prog (Instr.loadAt 3 (.pointer (some a238))) h (.int .i64 x239) ∧ 
    ∃ a240 : Addr, PV Try.prog (Instr.indexAt 79 (.slice A199 l199 c199) (.int .i64 x202)) (.pointer (some a240)) ∧
    ∃ x241 : Int, HV Try.prog (Instr.loadAt 33 (.pointer (some a240))) h235 (.int .u32 x241) ∧ HV Try.prog (Instr.loadAt 33 (.pointer (some a240))) h (.int .u32 x241) ∧ 
    CallsH Try.prog 77 #[(.int .i64 x239), (.int .u32 x241), (.int .i64 x203)] h235 fun r243 h242 =>
    ∃ x244 : Int, r243 = (.int .u32 x244) ∧ 
    br (!(x237 == x244))
    (quintetref12_Trie_nodes_l7 p198 A199 l199 c199 x200 x202 K0 k (IntKind.i64.wrap (x201 + 1)) (IntKind.i64.wrap (x203 + 1)) h242)
    (quintetref12_Trie_nodes_l7 p198 A199 l199 c199 x200 x202 K0 k x201 (IntKind.i64.wrap (x203 + 1)) h242))
    (quintetref12_Trie_nodes_l7 p198 A199 l199 c199 x200 x202 K0 k (IntKind.i64.wrap (x201 + 1)) (IntKind.i64.wrap (x203 + 1)) h))
    (quintetref12_Trie_nodes_l7 p198 A199 l199 c199 x200 x202 K0 k (IntKind.i64.wrap (x201 + 1)) (IntKind.i64.wrap (x203 + 1)) h))
    (K0 p198 A199 l199 c199 x200 x201 x202 h)
def quintetref12_Trie_nodes_l7_L (Q : Qx) (k : Nat) (tm : Tm) (h : Hp) : Prop :=
  selP (tm 0) fun p198 =>
  selS (tm 1) fun A199 l199 c199 =>
  selI .i64 (tm 2) fun x200 =>
  selI .i64 (tm 7) fun x201 =>
  selI .i64 (tm 8) fun x202 =>
  selI .i64 (tm 9) fun x203 =>
  quintetref12_Trie_nodes_l7 p198 A199 l199 c199 x200 x202 (fun (p222 : Option Addr) (A223 : Option Addr) (l223 : Nat) (c223 : Nat) (x224 : Int) (x225 : Int) (x226 : Int) h => Q (.exit 2) (mkTm [(0, some (.pointer p222)), (1, some (.slice A223 l223 c223)), (2, some (.int .i64 x224)), (7, some (.int .i64 x225)), (8, some (.int .i64 x226))]) h) k x201 x203 h
def quintetref12_Trie_nodes_j6 (K0 : (Option Addr) → (Option Addr) → Nat → Nat → Int → Int → Int → Hp → Prop) (p134 : Option Addr) (A135 : Option Addr) (l135 : Nat) (c135 : Nat) (x136 : Int) (x137 : Int) (x138 : Int) (h : Hp) : Prop :=
  ∃ k251, quintetref12_Trie_nodes_l7 p134 A135 l135 c135 x136 x138
  (fun (p245 : Option Addr) (A246 : Option Addr) (l246 : Nat) (c246 : Nat) (x247 : Int) (x248 : Int) (x249 : Int) (h250 : Hp) =>
  K0 p245 A246 l246 c246 x247 x248 (IntKind.i64.wrap (x249 + 1)) h250)
  k251 x137 0 h
def quintetref12_Trie_nodes_j6_L (Q : Qx) (tm : Tm) (h : Hp) : Prop :=
  selP (tm 0) fun p134 =>
  selS (tm 1) fun A135 l135 c135 =>
  selI .i64 (tm 2) fun x136 =>
  selI .i64 (tm 7) fun x137 =>
  selI .i64 (tm 8) fun x138 =>
  quintetref12_Trie_nodes_j6 (fun (p193 : Option Addr) (A194 : Option Addr) (l194 : Nat) (c194 : Nat) (x195 : Int) (x196 : Int) (x197 : Int) h => Q (.normal) (mkTm [(0, some (.pointer p193)), (1, some (.slice A194 l194 c194)), (2, some (.int .i64 x195)), (7, some (.int .i64 x196)), (8, some (.int .i64 x197))]) h) p134 A135 l135 c135 x136 x137 x138 h
def quintetref12_Trie_nodes_l4 (p4 : Option Addr) (A5 : Option Addr) (l5 : Nat) (c5 : Nat) (x6 : Int) (K0 : Int → Hp → Prop)  : Nat → Int → Int → Hp → Prop
  | 0, _, _, _ => False
  | k + 1, x7, x8, h =>
    br (decide (x8 < (l5 : Int)))
    (br (decide (x7 ≤ x6))
    (quintetref12_Trie_nodes_j6
    (fun (p252 : Option Addr) (A253 : Option Addr) (l253 : Nat) (c253 : Nat) (x254 : Int) (x255 : Int) (x256 : Int) (h257 : Hp) =>
    quintetref12_Trie_nodes_l4 p4 A5 l5 c5 x6 K0 k x255 x256 h257)
    p4 A5 l5 c5 x6 x7 x8 h)
    (K0 x7 h))
    (K0 x7 h)
def quintetref12_Trie_nodes_l4_L (Q : Qx) (k : Nat) (tm : Tm) (h : Hp) : Prop :=
  selP (tm 0) fun p4 =>
  selS (tm 1) fun A5 l5 c5 =>
  selI .i64 (tm 2) fun x6 =>
  selI .i64 (tm 7) fun x7 =>
  selI .i64 (tm 8) fun x8 =>
  quintetref12_Trie_nodes_l4 p4 A5 l5 c5 x6 (fun (x133 : Int) h => Q (.exit 0) (mkTm [(7, some (.int .i64 x133))]) h) k x7 x8 h
def quintetref12_Trie_nodes (p1 : Option Addr) (A2 : Option Addr) (l2 : Nat) (c2 : Nat) (x3 : Int) (h : Hp) (K : Value → Hp → Prop) : Prop :=
  ∃ k260, quintetref12_Trie_nodes_l4 p1 A2 l2 c2 x3
  (fun (x258 : Int) (h259 : Hp) =>
  K (.int .i64 x258) h259)
  k260 0 0 h
def quintetref12_Trie_nodes_lp (i : Nat) (Q : Qx) (tm : Tm) (h : Hp) : Prop := match Nat.beq i 3730 with
  | true => ∃ k, quintetref12_Trie_nodes_l7_L Q k tm h
  | false => match Nat.beq i 116 with
  | true => quintetref12_Trie_nodes_j6_L Q tm h
  | false => match Nat.beq i 58 with
  | true => ∃ k, quintetref12_Trie_nodes_l4_L Q k tm h
  | false => False
def quintetref12_Trie_nodes_cut (i : Nat) : Option (List Nat) := match Nat.beq i 116 with
  | true => some [0, 1, 2, 7, 8]
  | false => none
set_option maxRecDepth 100000 in
theorem quintetref12_Trie_nodes_l7_step (Q : Qx) (k : Nat) (p198 : Option Addr) (A199 : Option Addr) (l199 : Nat) (c199 : Nat) (x200 : Int) (x201 : Int) (x202 : Int) (x203 : Int) (h : Hp) : quintetref12_Trie_nodes_l7_L Q (k + 1) (mkTm [(0, some (.pointer p198)), (1, some (.slice A199 l199 c199)), (2, some (.int .i64 x200)), (7, some (.int .i64 x201)), (8, some (.int .i64 x202)), (9, some (.int .i64 x203))]) h =
    codeWp Try.prog 74 quintetref12_Trie_nodes_lp quintetref12_Trie_nodes_cut (sub (bodyOf Try.f76) [true, true, false, true, false, false, true, false, false, true, false, false]) 7460 (thenQ (fun tm h => quintetref12_Trie_nodes_l7_L Q k (mask [0, 1, 2, 7, 8, 9] tm) h) (maskQ (fun e => match e with | .exit 2 => [0, 1, 2, 7, 8] | _ => []) Q)) (mkTm [(0, some (.pointer p198)), (1, some (.slice A199 l199 c199)), (2, some (.int .i64 x200)), (7, some (.int .i64 x201)), (8, some (.int .i64 x202)), (9, some (.int .i64 x203))]) h := by kernel_rfl
theorem quintetref12_Trie_nodes_l7_mask (Q : Qx) (k : Nat) (tm : Tm) (h : Hp) : quintetref12_Trie_nodes_l7_L Q k tm h ↔ quintetref12_Trie_nodes_l7_L Q k (mask [0, 1, 2, 7, 8, 9] tm) h := Iff.rfl
set_option maxRecDepth 100000 in
theorem quintetref12_Trie_nodes_l7_snd : SndAt Try.prog 74 none (sub (bodyOf Try.f76) [true, true, false, true, false, false, true, false, false, true, false]) (quintetref12_Trie_nodes_lp 3730) := by
  refine loop_sound (lp := quintetref12_Trie_nodes_lp) (cut := quintetref12_Trie_nodes_cut) (i := 3730) (c := (sub (bodyOf Try.f76) [true, true, false, true, false, false, true, false, false, true, false, false])) [0, 1, 2, 7, 8, 9] (fun e => match e with | .exit 2 => [0, 1, 2, 7, 8] | _ => []) quintetref12_Trie_nodes_l7_L ?_ ?_ ?_
  · exact good_by (c := (sub (bodyOf Try.f76) [true, true, false, true, false, false, true, false, false, true, false, false])) (i := 7460) (l := []) (by kernel_rfl) (fun _ h => by cases h)
  · intro Q tm h H
    obtain ⟨p198, e0, H⟩ := selP_ex H
    obtain ⟨A199, l199, c199, e1, H⟩ := selS_ex H
    obtain ⟨x200, e2, H⟩ := selI_ex H
    obtain ⟨x201, e7, H⟩ := selI_ex H
    obtain ⟨x202, e8, H⟩ := selI_ex H
    obtain ⟨x203, e9, H⟩ := selI_ex H
    exact H
  · intro Q k tm h H
    have H0 := H
    obtain ⟨p198, e0, H⟩ := selP_ex H
    obtain ⟨A199, l199, c199, e1, H⟩ := selS_ex H
    obtain ⟨x200, e2, H⟩ := selI_ex H
    obtain ⟨x201, e7, H⟩ := selI_ex H
    obtain ⟨x202, e8, H⟩ := selI_ex H
    obtain ⟨x203, e9, H⟩ := selI_ex H
    have e : mask [0, 1, 2, 7, 8, 9] tm = mkTm [(0, some (.pointer p198)), (1, some (.slice A199 l199 c199)), (2, some (.int .i64 x200)), (7, some (.int .i64 x201)), (8, some (.int .i64 x202)), (9, some (.int .i64 x203))] := by simp only [mask, List.map_cons, List.map_nil, e0, e1, e2, e7, e8, e9] <;> rfl
    rw [e]
    refine Eq.mp (quintetref12_Trie_nodes_l7_step Q k p198 A199 l199 c199 x200 x201 x202 x203 h) ?_
    rw [← e]
    exact (quintetref12_Trie_nodes_l7_mask Q (k + 1) tm h).mp H0
set_option maxRecDepth 100000 in
theorem quintetref12_Trie_nodes_j6_step (Q : Qx) (p134 : Option Addr) (A135 : Option Addr) (l135 : Nat) (c135 : Nat) (x136 : Int) (x137 : Int) (x138 : Int) (h : Hp) : quintetref12_Trie_nodes_j6_L Q (mkTm [(0, some (.pointer p134)), (1, some (.slice A135 l135 c135)), (2, some (.int .i64 x136)), (7, some (.int .i64 x137)), (8, some (.int .i64 x138))]) h =
    codeWp Try.prog 74 quintetref12_Trie_nodes_lp quintetref12_Trie_nodes_cut (sub (bodyOf Try.f76) [true, true, false, true, false, false, true]) 233 (maskQ (fun e => match e with | .normal => [0, 1, 2, 7, 8] | _ => []) Q) (mkTm [(0, some (.pointer p134)), (1, some (.slice A135 l135 c135)), (2, some (.int .i64 x136)), (7, some (.int .i64 x137)), (8, some (.int .i64 x138))]) h := by kernel_rfl
theorem quintetref12_Trie_nodes_j6_mask (Q : Qx) (tm : Tm) (h : Hp) : quintetref12_Trie_nodes_j6_L Q tm h ↔ quintetref12_Trie_nodes_j6_L Q (mask [0, 1, 2, 7, 8] tm) h := Iff.rfl
set_option maxRecDepth 100000 in
theorem quintetref12_Trie_nodes_j6_snd : SndAt Try.prog 74 none (sub (bodyOf Try.f76) [true, true, false, true, false, false, true]) (quintetref12_Trie_nodes_lp 116) := by
  refine join_sound (lp := quintetref12_Trie_nodes_lp) (cut := quintetref12_Trie_nodes_cut) (i := 116) (c := (sub (bodyOf Try.f76) [true, true, false, true, false, false, true])) [0, 1, 2, 7, 8] (fun e => match e with | .normal => [0, 1, 2, 7, 8] | _ => []) quintetref12_Trie_nodes_j6_L ?_ ?_
  · exact good_by (c := (sub (bodyOf Try.f76) [true, true, false, true, false, false, true])) (i := 233) (l := [(3730, (sub (bodyOf Try.f76) [true, true, false, true, false, false, true, false, false, true, false]))]) (by kernel_rfl) (List.forall_mem_cons.2 ⟨quintetref12_Trie_nodes_l7_snd, (fun _ h => by cases h)⟩)
  · intro Q tm h H
    have H0 := H
    obtain ⟨p134, e0, H⟩ := selP_ex H
    obtain ⟨A135, l135, c135, e1, H⟩ := selS_ex H
    obtain ⟨x136, e2, H⟩ := selI_ex H
    obtain ⟨x137, e7, H⟩ := selI_ex H
    obtain ⟨x138, e8, H⟩ := selI_ex H
    have e : mask [0, 1, 2, 7, 8] tm = mkTm [(0, some (.pointer p134)), (1, some (.slice A135 l135 c135)), (2, some (.int .i64 x136)), (7, some (.int .i64 x137)), (8, some (.int .i64 x138))] := by simp only [mask, List.map_cons, List.map_nil, e0, e1, e2, e7, e8] <;> rfl
    rw [e]
    refine Eq.mp (quintetref12_Trie_nodes_j6_step Q p134 A135 l135 c135 x136 x137 x138 h) ?_
    rw [← e]
    exact (quintetref12_Trie_nodes_j6_mask Q tm h).mp H0
set_option maxRecDepth 100000 in
theorem quintetref12_Trie_nodes_l4_step (Q : Qx) (k : Nat) (p4 : Option Addr) (A5 : Option Addr) (l5 : Nat) (c5 : Nat) (x6 : Int) (x7 : Int) (x8 : Int) (h : Hp) : quintetref12_Trie_nodes_l4_L Q (k + 1) (mkTm [(0, some (.pointer p4)), (1, some (.slice A5 l5 c5)), (2, some (.int .i64 x6)), (7, some (.int .i64 x7)), (8, some (.int .i64 x8))]) h =
    codeWp Try.prog 74 quintetref12_Trie_nodes_lp quintetref12_Trie_nodes_cut (sub (bodyOf Try.f76) [true, true, false, true, false, false]) 116 (thenQ (fun tm h => quintetref12_Trie_nodes_l4_L Q k (mask [0, 1, 2, 7, 8] tm) h) (maskQ (fun e => match e with | .exit 0 => [7] | _ => []) Q)) (mkTm [(0, some (.pointer p4)), (1, some (.slice A5 l5 c5)), (2, some (.int .i64 x6)), (7, some (.int .i64 x7)), (8, some (.int .i64 x8))]) h := by kernel_rfl
theorem quintetref12_Trie_nodes_l4_mask (Q : Qx) (k : Nat) (tm : Tm) (h : Hp) : quintetref12_Trie_nodes_l4_L Q k tm h ↔ quintetref12_Trie_nodes_l4_L Q k (mask [0, 1, 2, 7, 8] tm) h := Iff.rfl
set_option maxRecDepth 100000 in
theorem quintetref12_Trie_nodes_l4_snd : SndAt Try.prog 74 none (sub (bodyOf Try.f76) [true, true, false, true, false]) (quintetref12_Trie_nodes_lp 58) := by
  refine loop_sound (lp := quintetref12_Trie_nodes_lp) (cut := quintetref12_Trie_nodes_cut) (i := 58) (c := (sub (bodyOf Try.f76) [true, true, false, true, false, false])) [0, 1, 2, 7, 8] (fun e => match e with | .exit 0 => [7] | _ => []) quintetref12_Trie_nodes_l4_L ?_ ?_ ?_
  · exact good_by (c := (sub (bodyOf Try.f76) [true, true, false, true, false, false])) (i := 116) (l := [(116, (sub (bodyOf Try.f76) [true, true, false, true, false, false, true]))]) (by kernel_rfl) (List.forall_mem_cons.2 ⟨quintetref12_Trie_nodes_j6_snd, (fun _ h => by cases h)⟩)
  · intro Q tm h H
    obtain ⟨p4, e0, H⟩ := selP_ex H
    obtain ⟨A5, l5, c5, e1, H⟩ := selS_ex H
    obtain ⟨x6, e2, H⟩ := selI_ex H
    obtain ⟨x7, e7, H⟩ := selI_ex H
    obtain ⟨x8, e8, H⟩ := selI_ex H
    exact H
  · intro Q k tm h H
    have H0 := H
    obtain ⟨p4, e0, H⟩ := selP_ex H
    obtain ⟨A5, l5, c5, e1, H⟩ := selS_ex H
    obtain ⟨x6, e2, H⟩ := selI_ex H
    obtain ⟨x7, e7, H⟩ := selI_ex H
    obtain ⟨x8, e8, H⟩ := selI_ex H
    have e : mask [0, 1, 2, 7, 8] tm = mkTm [(0, some (.pointer p4)), (1, some (.slice A5 l5 c5)), (2, some (.int .i64 x6)), (7, some (.int .i64 x7)), (8, some (.int .i64 x8))] := by simp only [mask, List.map_cons, List.map_nil, e0, e1, e2, e7, e8] <;> rfl
    rw [e]
    refine Eq.mp (quintetref12_Trie_nodes_l4_step Q k p4 A5 l5 c5 x6 x7 x8 h) ?_
    rw [← e]
    exact (quintetref12_Trie_nodes_l4_mask Q (k + 1) tm h).mp H0
set_option maxRecDepth 100000 in
theorem quintetref12_Trie_nodes_eq (p1 : Option Addr) (A2 : Option Addr) (l2 : Nat) (c2 : Nat) (x3 : Int) (h : Hp) (K : Value → Hp → Prop) : quintetref12_Trie_nodes p1 A2 l2 c2 x3 h K =
    codeWp Try.prog 74 quintetref12_Trie_nodes_lp quintetref12_Trie_nodes_cut (bodyOf Try.f76) 1 (endQ Try.prog Try.f76.results.toList K) (argTm [(.pointer p1), (.slice A2 l2 c2), (.int .i64 x3)]) h := by kernel_rfl
set_option maxRecDepth 100000 in
theorem quintetref12_Trie_nodes_ok (p1 : Option Addr) (A2 : Option Addr) (l2 : Nat) (c2 : Nat) (x3 : Int) {h : Hp} {K : Value → Hp → Prop} (H : quintetref12_Trie_nodes p1 A2 l2 c2 x3 h K) : CallsH Try.prog 76 #[(.pointer p1), (.slice A2 l2 c2), (.int .i64 x3)] h K :=
  calls_of (args := [(.pointer p1), (.slice A2 l2 c2), (.int .i64 x3)]) (n := 74) (lp := quintetref12_Trie_nodes_lp) (cut := quintetref12_Trie_nodes_cut) Try.func76 (c := bodyOf Try.f76) (by kernel_rfl) (by kernel_rfl) (by kernel_rfl) (good_by (c := (bodyOf Try.f76)) (i := 1) (l := [(58, (sub (bodyOf Try.f76) [true, true, false, true, false]))]) (by kernel_rfl) (List.forall_mem_cons.2 ⟨quintetref12_Trie_nodes_l4_snd, (fun _ h => by cases h)⟩))
    (Eq.mp (quintetref12_Trie_nodes_eq p1 A2 l2 c2 x3 h K) H)

/-! ### quintet/quintetref12.first: function 77 -/
def quintetref12_first_l1 (x4 : Int) (x5 : Int) (x6 : Int) (K0 : Int → Hp → Prop)  : Nat → Int → Int → Hp → Prop
  | 0, _, _, _ => False
  | k + 1, x7, x8, h =>
    br (decide (x8 < x6))
    (∃ x12 : Int, PV Try.prog (binOp .shr 33 (.int .u32 x5) (.int .u64 (IntKind.u64.wrap (IntKind.i64.wrap ((IntKind.i64.wrap (x4 - 1)) - x8))))) (.int .u32 x12) ∧
    ∃ x13 : Int, PV Try.prog (binOp .shl 33 (.int .u32 (Int.tmod x12 2)) (.int .u64 (IntKind.u64.wrap (IntKind.i64.wrap ((IntKind.i64.wrap (x4 - 1)) - x8))))) (.int .u32 x13) ∧
    quintetref12_first_l1 x4 x5 x6 K0 k (IntKind.u32.wrap (x7 + x13)) (IntKind.i64.wrap (x8 + 1)) h)
    (K0 x7 h)
def quintetref12_first_l1_L (Q : Qx) (k : Nat) (tm : Tm) (h : Hp) : Prop :=
  selI .i64 (tm 0) fun x4 =>
  selI .u32 (tm 1) fun x5 =>
  selI .i64 (tm 2) fun x6 =>
  selI .u32 (tm 7) fun x7 =>
  selI .i64 (tm 8) fun x8 =>
  quintetref12_first_l1 x4 x5 x6 (fun (x11 : Int) h => Q (.exit 0) (mkTm [(7, some (.int .u32 x11))]) h) k x7 x8 h
def quintetref12_first (x1 : Int) (x2 : Int) (x3 : Int) (h : Hp) (K : Value → Hp → Prop) : Prop :=
  ∃ k16, quintetref12_first_l1 x1 x2 x3
  (fun (x14 : Int) (h15 : Hp) =>
  K (.int .u32 x14) h15)
  k16 0 0 h
def quintetref12_first_lp (i : Nat) (Q : Qx) (tm : Tm) (h : Hp) : Prop := match Nat.beq i 58 with
  | true => ∃ k, quintetref12_first_l1_L Q k tm h
  | false => False
def quintetref12_first_cut (i : Nat) : Option (List Nat) := none
set_option maxRecDepth 100000 in
theorem quintetref12_first_l1_step (Q : Qx) (k : Nat) (x4 : Int) (x5 : Int) (x6 : Int) (x7 : Int) (x8 : Int) (h : Hp) : quintetref12_first_l1_L Q (k + 1) (mkTm [(0, some (.int .i64 x4)), (1, some (.int .u32 x5)), (2, some (.int .i64 x6)), (7, some (.int .u32 x7)), (8, some (.int .i64 x8))]) h =
    codeWp Try.prog 33 quintetref12_first_lp quintetref12_first_cut (sub (bodyOf Try.f77) [true, true, false, true, false, false]) 116 (thenQ (fun tm h => quintetref12_first_l1_L Q k (mask [0, 1, 2, 7, 8] tm) h) (maskQ (fun e => match e with | .exit 0 => [7] | _ => []) Q)) (mkTm [(0, some (.int .i64 x4)), (1, some (.int .u32 x5)), (2, some (.int .i64 x6)), (7, some (.int .u32 x7)), (8, some (.int .i64 x8))]) h := by kernel_rfl
theorem quintetref12_first_l1_mask (Q : Qx) (k : Nat) (tm : Tm) (h : Hp) : quintetref12_first_l1_L Q k tm h ↔ quintetref12_first_l1_L Q k (mask [0, 1, 2, 7, 8] tm) h := Iff.rfl
set_option maxRecDepth 100000 in
theorem quintetref12_first_l1_snd : SndAt Try.prog 33 none (sub (bodyOf Try.f77) [true, true, false, true, false]) (quintetref12_first_lp 58) := by
  refine loop_sound (lp := quintetref12_first_lp) (cut := quintetref12_first_cut) (i := 58) (c := (sub (bodyOf Try.f77) [true, true, false, true, false, false])) [0, 1, 2, 7, 8] (fun e => match e with | .exit 0 => [7] | _ => []) quintetref12_first_l1_L ?_ ?_ ?_
  · exact good_by (c := (sub (bodyOf Try.f77) [true, true, false, true, false, false])) (i := 116) (l := []) (by kernel_rfl) (fun _ h => by cases h)
  · intro Q tm h H
    obtain ⟨x4, e0, H⟩ := selI_ex H
    obtain ⟨x5, e1, H⟩ := selI_ex H
    obtain ⟨x6, e2, H⟩ := selI_ex H
    obtain ⟨x7, e7, H⟩ := selI_ex H
    obtain ⟨x8, e8, H⟩ := selI_ex H
    exact H
  · intro Q k tm h H
    have H0 := H
    obtain ⟨x4, e0, H⟩ := selI_ex H
    obtain ⟨x5, e1, H⟩ := selI_ex H
    obtain ⟨x6, e2, H⟩ := selI_ex H
    obtain ⟨x7, e7, H⟩ := selI_ex H
    obtain ⟨x8, e8, H⟩ := selI_ex H
    have e : mask [0, 1, 2, 7, 8] tm = mkTm [(0, some (.int .i64 x4)), (1, some (.int .u32 x5)), (2, some (.int .i64 x6)), (7, some (.int .u32 x7)), (8, some (.int .i64 x8))] := by simp only [mask, List.map_cons, List.map_nil, e0, e1, e2, e7, e8] <;> rfl
    rw [e]
    refine Eq.mp (quintetref12_first_l1_step Q k x4 x5 x6 x7 x8 h) ?_
    rw [← e]
    exact (quintetref12_first_l1_mask Q (k + 1) tm h).mp H0
set_option maxRecDepth 100000 in
theorem quintetref12_first_eq (x1 : Int) (x2 : Int) (x3 : Int) (h : Hp) (K : Value → Hp → Prop) : quintetref12_first x1 x2 x3 h K =
    codeWp Try.prog 33 quintetref12_first_lp quintetref12_first_cut (bodyOf Try.f77) 1 (endQ Try.prog Try.f77.results.toList K) (argTm [(.int .i64 x1), (.int .u32 x2), (.int .i64 x3)]) h := by kernel_rfl
set_option maxRecDepth 100000 in
theorem quintetref12_first_ok (x1 : Int) (x2 : Int) (x3 : Int) {h : Hp} {K : Value → Hp → Prop} (H : quintetref12_first x1 x2 x3 h K) : CallsH Try.prog 77 #[(.int .i64 x1), (.int .u32 x2), (.int .i64 x3)] h K :=
  calls_of (args := [(.int .i64 x1), (.int .u32 x2), (.int .i64 x3)]) (n := 33) (lp := quintetref12_first_lp) (cut := quintetref12_first_cut) Try.func77 (c := bodyOf Try.f77) (by kernel_rfl) (by kernel_rfl) (by kernel_rfl) (good_by (c := (bodyOf Try.f77)) (i := 1) (l := [(58, (sub (bodyOf Try.f77) [true, true, false, true, false]))]) (by kernel_rfl) (List.forall_mem_cons.2 ⟨quintetref12_first_l1_snd, (fun _ h => by cases h)⟩))
    (Eq.mp (quintetref12_first_eq x1 x2 x3 h K) H)

end Go.Proofs.Ytofjbbfnkefoaaa.Fs
