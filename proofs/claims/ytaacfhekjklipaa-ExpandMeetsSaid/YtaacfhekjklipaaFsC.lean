/- Printed by sx.py: words over the heap alone for Go functions, and that each call does what its word says. -/
import Derived.Test.YtaacfhekjklipaaSxSel
import Derived.Test.YtaacfhekjklipaaSxRound
import Derived.Test.YtaacfhekjklipaaProg
namespace Go.Proofs.Ytaacfhekjklipaa.Fs
open Go Go.RowKit Go.Proofs.Ytaacfhekjklipaa.Sx
set_option linter.unusedVariables false

/-! ### quintet/quintetlaw03.SpanLess: function 3 -/
def quintetlaw03_SpanLess (x1 : Int) (x2 : Int) (x3 : Int) (x4 : Int) (h : Hp) (K : Value → Hp → Prop) : Prop :=
  newC h (.cells #[(.int .u16 x1), (.int .u16 x2)] 24 (0, 0)) fun a6 h5 => 
  newC h5 (.cells #[(.int .u16 x3), (.int .u16 x4)] 24 (0, 0)) fun a8 h7 => 
  ∃ x9 : Int, ∃ x10 : Int, HV Try.prog (Instr.loadAt 24 (.pointer (some a6))) h7 (.agg #[(.int .u16 x9), (.int .u16 x10)]) ∧ 
  ∃ x11 : Int, ∃ x12 : Int, HV Try.prog (Instr.loadAt 24 (.pointer (some a8))) h7 (.agg #[(.int .u16 x11), (.int .u16 x12)]) ∧ 
  CallsH Try.prog 12 #[(.agg #[(.int .u16 x9), (.int .u16 x10)]), (.agg #[(.int .u16 x11), (.int .u16 x12)])] h7 fun r14 h13 =>
  ∃ A15 : Option Addr, ∃ l15 : Nat, ∃ c15 : Nat, r14 = (.slice A15 l15 c15) ∧ 
  ∃ x16 : Int, ∃ x17 : Int, HV Try.prog (Instr.loadAt 24 (.pointer (some a6))) h13 (.agg #[(.int .u16 x16), (.int .u16 x17)]) ∧ 
  ∃ x18 : Int, ∃ x19 : Int, HV Try.prog (Instr.loadAt 24 (.pointer (some a8))) h13 (.agg #[(.int .u16 x18), (.int .u16 x19)]) ∧ 
  CallsH Try.prog 13 #[(.agg #[(.int .u16 x16), (.int .u16 x17)]), (.agg #[(.int .u16 x18), (.int .u16 x19)])] h13 fun r21 h20 =>
  ∃ A22 : Option Addr, ∃ l22 : Nat, ∃ c22 : Nat, r21 = (.slice A22 l22 c22) ∧ 
  CallsH Try.prog 14 #[(.slice A15 l15 c15), (.slice A22 l22 c22)] h20 fun r24 h23 =>
  ∃ b25 : Bool, r24 = (.bool b25) ∧ 
  br (!b25)
  (K (.bool false) h23)
  (CallsH Try.prog 15 #[(.slice A15 l15 c15)] h23 fun r27 h26 =>
  r27 = (.tuple #[]) ∧ 
  ∃ x28 : Int, ∃ x29 : Int, HV Try.prog (Instr.loadAt 24 (.pointer (some a6))) h26 (.agg #[(.int .u16 x28), (.int .u16 x29)]) ∧ 
  ∃ x30 : Int, ∃ x31 : Int, HV Try.prog (Instr.loadAt 24 (.pointer (some a8))) h26 (.agg #[(.int .u16 x30), (.int .u16 x31)]) ∧ 
  CallsH Try.prog 12 #[(.agg #[(.int .u16 x28), (.int .u16 x29)]), (.agg #[(.int .u16 x30), (.int .u16 x31)])] h26 fun r33 h32 =>
  ∃ A34 : Option Addr, ∃ l34 : Nat, ∃ c34 : Nat, r33 = (.slice A34 l34 c34) ∧ 
  CallsH Try.prog 16 #[] h32 fun r36 h35 =>
  ∃ b37 : Bool, r36 = (.bool b37) ∧ 
  br b37
  (CallsH Try.prog 14 #[(.slice A34 l34 c34), (.slice A22 l22 c22)] h35 fun r39 h38 =>
  ∃ b40 : Bool, r39 = (.bool b40) ∧ 
  K (.bool b40) h38)
  (K (.bool false) h35))
def quintetlaw03_SpanLess_lp (i : Nat) (Q : Qx) (tm : Tm) (h : Hp) : Prop := False
def quintetlaw03_SpanLess_cut (i : Nat) : Option (List Nat) := none
set_option maxRecDepth 100000 in
theorem quintetlaw03_SpanLess_eq (x1 : Int) (x2 : Int) (x3 : Int) (x4 : Int) (h : Hp) (K : Value → Hp → Prop) : quintetlaw03_SpanLess x1 x2 x3 x4 h K =
    codeWp Try.prog 29 quintetlaw03_SpanLess_lp quintetlaw03_SpanLess_cut (bodyOf Try.f3) 1 (endQ Try.prog Try.f3.results.toList K) (argTm [(.agg #[(.int .u16 x1), (.int .u16 x2)]), (.agg #[(.int .u16 x3), (.int .u16 x4)])]) h := by kernel_rfl
set_option maxRecDepth 100000 in
theorem quintetlaw03_SpanLess_ok (x1 : Int) (x2 : Int) (x3 : Int) (x4 : Int) {h : Hp} {K : Value → Hp → Prop} (H : quintetlaw03_SpanLess x1 x2 x3 x4 h K) : CallsH Try.prog 3 #[(.agg #[(.int .u16 x1), (.int .u16 x2)]), (.agg #[(.int .u16 x3), (.int .u16 x4)])] h K :=
  calls_of (args := [(.agg #[(.int .u16 x1), (.int .u16 x2)]), (.agg #[(.int .u16 x3), (.int .u16 x4)])]) (n := 29) (lp := quintetlaw03_SpanLess_lp) (cut := quintetlaw03_SpanLess_cut) Try.func3 (c := bodyOf Try.f3) (by kernel_rfl) (by kernel_rfl) (by kernel_rfl) (good_by (c := (bodyOf Try.f3)) (i := 1) (l := []) (by kernel_rfl) (fun _ h => by cases h))
    (Eq.mp (quintetlaw03_SpanLess_eq x1 x2 x3 x4 h K) H)

/-! ### quintet/quintetlaw03.SpanUnions: function 4 -/
def quintetlaw03_SpanUnions (A1 : Option Addr) (l1 : Nat) (c1 : Nat) (h : Hp) (K : Value → Hp → Prop) : Prop :=
  br (decide ((l1 : Int) > 1048576))
  (K (.bool true) h)
  (CallsH Try.prog 17 #[(.slice A1 l1 c1)] h fun r3 h2 =>
  ∃ A4 : Option Addr, ∃ l4 : Nat, ∃ c4 : Nat, r3 = (.slice A4 l4 c4) ∧ 
  CallsH Try.prog 18 #[(.slice A1 l1 c1)] h2 fun r6 h5 =>
  ∃ A7 : Option Addr, ∃ l7 : Nat, ∃ c7 : Nat, r6 = (.slice A7 l7 c7) ∧ 
  CallsH Try.prog 19 #[(.slice A7 l7 c7)] h5 fun r9 h8 =>
  ∃ A10 : Option Addr, ∃ l10 : Nat, ∃ c10 : Nat, r9 = (.slice A10 l10 c10) ∧ 
  CallsH Try.prog 14 #[(.slice A10 l10 c10), (.slice A4 l4 c4)] h8 fun r12 h11 =>
  ∃ b13 : Bool, r12 = (.bool b13) ∧ 
  br (!b13)
  (K (.bool false) h11)
  (CallsH Try.prog 20 #[(.slice A7 l7 c7), (.slice A1 l1 c1)] h11 fun r15 h14 =>
  ∃ b16 : Bool, r15 = (.bool b16) ∧ 
  br (!b16)
  (K (.bool false) h14)
  (CallsH Try.prog 14 #[(.slice A10 l10 c10), (.slice A4 l4 c4)] h14 fun r18 h17 =>
  ∃ b19 : Bool, r18 = (.bool b19) ∧ 
  br (!b19)
  (K (.bool false) h17)
  (CallsH Try.prog 15 #[(.slice A10 l10 c10)] h17 fun r21 h20 =>
  r21 = (.tuple #[]) ∧ 
  CallsH Try.prog 19 #[(.slice A1 l1 c1)] h20 fun r23 h22 =>
  ∃ A24 : Option Addr, ∃ l24 : Nat, ∃ c24 : Nat, r23 = (.slice A24 l24 c24) ∧ 
  CallsH Try.prog 16 #[] h22 fun r26 h25 =>
  ∃ b27 : Bool, r26 = (.bool b27) ∧ 
  br b27
  (CallsH Try.prog 14 #[(.slice A24 l24 c24), (.slice A4 l4 c4)] h25 fun r29 h28 =>
  ∃ b30 : Bool, r29 = (.bool b30) ∧ 
  K (.bool b30) h28)
  (K (.bool false) h25)))))
def quintetlaw03_SpanUnions_lp (i : Nat) (Q : Qx) (tm : Tm) (h : Hp) : Prop := False
def quintetlaw03_SpanUnions_cut (i : Nat) : Option (List Nat) := none
set_option maxRecDepth 100000 in
theorem quintetlaw03_SpanUnions_eq (A1 : Option Addr) (l1 : Nat) (c1 : Nat) (h : Hp) (K : Value → Hp → Prop) : quintetlaw03_SpanUnions A1 l1 c1 h K =
    codeWp Try.prog 42 quintetlaw03_SpanUnions_lp quintetlaw03_SpanUnions_cut (bodyOf Try.f4) 1 (endQ Try.prog Try.f4.results.toList K) (argTm [(.slice A1 l1 c1)]) h := by kernel_rfl
set_option maxRecDepth 100000 in
theorem quintetlaw03_SpanUnions_ok (A1 : Option Addr) (l1 : Nat) (c1 : Nat) {h : Hp} {K : Value → Hp → Prop} (H : quintetlaw03_SpanUnions A1 l1 c1 h K) : CallsH Try.prog 4 #[(.slice A1 l1 c1)] h K :=
  calls_of (args := [(.slice A1 l1 c1)]) (n := 42) (lp := quintetlaw03_SpanUnions_lp) (cut := quintetlaw03_SpanUnions_cut) Try.func4 (c := bodyOf Try.f4) (by kernel_rfl) (by kernel_rfl) (by kernel_rfl) (good_by (c := (bodyOf Try.f4)) (i := 1) (l := []) (by kernel_rfl) (fun _ h => by cases h))
    (Eq.mp (quintetlaw03_SpanUnions_eq A1 l1 c1 h K) H)

/-! ### quintet/quintetlaw03.SpanGaps: function 5 -/
def quintetlaw03_SpanGaps (A1 : Option Addr) (l1 : Nat) (c1 : Nat) (h : Hp) (K : Value → Hp → Prop) : Prop :=
  br (decide ((l1 : Int) > 1048576))
  (K (.bool true) h)
  (CallsH Try.prog 21 #[(.slice A1 l1 c1)] h fun r3 h2 =>
  ∃ A4 : Option Addr, ∃ l4 : Nat, ∃ c4 : Nat, r3 = (.slice A4 l4 c4) ∧ 
  CallsH Try.prog 18 #[(.slice A1 l1 c1)] h2 fun r6 h5 =>
  ∃ A7 : Option Addr, ∃ l7 : Nat, ∃ c7 : Nat, r6 = (.slice A7 l7 c7) ∧ 
  CallsH Try.prog 22 #[(.slice A7 l7 c7)] h5 fun r9 h8 =>
  ∃ A10 : Option Addr, ∃ l10 : Nat, ∃ c10 : Nat, r9 = (.slice A10 l10 c10) ∧ 
  CallsH Try.prog 14 #[(.slice A10 l10 c10), (.slice A4 l4 c4)] h8 fun r12 h11 =>
  ∃ b13 : Bool, r12 = (.bool b13) ∧ 
  br (!b13)
  (K (.bool false) h11)
  (CallsH Try.prog 20 #[(.slice A7 l7 c7), (.slice A1 l1 c1)] h11 fun r15 h14 =>
  ∃ b16 : Bool, r15 = (.bool b16) ∧ 
  br (!b16)
  (K (.bool false) h14)
  (CallsH Try.prog 14 #[(.slice A10 l10 c10), (.slice A4 l4 c4)] h14 fun r18 h17 =>
  ∃ b19 : Bool, r18 = (.bool b19) ∧ 
  br (!b19)
  (K (.bool false) h17)
  (CallsH Try.prog 15 #[(.slice A10 l10 c10)] h17 fun r21 h20 =>
  r21 = (.tuple #[]) ∧ 
  CallsH Try.prog 22 #[(.slice A1 l1 c1)] h20 fun r23 h22 =>
  ∃ A24 : Option Addr, ∃ l24 : Nat, ∃ c24 : Nat, r23 = (.slice A24 l24 c24) ∧ 
  CallsH Try.prog 16 #[] h22 fun r26 h25 =>
  ∃ b27 : Bool, r26 = (.bool b27) ∧ 
  br b27
  (CallsH Try.prog 14 #[(.slice A24 l24 c24), (.slice A4 l4 c4)] h25 fun r29 h28 =>
  ∃ b30 : Bool, r29 = (.bool b30) ∧ 
  K (.bool b30) h28)
  (K (.bool false) h25)))))
def quintetlaw03_SpanGaps_lp (i : Nat) (Q : Qx) (tm : Tm) (h : Hp) : Prop := False
def quintetlaw03_SpanGaps_cut (i : Nat) : Option (List Nat) := none
set_option maxRecDepth 100000 in
theorem quintetlaw03_SpanGaps_eq (A1 : Option Addr) (l1 : Nat) (c1 : Nat) (h : Hp) (K : Value → Hp → Prop) : quintetlaw03_SpanGaps A1 l1 c1 h K =
    codeWp Try.prog 42 quintetlaw03_SpanGaps_lp quintetlaw03_SpanGaps_cut (bodyOf Try.f5) 1 (endQ Try.prog Try.f5.results.toList K) (argTm [(.slice A1 l1 c1)]) h := by kernel_rfl
set_option maxRecDepth 100000 in
theorem quintetlaw03_SpanGaps_ok (A1 : Option Addr) (l1 : Nat) (c1 : Nat) {h : Hp} {K : Value → Hp → Prop} (H : quintetlaw03_SpanGaps A1 l1 c1 h K) : CallsH Try.prog 5 #[(.slice A1 l1 c1)] h K :=
  calls_of (args := [(.slice A1 l1 c1)]) (n := 42) (lp := quintetlaw03_SpanGaps_lp) (cut := quintetlaw03_SpanGaps_cut) Try.func5 (c := bodyOf Try.f5) (by kernel_rfl) (by kernel_rfl) (by kernel_rfl) (good_by (c := (bodyOf Try.f5)) (i := 1) (l := []) (by kernel_rfl) (fun _ h => by cases h))
    (Eq.mp (quintetlaw03_SpanGaps_eq A1 l1 c1 h K) H)

/-! ### quintet/quintetlaw05.ExpandOf: function 6 -/
def quintetlaw05_ExpandOf_j1 (K0 : Bool → Hp → Prop) (a26 : Addr) (A27 : Option Addr) (l27 : Nat) (c27 : Nat) (x28 : Int) (A29 : Option Addr) (l29 : Nat) (c29 : Nat) (h : Hp) : Prop :=
  CallsH Try.prog 27 #[(.slice A29 l29 c29)] h fun r46 h45 =>
  r46 = (.tuple #[]) ∧ 
  ∃ x47 : Int, ∃ x48 : Int, HV Try.prog (Instr.loadAt 24 (.pointer (some a26))) h45 (.agg #[(.int .u16 x47), (.int .u16 x48)]) ∧ 
  CallsH Try.prog 25 #[(.agg #[(.int .u16 x47), (.int .u16 x48)])] h45 fun r50 h49 =>
  ∃ A51 : Option Addr, ∃ l51 : Nat, ∃ c51 : Nat, ∃ x52 : Int, r50 = (.tuple #[(.slice A51 l51 c51), (.int .i64 x52)]) ∧ 
  CallsH Try.prog 28 #[] h49 fun r54 h53 =>
  ∃ b55 : Bool, r54 = (.bool b55) ∧ 
  br b55
  (br (x52 == x28)
  (CallsH Try.prog 26 #[(.slice A51 l51 c51), (.slice A27 l27 c27)] h53 fun r57 h56 =>
  ∃ b58 : Bool, r57 = (.bool b58) ∧ 
  K0 b58 h56)
  (K0 false h53))
  (K0 false h53)
def quintetlaw05_ExpandOf_j1_L (Q : Qx) (tm : Tm) (h : Hp) : Prop :=
  selA (tm 1) fun a26 =>
  selS (tm 3) fun A27 l27 c27 =>
  selI .i64 (tm 4) fun x28 =>
  selS (tm 7) fun A29 l29 c29 =>
  quintetlaw05_ExpandOf_j1 (fun (b44 : Bool) h => Q (.ret) (mkTm [(2, some (.bool b44))]) h) a26 A27 l27 c27 x28 A29 l29 c29 h
def quintetlaw05_ExpandOf (x1 : Int) (x2 : Int) (h : Hp) (K : Value → Hp → Prop) : Prop :=
  newC h (.cells #[(.int .u16 x1), (.int .u16 x2)] 24 (0, 0)) fun a4 h3 => 
  ∃ x5 : Int, ∃ x6 : Int, HV Try.prog (Instr.loadAt 24 (.pointer (some a4))) h3 (.agg #[(.int .u16 x5), (.int .u16 x6)]) ∧ 
  CallsH Try.prog 23 #[(.agg #[(.int .u16 x5), (.int .u16 x6)])] h3 fun r8 h7 =>
  ∃ A9 : Option Addr, ∃ l9 : Nat, ∃ c9 : Nat, ∃ x10 : Int, r8 = (.tuple #[(.slice A9 l9 c9), (.int .i64 x10)]) ∧ 
  ∃ x11 : Int, ∃ x12 : Int, HV Try.prog (Instr.loadAt 24 (.pointer (some a4))) h7 (.agg #[(.int .u16 x11), (.int .u16 x12)]) ∧ 
  CallsH Try.prog 24 #[(.agg #[(.int .u16 x11), (.int .u16 x12)])] h7 fun r14 h13 =>
  ∃ x15 : Int, ∃ x16 : Int, r14 = (.tuple #[(.int .i64 x15), (.int .i64 x16)]) ∧ 
  ∃ x17 : Int, ∃ x18 : Int, HV Try.prog (Instr.loadAt 24 (.pointer (some a4))) h13 (.agg #[(.int .u16 x17), (.int .u16 x18)]) ∧ 
  CallsH Try.prog 25 #[(.agg #[(.int .u16 x17), (.int .u16 x18)])] h13 fun r20 h19 =>
  ∃ A21 : Option Addr, ∃ l21 : Nat, ∃ c21 : Nat, ∃ x22 : Int, r20 = (.tuple #[(.slice A21 l21 c21), (.int .i64 x22)]) ∧ 
  br (x22 != x10)
  (K (.bool false) h19)
  (br (x16 != x10)
  (K (.bool false) h19)
  (br (x15 != (l9 : Int))
  (K (.bool false) h19)
  (CallsH Try.prog 26 #[(.slice A21 l21 c21), (.slice A9 l9 c9)] h19 fun r60 h59 =>
  ∃ b61 : Bool, r60 = (.bool b61) ∧ 
  br (!b61)
  (K (.bool false) h59)
  (quintetlaw05_ExpandOf_j1
  (fun (b62 : Bool) (h63 : Hp) =>
  K (.bool b62) h63)
  a4 A9 l9 c9 x10 A21 l21 c21 h59))))
def quintetlaw05_ExpandOf_lp (i : Nat) (Q : Qx) (tm : Tm) (h : Hp) : Prop := match Nat.beq i 31 with
  | true => quintetlaw05_ExpandOf_j1_L Q tm h
  | false => False
def quintetlaw05_ExpandOf_cut (i : Nat) : Option (List Nat) := match Nat.beq i 31 with
  | true => some [1, 3, 4, 7]
  | false => none
set_option maxRecDepth 100000 in
theorem quintetlaw05_ExpandOf_j1_step (Q : Qx) (a26 : Addr) (A27 : Option Addr) (l27 : Nat) (c27 : Nat) (x28 : Int) (A29 : Option Addr) (l29 : Nat) (c29 : Nat) (h : Hp) : quintetlaw05_ExpandOf_j1_L Q (mkTm [(1, some (.pointer (some a26))), (3, some (.slice A27 l27 c27)), (4, some (.int .i64 x28)), (7, some (.slice A29 l29 c29))]) h =
    codeWp Try.prog 64 quintetlaw05_ExpandOf_lp quintetlaw05_ExpandOf_cut (sub (bodyOf Try.f6) [true, true, true, true, true]) 63 (maskQ (fun e => match e with | .ret => [2] | _ => []) Q) (mkTm [(1, some (.pointer (some a26))), (3, some (.slice A27 l27 c27)), (4, some (.int .i64 x28)), (7, some (.slice A29 l29 c29))]) h := by kernel_rfl
theorem quintetlaw05_ExpandOf_j1_mask (Q : Qx) (tm : Tm) (h : Hp) : quintetlaw05_ExpandOf_j1_L Q tm h ↔ quintetlaw05_ExpandOf_j1_L Q (mask [1, 3, 4, 7] tm) h := Iff.rfl
set_option maxRecDepth 100000 in
theorem quintetlaw05_ExpandOf_j1_snd : SndAt Try.prog 64 none (sub (bodyOf Try.f6) [true, true, true, true, true]) (quintetlaw05_ExpandOf_lp 31) := by
  refine join_sound (lp := quintetlaw05_ExpandOf_lp) (cut := quintetlaw05_ExpandOf_cut) (i := 31) (c := (sub (bodyOf Try.f6) [true, true, true, true, true])) [1, 3, 4, 7] (fun e => match e with | .ret => [2] | _ => []) quintetlaw05_ExpandOf_j1_L ?_ ?_
  · exact good_by (c := (sub (bodyOf Try.f6) [true, true, true, true, true])) (i := 63) (l := []) (by kernel_rfl) (fun _ h => by cases h)
  · intro Q tm h H
    have H0 := H
    obtain ⟨a26, e1, H⟩ := selA_ex H
    obtain ⟨A27, l27, c27, e3, H⟩ := selS_ex H
    obtain ⟨x28, e4, H⟩ := selI_ex H
    obtain ⟨A29, l29, c29, e7, H⟩ := selS_ex H
    have e : mask [1, 3, 4, 7] tm = mkTm [(1, some (.pointer (some a26))), (3, some (.slice A27 l27 c27)), (4, some (.int .i64 x28)), (7, some (.slice A29 l29 c29))] := by simp only [mask, List.map_cons, List.map_nil, e1, e3, e4, e7] <;> rfl
    rw [e]
    refine Eq.mp (quintetlaw05_ExpandOf_j1_step Q a26 A27 l27 c27 x28 A29 l29 c29 h) ?_
    rw [← e]
    exact (quintetlaw05_ExpandOf_j1_mask Q tm h).mp H0
set_option maxRecDepth 100000 in
theorem quintetlaw05_ExpandOf_eq (x1 : Int) (x2 : Int) (h : Hp) (K : Value → Hp → Prop) : quintetlaw05_ExpandOf x1 x2 h K =
    codeWp Try.prog 64 quintetlaw05_ExpandOf_lp quintetlaw05_ExpandOf_cut (bodyOf Try.f6) 1 (endQ Try.prog Try.f6.results.toList K) (argTm [(.agg #[(.int .u16 x1), (.int .u16 x2)])]) h := by kernel_rfl
set_option maxRecDepth 100000 in
theorem quintetlaw05_ExpandOf_ok (x1 : Int) (x2 : Int) {h : Hp} {K : Value → Hp → Prop} (H : quintetlaw05_ExpandOf x1 x2 h K) : CallsH Try.prog 6 #[(.agg #[(.int .u16 x1), (.int .u16 x2)])] h K :=
  calls_of (args := [(.agg #[(.int .u16 x1), (.int .u16 x2)])]) (n := 64) (lp := quintetlaw05_ExpandOf_lp) (cut := quintetlaw05_ExpandOf_cut) Try.func6 (c := bodyOf Try.f6) (by kernel_rfl) (by kernel_rfl) (by kernel_rfl) (good_by (c := (bodyOf Try.f6)) (i := 1) (l := [(31, (sub (bodyOf Try.f6) [true, true, true, true, true]))]) (by kernel_rfl) (List.forall_mem_cons.2 ⟨quintetlaw05_ExpandOf_j1_snd, (fun _ h => by cases h)⟩))
    (Eq.mp (quintetlaw05_ExpandOf_eq x1 x2 h K) H)

/-! ### quintet/quintetlaw05.ExpandBacks: function 7 -/
def quintetlaw05_ExpandBacks (A1 : Option Addr) (l1 : Nat) (c1 : Nat) (h : Hp) (K : Value → Hp → Prop) : Prop :=
  br (decide ((l1 : Int) > 1048576))
  (K (.bool true) h)
  (CallsH Try.prog 29 #[(.slice A1 l1 c1)] h fun r3 h2 =>
  ∃ A4 : Option Addr, ∃ l4 : Nat, ∃ c4 : Nat, ∃ x5 : Int, r3 = (.tuple #[(.slice A4 l4 c4), (.int .i64 x5)]) ∧ 
  CallsH Try.prog 30 #[(.slice A1 l1 c1)] h2 fun r7 h6 =>
  ∃ A8 : Option Addr, ∃ l8 : Nat, ∃ c8 : Nat, r7 = (.slice A8 l8 c8) ∧ 
  CallsH Try.prog 31 #[(.slice A8 l8 c8)] h6 fun r10 h9 =>
  ∃ A11 : Option Addr, ∃ l11 : Nat, ∃ c11 : Nat, ∃ x12 : Int, r10 = (.tuple #[(.slice A11 l11 c11), (.int .i64 x12)]) ∧ 
  CallsH Try.prog 32 #[(.slice A8 l8 c8), (.slice A1 l1 c1)] h9 fun r14 h13 =>
  ∃ b15 : Bool, r14 = (.bool b15) ∧ 
  CallsH Try.prog 28 #[] h13 fun r17 h16 =>
  ∃ b18 : Bool, r17 = (.bool b18) ∧ 
  br b18
  (br b15
  (br (x12 == x5)
  (CallsH Try.prog 14 #[(.slice A11 l11 c11), (.slice A4 l4 c4)] h16 fun r20 h19 =>
  ∃ b21 : Bool, r20 = (.bool b21) ∧ 
  K (.bool b21) h19)
  (K (.bool false) h16))
  (K (.bool false) h16))
  (K (.bool false) h16))
def quintetlaw05_ExpandBacks_lp (i : Nat) (Q : Qx) (tm : Tm) (h : Hp) : Prop := False
def quintetlaw05_ExpandBacks_cut (i : Nat) : Option (List Nat) := none
set_option maxRecDepth 100000 in
theorem quintetlaw05_ExpandBacks_eq (A1 : Option Addr) (l1 : Nat) (c1 : Nat) (h : Hp) (K : Value → Hp → Prop) : quintetlaw05_ExpandBacks A1 l1 c1 h K =
    codeWp Try.prog 41 quintetlaw05_ExpandBacks_lp quintetlaw05_ExpandBacks_cut (bodyOf Try.f7) 1 (endQ Try.prog Try.f7.results.toList K) (argTm [(.slice A1 l1 c1)]) h := by kernel_rfl
set_option maxRecDepth 100000 in
theorem quintetlaw05_ExpandBacks_ok (A1 : Option Addr) (l1 : Nat) (c1 : Nat) {h : Hp} {K : Value → Hp → Prop} (H : quintetlaw05_ExpandBacks A1 l1 c1 h K) : CallsH Try.prog 7 #[(.slice A1 l1 c1)] h K :=
  calls_of (args := [(.slice A1 l1 c1)]) (n := 41) (lp := quintetlaw05_ExpandBacks_lp) (cut := quintetlaw05_ExpandBacks_cut) Try.func7 (c := bodyOf Try.f7) (by kernel_rfl) (by kernel_rfl) (by kernel_rfl) (good_by (c := (bodyOf Try.f7)) (i := 1) (l := []) (by kernel_rfl) (fun _ h => by cases h))
    (Eq.mp (quintetlaw05_ExpandBacks_eq A1 l1 c1 h K) H)

/-! ### quintet/quintetlaw05.ExpandLeasts: function 8 -/
def quintetlaw05_ExpandLeasts_j1 (K0 : Bool → Hp → Prop) (A19 : Option Addr) (l19 : Nat) (c19 : Nat) (A20 : Option Addr) (l20 : Nat) (c20 : Nat) (x21 : Int) (A22 : Option Addr) (l22 : Nat) (c22 : Nat) (h : Hp) : Prop :=
  CallsH Try.prog 27 #[(.slice A22 l22 c22)] h fun r37 h36 =>
  r37 = (.tuple #[]) ∧ 
  CallsH Try.prog 34 #[(.slice A19 l19 c19)] h36 fun r39 h38 =>
  ∃ A40 : Option Addr, ∃ l40 : Nat, ∃ c40 : Nat, ∃ x41 : Int, r39 = (.tuple #[(.slice A40 l40 c40), (.int .i64 x41)]) ∧ 
  CallsH Try.prog 28 #[] h38 fun r43 h42 =>
  ∃ b44 : Bool, r43 = (.bool b44) ∧ 
  br b44
  (br (x41 == x21)
  (CallsH Try.prog 26 #[(.slice A40 l40 c40), (.slice A20 l20 c20)] h42 fun r46 h45 =>
  ∃ b47 : Bool, r46 = (.bool b47) ∧ 
  K0 b47 h45)
  (K0 false h42))
  (K0 false h42)
def quintetlaw05_ExpandLeasts_j1_L (Q : Qx) (tm : Tm) (h : Hp) : Prop :=
  selS (tm 0) fun A19 l19 c19 =>
  selS (tm 3) fun A20 l20 c20 =>
  selI .i64 (tm 4) fun x21 =>
  selS (tm 6) fun A22 l22 c22 =>
  quintetlaw05_ExpandLeasts_j1 (fun (b35 : Bool) h => Q (.ret) (mkTm [(2, some (.bool b35))]) h) A19 l19 c19 A20 l20 c20 x21 A22 l22 c22 h
def quintetlaw05_ExpandLeasts (A1 : Option Addr) (l1 : Nat) (c1 : Nat) (h : Hp) (K : Value → Hp → Prop) : Prop :=
  br (decide ((l1 : Int) > 1048576))
  (K (.bool true) h)
  (CallsH Try.prog 33 #[(.slice A1 l1 c1)] h fun r3 h2 =>
  ∃ A4 : Option Addr, ∃ l4 : Nat, ∃ c4 : Nat, ∃ x5 : Int, r3 = (.tuple #[(.slice A4 l4 c4), (.int .i64 x5)]) ∧ 
  CallsH Try.prog 30 #[(.slice A1 l1 c1)] h2 fun r7 h6 =>
  ∃ A8 : Option Addr, ∃ l8 : Nat, ∃ c8 : Nat, r7 = (.slice A8 l8 c8) ∧ 
  CallsH Try.prog 34 #[(.slice A8 l8 c8)] h6 fun r10 h9 =>
  ∃ A11 : Option Addr, ∃ l11 : Nat, ∃ c11 : Nat, ∃ x12 : Int, r10 = (.tuple #[(.slice A11 l11 c11), (.int .i64 x12)]) ∧ 
  CallsH Try.prog 32 #[(.slice A8 l8 c8), (.slice A1 l1 c1)] h9 fun r49 h48 =>
  ∃ b50 : Bool, r49 = (.bool b50) ∧ 
  br (!b50)
  (K (.bool false) h48)
  (br (x12 != x5)
  (K (.bool false) h48)
  (CallsH Try.prog 26 #[(.slice A11 l11 c11), (.slice A4 l4 c4)] h48 fun r52 h51 =>
  ∃ b53 : Bool, r52 = (.bool b53) ∧ 
  br (!b53)
  (K (.bool false) h51)
  (quintetlaw05_ExpandLeasts_j1
  (fun (b54 : Bool) (h55 : Hp) =>
  K (.bool b54) h55)
  A1 l1 c1 A4 l4 c4 x5 A11 l11 c11 h51))))
def quintetlaw05_ExpandLeasts_lp (i : Nat) (Q : Qx) (tm : Tm) (h : Hp) : Prop := match Nat.beq i 63 with
  | true => quintetlaw05_ExpandLeasts_j1_L Q tm h
  | false => False
def quintetlaw05_ExpandLeasts_cut (i : Nat) : Option (List Nat) := match Nat.beq i 63 with
  | true => some [0, 3, 4, 6]
  | false => none
set_option maxRecDepth 100000 in
theorem quintetlaw05_ExpandLeasts_j1_step (Q : Qx) (A19 : Option Addr) (l19 : Nat) (c19 : Nat) (A20 : Option Addr) (l20 : Nat) (c20 : Nat) (x21 : Int) (A22 : Option Addr) (l22 : Nat) (c22 : Nat) (h : Hp) : quintetlaw05_ExpandLeasts_j1_L Q (mkTm [(0, some (.slice A19 l19 c19)), (3, some (.slice A20 l20 c20)), (4, some (.int .i64 x21)), (6, some (.slice A22 l22 c22))]) h =
    codeWp Try.prog 58 quintetlaw05_ExpandLeasts_lp quintetlaw05_ExpandLeasts_cut (sub (bodyOf Try.f8) [true, true, true, true, true, true]) 127 (maskQ (fun e => match e with | .ret => [2] | _ => []) Q) (mkTm [(0, some (.slice A19 l19 c19)), (3, some (.slice A20 l20 c20)), (4, some (.int .i64 x21)), (6, some (.slice A22 l22 c22))]) h := by kernel_rfl
theorem quintetlaw05_ExpandLeasts_j1_mask (Q : Qx) (tm : Tm) (h : Hp) : quintetlaw05_ExpandLeasts_j1_L Q tm h ↔ quintetlaw05_ExpandLeasts_j1_L Q (mask [0, 3, 4, 6] tm) h := Iff.rfl
set_option maxRecDepth 100000 in
theorem quintetlaw05_ExpandLeasts_j1_snd : SndAt Try.prog 58 none (sub (bodyOf Try.f8) [true, true, true, true, true, true]) (quintetlaw05_ExpandLeasts_lp 63) := by
  refine join_sound (lp := quintetlaw05_ExpandLeasts_lp) (cut := quintetlaw05_ExpandLeasts_cut) (i := 63) (c := (sub (bodyOf Try.f8) [true, true, true, true, true, true])) [0, 3, 4, 6] (fun e => match e with | .ret => [2] | _ => []) quintetlaw05_ExpandLeasts_j1_L ?_ ?_
  · exact good_by (c := (sub (bodyOf Try.f8) [true, true, true, true, true, true])) (i := 127) (l := []) (by kernel_rfl) (fun _ h => by cases h)
  · intro Q tm h H
    have H0 := H
    obtain ⟨A19, l19, c19, e0, H⟩ := selS_ex H
    obtain ⟨A20, l20, c20, e3, H⟩ := selS_ex H
    obtain ⟨x21, e4, H⟩ := selI_ex H
    obtain ⟨A22, l22, c22, e6, H⟩ := selS_ex H
    have e : mask [0, 3, 4, 6] tm = mkTm [(0, some (.slice A19 l19 c19)), (3, some (.slice A20 l20 c20)), (4, some (.int .i64 x21)), (6, some (.slice A22 l22 c22))] := by simp only [mask, List.map_cons, List.map_nil, e0, e3, e4, e6] <;> rfl
    rw [e]
    refine Eq.mp (quintetlaw05_ExpandLeasts_j1_step Q A19 l19 c19 A20 l20 c20 x21 A22 l22 c22 h) ?_
    rw [← e]
    exact (quintetlaw05_ExpandLeasts_j1_mask Q tm h).mp H0
set_option maxRecDepth 100000 in
theorem quintetlaw05_ExpandLeasts_eq (A1 : Option Addr) (l1 : Nat) (c1 : Nat) (h : Hp) (K : Value → Hp → Prop) : quintetlaw05_ExpandLeasts A1 l1 c1 h K =
    codeWp Try.prog 58 quintetlaw05_ExpandLeasts_lp quintetlaw05_ExpandLeasts_cut (bodyOf Try.f8) 1 (endQ Try.prog Try.f8.results.toList K) (argTm [(.slice A1 l1 c1)]) h := by kernel_rfl
set_option maxRecDepth 100000 in
theorem quintetlaw05_ExpandLeasts_ok (A1 : Option Addr) (l1 : Nat) (c1 : Nat) {h : Hp} {K : Value → Hp → Prop} (H : quintetlaw05_ExpandLeasts A1 l1 c1 h K) : CallsH Try.prog 8 #[(.slice A1 l1 c1)] h K :=
  calls_of (args := [(.slice A1 l1 c1)]) (n := 58) (lp := quintetlaw05_ExpandLeasts_lp) (cut := quintetlaw05_ExpandLeasts_cut) Try.func8 (c := bodyOf Try.f8) (by kernel_rfl) (by kernel_rfl) (by kernel_rfl) (good_by (c := (bodyOf Try.f8)) (i := 1) (l := [(63, (sub (bodyOf Try.f8) [true, true, true, true, true, true]))]) (by kernel_rfl) (List.forall_mem_cons.2 ⟨quintetlaw05_ExpandLeasts_j1_snd, (fun _ h => by cases h)⟩))
    (Eq.mp (quintetlaw05_ExpandLeasts_eq A1 l1 c1 h K) H)

/-! ### quintet/quintetlaw05.ExpandChecks: function 9 -/
def quintetlaw05_ExpandChecks (x1 : Int) (x2 : Int) (x3 : Int) (h : Hp) (K : Value → Hp → Prop) : Prop :=
  newC h (.cells #[(.int .u16 x1), (.int .i64 x2)] 49 (0, 0)) fun a5 h4 => 
  ∃ x6 : Int, ∃ x7 : Int, HV Try.prog (Instr.loadAt 49 (.pointer (some a5))) h4 (.agg #[(.int .u16 x6), (.int .i64 x7)]) ∧ 
  CallsH Try.prog 35 #[(.agg #[(.int .u16 x6), (.int .i64 x7)])] h4 fun r9 h8 =>
  ∃ x10 : Int, ∃ x11 : Int, ∃ x12 : Int, r9 = (.tuple #[(.agg #[(.int .u16 x10), (.int .u16 x11)]), (.int .i64 x12)]) ∧ 
  newC h8 (.cells #[(.int .u16 0), (.int .u16 0)] 24 (0, 0)) fun a14 h13 => 
  HU Try.prog (Instr.storeAt 24 (.pointer (some a14)) (.agg #[(.int .u16 x10), (.int .u16 x11)])) h13 fun h15 => 
  ∃ x16 : Int, ∃ x17 : Int, HV Try.prog (Instr.loadAt 49 (.pointer (some a5))) h15 (.agg #[(.int .u16 x16), (.int .i64 x17)]) ∧ 
  CallsH Try.prog 36 #[(.agg #[(.int .u16 x16), (.int .i64 x17)])] h15 fun r19 h18 =>
  ∃ x20 : Int, ∃ x21 : Int, ∃ x22 : Int, r19 = (.tuple #[(.agg #[(.int .u16 x20), (.int .u16 x21)]), (.int .i64 x22)]) ∧ 
  newC h18 (.cells #[(.int .u16 0), (.int .u16 0)] 24 (0, 0)) fun a24 h23 => 
  HU Try.prog (Instr.storeAt 24 (.pointer (some a24)) (.agg #[(.int .u16 x20), (.int .u16 x21)])) h23 fun h25 => 
  CallsH Try.prog 28 #[] h25 fun r27 h26 =>
  ∃ b28 : Bool, r27 = (.bool b28) ∧ 
  br b28
  (∃ x29 : Int, ∃ x30 : Int, HV Try.prog (Instr.loadAt 49 (.pointer (some a5))) h26 (.agg #[(.int .u16 x29), (.int .i64 x30)]) ∧ 
  CallsH Try.prog 37 #[(.agg #[(.int .u16 x29), (.int .i64 x30)])] h26 fun r32 h31 =>
  ∃ x33 : Int, r32 = (.int .i64 x33) ∧ 
  ∃ x34 : Int, ∃ x35 : Int, HV Try.prog (Instr.loadAt 49 (.pointer (some a5))) h31 (.agg #[(.int .u16 x34), (.int .i64 x35)]) ∧ HV Try.prog (Instr.loadAt 49 (.pointer (some a5))) h26 (.agg #[(.int .u16 x34), (.int .i64 x35)]) ∧ 
  CallsH Try.prog 38 #[(.agg #[(.int .u16 x34), (.int .i64 x35)])] h31 fun r37 h36 =>
  ∃ x38 : Int, r37 = (.int .i64 x38) ∧ 
  br (x33 == x38)
  (∃ x39 : Int, ∃ x40 : Int, HV Try.prog (Instr.loadAt 49 (.pointer (some a5))) h36 (.agg #[(.int .u16 x39), (.int .i64 x40)]) ∧ 
  CallsH Try.prog 39 #[(.agg #[(.int .u16 x39), (.int .i64 x40)]), (.int .u16 x3)] h36 fun r42 h41 =>
  ∃ b43 : Bool, r42 = (.bool b43) ∧ 
  ∃ x44 : Int, ∃ x45 : Int, HV Try.prog (Instr.loadAt 49 (.pointer (some a5))) h41 (.agg #[(.int .u16 x44), (.int .i64 x45)]) ∧ HV Try.prog (Instr.loadAt 49 (.pointer (some a5))) h36 (.agg #[(.int .u16 x44), (.int .i64 x45)]) ∧ 
  CallsH Try.prog 40 #[(.agg #[(.int .u16 x44), (.int .i64 x45)]), (.int .u16 x3)] h41 fun r47 h46 =>
  ∃ b48 : Bool, r47 = (.bool b48) ∧ 
  br (b43 == b48)
  (∃ x49 : Int, ∃ x50 : Int, HV Try.prog (Instr.loadAt 24 (.pointer (some a14))) h46 (.agg #[(.int .u16 x49), (.int .u16 x50)]) ∧ 
  ∃ x51 : Int, ∃ x52 : Int, HV Try.prog (Instr.loadAt 24 (.pointer (some a24))) h46 (.agg #[(.int .u16 x51), (.int .u16 x52)]) ∧ 
  ∃ b53 : Bool, PV Try.prog (binOp .eql 24 (.agg #[(.int .u16 x49), (.int .u16 x50)]) (.agg #[(.int .u16 x51), (.int .u16 x52)])) (.bool b53) ∧
  br b53
  (K (.bool (x12 == x22)) h46)
  (K (.bool false) h46))
  (K (.bool false) h46))
  (K (.bool false) h36))
  (K (.bool false) h26)
def quintetlaw05_ExpandChecks_lp (i : Nat) (Q : Qx) (tm : Tm) (h : Hp) : Prop := False
def quintetlaw05_ExpandChecks_cut (i : Nat) : Option (List Nat) := none
set_option maxRecDepth 100000 in
theorem quintetlaw05_ExpandChecks_eq (x1 : Int) (x2 : Int) (x3 : Int) (h : Hp) (K : Value → Hp → Prop) : quintetlaw05_ExpandChecks x1 x2 x3 h K =
    codeWp Try.prog 46 quintetlaw05_ExpandChecks_lp quintetlaw05_ExpandChecks_cut (bodyOf Try.f9) 1 (endQ Try.prog Try.f9.results.toList K) (argTm [(.agg #[(.int .u16 x1), (.int .i64 x2)]), (.int .u16 x3)]) h := by kernel_rfl
set_option maxRecDepth 100000 in
theorem quintetlaw05_ExpandChecks_ok (x1 : Int) (x2 : Int) (x3 : Int) {h : Hp} {K : Value → Hp → Prop} (H : quintetlaw05_ExpandChecks x1 x2 x3 h K) : CallsH Try.prog 9 #[(.agg #[(.int .u16 x1), (.int .i64 x2)]), (.int .u16 x3)] h K :=
  calls_of (args := [(.agg #[(.int .u16 x1), (.int .i64 x2)]), (.int .u16 x3)]) (n := 46) (lp := quintetlaw05_ExpandChecks_lp) (cut := quintetlaw05_ExpandChecks_cut) Try.func9 (c := bodyOf Try.f9) (by kernel_rfl) (by kernel_rfl) (by kernel_rfl) (good_by (c := (bodyOf Try.f9)) (i := 1) (l := []) (by kernel_rfl) (fun _ h => by cases h))
    (Eq.mp (quintetlaw05_ExpandChecks_eq x1 x2 x3 h K) H)

/-! ### quintet/quintetlaw05.ExpandRound: function 10 -/
def quintetlaw05_ExpandRound_l1 (x31 : Int) (a32 : Addr) (A33 : Option Addr) (l33 : Nat) (c33 : Nat) (x34 : Int) (x35 : Int) (x36 : Int) (A37 : Option Addr) (l37 : Nat) (c37 : Nat) (x38 : Int) (A39 : Option Addr) (l39 : Nat) (c39 : Nat) (x40 : Int) (K0 : Bool → Hp → Prop) (K1 : Int → Addr → (Option Addr) → Nat → Nat → Int → Int → Int → (Option Addr) → Nat → Nat → Int → (Option Addr) → Nat → Nat → Int → Int → Int → Hp → Prop)  : Nat → Int → Int → Int → Hp → Prop
  | 0, _, _, _, _ => False
  | k + 1, x41, x42, x43, h =>
    br (decide (x43 < (l33 : Int)))
    (∃ a86 : Addr, PV Try.prog (Instr.indexAt 34 (.slice A33 l33 c33) (.int .i64 x43)) (.pointer (some a86)) ∧
    ∃ x87 : Int, ∃ x88 : Int, HV Try.prog (Instr.loadAt 49 (.pointer (some a86))) h (.agg #[(.int .u16 x87), (.int .i64 x88)]) ∧ 
    CallsH Try.prog 35 #[(.agg #[(.int .u16 x87), (.int .i64 x88)])] h fun r90 h89 =>
    ∃ x91 : Int, ∃ x92 : Int, ∃ x93 : Int, r90 = (.tuple #[(.agg #[(.int .u16 x91), (.int .u16 x92)]), (.int .i64 x93)]) ∧ 
    newC h89 (.cells #[(.int .u16 0), (.int .u16 0)] 24 (0, 0)) fun a95 h94 => 
    HU Try.prog (Instr.storeAt 24 (.pointer (some a95)) (.agg #[(.int .u16 x91), (.int .u16 x92)])) h94 fun h96 => 
    ∃ x97 : Int, ∃ x98 : Int, HV Try.prog (Instr.loadAt 24 (.pointer (some a95))) h96 (.agg #[(.int .u16 x97), (.int .u16 x98)]) ∧ 
    CallsH Try.prog 41 #[(.agg #[(.int .u16 x97), (.int .u16 x98)])] h96 fun r100 h99 =>
    ∃ x101 : Int, r100 = (.int .i64 x101) ∧ 
    br (x93 != 0)
    (K0 false h99)
    (∃ x102 : Int, ∃ x103 : Int, HV Try.prog (Instr.loadAt 24 (.pointer (some a95))) h99 (.agg #[(.int .u16 x102), (.int .u16 x103)]) ∧ 
    ∃ x104 : Int, ∃ x105 : Int, HV Try.prog (Instr.loadAt 24 (.pointer (some a32))) h99 (.agg #[(.int .u16 x104), (.int .u16 x105)]) ∧ 
    CallsH Try.prog 42 #[(.agg #[(.int .u16 x102), (.int .u16 x103)]), (.agg #[(.int .u16 x104), (.int .u16 x105)])] h99 fun r107 h106 =>
    ∃ b108 : Bool, r107 = (.bool b108) ∧ 
    br (!b108)
    (K0 false h106)
    (∃ a109 : Addr, PV Try.prog (Instr.indexAt 34 (.slice A33 l33 c33) (.int .i64 x43)) (.pointer (some a109)) ∧
    ∃ x110 : Int, ∃ x111 : Int, HV Try.prog (Instr.loadAt 49 (.pointer (some a109))) h106 (.agg #[(.int .u16 x110), (.int .i64 x111)]) ∧ 
    CallsH Try.prog 39 #[(.agg #[(.int .u16 x110), (.int .i64 x111)]), (.int .u16 x31)] h106 fun r113 h112 =>
    ∃ b114 : Bool, r113 = (.bool b114) ∧ 
    br b114
    (quintetlaw05_ExpandRound_l1 x31 a32 A33 l33 c33 x34 x35 x36 A37 l37 c37 x38 A39 l39 c39 x40 K0 K1 k (IntKind.i64.wrap (x41 + 1)) (IntKind.i64.wrap (x42 + x101)) (IntKind.i64.wrap (x43 + 1)) h112)
    (quintetlaw05_ExpandRound_l1 x31 a32 A33 l33 c33 x34 x35 x36 A37 l37 c37 x38 A39 l39 c39 x40 K0 K1 k x41 (IntKind.i64.wrap (x42 + x101)) (IntKind.i64.wrap (x43 + 1)) h112))))
    (K1 x31 a32 A33 l33 c33 x34 x35 x36 A37 l37 c37 x38 A39 l39 c39 x40 x41 x42 h)
def quintetlaw05_ExpandRound_l1_L (Q : Qx) (k : Nat) (tm : Tm) (h : Hp) : Prop :=
  selI .u16 (tm 1) fun x31 =>
  selA (tm 2) fun a32 =>
  selS (tm 5) fun A33 l33 c33 =>
  selI .i64 (tm 6) fun x34 =>
  selI .i64 (tm 7) fun x35 =>
  selI .i64 (tm 8) fun x36 =>
  selS (tm 9) fun A37 l37 c37 =>
  selI .i64 (tm 10) fun x38 =>
  selS (tm 11) fun A39 l39 c39 =>
  selI .i64 (tm 12) fun x40 =>
  selI .i64 (tm 13) fun x41 =>
  selI .i64 (tm 14) fun x42 =>
  selI .i64 (tm 15) fun x43 =>
  quintetlaw05_ExpandRound_l1 x31 a32 A33 l33 c33 x34 x35 x36 A37 l37 c37 x38 A39 l39 c39 x40 (fun (b73 : Bool) h => Q (.ret) (mkTm [(4, some (.bool b73))]) h) (fun (x74 : Int) (a75 : Addr) (A76 : Option Addr) (l76 : Nat) (c76 : Nat) (x77 : Int) (x78 : Int) (x79 : Int) (A80 : Option Addr) (l80 : Nat) (c80 : Nat) (x81 : Int) (A82 : Option Addr) (l82 : Nat) (c82 : Nat) (x83 : Int) (x84 : Int) (x85 : Int) h => Q (.exit 0) (mkTm [(1, some (.int .u16 x74)), (2, some (.pointer (some a75))), (5, some (.slice A76 l76 c76)), (6, some (.int .i64 x77)), (7, some (.int .i64 x78)), (8, some (.int .i64 x79)), (9, some (.slice A80 l80 c80)), (10, some (.int .i64 x81)), (11, some (.slice A82 l82 c82)), (12, some (.int .i64 x83)), (13, some (.int .i64 x84)), (14, some (.int .i64 x85))]) h) k x41 x42 x43 h
def quintetlaw05_ExpandRound_j2 (K0 : Bool → Hp → Prop) (x130 : Int) (a131 : Addr) (A132 : Option Addr) (l132 : Nat) (c132 : Nat) (A133 : Option Addr) (l133 : Nat) (c133 : Nat) (A134 : Option Addr) (l134 : Nat) (c134 : Nat) (x135 : Int) (x136 : Int) (b137 : Bool) (h : Hp) : Prop :=
  CallsH Try.prog 28 #[] h fun r162 h161 =>
  ∃ b163 : Bool, r162 = (.bool b163) ∧ 
  br b163
  (br b137
  (br ((l133 : Int) == 1)
  (∃ a164 : Addr, PV Try.prog (Instr.indexAt 25 (.slice A133 l133 c133) (.int .i64 0)) (.pointer (some a164)) ∧
  ∃ x165 : Int, ∃ x166 : Int, HV Try.prog (Instr.loadAt 24 (.pointer (some a164))) h161 (.agg #[(.int .u16 x165), (.int .u16 x166)]) ∧ 
  ∃ x167 : Int, ∃ x168 : Int, HV Try.prog (Instr.loadAt 24 (.pointer (some a131))) h161 (.agg #[(.int .u16 x167), (.int .u16 x168)]) ∧ 
  ∃ b169 : Bool, PV Try.prog (binOp .eql 24 (.agg #[(.int .u16 x165), (.int .u16 x166)]) (.agg #[(.int .u16 x167), (.int .u16 x168)])) (.bool b169) ∧
  br b169
  (CallsH Try.prog 26 #[(.slice A134 l134 c134), (.slice A132 l132 c132)] h161 fun r171 h170 =>
  ∃ b172 : Bool, r171 = (.bool b172) ∧ 
  br b172
  (∃ x173 : Int, ∃ x174 : Int, HV Try.prog (Instr.loadAt 24 (.pointer (some a131))) h170 (.agg #[(.int .u16 x173), (.int .u16 x174)]) ∧ 
  CallsH Try.prog 41 #[(.agg #[(.int .u16 x173), (.int .u16 x174)])] h170 fun r176 h175 =>
  ∃ x177 : Int, r176 = (.int .i64 x177) ∧ 
  br (x136 == x177)
  (∃ x178 : Int, ∃ x179 : Int, HV Try.prog (Instr.loadAt 24 (.pointer (some a131))) h175 (.agg #[(.int .u16 x178), (.int .u16 x179)]) ∧ 
  CallsH Try.prog 43 #[(.agg #[(.int .u16 x178), (.int .u16 x179)]), (.int .u16 x130)] h175 fun r181 h180 =>
  ∃ b182 : Bool, r181 = (.bool b182) ∧ 
  br ((x135 == 1) == b182)
  (K0 (decide (x135 ≤ 1)) h180)
  (K0 false h180))
  (K0 false h175))
  (K0 false h170))
  (K0 false h161))
  (K0 false h161))
  (K0 false h161))
  (K0 false h161)
def quintetlaw05_ExpandRound_j2_L (Q : Qx) (tm : Tm) (h : Hp) : Prop :=
  selI .u16 (tm 1) fun x130 =>
  selA (tm 2) fun a131 =>
  selS (tm 5) fun A132 l132 c132 =>
  selS (tm 9) fun A133 l133 c133 =>
  selS (tm 11) fun A134 l134 c134 =>
  selI .i64 (tm 13) fun x135 =>
  selI .i64 (tm 14) fun x136 =>
  selB (tm 18) fun b137 =>
  quintetlaw05_ExpandRound_j2 (fun (b160 : Bool) h => Q (.ret) (mkTm [(4, some (.bool b160))]) h) x130 a131 A132 l132 c132 A133 l133 c133 A134 l134 c134 x135 x136 b137 h
def quintetlaw05_ExpandRound (x1 : Int) (x2 : Int) (x3 : Int) (h : Hp) (K : Value → Hp → Prop) : Prop :=
  newC h (.cells #[(.int .u16 x1), (.int .u16 x2)] 24 (0, 0)) fun a5 h4 => 
  ∃ x6 : Int, ∃ x7 : Int, HV Try.prog (Instr.loadAt 24 (.pointer (some a5))) h4 (.agg #[(.int .u16 x6), (.int .u16 x7)]) ∧ 
  CallsH Try.prog 25 #[(.agg #[(.int .u16 x6), (.int .u16 x7)])] h4 fun r9 h8 =>
  ∃ A10 : Option Addr, ∃ l10 : Nat, ∃ c10 : Nat, ∃ x11 : Int, r9 = (.tuple #[(.slice A10 l10 c10), (.int .i64 x11)]) ∧ 
  ∃ x12 : Int, ∃ x13 : Int, HV Try.prog (Instr.loadAt 24 (.pointer (some a5))) h8 (.agg #[(.int .u16 x12), (.int .u16 x13)]) ∧ 
  CallsH Try.prog 24 #[(.agg #[(.int .u16 x12), (.int .u16 x13)])] h8 fun r15 h14 =>
  ∃ x16 : Int, ∃ x17 : Int, r15 = (.tuple #[(.int .i64 x16), (.int .i64 x17)]) ∧ 
  ∃ x18 : Int, HV Try.prog (Instr.loadAt 22 (.pointer (some a5))) h14 (.int .u16 x18) ∧ 
  ∃ x19 : Int, HV Try.prog (Instr.loadAt 22 (.pointer (some (a5.add 1)))) h14 (.int .u16 x19) ∧ 
  br (decide (x18 > x19))
  (CallsH Try.prog 28 #[] h14 fun r21 h20 =>
  ∃ b22 : Bool, r21 = (.bool b22) ∧ 
  br b22
  (br (x11 == 30)
  (br (x17 == 30)
  (br ((l10 : Int) == 0)
  (K (.bool (x16 == 0)) h20)
  (K (.bool false) h20))
  (K (.bool false) h20))
  (K (.bool false) h20))
  (K (.bool false) h20))
  (CallsH Try.prog 31 #[(.slice A10 l10 c10)] h14 fun r24 h23 =>
  ∃ A25 : Option Addr, ∃ l25 : Nat, ∃ c25 : Nat, ∃ x26 : Int, r24 = (.tuple #[(.slice A25 l25 c25), (.int .i64 x26)]) ∧ 
  CallsH Try.prog 34 #[(.slice A10 l10 c10)] h23 fun r28 h27 =>
  ∃ A29 : Option Addr, ∃ l29 : Nat, ∃ c29 : Nat, ∃ x30 : Int, r28 = (.tuple #[(.slice A29 l29 c29), (.int .i64 x30)]) ∧ 
  ∃ k197, quintetlaw05_ExpandRound_l1 x3 a5 A10 l10 c10 x11 x16 x17 A25 l25 c25 x26 A29 l29 c29 x30
  (fun (b115 : Bool) (h116 : Hp) =>
  K (.bool b115) h116)
  (fun (x117 : Int) (a118 : Addr) (A119 : Option Addr) (l119 : Nat) (c119 : Nat) (x120 : Int) (x121 : Int) (x122 : Int) (A123 : Option Addr) (l123 : Nat) (c123 : Nat) (x124 : Int) (A125 : Option Addr) (l125 : Nat) (c125 : Nat) (x126 : Int) (x127 : Int) (x128 : Int) (h129 : Hp) =>
  br (x120 == 0)
  (br (x122 == 0)
  (br (x124 == 0)
  (br (x126 == 0)
  (br (x121 == (l119 : Int))
  (br (decide (x121 ≥ 1))
  (quintetlaw05_ExpandRound_j2
  (fun (b183 : Bool) (h184 : Hp) =>
  K (.bool b183) h184)
  x117 a118 A119 l119 c119 A123 l123 c123 A125 l125 c125 x127 x128 (decide (x121 ≤ 30)) h129)
  (quintetlaw05_ExpandRound_j2
  (fun (b185 : Bool) (h186 : Hp) =>
  K (.bool b185) h186)
  x117 a118 A119 l119 c119 A123 l123 c123 A125 l125 c125 x127 x128 false h129))
  (quintetlaw05_ExpandRound_j2
  (fun (b187 : Bool) (h188 : Hp) =>
  K (.bool b187) h188)
  x117 a118 A119 l119 c119 A123 l123 c123 A125 l125 c125 x127 x128 false h129))
  (quintetlaw05_ExpandRound_j2
  (fun (b189 : Bool) (h190 : Hp) =>
  K (.bool b189) h190)
  x117 a118 A119 l119 c119 A123 l123 c123 A125 l125 c125 x127 x128 false h129))
  (quintetlaw05_ExpandRound_j2
  (fun (b191 : Bool) (h192 : Hp) =>
  K (.bool b191) h192)
  x117 a118 A119 l119 c119 A123 l123 c123 A125 l125 c125 x127 x128 false h129))
  (quintetlaw05_ExpandRound_j2
  (fun (b193 : Bool) (h194 : Hp) =>
  K (.bool b193) h194)
  x117 a118 A119 l119 c119 A123 l123 c123 A125 l125 c125 x127 x128 false h129))
  (quintetlaw05_ExpandRound_j2
  (fun (b195 : Bool) (h196 : Hp) =>
  K (.bool b195) h196)
  x117 a118 A119 l119 c119 A123 l123 c123 A125 l125 c125 x127 x128 false h129))
  k197 0 0 0 h27)
def quintetlaw05_ExpandRound_lp (i : Nat) (Q : Qx) (tm : Tm) (h : Hp) : Prop := match Nat.beq i 4090 with
  | true => ∃ k, quintetlaw05_ExpandRound_l1_L Q k tm h
  | false => match Nat.beq i 1023 with
  | true => quintetlaw05_ExpandRound_j2_L Q tm h
  | false => False
def quintetlaw05_ExpandRound_cut (i : Nat) : Option (List Nat) := match Nat.beq i 1023 with
  | true => some [1, 2, 5, 9, 11, 13, 14, 18]
  | false => none
set_option maxRecDepth 100000 in
theorem quintetlaw05_ExpandRound_l1_step (Q : Qx) (k : Nat) (x31 : Int) (a32 : Addr) (A33 : Option Addr) (l33 : Nat) (c33 : Nat) (x34 : Int) (x35 : Int) (x36 : Int) (A37 : Option Addr) (l37 : Nat) (c37 : Nat) (x38 : Int) (A39 : Option Addr) (l39 : Nat) (c39 : Nat) (x40 : Int) (x41 : Int) (x42 : Int) (x43 : Int) (h : Hp) : quintetlaw05_ExpandRound_l1_L Q (k + 1) (mkTm [(1, some (.int .u16 x31)), (2, some (.pointer (some a32))), (5, some (.slice A33 l33 c33)), (6, some (.int .i64 x34)), (7, some (.int .i64 x35)), (8, some (.int .i64 x36)), (9, some (.slice A37 l37 c37)), (10, some (.int .i64 x38)), (11, some (.slice A39 l39 c39)), (12, some (.int .i64 x40)), (13, some (.int .i64 x41)), (14, some (.int .i64 x42)), (15, some (.int .i64 x43))]) h =
    codeWp Try.prog 163 quintetlaw05_ExpandRound_lp quintetlaw05_ExpandRound_cut (sub (bodyOf Try.f10) [true, true, true, true, true, true, true, true, false, true, false, false]) 8180 (thenQ (fun tm h => quintetlaw05_ExpandRound_l1_L Q k (mask [1, 2, 5, 6, 7, 8, 9, 10, 11, 12, 13, 14, 15] tm) h) (maskQ (fun e => match e with | .ret => [4] | .exit 0 => [1, 2, 5, 6, 7, 8, 9, 10, 11, 12, 13, 14] | _ => []) Q)) (mkTm [(1, some (.int .u16 x31)), (2, some (.pointer (some a32))), (5, some (.slice A33 l33 c33)), (6, some (.int .i64 x34)), (7, some (.int .i64 x35)), (8, some (.int .i64 x36)), (9, some (.slice A37 l37 c37)), (10, some (.int .i64 x38)), (11, some (.slice A39 l39 c39)), (12, some (.int .i64 x40)), (13, some (.int .i64 x41)), (14, some (.int .i64 x42)), (15, some (.int .i64 x43))]) h := by kernel_rfl
theorem quintetlaw05_ExpandRound_l1_mask (Q : Qx) (k : Nat) (tm : Tm) (h : Hp) : quintetlaw05_ExpandRound_l1_L Q k tm h ↔ quintetlaw05_ExpandRound_l1_L Q k (mask [1, 2, 5, 6, 7, 8, 9, 10, 11, 12, 13, 14, 15] tm) h := Iff.rfl
set_option maxRecDepth 100000 in
theorem quintetlaw05_ExpandRound_l1_snd : SndAt Try.prog 163 none (sub (bodyOf Try.f10) [true, true, true, true, true, true, true, true, false, true, false]) (quintetlaw05_ExpandRound_lp 4090) := by
  refine loop_sound (lp := quintetlaw05_ExpandRound_lp) (cut := quintetlaw05_ExpandRound_cut) (i := 4090) (c := (sub (bodyOf Try.f10) [true, true, true, true, true, true, true, true, false, true, false, false])) [1, 2, 5, 6, 7, 8, 9, 10, 11, 12, 13, 14, 15] (fun e => match e with | .ret => [4] | .exit 0 => [1, 2, 5, 6, 7, 8, 9, 10, 11, 12, 13, 14] | _ => []) quintetlaw05_ExpandRound_l1_L ?_ ?_ ?_
  · exact good_by (c := (sub (bodyOf Try.f10) [true, true, true, true, true, true, true, true, false, true, false, false])) (i := 8180) (l := []) (by kernel_rfl) (fun _ h => by cases h)
  · intro Q tm h H
    obtain ⟨x31, e1, H⟩ := selI_ex H
    obtain ⟨a32, e2, H⟩ := selA_ex H
    obtain ⟨A33, l33, c33, e5, H⟩ := selS_ex H
    obtain ⟨x34, e6, H⟩ := selI_ex H
    obtain ⟨x35, e7, H⟩ := selI_ex H
    obtain ⟨x36, e8, H⟩ := selI_ex H
    obtain ⟨A37, l37, c37, e9, H⟩ := selS_ex H
    obtain ⟨x38, e10, H⟩ := selI_ex H
    obtain ⟨A39, l39, c39, e11, H⟩ := selS_ex H
    obtain ⟨x40, e12, H⟩ := selI_ex H
    obtain ⟨x41, e13, H⟩ := selI_ex H
    obtain ⟨x42, e14, H⟩ := selI_ex H
    obtain ⟨x43, e15, H⟩ := selI_ex H
    exact H
  · intro Q k tm h H
    have H0 := H
    obtain ⟨x31, e1, H⟩ := selI_ex H
    obtain ⟨a32, e2, H⟩ := selA_ex H
    obtain ⟨A33, l33, c33, e5, H⟩ := selS_ex H
    obtain ⟨x34, e6, H⟩ := selI_ex H
    obtain ⟨x35, e7, H⟩ := selI_ex H
    obtain ⟨x36, e8, H⟩ := selI_ex H
    obtain ⟨A37, l37, c37, e9, H⟩ := selS_ex H
    obtain ⟨x38, e10, H⟩ := selI_ex H
    obtain ⟨A39, l39, c39, e11, H⟩ := selS_ex H
    obtain ⟨x40, e12, H⟩ := selI_ex H
    obtain ⟨x41, e13, H⟩ := selI_ex H
    obtain ⟨x42, e14, H⟩ := selI_ex H
    obtain ⟨x43, e15, H⟩ := selI_ex H
    have e : mask [1, 2, 5, 6, 7, 8, 9, 10, 11, 12, 13, 14, 15] tm = mkTm [(1, some (.int .u16 x31)), (2, some (.pointer (some a32))), (5, some (.slice A33 l33 c33)), (6, some (.int .i64 x34)), (7, some (.int .i64 x35)), (8, some (.int .i64 x36)), (9, some (.slice A37 l37 c37)), (10, some (.int .i64 x38)), (11, some (.slice A39 l39 c39)), (12, some (.int .i64 x40)), (13, some (.int .i64 x41)), (14, some (.int .i64 x42)), (15, some (.int .i64 x43))] := by simp only [mask, List.map_cons, List.map_nil, e1, e2, e5, e6, e7, e8, e9, e10, e11, e12, e13, e14, e15] <;> rfl
    rw [e]
    refine Eq.mp (quintetlaw05_ExpandRound_l1_step Q k x31 a32 A33 l33 c33 x34 x35 x36 A37 l37 c37 x38 A39 l39 c39 x40 x41 x42 x43 h) ?_
    rw [← e]
    exact (quintetlaw05_ExpandRound_l1_mask Q (k + 1) tm h).mp H0
set_option maxRecDepth 100000 in
theorem quintetlaw05_ExpandRound_j2_step (Q : Qx) (x130 : Int) (a131 : Addr) (A132 : Option Addr) (l132 : Nat) (c132 : Nat) (A133 : Option Addr) (l133 : Nat) (c133 : Nat) (A134 : Option Addr) (l134 : Nat) (c134 : Nat) (x135 : Int) (x136 : Int) (b137 : Bool) (h : Hp) : quintetlaw05_ExpandRound_j2_L Q (mkTm [(1, some (.int .u16 x130)), (2, some (.pointer (some a131))), (5, some (.slice A132 l132 c132)), (9, some (.slice A133 l133 c133)), (11, some (.slice A134 l134 c134)), (13, some (.int .i64 x135)), (14, some (.int .i64 x136)), (18, some (.bool b137))]) h =
    codeWp Try.prog 163 quintetlaw05_ExpandRound_lp quintetlaw05_ExpandRound_cut (sub (bodyOf Try.f10) [true, true, true, true, true, true, true, true, true, true]) 2047 (maskQ (fun e => match e with | .ret => [4] | _ => []) Q) (mkTm [(1, some (.int .u16 x130)), (2, some (.pointer (some a131))), (5, some (.slice A132 l132 c132)), (9, some (.slice A133 l133 c133)), (11, some (.slice A134 l134 c134)), (13, some (.int .i64 x135)), (14, some (.int .i64 x136)), (18, some (.bool b137))]) h := by kernel_rfl
theorem quintetlaw05_ExpandRound_j2_mask (Q : Qx) (tm : Tm) (h : Hp) : quintetlaw05_ExpandRound_j2_L Q tm h ↔ quintetlaw05_ExpandRound_j2_L Q (mask [1, 2, 5, 9, 11, 13, 14, 18] tm) h := Iff.rfl
set_option maxRecDepth 100000 in
theorem quintetlaw05_ExpandRound_j2_snd : SndAt Try.prog 163 none (sub (bodyOf Try.f10) [true, true, true, true, true, true, true, true, true, true]) (quintetlaw05_ExpandRound_lp 1023) := by
  refine join_sound (lp := quintetlaw05_ExpandRound_lp) (cut := quintetlaw05_ExpandRound_cut) (i := 1023) (c := (sub (bodyOf Try.f10) [true, true, true, true, true, true, true, true, true, true])) [1, 2, 5, 9, 11, 13, 14, 18] (fun e => match e with | .ret => [4] | _ => []) quintetlaw05_ExpandRound_j2_L ?_ ?_
  · exact good_by (c := (sub (bodyOf Try.f10) [true, true, true, true, true, true, true, true, true, true])) (i := 2047) (l := []) (by kernel_rfl) (fun _ h => by cases h)
  · intro Q tm h H
    have H0 := H
    obtain ⟨x130, e1, H⟩ := selI_ex H
    obtain ⟨a131, e2, H⟩ := selA_ex H
    obtain ⟨A132, l132, c132, e5, H⟩ := selS_ex H
    obtain ⟨A133, l133, c133, e9, H⟩ := selS_ex H
    obtain ⟨A134, l134, c134, e11, H⟩ := selS_ex H
    obtain ⟨x135, e13, H⟩ := selI_ex H
    obtain ⟨x136, e14, H⟩ := selI_ex H
    obtain ⟨b137, e18, H⟩ := selB_ex H
    have e : mask [1, 2, 5, 9, 11, 13, 14, 18] tm = mkTm [(1, some (.int .u16 x130)), (2, some (.pointer (some a131))), (5, some (.slice A132 l132 c132)), (9, some (.slice A133 l133 c133)), (11, some (.slice A134 l134 c134)), (13, some (.int .i64 x135)), (14, some (.int .i64 x136)), (18, some (.bool b137))] := by simp only [mask, List.map_cons, List.map_nil, e1, e2, e5, e9, e11, e13, e14, e18] <;> rfl
    rw [e]
    refine Eq.mp (quintetlaw05_ExpandRound_j2_step Q x130 a131 A132 l132 c132 A133 l133 c133 A134 l134 c134 x135 x136 b137 h) ?_
    rw [← e]
    exact (quintetlaw05_ExpandRound_j2_mask Q tm h).mp H0
set_option maxRecDepth 100000 in
theorem quintetlaw05_ExpandRound_eq (x1 : Int) (x2 : Int) (x3 : Int) (h : Hp) (K : Value → Hp → Prop) : quintetlaw05_ExpandRound x1 x2 x3 h K =
    codeWp Try.prog 163 quintetlaw05_ExpandRound_lp quintetlaw05_ExpandRound_cut (bodyOf Try.f10) 1 (endQ Try.prog Try.f10.results.toList K) (argTm [(.agg #[(.int .u16 x1), (.int .u16 x2)]), (.int .u16 x3)]) h := by kernel_rfl
set_option maxRecDepth 100000 in
theorem quintetlaw05_ExpandRound_ok (x1 : Int) (x2 : Int) (x3 : Int) {h : Hp} {K : Value → Hp → Prop} (H : quintetlaw05_ExpandRound x1 x2 x3 h K) : CallsH Try.prog 10 #[(.agg #[(.int .u16 x1), (.int .u16 x2)]), (.int .u16 x3)] h K :=
  calls_of (args := [(.agg #[(.int .u16 x1), (.int .u16 x2)]), (.int .u16 x3)]) (n := 163) (lp := quintetlaw05_ExpandRound_lp) (cut := quintetlaw05_ExpandRound_cut) Try.func10 (c := bodyOf Try.f10) (by kernel_rfl) (by kernel_rfl) (by kernel_rfl) (good_by (c := (bodyOf Try.f10)) (i := 1) (l := [(4090, (sub (bodyOf Try.f10) [true, true, true, true, true, true, true, true, false, true, false])), (1023, (sub (bodyOf Try.f10) [true, true, true, true, true, true, true, true, true, true]))]) (by kernel_rfl) (List.forall_mem_cons.2 ⟨quintetlaw05_ExpandRound_l1_snd, (List.forall_mem_cons.2 ⟨quintetlaw05_ExpandRound_j2_snd, (fun _ h => by cases h)⟩)⟩))
    (Eq.mp (quintetlaw05_ExpandRound_eq x1 x2 x3 h K) H)

/-! ### quintet/quintetlaw05.ExpandMeets: function 11 -/
def quintetlaw05_ExpandMeets_j7 (K0 : Bool → Hp → Prop) (x354 : Int) (a355 : Addr) (b356 : Bool) (b357 : Bool) (b358 : Bool) (h : Hp) : Prop :=
  CallsH Try.prog 28 #[] h fun r384 h383 =>
  ∃ b385 : Bool, r384 = (.bool b385) ∧ 
  br b385
  (br (!b356)
  (br (!b358)
  (br (!b356)
  (K0 true h383)
  (∃ x386 : Int, ∃ x387 : Int, HV Try.prog (Instr.loadAt 24 (.pointer (some a355))) h383 (.agg #[(.int .u16 x386), (.int .u16 x387)]) ∧ 
  CallsH Try.prog 43 #[(.agg #[(.int .u16 x386), (.int .u16 x387)]), (.int .u16 x354)] h383 fun r389 h388 =>
  ∃ b390 : Bool, r389 = (.bool b390) ∧ 
  K0 (b358 == b390) h388))
  (br b356
  (br (!b356)
  (K0 true h383)
  (∃ x391 : Int, ∃ x392 : Int, HV Try.prog (Instr.loadAt 24 (.pointer (some a355))) h383 (.agg #[(.int .u16 x391), (.int .u16 x392)]) ∧ 
  CallsH Try.prog 43 #[(.agg #[(.int .u16 x391), (.int .u16 x392)]), (.int .u16 x354)] h383 fun r394 h393 =>
  ∃ b395 : Bool, r394 = (.bool b395) ∧ 
  K0 (b358 == b395) h393))
  (K0 false h383)))
  (br b357
  (br (!b358)
  (br (!b356)
  (K0 true h383)
  (∃ x396 : Int, ∃ x397 : Int, HV Try.prog (Instr.loadAt 24 (.pointer (some a355))) h383 (.agg #[(.int .u16 x396), (.int .u16 x397)]) ∧ 
  CallsH Try.prog 43 #[(.agg #[(.int .u16 x396), (.int .u16 x397)]), (.int .u16 x354)] h383 fun r399 h398 =>
  ∃ b400 : Bool, r399 = (.bool b400) ∧ 
  K0 (b358 == b400) h398))
  (br b356
  (br (!b356)
  (K0 true h383)
  (∃ x401 : Int, ∃ x402 : Int, HV Try.prog (Instr.loadAt 24 (.pointer (some a355))) h383 (.agg #[(.int .u16 x401), (.int .u16 x402)]) ∧ 
  CallsH Try.prog 43 #[(.agg #[(.int .u16 x401), (.int .u16 x402)]), (.int .u16 x354)] h383 fun r404 h403 =>
  ∃ b405 : Bool, r404 = (.bool b405) ∧ 
  K0 (b358 == b405) h403))
  (K0 false h383)))
  (K0 false h383)))
  (K0 false h383)
def quintetlaw05_ExpandMeets_j7_L (Q : Qx) (tm : Tm) (h : Hp) : Prop :=
  selI .u16 (tm 2) fun x354 =>
  selA (tm 11) fun a355 =>
  selB (tm 12) fun b356 =>
  selB (tm 13) fun b357 =>
  selB (tm 14) fun b358 =>
  quintetlaw05_ExpandMeets_j7 (fun (b382 : Bool) h => Q (.ret) (mkTm [(6, some (.bool b382))]) h) x354 a355 b356 b357 b358 h
def quintetlaw05_ExpandMeets_j6 (K0 : Bool → Hp → Prop) (x261 : Int) (a262 : Addr) (a263 : Addr) (a264 : Addr) (b265 : Bool) (b266 : Bool) (h : Hp) : Prop :=
  ∃ x406 : Int, ∃ x407 : Int, HV Try.prog (Instr.loadAt 49 (.pointer (some a262))) h (.agg #[(.int .u16 x406), (.int .i64 x407)]) ∧ 
  CallsH Try.prog 39 #[(.agg #[(.int .u16 x406), (.int .i64 x407)]), (.int .u16 x261)] h fun r409 h408 =>
  ∃ b410 : Bool, r409 = (.bool b410) ∧ 
  br b410
  (∃ x411 : Int, ∃ x412 : Int, HV Try.prog (Instr.loadAt 49 (.pointer (some a263))) h408 (.agg #[(.int .u16 x411), (.int .i64 x412)]) ∧ 
  CallsH Try.prog 39 #[(.agg #[(.int .u16 x411), (.int .i64 x412)]), (.int .u16 x261)] h408 fun r414 h413 =>
  ∃ b415 : Bool, r414 = (.bool b415) ∧ 
  quintetlaw05_ExpandMeets_j7
  (fun (b416 : Bool) (h417 : Hp) =>
  K0 b416 h417)
  x261 a264 b265 b266 b415 h413)
  (quintetlaw05_ExpandMeets_j7
  (fun (b418 : Bool) (h419 : Hp) =>
  K0 b418 h419)
  x261 a264 b265 b266 false h408)
def quintetlaw05_ExpandMeets_j6_L (Q : Qx) (tm : Tm) (h : Hp) : Prop :=
  selI .u16 (tm 2) fun x261 =>
  selA (tm 3) fun a262 =>
  selA (tm 4) fun a263 =>
  selA (tm 11) fun a264 =>
  selB (tm 12) fun b265 =>
  selB (tm 13) fun b266 =>
  quintetlaw05_ExpandMeets_j6 (fun (b343 : Bool) h => Q (.ret) (mkTm [(6, some (.bool b343))]) h) x261 a262 a263 a264 b265 b266 h
def quintetlaw05_ExpandMeets_j4 (K0 : Bool → Hp → Prop) (x36 : Int) (a37 : Addr) (a38 : Addr) (a39 : Addr) (a40 : Addr) (h : Hp) : Prop :=
  ∃ x239 : Int, ∃ x240 : Int, HV Try.prog (Instr.loadAt 24 (.pointer (some a39))) h (.agg #[(.int .u16 x239), (.int .u16 x240)]) ∧ 
  ∃ x241 : Int, ∃ x242 : Int, HV Try.prog (Instr.loadAt 24 (.pointer (some a40))) h (.agg #[(.int .u16 x241), (.int .u16 x242)]) ∧ 
  CallsH Try.prog 44 #[(.agg #[(.int .u16 x239), (.int .u16 x240)]), (.agg #[(.int .u16 x241), (.int .u16 x242)])] h fun r244 h243 =>
  ∃ x245 : Int, ∃ x246 : Int, ∃ b247 : Bool, r244 = (.tuple #[(.agg #[(.int .u16 x245), (.int .u16 x246)]), (.bool b247)]) ∧ 
  newC h243 (.cells #[(.int .u16 0), (.int .u16 0)] 24 (0, 0)) fun a249 h248 => 
  HU Try.prog (Instr.storeAt 24 (.pointer (some a249)) (.agg #[(.int .u16 x245), (.int .u16 x246)])) h248 fun h250 => 
  br b247
  (∃ x420 : Int, ∃ x421 : Int, HV Try.prog (Instr.loadAt 24 (.pointer (some a249))) h250 (.agg #[(.int .u16 x420), (.int .u16 x421)]) ∧ 
  ∃ x422 : Int, ∃ x423 : Int, HV Try.prog (Instr.loadAt 24 (.pointer (some a39))) h250 (.agg #[(.int .u16 x422), (.int .u16 x423)]) ∧ 
  ∃ b424 : Bool, PV Try.prog (binOp .eql 24 (.agg #[(.int .u16 x420), (.int .u16 x421)]) (.agg #[(.int .u16 x422), (.int .u16 x423)])) (.bool b424) ∧
  br b424
  (quintetlaw05_ExpandMeets_j6
  (fun (b425 : Bool) (h426 : Hp) =>
  K0 b425 h426)
  x36 a37 a38 a249 b247 true h250)
  (∃ x427 : Int, ∃ x428 : Int, HV Try.prog (Instr.loadAt 24 (.pointer (some a249))) h250 (.agg #[(.int .u16 x427), (.int .u16 x428)]) ∧ 
  ∃ x429 : Int, ∃ x430 : Int, HV Try.prog (Instr.loadAt 24 (.pointer (some a40))) h250 (.agg #[(.int .u16 x429), (.int .u16 x430)]) ∧ 
  ∃ b431 : Bool, PV Try.prog (binOp .eql 24 (.agg #[(.int .u16 x427), (.int .u16 x428)]) (.agg #[(.int .u16 x429), (.int .u16 x430)])) (.bool b431) ∧
  quintetlaw05_ExpandMeets_j6
  (fun (b432 : Bool) (h433 : Hp) =>
  K0 b432 h433)
  x36 a37 a38 a249 b247 b431 h250))
  (quintetlaw05_ExpandMeets_j6
  (fun (b434 : Bool) (h435 : Hp) =>
  K0 b434 h435)
  x36 a37 a38 a249 b247 false h250)
def quintetlaw05_ExpandMeets_j4_L (Q : Qx) (tm : Tm) (h : Hp) : Prop :=
  selI .u16 (tm 2) fun x36 =>
  selA (tm 3) fun a37 =>
  selA (tm 4) fun a38 =>
  selA (tm 7) fun a39 =>
  selA (tm 9) fun a40 =>
  quintetlaw05_ExpandMeets_j4 (fun (b238 : Bool) h => Q (.ret) (mkTm [(6, some (.bool b238))]) h) x36 a37 a38 a39 a40 h
def quintetlaw05_ExpandMeets (x1 : Int) (x2 : Int) (x3 : Int) (x4 : Int) (x5 : Int) (h : Hp) (K : Value → Hp → Prop) : Prop :=
  newC h (.cells #[(.int .u16 x1), (.int .i64 x2)] 49 (0, 0)) fun a7 h6 => 
  newC h6 (.cells #[(.int .u16 x3), (.int .i64 x4)] 49 (0, 0)) fun a9 h8 => 
  ∃ x10 : Int, ∃ x11 : Int, HV Try.prog (Instr.loadAt 49 (.pointer (some a7))) h8 (.agg #[(.int .u16 x10), (.int .i64 x11)]) ∧ 
  CallsH Try.prog 35 #[(.agg #[(.int .u16 x10), (.int .i64 x11)])] h8 fun r13 h12 =>
  ∃ x14 : Int, ∃ x15 : Int, ∃ x16 : Int, r13 = (.tuple #[(.agg #[(.int .u16 x14), (.int .u16 x15)]), (.int .i64 x16)]) ∧ 
  newC h12 (.cells #[(.int .u16 0), (.int .u16 0)] 24 (0, 0)) fun a18 h17 => 
  HU Try.prog (Instr.storeAt 24 (.pointer (some a18)) (.agg #[(.int .u16 x14), (.int .u16 x15)])) h17 fun h19 => 
  ∃ x20 : Int, ∃ x21 : Int, HV Try.prog (Instr.loadAt 49 (.pointer (some a9))) h19 (.agg #[(.int .u16 x20), (.int .i64 x21)]) ∧ 
  CallsH Try.prog 35 #[(.agg #[(.int .u16 x20), (.int .i64 x21)])] h19 fun r23 h22 =>
  ∃ x24 : Int, ∃ x25 : Int, ∃ x26 : Int, r23 = (.tuple #[(.agg #[(.int .u16 x24), (.int .u16 x25)]), (.int .i64 x26)]) ∧ 
  newC h22 (.cells #[(.int .u16 0), (.int .u16 0)] 24 (0, 0)) fun a28 h27 => 
  HU Try.prog (Instr.storeAt 24 (.pointer (some a28)) (.agg #[(.int .u16 x24), (.int .u16 x25)])) h27 fun h29 => 
  br (x16 != 0)
  (CallsH Try.prog 28 #[] h29 fun r437 h436 =>
  ∃ b438 : Bool, r437 = (.bool b438) ∧ 
  br b438
  (br (x16 == 50)
  (K (.bool true) h436)
  (K (.bool (x26 == 50)) h436))
  (K (.bool false) h436))
  (br (x26 != 0)
  (CallsH Try.prog 28 #[] h29 fun r440 h439 =>
  ∃ b441 : Bool, r440 = (.bool b441) ∧ 
  br b441
  (br (x16 == 50)
  (K (.bool true) h439)
  (K (.bool (x26 == 50)) h439))
  (K (.bool false) h439))
  (quintetlaw05_ExpandMeets_j4
  (fun (b442 : Bool) (h443 : Hp) =>
  K (.bool b442) h443)
  x5 a7 a9 a18 a28 h29))
def quintetlaw05_ExpandMeets_lp (i : Nat) (Q : Qx) (tm : Tm) (h : Hp) : Prop := match Nat.beq i 127 with
  | true => quintetlaw05_ExpandMeets_j7_L Q tm h
  | false => match Nat.beq i 63 with
  | true => quintetlaw05_ExpandMeets_j6_L Q tm h
  | false => match Nat.beq i 15 with
  | true => quintetlaw05_ExpandMeets_j4_L Q tm h
  | false => False
def quintetlaw05_ExpandMeets_cut (i : Nat) : Option (List Nat) := match Nat.beq i 15 with
  | true => some [2, 3, 4, 7, 9]
  | false => match Nat.beq i 63 with
  | true => some [2, 3, 4, 11, 12, 13]
  | false => match Nat.beq i 127 with
  | true => some [2, 11, 12, 13, 14]
  | false => none
set_option maxRecDepth 100000 in
theorem quintetlaw05_ExpandMeets_j7_step (Q : Qx) (x354 : Int) (a355 : Addr) (b356 : Bool) (b357 : Bool) (b358 : Bool) (h : Hp) : quintetlaw05_ExpandMeets_j7_L Q (mkTm [(2, some (.int .u16 x354)), (11, some (.pointer (some a355))), (12, some (.bool b356)), (13, some (.bool b357)), (14, some (.bool b358))]) h =
    codeWp Try.prog 91 quintetlaw05_ExpandMeets_lp quintetlaw05_ExpandMeets_cut (sub (bodyOf Try.f11) [true, true, true, true, true, true, true]) 255 (maskQ (fun e => match e with | .ret => [6] | _ => []) Q) (mkTm [(2, some (.int .u16 x354)), (11, some (.pointer (some a355))), (12, some (.bool b356)), (13, some (.bool b357)), (14, some (.bool b358))]) h := by kernel_rfl
theorem quintetlaw05_ExpandMeets_j7_mask (Q : Qx) (tm : Tm) (h : Hp) : quintetlaw05_ExpandMeets_j7_L Q tm h ↔ quintetlaw05_ExpandMeets_j7_L Q (mask [2, 11, 12, 13, 14] tm) h := Iff.rfl
set_option maxRecDepth 100000 in
theorem quintetlaw05_ExpandMeets_j7_snd : SndAt Try.prog 91 none (sub (bodyOf Try.f11) [true, true, true, true, true, true, true]) (quintetlaw05_ExpandMeets_lp 127) := by
  refine join_sound (lp := quintetlaw05_ExpandMeets_lp) (cut := quintetlaw05_ExpandMeets_cut) (i := 127) (c := (sub (bodyOf Try.f11) [true, true, true, true, true, true, true])) [2, 11, 12, 13, 14] (fun e => match e with | .ret => [6] | _ => []) quintetlaw05_ExpandMeets_j7_L ?_ ?_
  · exact good_by (c := (sub (bodyOf Try.f11) [true, true, true, true, true, true, true])) (i := 255) (l := []) (by kernel_rfl) (fun _ h => by cases h)
  · intro Q tm h H
    have H0 := H
    obtain ⟨x354, e2, H⟩ := selI_ex H
    obtain ⟨a355, e11, H⟩ := selA_ex H
    obtain ⟨b356, e12, H⟩ := selB_ex H
    obtain ⟨b357, e13, H⟩ := selB_ex H
    obtain ⟨b358, e14, H⟩ := selB_ex H
    have e : mask [2, 11, 12, 13, 14] tm = mkTm [(2, some (.int .u16 x354)), (11, some (.pointer (some a355))), (12, some (.bool b356)), (13, some (.bool b357)), (14, some (.bool b358))] := by simp only [mask, List.map_cons, List.map_nil, e2, e11, e12, e13, e14] <;> rfl
    rw [e]
    refine Eq.mp (quintetlaw05_ExpandMeets_j7_step Q x354 a355 b356 b357 b358 h) ?_
    rw [← e]
    exact (quintetlaw05_ExpandMeets_j7_mask Q tm h).mp H0
set_option maxRecDepth 100000 in
theorem quintetlaw05_ExpandMeets_j6_step (Q : Qx) (x261 : Int) (a262 : Addr) (a263 : Addr) (a264 : Addr) (b265 : Bool) (b266 : Bool) (h : Hp) : quintetlaw05_ExpandMeets_j6_L Q (mkTm [(2, some (.int .u16 x261)), (3, some (.pointer (some a262))), (4, some (.pointer (some a263))), (11, some (.pointer (some a264))), (12, some (.bool b265)), (13, some (.bool b266))]) h =
    codeWp Try.prog 91 quintetlaw05_ExpandMeets_lp quintetlaw05_ExpandMeets_cut (sub (bodyOf Try.f11) [true, true, true, true, true, true]) 127 (maskQ (fun e => match e with | .ret => [6] | _ => []) Q) (mkTm [(2, some (.int .u16 x261)), (3, some (.pointer (some a262))), (4, some (.pointer (some a263))), (11, some (.pointer (some a264))), (12, some (.bool b265)), (13, some (.bool b266))]) h := by kernel_rfl
theorem quintetlaw05_ExpandMeets_j6_mask (Q : Qx) (tm : Tm) (h : Hp) : quintetlaw05_ExpandMeets_j6_L Q tm h ↔ quintetlaw05_ExpandMeets_j6_L Q (mask [2, 3, 4, 11, 12, 13] tm) h := Iff.rfl
set_option maxRecDepth 100000 in
theorem quintetlaw05_ExpandMeets_j6_snd : SndAt Try.prog 91 none (sub (bodyOf Try.f11) [true, true, true, true, true, true]) (quintetlaw05_ExpandMeets_lp 63) := by
  refine join_sound (lp := quintetlaw05_ExpandMeets_lp) (cut := quintetlaw05_ExpandMeets_cut) (i := 63) (c := (sub (bodyOf Try.f11) [true, true, true, true, true, true])) [2, 3, 4, 11, 12, 13] (fun e => match e with | .ret => [6] | _ => []) quintetlaw05_ExpandMeets_j6_L ?_ ?_
  · exact good_by (c := (sub (bodyOf Try.f11) [true, true, true, true, true, true])) (i := 127) (l := [(127, (sub (bodyOf Try.f11) [true, true, true, true, true, true, true]))]) (by kernel_rfl) (List.forall_mem_cons.2 ⟨quintetlaw05_ExpandMeets_j7_snd, (fun _ h => by cases h)⟩)
  · intro Q tm h H
    have H0 := H
    obtain ⟨x261, e2, H⟩ := selI_ex H
    obtain ⟨a262, e3, H⟩ := selA_ex H
    obtain ⟨a263, e4, H⟩ := selA_ex H
    obtain ⟨a264, e11, H⟩ := selA_ex H
    obtain ⟨b265, e12, H⟩ := selB_ex H
    obtain ⟨b266, e13, H⟩ := selB_ex H
    have e : mask [2, 3, 4, 11, 12, 13] tm = mkTm [(2, some (.int .u16 x261)), (3, some (.pointer (some a262))), (4, some (.pointer (some a263))), (11, some (.pointer (some a264))), (12, some (.bool b265)), (13, some (.bool b266))] := by simp only [mask, List.map_cons, List.map_nil, e2, e3, e4, e11, e12, e13] <;> rfl
    rw [e]
    refine Eq.mp (quintetlaw05_ExpandMeets_j6_step Q x261 a262 a263 a264 b265 b266 h) ?_
    rw [← e]
    exact (quintetlaw05_ExpandMeets_j6_mask Q tm h).mp H0
set_option maxRecDepth 100000 in
theorem quintetlaw05_ExpandMeets_j4_step (Q : Qx) (x36 : Int) (a37 : Addr) (a38 : Addr) (a39 : Addr) (a40 : Addr) (h : Hp) : quintetlaw05_ExpandMeets_j4_L Q (mkTm [(2, some (.int .u16 x36)), (3, some (.pointer (some a37))), (4, some (.pointer (some a38))), (7, some (.pointer (some a39))), (9, some (.pointer (some a40)))]) h =
    codeWp Try.prog 91 quintetlaw05_ExpandMeets_lp quintetlaw05_ExpandMeets_cut (sub (bodyOf Try.f11) [true, true, true, true]) 31 (maskQ (fun e => match e with | .ret => [6] | _ => []) Q) (mkTm [(2, some (.int .u16 x36)), (3, some (.pointer (some a37))), (4, some (.pointer (some a38))), (7, some (.pointer (some a39))), (9, some (.pointer (some a40)))]) h := by kernel_rfl
theorem quintetlaw05_ExpandMeets_j4_mask (Q : Qx) (tm : Tm) (h : Hp) : quintetlaw05_ExpandMeets_j4_L Q tm h ↔ quintetlaw05_ExpandMeets_j4_L Q (mask [2, 3, 4, 7, 9] tm) h := Iff.rfl
set_option maxRecDepth 100000 in
theorem quintetlaw05_ExpandMeets_j4_snd : SndAt Try.prog 91 none (sub (bodyOf Try.f11) [true, true, true, true]) (quintetlaw05_ExpandMeets_lp 15) := by
  refine join_sound (lp := quintetlaw05_ExpandMeets_lp) (cut := quintetlaw05_ExpandMeets_cut) (i := 15) (c := (sub (bodyOf Try.f11) [true, true, true, true])) [2, 3, 4, 7, 9] (fun e => match e with | .ret => [6] | _ => []) quintetlaw05_ExpandMeets_j4_L ?_ ?_
  · exact good_by (c := (sub (bodyOf Try.f11) [true, true, true, true])) (i := 31) (l := [(63, (sub (bodyOf Try.f11) [true, true, true, true, true, true]))]) (by kernel_rfl) (List.forall_mem_cons.2 ⟨quintetlaw05_ExpandMeets_j6_snd, (fun _ h => by cases h)⟩)
  · intro Q tm h H
    have H0 := H
    obtain ⟨x36, e2, H⟩ := selI_ex H
    obtain ⟨a37, e3, H⟩ := selA_ex H
    obtain ⟨a38, e4, H⟩ := selA_ex H
    obtain ⟨a39, e7, H⟩ := selA_ex H
    obtain ⟨a40, e9, H⟩ := selA_ex H
    have e : mask [2, 3, 4, 7, 9] tm = mkTm [(2, some (.int .u16 x36)), (3, some (.pointer (some a37))), (4, some (.pointer (some a38))), (7, some (.pointer (some a39))), (9, some (.pointer (some a40)))] := by simp only [mask, List.map_cons, List.map_nil, e2, e3, e4, e7, e9] <;> rfl
    rw [e]
    refine Eq.mp (quintetlaw05_ExpandMeets_j4_step Q x36 a37 a38 a39 a40 h) ?_
    rw [← e]
    exact (quintetlaw05_ExpandMeets_j4_mask Q tm h).mp H0
set_option maxRecDepth 100000 in
theorem quintetlaw05_ExpandMeets_eq (x1 : Int) (x2 : Int) (x3 : Int) (x4 : Int) (x5 : Int) (h : Hp) (K : Value → Hp → Prop) : quintetlaw05_ExpandMeets x1 x2 x3 x4 x5 h K =
    codeWp Try.prog 91 quintetlaw05_ExpandMeets_lp quintetlaw05_ExpandMeets_cut (bodyOf Try.f11) 1 (endQ Try.prog Try.f11.results.toList K) (argTm [(.agg #[(.int .u16 x1), (.int .i64 x2)]), (.agg #[(.int .u16 x3), (.int .i64 x4)]), (.int .u16 x5)]) h := by kernel_rfl
set_option maxRecDepth 100000 in
theorem quintetlaw05_ExpandMeets_ok (x1 : Int) (x2 : Int) (x3 : Int) (x4 : Int) (x5 : Int) {h : Hp} {K : Value → Hp → Prop} (H : quintetlaw05_ExpandMeets x1 x2 x3 x4 x5 h K) : CallsH Try.prog 11 #[(.agg #[(.int .u16 x1), (.int .i64 x2)]), (.agg #[(.int .u16 x3), (.int .i64 x4)]), (.int .u16 x5)] h K :=
  calls_of (args := [(.agg #[(.int .u16 x1), (.int .i64 x2)]), (.agg #[(.int .u16 x3), (.int .i64 x4)]), (.int .u16 x5)]) (n := 91) (lp := quintetlaw05_ExpandMeets_lp) (cut := quintetlaw05_ExpandMeets_cut) Try.func11 (c := bodyOf Try.f11) (by kernel_rfl) (by kernel_rfl) (by kernel_rfl) (good_by (c := (bodyOf Try.f11)) (i := 1) (l := [(15, (sub (bodyOf Try.f11) [true, true, true, true]))]) (by kernel_rfl) (List.forall_mem_cons.2 ⟨quintetlaw05_ExpandMeets_j4_snd, (fun _ h => by cases h)⟩))
    (Eq.mp (quintetlaw05_ExpandMeets_eq x1 x2 x3 x4 x5 h K) H)

/-! ### quintet/quintetlaw03.awake: function 16 -/
def quintetlaw03_awake_j3 (K0 : Bool → Hp → Prop) (a234 : Addr) (b235 : Bool) (b236 : Bool) (b237 : Bool) (h : Hp) : Prop :=
  br b235
  (∃ x271 : Int, ∃ x272 : Int, HV Try.prog (Instr.loadAt 24 (.pointer (some a234))) h (.agg #[(.int .u16 x271), (.int .u16 x272)]) ∧ 
  CallsH Try.prog 48 #[(.int .u16 5), (.int .u16 9)] h fun r274 h273 =>
  ∃ x275 : Int, ∃ x276 : Int, r274 = (.agg #[(.int .u16 x275), (.int .u16 x276)]) ∧ HV Try.prog (Instr.loadAt 24 (.pointer (some a234))) h273 (.agg #[(.int .u16 x271), (.int .u16 x272)]) ∧ 
  ∃ b277 : Bool, PV Try.prog (binOp .eql 24 (.agg #[(.int .u16 x271), (.int .u16 x272)]) (.agg #[(.int .u16 x275), (.int .u16 x276)])) (.bool b277) ∧
  br b277
  (br b236
  (br b237
  (CallsH Try.prog 48 #[(.int .u16 2), (.int .u16 1)] h273 fun r279 h278 =>
  ∃ x280 : Int, ∃ x281 : Int, r279 = (.agg #[(.int .u16 x280), (.int .u16 x281)]) ∧ 
  CallsH Try.prog 50 #[(.agg #[(.int .u16 x280), (.int .u16 x281)])] h278 fun r283 h282 =>
  ∃ x284 : Int, r283 = (.int .i64 x284) ∧ 
  br (x284 == 30)
  (CallsH Try.prog 48 #[(.int .u16 0), (.int .u16 65535)] h282 fun r286 h285 =>
  ∃ x287 : Int, ∃ x288 : Int, r286 = (.agg #[(.int .u16 x287), (.int .u16 x288)]) ∧ 
  CallsH Try.prog 41 #[(.agg #[(.int .u16 x287), (.int .u16 x288)])] h285 fun r290 h289 =>
  ∃ x291 : Int, r290 = (.int .i64 x291) ∧ 
  br (x291 == 65536)
  (CallsH Try.prog 48 #[(.int .u16 5), (.int .u16 6)] h289 fun r293 h292 =>
  ∃ x294 : Int, ∃ x295 : Int, r293 = (.agg #[(.int .u16 x294), (.int .u16 x295)]) ∧ 
  CallsH Try.prog 48 #[(.int .u16 0), (.int .u16 9)] h292 fun r297 h296 =>
  ∃ x298 : Int, ∃ x299 : Int, r297 = (.agg #[(.int .u16 x298), (.int .u16 x299)]) ∧ 
  CallsH Try.prog 42 #[(.agg #[(.int .u16 x294), (.int .u16 x295)]), (.agg #[(.int .u16 x298), (.int .u16 x299)])] h296 fun r301 h300 =>
  ∃ b302 : Bool, r301 = (.bool b302) ∧ 
  K0 b302 h300)
  (K0 false h289))
  (K0 false h282))
  (K0 false h273))
  (K0 false h273))
  (K0 false h273))
  (K0 false h)
def quintetlaw03_awake_j3_L (Q : Qx) (tm : Tm) (h : Hp) : Prop :=
  selA (tm 1) fun a234 =>
  selB (tm 2) fun b235 =>
  selB (tm 6) fun b236 =>
  selB (tm 7) fun b237 =>
  quintetlaw03_awake_j3 (fun (b270 : Bool) h => Q (.ret) (mkTm [(0, some (.bool b270))]) h) a234 b235 b236 b237 h
def quintetlaw03_awake_j2 (K0 : Bool → Hp → Prop) (a84 : Addr) (b85 : Bool) (A86 : Option Addr) (l86 : Nat) (c86 : Nat) (b87 : Bool) (h : Hp) : Prop :=
  CallsH Try.prog 48 #[(.int .u16 0), (.int .u16 4)] h fun r304 h303 =>
  ∃ x305 : Int, ∃ x306 : Int, r304 = (.agg #[(.int .u16 x305), (.int .u16 x306)]) ∧ 
  CallsH Try.prog 48 #[(.int .u16 10), (.int .u16 10)] h303 fun r308 h307 =>
  ∃ x309 : Int, ∃ x310 : Int, r308 = (.agg #[(.int .u16 x309), (.int .u16 x310)]) ∧ 
  newC h307 (.cells #[(.int .u16 x305), (.int .u16 x306), (.int .u16 x309), (.int .u16 x310)] 24 (0, 0)) fun a312 h311 => 
  CallsH Try.prog 14 #[(.slice A86 l86 c86), (.slice (some a312) 2 2)] h311 fun r314 h313 =>
  ∃ b315 : Bool, r314 = (.bool b315) ∧ 
  br b315
  (CallsH Try.prog 48 #[(.int .u16 1), (.int .u16 2)] h313 fun r317 h316 =>
  ∃ x318 : Int, ∃ x319 : Int, r317 = (.agg #[(.int .u16 x318), (.int .u16 x319)]) ∧ 
  CallsH Try.prog 48 #[(.int .u16 1), (.int .u16 3)] h316 fun r321 h320 =>
  ∃ x322 : Int, ∃ x323 : Int, r321 = (.agg #[(.int .u16 x322), (.int .u16 x323)]) ∧ 
  CallsH Try.prog 49 #[(.agg #[(.int .u16 x318), (.int .u16 x319)]), (.agg #[(.int .u16 x322), (.int .u16 x323)])] h320 fun r325 h324 =>
  ∃ x326 : Int, r325 = (.int .i64 x326) ∧ 
  quintetlaw03_awake_j3
  (fun (b327 : Bool) (h328 : Hp) =>
  K0 b327 h328)
  a84 b85 b87 (x326 == (-1)) h324)
  (quintetlaw03_awake_j3
  (fun (b329 : Bool) (h330 : Hp) =>
  K0 b329 h330)
  a84 b85 b87 false h313)
def quintetlaw03_awake_j2_L (Q : Qx) (tm : Tm) (h : Hp) : Prop :=
  selA (tm 1) fun a84 =>
  selB (tm 2) fun b85 =>
  selS (tm 5) fun A86 l86 c86 =>
  selB (tm 6) fun b87 =>
  quintetlaw03_awake_j2 (fun (b209 : Bool) h => Q (.ret) (mkTm [(0, some (.bool b209))]) h) a84 b85 A86 l86 c86 b87 h
def quintetlaw03_awake (h : Hp) (K : Value → Hp → Prop) : Prop :=
  CallsH Try.prog 48 #[(.int .u16 0), (.int .u16 9)] h fun r2 h1 =>
  ∃ x3 : Int, ∃ x4 : Int, r2 = (.agg #[(.int .u16 x3), (.int .u16 x4)]) ∧ 
  CallsH Try.prog 48 #[(.int .u16 5), (.int .u16 20)] h1 fun r6 h5 =>
  ∃ x7 : Int, ∃ x8 : Int, r6 = (.agg #[(.int .u16 x7), (.int .u16 x8)]) ∧ 
  CallsH Try.prog 44 #[(.agg #[(.int .u16 x3), (.int .u16 x4)]), (.agg #[(.int .u16 x7), (.int .u16 x8)])] h5 fun r10 h9 =>
  ∃ x11 : Int, ∃ x12 : Int, ∃ b13 : Bool, r10 = (.tuple #[(.agg #[(.int .u16 x11), (.int .u16 x12)]), (.bool b13)]) ∧ 
  newC h9 (.cells #[(.int .u16 0), (.int .u16 0)] 24 (0, 0)) fun a15 h14 => 
  HU Try.prog (Instr.storeAt 24 (.pointer (some a15)) (.agg #[(.int .u16 x11), (.int .u16 x12)])) h14 fun h16 => 
  CallsH Try.prog 48 #[(.int .u16 0), (.int .u16 9)] h16 fun r18 h17 =>
  ∃ x19 : Int, ∃ x20 : Int, r18 = (.agg #[(.int .u16 x19), (.int .u16 x20)]) ∧ 
  CallsH Try.prog 48 #[(.int .u16 3), (.int .u16 4)] h17 fun r22 h21 =>
  ∃ x23 : Int, ∃ x24 : Int, r22 = (.agg #[(.int .u16 x23), (.int .u16 x24)]) ∧ 
  CallsH Try.prog 12 #[(.agg #[(.int .u16 x19), (.int .u16 x20)]), (.agg #[(.int .u16 x23), (.int .u16 x24)])] h21 fun r26 h25 =>
  ∃ A27 : Option Addr, ∃ l27 : Nat, ∃ c27 : Nat, r26 = (.slice A27 l27 c27) ∧ 
  CallsH Try.prog 48 #[(.int .u16 5), (.int .u16 9)] h25 fun r29 h28 =>
  ∃ x30 : Int, ∃ x31 : Int, r29 = (.agg #[(.int .u16 x30), (.int .u16 x31)]) ∧ 
  CallsH Try.prog 48 #[(.int .u16 0), (.int .u16 4)] h28 fun r33 h32 =>
  ∃ x34 : Int, ∃ x35 : Int, r33 = (.agg #[(.int .u16 x34), (.int .u16 x35)]) ∧ 
  CallsH Try.prog 48 #[(.int .u16 11), (.int .u16 12)] h32 fun r37 h36 =>
  ∃ x38 : Int, ∃ x39 : Int, r37 = (.agg #[(.int .u16 x38), (.int .u16 x39)]) ∧ 
  newC h36 (.cells #[(.int .u16 x30), (.int .u16 x31), (.int .u16 x34), (.int .u16 x35), (.int .u16 x38), (.int .u16 x39)] 24 (0, 0)) fun a41 h40 => 
  CallsH Try.prog 19 #[(.slice (some a41) 3 3)] h40 fun r43 h42 =>
  ∃ A44 : Option Addr, ∃ l44 : Nat, ∃ c44 : Nat, r43 = (.slice A44 l44 c44) ∧ 
  CallsH Try.prog 48 #[(.int .u16 5), (.int .u16 9)] h42 fun r46 h45 =>
  ∃ x47 : Int, ∃ x48 : Int, r46 = (.agg #[(.int .u16 x47), (.int .u16 x48)]) ∧ 
  CallsH Try.prog 48 #[(.int .u16 11), (.int .u16 65535)] h45 fun r50 h49 =>
  ∃ x51 : Int, ∃ x52 : Int, r50 = (.agg #[(.int .u16 x51), (.int .u16 x52)]) ∧ 
  newC h49 (.cells #[(.int .u16 x47), (.int .u16 x48), (.int .u16 x51), (.int .u16 x52)] 24 (0, 0)) fun a54 h53 => 
  CallsH Try.prog 22 #[(.slice (some a54) 2 2)] h53 fun r56 h55 =>
  ∃ A57 : Option Addr, ∃ l57 : Nat, ∃ c57 : Nat, r56 = (.slice A57 l57 c57) ∧ 
  CallsH Try.prog 48 #[(.int .u16 0), (.int .u16 2)] h55 fun r332 h331 =>
  ∃ x333 : Int, ∃ x334 : Int, r332 = (.agg #[(.int .u16 x333), (.int .u16 x334)]) ∧ 
  CallsH Try.prog 48 #[(.int .u16 5), (.int .u16 9)] h331 fun r336 h335 =>
  ∃ x337 : Int, ∃ x338 : Int, r336 = (.agg #[(.int .u16 x337), (.int .u16 x338)]) ∧ 
  newC h335 (.cells #[(.int .u16 x333), (.int .u16 x334), (.int .u16 x337), (.int .u16 x338)] 24 (0, 0)) fun a340 h339 => 
  CallsH Try.prog 14 #[(.slice A27 l27 c27), (.slice (some a340) 2 2)] h339 fun r342 h341 =>
  ∃ b343 : Bool, r342 = (.bool b343) ∧ 
  br b343
  (CallsH Try.prog 48 #[(.int .u16 0), (.int .u16 9)] h341 fun r345 h344 =>
  ∃ x346 : Int, ∃ x347 : Int, r345 = (.agg #[(.int .u16 x346), (.int .u16 x347)]) ∧ 
  CallsH Try.prog 48 #[(.int .u16 11), (.int .u16 12)] h344 fun r349 h348 =>
  ∃ x350 : Int, ∃ x351 : Int, r349 = (.agg #[(.int .u16 x350), (.int .u16 x351)]) ∧ 
  newC h348 (.cells #[(.int .u16 x346), (.int .u16 x347), (.int .u16 x350), (.int .u16 x351)] 24 (0, 0)) fun a353 h352 => 
  CallsH Try.prog 14 #[(.slice A44 l44 c44), (.slice (some a353) 2 2)] h352 fun r355 h354 =>
  ∃ b356 : Bool, r355 = (.bool b356) ∧ 
  quintetlaw03_awake_j2
  (fun (b357 : Bool) (h358 : Hp) =>
  K (.bool b357) h358)
  a15 b13 A57 l57 c57 b356 h354)
  (quintetlaw03_awake_j2
  (fun (b359 : Bool) (h360 : Hp) =>
  K (.bool b359) h360)
  a15 b13 A57 l57 c57 false h341)
def quintetlaw03_awake_lp (i : Nat) (Q : Qx) (tm : Tm) (h : Hp) : Prop := match Nat.beq i 127 with
  | true => quintetlaw03_awake_j3_L Q tm h
  | false => match Nat.beq i 63 with
  | true => quintetlaw03_awake_j2_L Q tm h
  | false => False
def quintetlaw03_awake_cut (i : Nat) : Option (List Nat) := match Nat.beq i 63 with
  | true => some [1, 2, 5, 6]
  | false => match Nat.beq i 127 with
  | true => some [1, 2, 6, 7]
  | false => none
set_option maxRecDepth 100000 in
theorem quintetlaw03_awake_j3_step (Q : Qx) (a234 : Addr) (b235 : Bool) (b236 : Bool) (b237 : Bool) (h : Hp) : quintetlaw03_awake_j3_L Q (mkTm [(1, some (.pointer (some a234))), (2, some (.bool b235)), (6, some (.bool b236)), (7, some (.bool b237))]) h =
    codeWp Try.prog 76 quintetlaw03_awake_lp quintetlaw03_awake_cut (sub (bodyOf Try.f16) [true, true, true, true, true, true, true]) 255 (maskQ (fun e => match e with | .ret => [0] | _ => []) Q) (mkTm [(1, some (.pointer (some a234))), (2, some (.bool b235)), (6, some (.bool b236)), (7, some (.bool b237))]) h := by kernel_rfl
theorem quintetlaw03_awake_j3_mask (Q : Qx) (tm : Tm) (h : Hp) : quintetlaw03_awake_j3_L Q tm h ↔ quintetlaw03_awake_j3_L Q (mask [1, 2, 6, 7] tm) h := Iff.rfl
set_option maxRecDepth 100000 in
theorem quintetlaw03_awake_j3_snd : SndAt Try.prog 76 none (sub (bodyOf Try.f16) [true, true, true, true, true, true, true]) (quintetlaw03_awake_lp 127) := by
  refine join_sound (lp := quintetlaw03_awake_lp) (cut := quintetlaw03_awake_cut) (i := 127) (c := (sub (bodyOf Try.f16) [true, true, true, true, true, true, true])) [1, 2, 6, 7] (fun e => match e with | .ret => [0] | _ => []) quintetlaw03_awake_j3_L ?_ ?_
  · exact good_by (c := (sub (bodyOf Try.f16) [true, true, true, true, true, true, true])) (i := 255) (l := []) (by kernel_rfl) (fun _ h => by cases h)
  · intro Q tm h H
    have H0 := H
    obtain ⟨a234, e1, H⟩ := selA_ex H
    obtain ⟨b235, e2, H⟩ := selB_ex H
    obtain ⟨b236, e6, H⟩ := selB_ex H
    obtain ⟨b237, e7, H⟩ := selB_ex H
    have e : mask [1, 2, 6, 7] tm = mkTm [(1, some (.pointer (some a234))), (2, some (.bool b235)), (6, some (.bool b236)), (7, some (.bool b237))] := by simp only [mask, List.map_cons, List.map_nil, e1, e2, e6, e7] <;> rfl
    rw [e]
    refine Eq.mp (quintetlaw03_awake_j3_step Q a234 b235 b236 b237 h) ?_
    rw [← e]
    exact (quintetlaw03_awake_j3_mask Q tm h).mp H0
set_option maxRecDepth 100000 in
theorem quintetlaw03_awake_j2_step (Q : Qx) (a84 : Addr) (b85 : Bool) (A86 : Option Addr) (l86 : Nat) (c86 : Nat) (b87 : Bool) (h : Hp) : quintetlaw03_awake_j2_L Q (mkTm [(1, some (.pointer (some a84))), (2, some (.bool b85)), (5, some (.slice A86 l86 c86)), (6, some (.bool b87))]) h =
    codeWp Try.prog 76 quintetlaw03_awake_lp quintetlaw03_awake_cut (sub (bodyOf Try.f16) [true, true, true, true, true, true]) 127 (maskQ (fun e => match e with | .ret => [0] | _ => []) Q) (mkTm [(1, some (.pointer (some a84))), (2, some (.bool b85)), (5, some (.slice A86 l86 c86)), (6, some (.bool b87))]) h := by kernel_rfl
theorem quintetlaw03_awake_j2_mask (Q : Qx) (tm : Tm) (h : Hp) : quintetlaw03_awake_j2_L Q tm h ↔ quintetlaw03_awake_j2_L Q (mask [1, 2, 5, 6] tm) h := Iff.rfl
set_option maxRecDepth 100000 in
theorem quintetlaw03_awake_j2_snd : SndAt Try.prog 76 none (sub (bodyOf Try.f16) [true, true, true, true, true, true]) (quintetlaw03_awake_lp 63) := by
  refine join_sound (lp := quintetlaw03_awake_lp) (cut := quintetlaw03_awake_cut) (i := 63) (c := (sub (bodyOf Try.f16) [true, true, true, true, true, true])) [1, 2, 5, 6] (fun e => match e with | .ret => [0] | _ => []) quintetlaw03_awake_j2_L ?_ ?_
  · exact good_by (c := (sub (bodyOf Try.f16) [true, true, true, true, true, true])) (i := 127) (l := [(127, (sub (bodyOf Try.f16) [true, true, true, true, true, true, true]))]) (by kernel_rfl) (List.forall_mem_cons.2 ⟨quintetlaw03_awake_j3_snd, (fun _ h => by cases h)⟩)
  · intro Q tm h H
    have H0 := H
    obtain ⟨a84, e1, H⟩ := selA_ex H
    obtain ⟨b85, e2, H⟩ := selB_ex H
    obtain ⟨A86, l86, c86, e5, H⟩ := selS_ex H
    obtain ⟨b87, e6, H⟩ := selB_ex H
    have e : mask [1, 2, 5, 6] tm = mkTm [(1, some (.pointer (some a84))), (2, some (.bool b85)), (5, some (.slice A86 l86 c86)), (6, some (.bool b87))] := by simp only [mask, List.map_cons, List.map_nil, e1, e2, e5, e6] <;> rfl
    rw [e]
    refine Eq.mp (quintetlaw03_awake_j2_step Q a84 b85 A86 l86 c86 b87 h) ?_
    rw [← e]
    exact (quintetlaw03_awake_j2_mask Q tm h).mp H0
set_option maxRecDepth 100000 in
theorem quintetlaw03_awake_eq (h : Hp) (K : Value → Hp → Prop) : quintetlaw03_awake  h K =
    codeWp Try.prog 76 quintetlaw03_awake_lp quintetlaw03_awake_cut (bodyOf Try.f16) 1 (endQ Try.prog Try.f16.results.toList K) (argTm []) h := by kernel_rfl
set_option maxRecDepth 100000 in
theorem quintetlaw03_awake_ok {h : Hp} {K : Value → Hp → Prop} (H : quintetlaw03_awake  h K) : CallsH Try.prog 16 #[] h K :=
  calls_of (args := []) (n := 76) (lp := quintetlaw03_awake_lp) (cut := quintetlaw03_awake_cut) Try.func16 (c := bodyOf Try.f16) (by kernel_rfl) (by kernel_rfl) (by kernel_rfl) (good_by (c := (bodyOf Try.f16)) (i := 1) (l := [(63, (sub (bodyOf Try.f16) [true, true, true, true, true, true]))]) (by kernel_rfl) (List.forall_mem_cons.2 ⟨quintetlaw03_awake_j2_snd, (fun _ h => by cases h)⟩))
    (Eq.mp (quintetlaw03_awake_eq  h K) H)

/-! ### quintet/quintetlaw05.awake: function 28 -/
def quintetlaw05_awake_j3 (K0 : Bool → Hp → Prop) (A192 : Option Addr) (l192 : Nat) (c192 : Nat) (a193 : Addr) (b194 : Bool) (b195 : Bool) (h : Hp) : Prop :=
  br b194
  (br b195
  (∃ x212 : Int, ∃ x213 : Int, HV Try.prog (Instr.loadAt 24 (.pointer (some a193))) h (.agg #[(.int .u16 x212), (.int .u16 x213)]) ∧ 
  ∃ b214 : Bool, PV Try.prog (binOp .eql 24 (.agg #[(.int .u16 x212), (.int .u16 x213)]) (.agg #[(.int .u16 1024), (.int .u16 2047)])) (.bool b214) ∧
  br b214
  (newC h (.cells #[(.int .u16 2), (.int .u16 5), (.int .u16 16), (.int .u16 16)] 24 (0, 0)) fun a216 h215 => 
  CallsH Try.prog 14 #[(.slice A192 l192 c192), (.slice (some a216) 2 2)] h215 fun r218 h217 =>
  ∃ b219 : Bool, r218 = (.bool b219) ∧ 
  br b219
  (CallsH Try.prog 55 #[(.int .u16 32768), (.int .i64 0)] h217 fun r221 h220 =>
  ∃ x222 : Int, ∃ x223 : Int, r221 = (.agg #[(.int .u16 x222), (.int .i64 x223)]) ∧ 
  CallsH Try.prog 37 #[(.agg #[(.int .u16 x222), (.int .i64 x223)])] h220 fun r225 h224 =>
  ∃ x226 : Int, r225 = (.int .i64 x226) ∧ 
  K0 (x226 == 50) h224)
  (K0 false h217))
  (K0 false h))
  (K0 false h))
  (K0 false h)
def quintetlaw05_awake_j3_L (Q : Qx) (tm : Tm) (h : Hp) : Prop :=
  selS (tm 3) fun A192 l192 c192 =>
  selA (tm 7) fun a193 =>
  selB (tm 11) fun b194 =>
  selB (tm 12) fun b195 =>
  quintetlaw05_awake_j3 (fun (b211 : Bool) h => Q (.ret) (mkTm [(0, some (.bool b211))]) h) A192 l192 c192 a193 b194 b195 h
def quintetlaw05_awake_j2 (K0 : Bool → Hp → Prop) (A57 : Option Addr) (l57 : Nat) (c57 : Nat) (A58 : Option Addr) (l58 : Nat) (c58 : Nat) (A59 : Option Addr) (l59 : Nat) (c59 : Nat) (a60 : Addr) (b61 : Bool) (h : Hp) : Prop :=
  CallsH Try.prog 55 #[(.int .u16 1), (.int .i64 16)] h fun r228 h227 =>
  ∃ x229 : Int, ∃ x230 : Int, r228 = (.agg #[(.int .u16 x229), (.int .i64 x230)]) ∧ 
  CallsH Try.prog 55 #[(.int .u16 2), (.int .i64 15)] h227 fun r232 h231 =>
  ∃ x233 : Int, ∃ x234 : Int, r232 = (.agg #[(.int .u16 x233), (.int .i64 x234)]) ∧ 
  CallsH Try.prog 55 #[(.int .u16 4), (.int .i64 15)] h231 fun r236 h235 =>
  ∃ x237 : Int, ∃ x238 : Int, r236 = (.agg #[(.int .u16 x237), (.int .i64 x238)]) ∧ 
  CallsH Try.prog 55 #[(.int .u16 6), (.int .i64 16)] h235 fun r240 h239 =>
  ∃ x241 : Int, ∃ x242 : Int, r240 = (.agg #[(.int .u16 x241), (.int .i64 x242)]) ∧ 
  newC h239 (.cells #[(.int .u16 x229), (.int .i64 x230), (.int .u16 x233), (.int .i64 x234), (.int .u16 x237), (.int .i64 x238), (.int .u16 x241), (.int .i64 x242)] 49 (0, 0)) fun a244 h243 => 
  CallsH Try.prog 26 #[(.slice A57 l57 c57), (.slice (some a244) 4 4)] h243 fun r246 h245 =>
  ∃ b247 : Bool, r246 = (.bool b247) ∧ 
  br b247
  (CallsH Try.prog 55 #[(.int .u16 0), (.int .i64 14)] h245 fun r249 h248 =>
  ∃ x250 : Int, ∃ x251 : Int, r249 = (.agg #[(.int .u16 x250), (.int .i64 x251)]) ∧ 
  newC h248 (.cells #[(.int .u16 x250), (.int .i64 x251)] 49 (0, 0)) fun a253 h252 => 
  CallsH Try.prog 26 #[(.slice A59 l59 c59), (.slice (some a253) 1 1)] h252 fun r255 h254 =>
  ∃ b256 : Bool, r255 = (.bool b256) ∧ 
  quintetlaw05_awake_j3
  (fun (b257 : Bool) (h258 : Hp) =>
  K0 b257 h258)
  A58 l58 c58 a60 b61 b256 h254)
  (quintetlaw05_awake_j3
  (fun (b259 : Bool) (h260 : Hp) =>
  K0 b259 h260)
  A58 l58 c58 a60 b61 false h245)
def quintetlaw05_awake_j2_L (Q : Qx) (tm : Tm) (h : Hp) : Prop :=
  selS (tm 1) fun A57 l57 c57 =>
  selS (tm 3) fun A58 l58 c58 =>
  selS (tm 5) fun A59 l59 c59 =>
  selA (tm 7) fun a60 =>
  selB (tm 11) fun b61 =>
  quintetlaw05_awake_j2 (fun (b161 : Bool) h => Q (.ret) (mkTm [(0, some (.bool b161))]) h) A57 l57 c57 A58 l58 c58 A59 l59 c59 a60 b61 h
def quintetlaw05_awake (h : Hp) (K : Value → Hp → Prop) : Prop :=
  CallsH Try.prog 25 #[(.agg #[(.int .u16 1), (.int .u16 6)])] h fun r2 h1 =>
  ∃ A3 : Option Addr, ∃ l3 : Nat, ∃ c3 : Nat, ∃ x4 : Int, r2 = (.tuple #[(.slice A3 l3 c3), (.int .i64 x4)]) ∧ 
  CallsH Try.prog 55 #[(.int .u16 4), (.int .i64 15)] h1 fun r6 h5 =>
  ∃ x7 : Int, ∃ x8 : Int, r6 = (.agg #[(.int .u16 x7), (.int .i64 x8)]) ∧ 
  CallsH Try.prog 55 #[(.int .u16 2), (.int .i64 15)] h5 fun r10 h9 =>
  ∃ x11 : Int, ∃ x12 : Int, r10 = (.agg #[(.int .u16 x11), (.int .i64 x12)]) ∧ 
  CallsH Try.prog 55 #[(.int .u16 16), (.int .i64 16)] h9 fun r14 h13 =>
  ∃ x15 : Int, ∃ x16 : Int, r14 = (.agg #[(.int .u16 x15), (.int .i64 x16)]) ∧ 
  newC h13 (.cells #[(.int .u16 x7), (.int .i64 x8), (.int .u16 x11), (.int .i64 x12), (.int .u16 x15), (.int .i64 x16)] 49 (0, 0)) fun a18 h17 => 
  CallsH Try.prog 31 #[(.slice (some a18) 3 3)] h17 fun r20 h19 =>
  ∃ A21 : Option Addr, ∃ l21 : Nat, ∃ c21 : Nat, ∃ x22 : Int, r20 = (.tuple #[(.slice A21 l21 c21), (.int .i64 x22)]) ∧ 
  CallsH Try.prog 55 #[(.int .u16 2), (.int .i64 15)] h19 fun r24 h23 =>
  ∃ x25 : Int, ∃ x26 : Int, r24 = (.agg #[(.int .u16 x25), (.int .i64 x26)]) ∧ 
  CallsH Try.prog 55 #[(.int .u16 0), (.int .i64 15)] h23 fun r28 h27 =>
  ∃ x29 : Int, ∃ x30 : Int, r28 = (.agg #[(.int .u16 x29), (.int .i64 x30)]) ∧ 
  CallsH Try.prog 55 #[(.int .u16 3), (.int .i64 16)] h27 fun r32 h31 =>
  ∃ x33 : Int, ∃ x34 : Int, r32 = (.agg #[(.int .u16 x33), (.int .i64 x34)]) ∧ 
  newC h31 (.cells #[(.int .u16 x25), (.int .i64 x26), (.int .u16 x29), (.int .i64 x30), (.int .u16 x33), (.int .i64 x34)] 49 (0, 0)) fun a36 h35 => 
  CallsH Try.prog 34 #[(.slice (some a36) 3 3)] h35 fun r38 h37 =>
  ∃ A39 : Option Addr, ∃ l39 : Nat, ∃ c39 : Nat, ∃ x40 : Int, r38 = (.tuple #[(.slice A39 l39 c39), (.int .i64 x40)]) ∧ 
  CallsH Try.prog 55 #[(.int .u16 1024), (.int .i64 6)] h37 fun r42 h41 =>
  ∃ x43 : Int, ∃ x44 : Int, r42 = (.agg #[(.int .u16 x43), (.int .i64 x44)]) ∧ 
  CallsH Try.prog 35 #[(.agg #[(.int .u16 x43), (.int .i64 x44)])] h41 fun r46 h45 =>
  ∃ x47 : Int, ∃ x48 : Int, ∃ x49 : Int, r46 = (.tuple #[(.agg #[(.int .u16 x47), (.int .u16 x48)]), (.int .i64 x49)]) ∧ 
  newC h45 (.cells #[(.int .u16 0), (.int .u16 0)] 24 (0, 0)) fun a51 h50 => 
  HU Try.prog (Instr.storeAt 24 (.pointer (some a51)) (.agg #[(.int .u16 x47), (.int .u16 x48)])) h50 fun h52 => 
  CallsH Try.prog 24 #[(.agg #[(.int .u16 1), (.int .u16 65534)])] h52 fun r54 h53 =>
  ∃ x55 : Int, ∃ x56 : Int, r54 = (.tuple #[(.int .i64 x55), (.int .i64 x56)]) ∧ 
  br (x4 == 0)
  (br (x22 == 0)
  (br (x40 == 0)
  (br (x49 == 0)
  (br (x56 == 0)
  (quintetlaw05_awake_j2
  (fun (b261 : Bool) (h262 : Hp) =>
  K (.bool b261) h262)
  A3 l3 c3 A21 l21 c21 A39 l39 c39 a51 (x55 == 30) h53)
  (quintetlaw05_awake_j2
  (fun (b263 : Bool) (h264 : Hp) =>
  K (.bool b263) h264)
  A3 l3 c3 A21 l21 c21 A39 l39 c39 a51 false h53))
  (quintetlaw05_awake_j2
  (fun (b265 : Bool) (h266 : Hp) =>
  K (.bool b265) h266)
  A3 l3 c3 A21 l21 c21 A39 l39 c39 a51 false h53))
  (quintetlaw05_awake_j2
  (fun (b267 : Bool) (h268 : Hp) =>
  K (.bool b267) h268)
  A3 l3 c3 A21 l21 c21 A39 l39 c39 a51 false h53))
  (quintetlaw05_awake_j2
  (fun (b269 : Bool) (h270 : Hp) =>
  K (.bool b269) h270)
  A3 l3 c3 A21 l21 c21 A39 l39 c39 a51 false h53))
  (quintetlaw05_awake_j2
  (fun (b271 : Bool) (h272 : Hp) =>
  K (.bool b271) h272)
  A3 l3 c3 A21 l21 c21 A39 l39 c39 a51 false h53)
def quintetlaw05_awake_lp (i : Nat) (Q : Qx) (tm : Tm) (h : Hp) : Prop := match Nat.beq i 255 with
  | true => quintetlaw05_awake_j3_L Q tm h
  | false => match Nat.beq i 127 with
  | true => quintetlaw05_awake_j2_L Q tm h
  | false => False
def quintetlaw05_awake_cut (i : Nat) : Option (List Nat) := match Nat.beq i 127 with
  | true => some [1, 3, 5, 7, 11]
  | false => match Nat.beq i 255 with
  | true => some [3, 7, 11, 12]
  | false => none
set_option maxRecDepth 100000 in
theorem quintetlaw05_awake_j3_step (Q : Qx) (A192 : Option Addr) (l192 : Nat) (c192 : Nat) (a193 : Addr) (b194 : Bool) (b195 : Bool) (h : Hp) : quintetlaw05_awake_j3_L Q (mkTm [(3, some (.slice A192 l192 c192)), (7, some (.pointer (some a193))), (11, some (.bool b194)), (12, some (.bool b195))]) h =
    codeWp Try.prog 100 quintetlaw05_awake_lp quintetlaw05_awake_cut (sub (bodyOf Try.f28) [true, true, true, true, true, true, true, true]) 511 (maskQ (fun e => match e with | .ret => [0] | _ => []) Q) (mkTm [(3, some (.slice A192 l192 c192)), (7, some (.pointer (some a193))), (11, some (.bool b194)), (12, some (.bool b195))]) h := by kernel_rfl
theorem quintetlaw05_awake_j3_mask (Q : Qx) (tm : Tm) (h : Hp) : quintetlaw05_awake_j3_L Q tm h ↔ quintetlaw05_awake_j3_L Q (mask [3, 7, 11, 12] tm) h := Iff.rfl
set_option maxRecDepth 100000 in
theorem quintetlaw05_awake_j3_snd : SndAt Try.prog 100 none (sub (bodyOf Try.f28) [true, true, true, true, true, true, true, true]) (quintetlaw05_awake_lp 255) := by
  refine join_sound (lp := quintetlaw05_awake_lp) (cut := quintetlaw05_awake_cut) (i := 255) (c := (sub (bodyOf Try.f28) [true, true, true, true, true, true, true, true])) [3, 7, 11, 12] (fun e => match e with | .ret => [0] | _ => []) quintetlaw05_awake_j3_L ?_ ?_
  · exact good_by (c := (sub (bodyOf Try.f28) [true, true, true, true, true, true, true, true])) (i := 511) (l := []) (by kernel_rfl) (fun _ h => by cases h)
  · intro Q tm h H
    have H0 := H
    obtain ⟨A192, l192, c192, e3, H⟩ := selS_ex H
    obtain ⟨a193, e7, H⟩ := selA_ex H
    obtain ⟨b194, e11, H⟩ := selB_ex H
    obtain ⟨b195, e12, H⟩ := selB_ex H
    have e : mask [3, 7, 11, 12] tm = mkTm [(3, some (.slice A192 l192 c192)), (7, some (.pointer (some a193))), (11, some (.bool b194)), (12, some (.bool b195))] := by simp only [mask, List.map_cons, List.map_nil, e3, e7, e11, e12] <;> rfl
    rw [e]
    refine Eq.mp (quintetlaw05_awake_j3_step Q A192 l192 c192 a193 b194 b195 h) ?_
    rw [← e]
    exact (quintetlaw05_awake_j3_mask Q tm h).mp H0
set_option maxRecDepth 100000 in
theorem quintetlaw05_awake_j2_step (Q : Qx) (A57 : Option Addr) (l57 : Nat) (c57 : Nat) (A58 : Option Addr) (l58 : Nat) (c58 : Nat) (A59 : Option Addr) (l59 : Nat) (c59 : Nat) (a60 : Addr) (b61 : Bool) (h : Hp) : quintetlaw05_awake_j2_L Q (mkTm [(1, some (.slice A57 l57 c57)), (3, some (.slice A58 l58 c58)), (5, some (.slice A59 l59 c59)), (7, some (.pointer (some a60))), (11, some (.bool b61))]) h =
    codeWp Try.prog 100 quintetlaw05_awake_lp quintetlaw05_awake_cut (sub (bodyOf Try.f28) [true, true, true, true, true, true, true]) 255 (maskQ (fun e => match e with | .ret => [0] | _ => []) Q) (mkTm [(1, some (.slice A57 l57 c57)), (3, some (.slice A58 l58 c58)), (5, some (.slice A59 l59 c59)), (7, some (.pointer (some a60))), (11, some (.bool b61))]) h := by kernel_rfl
theorem quintetlaw05_awake_j2_mask (Q : Qx) (tm : Tm) (h : Hp) : quintetlaw05_awake_j2_L Q tm h ↔ quintetlaw05_awake_j2_L Q (mask [1, 3, 5, 7, 11] tm) h := Iff.rfl
set_option maxRecDepth 100000 in
theorem quintetlaw05_awake_j2_snd : SndAt Try.prog 100 none (sub (bodyOf Try.f28) [true, true, true, true, true, true, true]) (quintetlaw05_awake_lp 127) := by
  refine join_sound (lp := quintetlaw05_awake_lp) (cut := quintetlaw05_awake_cut) (i := 127) (c := (sub (bodyOf Try.f28) [true, true, true, true, true, true, true])) [1, 3, 5, 7, 11] (fun e => match e with | .ret => [0] | _ => []) quintetlaw05_awake_j2_L ?_ ?_
  · exact good_by (c := (sub (bodyOf Try.f28) [true, true, true, true, true, true, true])) (i := 255) (l := [(255, (sub (bodyOf Try.f28) [true, true, true, true, true, true, true, true]))]) (by kernel_rfl) (List.forall_mem_cons.2 ⟨quintetlaw05_awake_j3_snd, (fun _ h => by cases h)⟩)
  · intro Q tm h H
    have H0 := H
    obtain ⟨A57, l57, c57, e1, H⟩ := selS_ex H
    obtain ⟨A58, l58, c58, e3, H⟩ := selS_ex H
    obtain ⟨A59, l59, c59, e5, H⟩ := selS_ex H
    obtain ⟨a60, e7, H⟩ := selA_ex H
    obtain ⟨b61, e11, H⟩ := selB_ex H
    have e : mask [1, 3, 5, 7, 11] tm = mkTm [(1, some (.slice A57 l57 c57)), (3, some (.slice A58 l58 c58)), (5, some (.slice A59 l59 c59)), (7, some (.pointer (some a60))), (11, some (.bool b61))] := by simp only [mask, List.map_cons, List.map_nil, e1, e3, e5, e7, e11] <;> rfl
    rw [e]
    refine Eq.mp (quintetlaw05_awake_j2_step Q A57 l57 c57 A58 l58 c58 A59 l59 c59 a60 b61 h) ?_
    rw [← e]
    exact (quintetlaw05_awake_j2_mask Q tm h).mp H0
set_option maxRecDepth 100000 in
theorem quintetlaw05_awake_eq (h : Hp) (K : Value → Hp → Prop) : quintetlaw05_awake  h K =
    codeWp Try.prog 100 quintetlaw05_awake_lp quintetlaw05_awake_cut (bodyOf Try.f28) 1 (endQ Try.prog Try.f28.results.toList K) (argTm []) h := by kernel_rfl
set_option maxRecDepth 100000 in
theorem quintetlaw05_awake_ok {h : Hp} {K : Value → Hp → Prop} (H : quintetlaw05_awake  h K) : CallsH Try.prog 28 #[] h K :=
  calls_of (args := []) (n := 100) (lp := quintetlaw05_awake_lp) (cut := quintetlaw05_awake_cut) Try.func28 (c := bodyOf Try.f28) (by kernel_rfl) (by kernel_rfl) (by kernel_rfl) (good_by (c := (bodyOf Try.f28)) (i := 1) (l := [(127, (sub (bodyOf Try.f28) [true, true, true, true, true, true, true]))]) (by kernel_rfl) (List.forall_mem_cons.2 ⟨quintetlaw05_awake_j2_snd, (fun _ h => by cases h)⟩))
    (Eq.mp (quintetlaw05_awake_eq  h K) H)

end Go.Proofs.Ytaacfhekjklipaa.Fs
