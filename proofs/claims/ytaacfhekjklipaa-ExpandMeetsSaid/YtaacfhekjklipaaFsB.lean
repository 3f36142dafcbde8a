/- Printed by sx.py: words over the heap alone for Go functions, and that each call does what its word says. -/
import Derived.Test.YtaacfhekjklipaaSxSel
import Derived.Test.YtaacfhekjklipaaSxRound
import Derived.Test.YtaacfhekjklipaaProg
namespace Go.Proofs.Ytaacfhekjklipaa.Fs
open Go Go.RowKit Go.Proofs.Ytaacfhekjklipaa.Sx
set_option linter.unusedVariables false

/-! ### quintet/quintetref03.Less: function 13 -/
def quintetref03_Less_l1 (a16 : Addr) (a17 : Addr) (K0 : Addr → Hp → Prop)  : Nat → Int → Hp → Prop
  | 0, _, _ => False
  | k + 1, x18, h =>
    ∃ x23 : Int, HV Try.prog (Instr.loadAt 22 (.pointer (some (a16.add 1)))) h (.int .u16 x23) ∧ 
    br (decide (x18 ≤ (IntKind.i64.wrap (x23))))
    (∃ a24 : Addr, PV Try.prog (Instr.indexAt 61 (.pointer (some a17)) (.int .i64 x18)) (.pointer (some a24)) ∧
    HU Try.prog (Instr.storeAt 4 (.pointer (some a24)) (.bool false)) h fun h25 => 
    quintetref03_Less_l1 a16 a17 K0 k (IntKind.i64.wrap (x18 + 1)) h25)
    (K0 a17 h)
def quintetref03_Less_l1_L (Q : Qx) (k : Nat) (tm : Tm) (h : Hp) : Prop :=
  selA (tm 3) fun a16 =>
  selA (tm 5) fun a17 =>
  selI .i64 (tm 6) fun x18 =>
  quintetref03_Less_l1 a16 a17 (fun (a22 : Addr) h => Q (.exit 0) (mkTm [(5, some (.pointer (some a22)))]) h) k x18 h
def quintetref03_Less (x1 : Int) (x2 : Int) (x3 : Int) (x4 : Int) (h : Hp) (K : Value → Hp → Prop) : Prop :=
  newC h (.cells #[(.int .u16 x1), (.int .u16 x2)] 24 (0, 0)) fun a6 h5 => 
  newC h5 (.cells #[(.int .u16 x3), (.int .u16 x4)] 24 (0, 0)) fun a8 h7 => 
  newC h7 (.cells (zcOf Try.prog 61) 61 (0, 0)) fun a10 h9 => 
  ∃ x11 : Int, ∃ x12 : Int, HV Try.prog (Instr.loadAt 24 (.pointer (some a6))) h9 (.agg #[(.int .u16 x11), (.int .u16 x12)]) ∧ 
  CallsH Try.prog 46 #[(.pointer (some a10)), (.agg #[(.int .u16 x11), (.int .u16 x12)])] h9 fun r14 h13 =>
  r14 = (.tuple #[]) ∧ 
  ∃ x15 : Int, HV Try.prog (Instr.loadAt 22 (.pointer (some a8))) h13 (.int .u16 x15) ∧ 
  ∃ k31, quintetref03_Less_l1 a8 a10
  (fun (a26 : Addr) (h27 : Hp) =>
  CallsH Try.prog 47 #[(.pointer (some a26))] h27 fun r29 h28 =>
  ∃ A30 : Option Addr, ∃ l30 : Nat, ∃ c30 : Nat, r29 = (.slice A30 l30 c30) ∧ 
  K (.slice A30 l30 c30) h28)
  k31 (IntKind.i64.wrap (x15)) h13
def quintetref03_Less_lp (i : Nat) (Q : Qx) (tm : Tm) (h : Hp) : Prop := match Nat.beq i 122 with
  | true => ∃ k, quintetref03_Less_l1_L Q k tm h
  | false => False
def quintetref03_Less_cut (i : Nat) : Option (List Nat) := none
set_option maxRecDepth 100000 in
theorem quintetref03_Less_l1_step (Q : Qx) (k : Nat) (a16 : Addr) (a17 : Addr) (x18 : Int) (h : Hp) : quintetref03_Less_l1_L Q (k + 1) (mkTm [(3, some (.pointer (some a16))), (5, some (.pointer (some a17))), (6, some (.int .i64 x18))]) h =
    codeWp Try.prog 28 quintetref03_Less_lp quintetref03_Less_cut (sub (bodyOf Try.f13) [true, true, true, false, true, false, false]) 244 (thenQ (fun tm h => quintetref03_Less_l1_L Q k (mask [3, 5, 6] tm) h) (maskQ (fun e => match e with | .exit 0 => [5] | _ => []) Q)) (mkTm [(3, some (.pointer (some a16))), (5, some (.pointer (some a17))), (6, some (.int .i64 x18))]) h := by kernel_rfl
theorem quintetref03_Less_l1_mask (Q : Qx) (k : Nat) (tm : Tm) (h : Hp) : quintetref03_Less_l1_L Q k tm h ↔ quintetref03_Less_l1_L Q k (mask [3, 5, 6] tm) h := Iff.rfl
set_option maxRecDepth 100000 in
theorem quintetref03_Less_l1_snd : SndAt Try.prog 28 none (sub (bodyOf Try.f13) [true, true, true, false, true, false]) (quintetref03_Less_lp 122) := by
  refine loop_sound (lp := quintetref03_Less_lp) (cut := quintetref03_Less_cut) (i := 122) (c := (sub (bodyOf Try.f13) [true, true, true, false, true, false, false])) [3, 5, 6] (fun e => match e with | .exit 0 => [5] | _ => []) quintetref03_Less_l1_L ?_ ?_ ?_
  · exact good_by (c := (sub (bodyOf Try.f13) [true, true, true, false, true, false, false])) (i := 244) (l := []) (by kernel_rfl) (fun _ h => by cases h)
  · intro Q tm h H
    obtain ⟨a16, e3, H⟩ := selA_ex H
    obtain ⟨a17, e5, H⟩ := selA_ex H
    obtain ⟨x18, e6, H⟩ := selI_ex H
    exact H
  · intro Q k tm h H
    have H0 := H
    obtain ⟨a16, e3, H⟩ := selA_ex H
    obtain ⟨a17, e5, H⟩ := selA_ex H
    obtain ⟨x18, e6, H⟩ := selI_ex H
    have e : mask [3, 5, 6] tm = mkTm [(3, some (.pointer (some a16))), (5, some (.pointer (some a17))), (6, some (.int .i64 x18))] := by simp only [mask, List.map_cons, List.map_nil, e3, e5, e6] <;> rfl
    rw [e]
    refine Eq.mp (quintetref03_Less_l1_step Q k a16 a17 x18 h) ?_
    rw [← e]
    exact (quintetref03_Less_l1_mask Q (k + 1) tm h).mp H0
set_option maxRecDepth 100000 in
theorem quintetref03_Less_eq (x1 : Int) (x2 : Int) (x3 : Int) (x4 : Int) (h : Hp) (K : Value → Hp → Prop) : quintetref03_Less x1 x2 x3 x4 h K =
    codeWp Try.prog 28 quintetref03_Less_lp quintetref03_Less_cut (bodyOf Try.f13) 1 (endQ Try.prog Try.f13.results.toList K) (argTm [(.agg #[(.int .u16 x1), (.int .u16 x2)]), (.agg #[(.int .u16 x3), (.int .u16 x4)])]) h := by kernel_rfl
set_option maxRecDepth 100000 in
theorem quintetref03_Less_ok (x1 : Int) (x2 : Int) (x3 : Int) (x4 : Int) {h : Hp} {K : Value → Hp → Prop} (H : quintetref03_Less x1 x2 x3 x4 h K) : CallsH Try.prog 13 #[(.agg #[(.int .u16 x1), (.int .u16 x2)]), (.agg #[(.int .u16 x3), (.int .u16 x4)])] h K :=
  calls_of (args := [(.agg #[(.int .u16 x1), (.int .u16 x2)]), (.agg #[(.int .u16 x3), (.int .u16 x4)])]) (n := 28) (lp := quintetref03_Less_lp) (cut := quintetref03_Less_cut) Try.func13 (c := bodyOf Try.f13) (by kernel_rfl) (by kernel_rfl) (by kernel_rfl) (good_by (c := (bodyOf Try.f13)) (i := 1) (l := [(122, (sub (bodyOf Try.f13) [true, true, true, false, true, false]))]) (by kernel_rfl) (List.forall_mem_cons.2 ⟨quintetref03_Less_l1_snd, (fun _ h => by cases h)⟩))
    (Eq.mp (quintetref03_Less_eq x1 x2 x3 x4 h K) H)

/-! ### quintet/quintetref03.Union: function 17 -/
def quintetref03_Union_l1 (A4 : Option Addr) (l4 : Nat) (c4 : Nat) (a5 : Addr) (K0 : Addr → Hp → Prop)  : Nat → Int → Hp → Prop
  | 0, _, _ => False
  | k + 1, x6, h =>
    br (decide (x6 < (l4 : Int)))
    (∃ a13 : Addr, PV Try.prog (Instr.indexAt 25 (.slice A4 l4 c4) (.int .i64 x6)) (.pointer (some a13)) ∧
    ∃ x14 : Int, ∃ x15 : Int, HV Try.prog (Instr.loadAt 24 (.pointer (some a13))) h (.agg #[(.int .u16 x14), (.int .u16 x15)]) ∧ 
    CallsH Try.prog 46 #[(.pointer (some a5)), (.agg #[(.int .u16 x14), (.int .u16 x15)])] h fun r17 h16 =>
    r17 = (.tuple #[]) ∧ 
    quintetref03_Union_l1 A4 l4 c4 a5 K0 k (IntKind.i64.wrap (x6 + 1)) h16)
    (K0 a5 h)
def quintetref03_Union_l1_L (Q : Qx) (k : Nat) (tm : Tm) (h : Hp) : Prop :=
  selS (tm 0) fun A4 l4 c4 =>
  selA (tm 3) fun a5 =>
  selI .i64 (tm 4) fun x6 =>
  quintetref03_Union_l1 A4 l4 c4 a5 (fun (a12 : Addr) h => Q (.exit 0) (mkTm [(3, some (.pointer (some a12)))]) h) k x6 h
def quintetref03_Union (A1 : Option Addr) (l1 : Nat) (c1 : Nat) (h : Hp) (K : Value → Hp → Prop) : Prop :=
  newC h (.cells (zcOf Try.prog 61) 61 (0, 0)) fun a3 h2 => 
  ∃ k23, quintetref03_Union_l1 A1 l1 c1 a3
  (fun (a18 : Addr) (h19 : Hp) =>
  CallsH Try.prog 47 #[(.pointer (some a18))] h19 fun r21 h20 =>
  ∃ A22 : Option Addr, ∃ l22 : Nat, ∃ c22 : Nat, r21 = (.slice A22 l22 c22) ∧ 
  K (.slice A22 l22 c22) h20)
  k23 0 h2
def quintetref03_Union_lp (i : Nat) (Q : Qx) (tm : Tm) (h : Hp) : Prop := match Nat.beq i 58 with
  | true => ∃ k, quintetref03_Union_l1_L Q k tm h
  | false => False
def quintetref03_Union_cut (i : Nat) : Option (List Nat) := none
set_option maxRecDepth 100000 in
theorem quintetref03_Union_l1_step (Q : Qx) (k : Nat) (A4 : Option Addr) (l4 : Nat) (c4 : Nat) (a5 : Addr) (x6 : Int) (h : Hp) : quintetref03_Union_l1_L Q (k + 1) (mkTm [(0, some (.slice A4 l4 c4)), (3, some (.pointer (some a5))), (4, some (.int .i64 x6))]) h =
    codeWp Try.prog 21 quintetref03_Union_lp quintetref03_Union_cut (sub (bodyOf Try.f17) [true, true, false, true, false, false]) 116 (thenQ (fun tm h => quintetref03_Union_l1_L Q k (mask [0, 3, 4] tm) h) (maskQ (fun e => match e with | .exit 0 => [3] | _ => []) Q)) (mkTm [(0, some (.slice A4 l4 c4)), (3, some (.pointer (some a5))), (4, some (.int .i64 x6))]) h := by kernel_rfl
theorem quintetref03_Union_l1_mask (Q : Qx) (k : Nat) (tm : Tm) (h : Hp) : quintetref03_Union_l1_L Q k tm h ↔ quintetref03_Union_l1_L Q k (mask [0, 3, 4] tm) h := Iff.rfl
set_option maxRecDepth 100000 in
theorem quintetref03_Union_l1_snd : SndAt Try.prog 21 none (sub (bodyOf Try.f17) [true, true, false, true, false]) (quintetref03_Union_lp 58) := by
  refine loop_sound (lp := quintetref03_Union_lp) (cut := quintetref03_Union_cut) (i := 58) (c := (sub (bodyOf Try.f17) [true, true, false, true, false, false])) [0, 3, 4] (fun e => match e with | .exit 0 => [3] | _ => []) quintetref03_Union_l1_L ?_ ?_ ?_
  · exact good_by (c := (sub (bodyOf Try.f17) [true, true, false, true, false, false])) (i := 116) (l := []) (by kernel_rfl) (fun _ h => by cases h)
  · intro Q tm h H
    obtain ⟨A4, l4, c4, e0, H⟩ := selS_ex H
    obtain ⟨a5, e3, H⟩ := selA_ex H
    obtain ⟨x6, e4, H⟩ := selI_ex H
    exact H
  · intro Q k tm h H
    have H0 := H
    obtain ⟨A4, l4, c4, e0, H⟩ := selS_ex H
    obtain ⟨a5, e3, H⟩ := selA_ex H
    obtain ⟨x6, e4, H⟩ := selI_ex H
    have e : mask [0, 3, 4] tm = mkTm [(0, some (.slice A4 l4 c4)), (3, some (.pointer (some a5))), (4, some (.int .i64 x6))] := by simp only [mask, List.map_cons, List.map_nil, e0, e3, e4] <;> rfl
    rw [e]
    refine Eq.mp (quintetref03_Union_l1_step Q k A4 l4 c4 a5 x6 h) ?_
    rw [← e]
    exact (quintetref03_Union_l1_mask Q (k + 1) tm h).mp H0
set_option maxRecDepth 100000 in
theorem quintetref03_Union_eq (A1 : Option Addr) (l1 : Nat) (c1 : Nat) (h : Hp) (K : Value → Hp → Prop) : quintetref03_Union A1 l1 c1 h K =
    codeWp Try.prog 21 quintetref03_Union_lp quintetref03_Union_cut (bodyOf Try.f17) 1 (endQ Try.prog Try.f17.results.toList K) (argTm [(.slice A1 l1 c1)]) h := by kernel_rfl
set_option maxRecDepth 100000 in
theorem quintetref03_Union_ok (A1 : Option Addr) (l1 : Nat) (c1 : Nat) {h : Hp} {K : Value → Hp → Prop} (H : quintetref03_Union A1 l1 c1 h K) : CallsH Try.prog 17 #[(.slice A1 l1 c1)] h K :=
  calls_of (args := [(.slice A1 l1 c1)]) (n := 21) (lp := quintetref03_Union_lp) (cut := quintetref03_Union_cut) Try.func17 (c := bodyOf Try.f17) (by kernel_rfl) (by kernel_rfl) (by kernel_rfl) (good_by (c := (bodyOf Try.f17)) (i := 1) (l := [(58, (sub (bodyOf Try.f17) [true, true, false, true, false]))]) (by kernel_rfl) (List.forall_mem_cons.2 ⟨quintetref03_Union_l1_snd, (fun _ h => by cases h)⟩))
    (Eq.mp (quintetref03_Union_eq A1 l1 c1 h K) H)

/-! ### quintet/quintetref03.Gaps: function 21 -/
def quintetref03_Gaps_l1 (A4 : Option Addr) (l4 : Nat) (c4 : Nat) (a5 : Addr) (K0 : Addr → Hp → Prop)  : Nat → Int → Hp → Prop
  | 0, _, _ => False
  | k + 1, x6, h =>
    br (decide (x6 < (l4 : Int)))
    (∃ a13 : Addr, PV Try.prog (Instr.indexAt 25 (.slice A4 l4 c4) (.int .i64 x6)) (.pointer (some a13)) ∧
    ∃ x14 : Int, ∃ x15 : Int, HV Try.prog (Instr.loadAt 24 (.pointer (some a13))) h (.agg #[(.int .u16 x14), (.int .u16 x15)]) ∧ 
    CallsH Try.prog 46 #[(.pointer (some a5)), (.agg #[(.int .u16 x14), (.int .u16 x15)])] h fun r17 h16 =>
    r17 = (.tuple #[]) ∧ 
    quintetref03_Gaps_l1 A4 l4 c4 a5 K0 k (IntKind.i64.wrap (x6 + 1)) h16)
    (K0 a5 h)
def quintetref03_Gaps_l1_L (Q : Qx) (k : Nat) (tm : Tm) (h : Hp) : Prop :=
  selS (tm 0) fun A4 l4 c4 =>
  selA (tm 3) fun a5 =>
  selI .i64 (tm 4) fun x6 =>
  quintetref03_Gaps_l1 A4 l4 c4 a5 (fun (a12 : Addr) h => Q (.exit 0) (mkTm [(3, some (.pointer (some a12)))]) h) k x6 h
def quintetref03_Gaps_l2 (a20 : Addr) (K0 : Addr → Hp → Prop)  : Nat → Int → Hp → Prop
  | 0, _, _ => False
  | k + 1, x21, h =>
    br (decide (x21 < 65536))
    (∃ a27 : Addr, PV Try.prog (Instr.indexAt 61 (.pointer (some a20)) (.int .i64 x21)) (.pointer (some a27)) ∧
    ∃ b28 : Bool, HV Try.prog (Instr.loadAt 4 (.pointer (some a27))) h (.bool b28) ∧ 
    ∃ a29 : Addr, PV Try.prog (Instr.indexAt 61 (.pointer (some a20)) (.int .i64 x21)) (.pointer (some a29)) ∧
    HU Try.prog (Instr.storeAt 4 (.pointer (some a29)) (.bool (!b28))) h fun h30 => 
    quintetref03_Gaps_l2 a20 K0 k (IntKind.i64.wrap (x21 + 1)) h30)
    (K0 a20 h)
def quintetref03_Gaps_l2_L (Q : Qx) (k : Nat) (tm : Tm) (h : Hp) : Prop :=
  selA (tm 3) fun a20 =>
  selI .i64 (tm 5) fun x21 =>
  quintetref03_Gaps_l2 a20 (fun (a26 : Addr) h => Q (.exit 2) (mkTm [(3, some (.pointer (some a26)))]) h) k x21 h
def quintetref03_Gaps (A1 : Option Addr) (l1 : Nat) (c1 : Nat) (h : Hp) (K : Value → Hp → Prop) : Prop :=
  newC h (.cells (zcOf Try.prog 61) 61 (0, 0)) fun a3 h2 => 
  ∃ k37, quintetref03_Gaps_l1 A1 l1 c1 a3
  (fun (a18 : Addr) (h19 : Hp) =>
  ∃ k36, quintetref03_Gaps_l2 a18
  (fun (a31 : Addr) (h32 : Hp) =>
  CallsH Try.prog 47 #[(.pointer (some a31))] h32 fun r34 h33 =>
  ∃ A35 : Option Addr, ∃ l35 : Nat, ∃ c35 : Nat, r34 = (.slice A35 l35 c35) ∧ 
  K (.slice A35 l35 c35) h33)
  k36 0 h19)
  k37 0 h2
def quintetref03_Gaps_lp (i : Nat) (Q : Qx) (tm : Tm) (h : Hp) : Prop := match Nat.beq i 58 with
  | true => ∃ k, quintetref03_Gaps_l1_L Q k tm h
  | false => match Nat.beq i 122 with
  | true => ∃ k, quintetref03_Gaps_l2_L Q k tm h
  | false => False
def quintetref03_Gaps_cut (i : Nat) : Option (List Nat) := none
set_option maxRecDepth 100000 in
theorem quintetref03_Gaps_l1_step (Q : Qx) (k : Nat) (A4 : Option Addr) (l4 : Nat) (c4 : Nat) (a5 : Addr) (x6 : Int) (h : Hp) : quintetref03_Gaps_l1_L Q (k + 1) (mkTm [(0, some (.slice A4 l4 c4)), (3, some (.pointer (some a5))), (4, some (.int .i64 x6))]) h =
    codeWp Try.prog 36 quintetref03_Gaps_lp quintetref03_Gaps_cut (sub (bodyOf Try.f21) [true, true, false, true, false, false]) 116 (thenQ (fun tm h => quintetref03_Gaps_l1_L Q k (mask [0, 3, 4] tm) h) (maskQ (fun e => match e with | .exit 0 => [3] | _ => []) Q)) (mkTm [(0, some (.slice A4 l4 c4)), (3, some (.pointer (some a5))), (4, some (.int .i64 x6))]) h := by kernel_rfl
theorem quintetref03_Gaps_l1_mask (Q : Qx) (k : Nat) (tm : Tm) (h : Hp) : quintetref03_Gaps_l1_L Q k tm h ↔ quintetref03_Gaps_l1_L Q k (mask [0, 3, 4] tm) h := Iff.rfl
set_option maxRecDepth 100000 in
theorem quintetref03_Gaps_l1_snd : SndAt Try.prog 36 none (sub (bodyOf Try.f21) [true, true, false, true, false]) (quintetref03_Gaps_lp 58) := by
  refine loop_sound (lp := quintetref03_Gaps_lp) (cut := quintetref03_Gaps_cut) (i := 58) (c := (sub (bodyOf Try.f21) [true, true, false, true, false, false])) [0, 3, 4] (fun e => match e with | .exit 0 => [3] | _ => []) quintetref03_Gaps_l1_L ?_ ?_ ?_
  · exact good_by (c := (sub (bodyOf Try.f21) [true, true, false, true, false, false])) (i := 116) (l := []) (by kernel_rfl) (fun _ h => by cases h)
  · intro Q tm h H
    obtain ⟨A4, l4, c4, e0, H⟩ := selS_ex H
    obtain ⟨a5, e3, H⟩ := selA_ex H
    obtain ⟨x6, e4, H⟩ := selI_ex H
    exact H
  · intro Q k tm h H
    have H0 := H
    obtain ⟨A4, l4, c4, e0, H⟩ := selS_ex H
    obtain ⟨a5, e3, H⟩ := selA_ex H
    obtain ⟨x6, e4, H⟩ := selI_ex H
    have e : mask [0, 3, 4] tm = mkTm [(0, some (.slice A4 l4 c4)), (3, some (.pointer (some a5))), (4, some (.int .i64 x6))] := by simp only [mask, List.map_cons, List.map_nil, e0, e3, e4] <;> rfl
    rw [e]
    refine Eq.mp (quintetref03_Gaps_l1_step Q k A4 l4 c4 a5 x6 h) ?_
    rw [← e]
    exact (quintetref03_Gaps_l1_mask Q (k + 1) tm h).mp H0
set_option maxRecDepth 100000 in
theorem quintetref03_Gaps_l2_step (Q : Qx) (k : Nat) (a20 : Addr) (x21 : Int) (h : Hp) : quintetref03_Gaps_l2_L Q (k + 1) (mkTm [(3, some (.pointer (some a20))), (5, some (.int .i64 x21))]) h =
    codeWp Try.prog 36 quintetref03_Gaps_lp quintetref03_Gaps_cut (sub (bodyOf Try.f21) [true, true, true, false, true, false, false]) 244 (thenQ (fun tm h => quintetref03_Gaps_l2_L Q k (mask [3, 5] tm) h) (maskQ (fun e => match e with | .exit 2 => [3] | _ => []) Q)) (mkTm [(3, some (.pointer (some a20))), (5, some (.int .i64 x21))]) h := by kernel_rfl
theorem quintetref03_Gaps_l2_mask (Q : Qx) (k : Nat) (tm : Tm) (h : Hp) : quintetref03_Gaps_l2_L Q k tm h ↔ quintetref03_Gaps_l2_L Q k (mask [3, 5] tm) h := Iff.rfl
set_option maxRecDepth 100000 in
theorem quintetref03_Gaps_l2_snd : SndAt Try.prog 36 none (sub (bodyOf Try.f21) [true, true, true, false, true, false]) (quintetref03_Gaps_lp 122) := by
  refine loop_sound (lp := quintetref03_Gaps_lp) (cut := quintetref03_Gaps_cut) (i := 122) (c := (sub (bodyOf Try.f21) [true, true, true, false, true, false, false])) [3, 5] (fun e => match e with | .exit 2 => [3] | _ => []) quintetref03_Gaps_l2_L ?_ ?_ ?_
  · exact good_by (c := (sub (bodyOf Try.f21) [true, true, true, false, true, false, false])) (i := 244) (l := []) (by kernel_rfl) (fun _ h => by cases h)
  · intro Q tm h H
    obtain ⟨a20, e3, H⟩ := selA_ex H
    obtain ⟨x21, e5, H⟩ := selI_ex H
    exact H
  · intro Q k tm h H
    have H0 := H
    obtain ⟨a20, e3, H⟩ := selA_ex H
    obtain ⟨x21, e5, H⟩ := selI_ex H
    have e : mask [3, 5] tm = mkTm [(3, some (.pointer (some a20))), (5, some (.int .i64 x21))] := by simp only [mask, List.map_cons, List.map_nil, e3, e5] <;> rfl
    rw [e]
    refine Eq.mp (quintetref03_Gaps_l2_step Q k a20 x21 h) ?_
    rw [← e]
    exact (quintetref03_Gaps_l2_mask Q (k + 1) tm h).mp H0
set_option maxRecDepth 100000 in
theorem quintetref03_Gaps_eq (A1 : Option Addr) (l1 : Nat) (c1 : Nat) (h : Hp) (K : Value → Hp → Prop) : quintetref03_Gaps A1 l1 c1 h K =
    codeWp Try.prog 36 quintetref03_Gaps_lp quintetref03_Gaps_cut (bodyOf Try.f21) 1 (endQ Try.prog Try.f21.results.toList K) (argTm [(.slice A1 l1 c1)]) h := by kernel_rfl
set_option maxRecDepth 100000 in
theorem quintetref03_Gaps_ok (A1 : Option Addr) (l1 : Nat) (c1 : Nat) {h : Hp} {K : Value → Hp → Prop} (H : quintetref03_Gaps A1 l1 c1 h K) : CallsH Try.prog 21 #[(.slice A1 l1 c1)] h K :=
  calls_of (args := [(.slice A1 l1 c1)]) (n := 36) (lp := quintetref03_Gaps_lp) (cut := quintetref03_Gaps_cut) Try.func21 (c := bodyOf Try.f21) (by kernel_rfl) (by kernel_rfl) (by kernel_rfl) (good_by (c := (bodyOf Try.f21)) (i := 1) (l := [(58, (sub (bodyOf Try.f21) [true, true, false, true, false])), (122, (sub (bodyOf Try.f21) [true, true, true, false, true, false]))]) (by kernel_rfl) (List.forall_mem_cons.2 ⟨quintetref03_Gaps_l1_snd, (List.forall_mem_cons.2 ⟨quintetref03_Gaps_l2_snd, (fun _ h => by cases h)⟩)⟩))
    (Eq.mp (quintetref03_Gaps_eq A1 l1 c1 h K) H)

/-! ### quintet/quintetref05.Of: function 23 -/
def quintetref05_Of (x1 : Int) (x2 : Int) (h : Hp) (K : Value → Hp → Prop) : Prop :=
  newC h (.cells #[(.int .u16 x1), (.int .u16 x2)] 24 (0, 0)) fun a4 h3 => 
  ∃ x5 : Int, HV Try.prog (Instr.loadAt 22 (.pointer (some a4))) h3 (.int .u16 x5) ∧ 
  ∃ x6 : Int, HV Try.prog (Instr.loadAt 22 (.pointer (some (a4.add 1)))) h3 (.int .u16 x6) ∧ 
  br (decide (x5 > x6))
  (K (.tuple #[(.slice none 0 0), (.int .i64 30)]) h3)
  (newC h3 (.cells (zcOf Try.prog 61) 61 (0, 0)) fun a8 h7 => 
  ∃ x9 : Int, ∃ x10 : Int, HV Try.prog (Instr.loadAt 24 (.pointer (some a4))) h7 (.agg #[(.int .u16 x9), (.int .u16 x10)]) ∧ 
  CallsH Try.prog 46 #[(.pointer (some a8)), (.agg #[(.int .u16 x9), (.int .u16 x10)])] h7 fun r12 h11 =>
  r12 = (.tuple #[]) ∧ 
  CallsH Try.prog 52 #[(.pointer (some a8))] h11 fun r14 h13 =>
  ∃ A15 : Option Addr, ∃ l15 : Nat, ∃ c15 : Nat, r14 = (.slice A15 l15 c15) ∧ 
  K (.tuple #[(.slice A15 l15 c15), (.int .i64 0)]) h13)
def quintetref05_Of_lp (i : Nat) (Q : Qx) (tm : Tm) (h : Hp) : Prop := False
def quintetref05_Of_cut (i : Nat) : Option (List Nat) := none
set_option maxRecDepth 100000 in
theorem quintetref05_Of_eq (x1 : Int) (x2 : Int) (h : Hp) (K : Value → Hp → Prop) : quintetref05_Of x1 x2 h K =
    codeWp Try.prog 17 quintetref05_Of_lp quintetref05_Of_cut (bodyOf Try.f23) 1 (endQ Try.prog Try.f23.results.toList K) (argTm [(.agg #[(.int .u16 x1), (.int .u16 x2)])]) h := by kernel_rfl
set_option maxRecDepth 100000 in
theorem quintetref05_Of_ok (x1 : Int) (x2 : Int) {h : Hp} {K : Value → Hp → Prop} (H : quintetref05_Of x1 x2 h K) : CallsH Try.prog 23 #[(.agg #[(.int .u16 x1), (.int .u16 x2)])] h K :=
  calls_of (args := [(.agg #[(.int .u16 x1), (.int .u16 x2)])]) (n := 17) (lp := quintetref05_Of_lp) (cut := quintetref05_Of_cut) Try.func23 (c := bodyOf Try.f23) (by kernel_rfl) (by kernel_rfl) (by kernel_rfl) (good_by (c := (bodyOf Try.f23)) (i := 1) (l := []) (by kernel_rfl) (fun _ h => by cases h))
    (Eq.mp (quintetref05_Of_eq x1 x2 h K) H)

/-! ### quintet/quintetref05.ports: function 56 -/
def quintetref05_ports_l1 (A4 : Option Addr) (l4 : Nat) (c4 : Nat) (a5 : Addr) (K0 : (Option Addr) → Bool → Hp → Prop) (K1 : Addr → Hp → Prop)  : Nat → Int → Hp → Prop
  | 0, _, _ => False
  | k + 1, x6, h =>
    br (decide (x6 < (l4 : Int)))
    (∃ a25 : Addr, PV Try.prog (Instr.indexAt 34 (.slice A4 l4 c4) (.int .i64 x6)) (.pointer (some a25)) ∧
    ∃ x26 : Int, ∃ x27 : Int, HV Try.prog (Instr.loadAt 49 (.pointer (some a25))) h (.agg #[(.int .u16 x26), (.int .i64 x27)]) ∧ 
    CallsH Try.prog 36 #[(.agg #[(.int .u16 x26), (.int .i64 x27)])] h fun r29 h28 =>
    ∃ x30 : Int, ∃ x31 : Int, ∃ x32 : Int, r29 = (.tuple #[(.agg #[(.int .u16 x30), (.int .u16 x31)]), (.int .i64 x32)]) ∧ 
    newC h28 (.cells #[(.int .u16 0), (.int .u16 0)] 24 (0, 0)) fun a34 h33 => 
    HU Try.prog (Instr.storeAt 24 (.pointer (some a34)) (.agg #[(.int .u16 x30), (.int .u16 x31)])) h33 fun h35 => 
    br (x32 != 0)
    (K0 none false h35)
    (∃ x36 : Int, ∃ x37 : Int, HV Try.prog (Instr.loadAt 24 (.pointer (some a34))) h35 (.agg #[(.int .u16 x36), (.int .u16 x37)]) ∧ 
    CallsH Try.prog 46 #[(.pointer (some a5)), (.agg #[(.int .u16 x36), (.int .u16 x37)])] h35 fun r39 h38 =>
    r39 = (.tuple #[]) ∧ 
    quintetref05_ports_l1 A4 l4 c4 a5 K0 K1 k (IntKind.i64.wrap (x6 + 1)) h38))
    (K1 a5 h)
def quintetref05_ports_l1_L (Q : Qx) (k : Nat) (tm : Tm) (h : Hp) : Prop :=
  selS (tm 0) fun A4 l4 c4 =>
  selA (tm 4) fun a5 =>
  selI .i64 (tm 5) fun x6 =>
  quintetref05_ports_l1 A4 l4 c4 a5 (fun (p22 : Option Addr) (b23 : Bool) h => Q (.ret) (mkTm [(2, some (.pointer p22)), (3, some (.bool b23))]) h) (fun (a24 : Addr) h => Q (.exit 0) (mkTm [(4, some (.pointer (some a24)))]) h) k x6 h
def quintetref05_ports (A1 : Option Addr) (l1 : Nat) (c1 : Nat) (h : Hp) (K : Value → Hp → Prop) : Prop :=
  newC h (.cells (zcOf Try.prog 61) 61 (0, 0)) fun a3 h2 => 
  ∃ k45, quintetref05_ports_l1 A1 l1 c1 a3
  (fun (p40 : Option Addr) (b41 : Bool) (h42 : Hp) =>
  K (.tuple #[(.pointer p40), (.bool b41)]) h42)
  (fun (a43 : Addr) (h44 : Hp) =>
  K (.tuple #[(.pointer (some a43)), (.bool true)]) h44)
  k45 0 h2
def quintetref05_ports_lp (i : Nat) (Q : Qx) (tm : Tm) (h : Hp) : Prop := match Nat.beq i 58 with
  | true => ∃ k, quintetref05_ports_l1_L Q k tm h
  | false => False
def quintetref05_ports_cut (i : Nat) : Option (List Nat) := none
set_option maxRecDepth 100000 in
theorem quintetref05_ports_l1_step (Q : Qx) (k : Nat) (A4 : Option Addr) (l4 : Nat) (c4 : Nat) (a5 : Addr) (x6 : Int) (h : Hp) : quintetref05_ports_l1_L Q (k + 1) (mkTm [(0, some (.slice A4 l4 c4)), (4, some (.pointer (some a5))), (5, some (.int .i64 x6))]) h =
    codeWp Try.prog 30 quintetref05_ports_lp quintetref05_ports_cut (sub (bodyOf Try.f56) [true, true, false, true, false, false]) 116 (thenQ (fun tm h => quintetref05_ports_l1_L Q k (mask [0, 4, 5] tm) h) (maskQ (fun e => match e with | .ret => [2, 3] | .exit 0 => [4] | _ => []) Q)) (mkTm [(0, some (.slice A4 l4 c4)), (4, some (.pointer (some a5))), (5, some (.int .i64 x6))]) h := by kernel_rfl
theorem quintetref05_ports_l1_mask (Q : Qx) (k : Nat) (tm : Tm) (h : Hp) : quintetref05_ports_l1_L Q k tm h ↔ quintetref05_ports_l1_L Q k (mask [0, 4, 5] tm) h := Iff.rfl
set_option maxRecDepth 100000 in
theorem quintetref05_ports_l1_snd : SndAt Try.prog 30 none (sub (bodyOf Try.f56) [true, true, false, true, false]) (quintetref05_ports_lp 58) := by
  refine loop_sound (lp := quintetref05_ports_lp) (cut := quintetref05_ports_cut) (i := 58) (c := (sub (bodyOf Try.f56) [true, true, false, true, false, false])) [0, 4, 5] (fun e => match e with | .ret => [2, 3] | .exit 0 => [4] | _ => []) quintetref05_ports_l1_L ?_ ?_ ?_
  · exact good_by (c := (sub (bodyOf Try.f56) [true, true, false, true, false, false])) (i := 116) (l := []) (by kernel_rfl) (fun _ h => by cases h)
  · intro Q tm h H
    obtain ⟨A4, l4, c4, e0, H⟩ := selS_ex H
    obtain ⟨a5, e4, H⟩ := selA_ex H
    obtain ⟨x6, e5, H⟩ := selI_ex H
    exact H
  · intro Q k tm h H
    have H0 := H
    obtain ⟨A4, l4, c4, e0, H⟩ := selS_ex H
    obtain ⟨a5, e4, H⟩ := selA_ex H
    obtain ⟨x6, e5, H⟩ := selI_ex H
    have e : mask [0, 4, 5] tm = mkTm [(0, some (.slice A4 l4 c4)), (4, some (.pointer (some a5))), (5, some (.int .i64 x6))] := by simp only [mask, List.map_cons, List.map_nil, e0, e4, e5] <;> rfl
    rw [e]
    refine Eq.mp (quintetref05_ports_l1_step Q k A4 l4 c4 a5 x6 h) ?_
    rw [← e]
    exact (quintetref05_ports_l1_mask Q (k + 1) tm h).mp H0
set_option maxRecDepth 100000 in
theorem quintetref05_ports_eq (A1 : Option Addr) (l1 : Nat) (c1 : Nat) (h : Hp) (K : Value → Hp → Prop) : quintetref05_ports A1 l1 c1 h K =
    codeWp Try.prog 30 quintetref05_ports_lp quintetref05_ports_cut (bodyOf Try.f56) 1 (endQ Try.prog Try.f56.results.toList K) (argTm [(.slice A1 l1 c1)]) h := by kernel_rfl
set_option maxRecDepth 100000 in
theorem quintetref05_ports_ok (A1 : Option Addr) (l1 : Nat) (c1 : Nat) {h : Hp} {K : Value → Hp → Prop} (H : quintetref05_ports A1 l1 c1 h K) : CallsH Try.prog 56 #[(.slice A1 l1 c1)] h K :=
  calls_of (args := [(.slice A1 l1 c1)]) (n := 30) (lp := quintetref05_ports_lp) (cut := quintetref05_ports_cut) Try.func56 (c := bodyOf Try.f56) (by kernel_rfl) (by kernel_rfl) (by kernel_rfl) (good_by (c := (bodyOf Try.f56)) (i := 1) (l := [(58, (sub (bodyOf Try.f56) [true, true, false, true, false]))]) (by kernel_rfl) (List.forall_mem_cons.2 ⟨quintetref05_ports_l1_snd, (fun _ h => by cases h)⟩))
    (Eq.mp (quintetref05_ports_eq A1 l1 c1 h K) H)

end Go.Proofs.Ytaacfhekjklipaa.Fs
