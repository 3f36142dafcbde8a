/- Printed by sx.py: words over the heap alone for Go functions, and that each call does what its word says. -/
import Derived.Test.YtgahbkbmolfpnaaGreatSxSel
import Derived.Test.YtgahbkbmolfpnaaGreatSxNest
import Derived.Test.YtgahbkbmolfpnaaGreatProg
namespace Go.Proofs.YtgahbkbmolfpnaaGreat.Fs
open Go Go.RowKit Go.Proofs.YtgahbkbmolfpnaaGreat.Sx
set_option linter.unusedVariables false

/-! ### quintet/quintetref14.Prune: function 7 -/
def quintetref14_Prune_l15 (A586 : Option Addr) (l586 : Nat) (c586 : Nat) (x588 : Int) (a589 : Addr) (x590 : Int) (a591 : Addr) (K0 : (Option Addr) → Nat → Nat → Int → Int → Addr → Int → Hp → Prop)  : Nat → Int → Int → Hp → Prop
  | 0, _, _, _ => False
  | k + 1, x587, x592, h =>
    br (decide (x592 < (l586 : Int)))
    (∃ x614 : Int, ∃ x615 : Int, HV Tryz.prog (Instr.loadAt 45 (.pointer (some a589))) h (.agg #[(.int .u32 x614), (.int .i64 x615)]) ∧ 
    ∃ a616 : Addr, PV Tryz.prog (Instr.indexAt 22 (.slice A586 l586 c586) (.int .i64 x592)) (.pointer (some a616)) ∧
    ∃ x617 : Int, ∃ x618 : Int, HV Tryz.prog (Instr.loadAt 45 (.pointer (some (a616.add 1)))) h (.agg #[(.int .u32 x617), (.int .i64 x618)]) ∧ 
    CallsH Tryz.prog 28 #[(.agg #[(.int .u32 x614), (.int .i64 x615)]), (.agg #[(.int .u32 x617), (.int .i64 x618)])] h fun r620 h619 =>
    ∃ b621 : Bool, r620 = (.bool b621) ∧ 
    br b621
    (∃ x622 : Int, ∃ x623 : Int, HV Tryz.prog (Instr.loadAt 45 (.pointer (some a591))) h619 (.agg #[(.int .u32 x622), (.int .i64 x623)]) ∧ 
    ∃ a624 : Addr, PV Tryz.prog (Instr.indexAt 22 (.slice A586 l586 c586) (.int .i64 x592)) (.pointer (some a624)) ∧
    ∃ x625 : Int, ∃ x626 : Int, HV Tryz.prog (Instr.loadAt 45 (.pointer (some (a624.add 3)))) h619 (.agg #[(.int .u32 x625), (.int .i64 x626)]) ∧ 
    CallsH Tryz.prog 28 #[(.agg #[(.int .u32 x622), (.int .i64 x623)]), (.agg #[(.int .u32 x625), (.int .i64 x626)])] h619 fun r628 h627 =>
    ∃ b629 : Bool, r628 = (.bool b629) ∧ 
    br b629
    (quintetref14_Prune_l15 A586 l586 c586 x588 a589 x590 a591 K0 k (IntKind.i64.wrap (x587 + 1)) (IntKind.i64.wrap (x592 + 1)) h627)
    (quintetref14_Prune_l15 A586 l586 c586 x588 a589 x590 a591 K0 k x587 (IntKind.i64.wrap (x592 + 1)) h627))
    (quintetref14_Prune_l15 A586 l586 c586 x588 a589 x590 a591 K0 k x587 (IntKind.i64.wrap (x592 + 1)) h619))
    (K0 A586 l586 c586 x587 x588 a589 x590 h)
def quintetref14_Prune_l15_L (Q : Qx) (k : Nat) (tm : Tm) (h : Hp) : Prop :=
  selS (tm 0) fun A586 l586 c586 =>
  selI .i64 (tm 5) fun x587 =>
  selI .i64 (tm 6) fun x588 =>
  selA (tm 7) fun a589 =>
  selI .i64 (tm 8) fun x590 =>
  selA (tm 9) fun a591 =>
  selI .i64 (tm 10) fun x592 =>
  quintetref14_Prune_l15 A586 l586 c586 x588 a589 x590 a591 (fun (A609 : Option Addr) (l609 : Nat) (c609 : Nat) (x610 : Int) (x611 : Int) (a612 : Addr) (x613 : Int) h => Q (.exit 4) (mkTm [(0, some (.slice A609 l609 c609)), (5, some (.int .i64 x610)), (6, some (.int .i64 x611)), (7, some (.pointer (some a612))), (8, some (.int .i64 x613))]) h) k x587 x592 h
def quintetref14_Prune_j14 (K0 : (Option Addr) → Nat → Nat → Int → Int → Addr → Int → Hp → Prop) (A524 : Option Addr) (l524 : Nat) (c524 : Nat) (x525 : Int) (x526 : Int) (a527 : Addr) (x528 : Int) (a529 : Addr) (h : Hp) : Prop :=
  ∃ k636, quintetref14_Prune_l15 A524 l524 c524 x526 a527 x528 a529
  (fun (A630 : Option Addr) (l630 : Nat) (c630 : Nat) (x631 : Int) (x632 : Int) (a633 : Addr) (x634 : Int) (h635 : Hp) =>
  K0 A630 l630 c630 x631 x632 a633 x634 h635)
  k636 x525 0 h
def quintetref14_Prune_j14_L (Q : Qx) (tm : Tm) (h : Hp) : Prop :=
  selS (tm 0) fun A524 l524 c524 =>
  selI .i64 (tm 5) fun x525 =>
  selI .i64 (tm 6) fun x526 =>
  selA (tm 7) fun a527 =>
  selI .i64 (tm 8) fun x528 =>
  selA (tm 9) fun a529 =>
  quintetref14_Prune_j14 (fun (A581 : Option Addr) (l581 : Nat) (c581 : Nat) (x582 : Int) (x583 : Int) (a584 : Addr) (x585 : Int) h => Q (.normal) (mkTm [(0, some (.slice A581 l581 c581)), (5, some (.int .i64 x582)), (6, some (.int .i64 x583)), (7, some (.pointer (some a584))), (8, some (.int .i64 x585))]) h) A524 l524 c524 x525 x526 a527 x528 a529 h
def quintetref14_Prune_l12 (A346 : Option Addr) (l346 : Nat) (c346 : Nat) (x348 : Int) (a349 : Addr) (K0 : (Option Addr) → Nat → Nat → Int → Int → Hp → Prop)  : Nat → Int → Int → Hp → Prop
  | 0, _, _, _ => False
  | k + 1, x347, x350, h =>
    br (decide (x350 < (l346 : Int)))
    (∃ a505 : Addr, PV Tryz.prog (Instr.indexAt 22 (.slice A346 l346 c346) (.int .i64 x350)) (.pointer (some a505)) ∧
    ∃ x506 : Int, ∃ x507 : Int, HV Tryz.prog (Instr.loadAt 45 (.pointer (some (a505.add 3)))) h (.agg #[(.int .u32 x506), (.int .i64 x507)]) ∧ 
    newC h (.cells #[(.int .u32 0), (.int .i64 0)] 45 (0, 0)) fun a509 h508 => 
    HU Tryz.prog (Instr.storeAt 45 (.pointer (some a509)) (.agg #[(.int .u32 x506), (.int .i64 x507)])) h508 fun h510 => 
    ∃ x637 : Int, ∃ x638 : Int, HV Tryz.prog (Instr.loadAt 45 (.pointer (some a349))) h510 (.agg #[(.int .u32 x637), (.int .i64 x638)]) ∧ 
    ∃ a639 : Addr, PV Tryz.prog (Instr.indexAt 22 (.slice A346 l346 c346) (.int .i64 x350)) (.pointer (some a639)) ∧
    ∃ x640 : Int, ∃ x641 : Int, HV Tryz.prog (Instr.loadAt 45 (.pointer (some (a639.add 1)))) h510 (.agg #[(.int .u32 x640), (.int .i64 x641)]) ∧ 
    CallsH Tryz.prog 28 #[(.agg #[(.int .u32 x637), (.int .i64 x638)]), (.agg #[(.int .u32 x640), (.int .i64 x641)])] h510 fun r643 h642 =>
    ∃ b644 : Bool, r643 = (.bool b644) ∧ 
    br (!b644)
    (quintetref14_Prune_l12 A346 l346 c346 x348 a349 K0 k x347 (IntKind.i64.wrap (x350 + 1)) h642)
    (∃ x645 : Int, ∃ x646 : Int, HV Tryz.prog (Instr.loadAt 45 (.pointer (some a349))) h642 (.agg #[(.int .u32 x645), (.int .i64 x646)]) ∧ 
    CallsH Tryz.prog 27 #[(.slice A346 l346 c346), (.int .i64 x350), (.agg #[(.int .u32 x645), (.int .i64 x646)]), (.bool true)] h642 fun r648 h647 =>
    ∃ b649 : Bool, r648 = (.bool b649) ∧ 
    br (!b649)
    (quintetref14_Prune_l12 A346 l346 c346 x348 a349 K0 k x347 (IntKind.i64.wrap (x350 + 1)) h647)
    (quintetref14_Prune_j14
    (fun (A650 : Option Addr) (l650 : Nat) (c650 : Nat) (x651 : Int) (x652 : Int) (a653 : Addr) (x654 : Int) (h655 : Hp) =>
    quintetref14_Prune_l12 A346 l346 c346 x348 a349 K0 k x651 (IntKind.i64.wrap (x654 + 1)) h655)
    A346 l346 c346 x347 x348 a349 x350 a509 h647)))
    (K0 A346 l346 c346 x347 x348 h)
def quintetref14_Prune_l12_L (Q : Qx) (k : Nat) (tm : Tm) (h : Hp) : Prop :=
  selS (tm 0) fun A346 l346 c346 =>
  selI .i64 (tm 5) fun x347 =>
  selI .i64 (tm 6) fun x348 =>
  selA (tm 7) fun a349 =>
  selI .i64 (tm 8) fun x350 =>
  quintetref14_Prune_l12 A346 l346 c346 x348 a349 (fun (A502 : Option Addr) (l502 : Nat) (c502 : Nat) (x503 : Int) (x504 : Int) h => Q (.exit 2) (mkTm [(0, some (.slice A502 l502 c502)), (5, some (.int .i64 x503)), (6, some (.int .i64 x504))]) h) k x347 x350 h
def quintetref14_Prune_l8 (A5 : Option Addr) (l5 : Nat) (c5 : Nat) (K0 : Int → Hp → Prop)  : Nat → Int → Int → Hp → Prop
  | 0, _, _, _ => False
  | k + 1, x6, x7, h =>
    br (decide (x7 < (l5 : Int)))
    (∃ a335 : Addr, PV Tryz.prog (Instr.indexAt 22 (.slice A5 l5 c5) (.int .i64 x7)) (.pointer (some a335)) ∧
    ∃ x336 : Int, ∃ x337 : Int, HV Tryz.prog (Instr.loadAt 45 (.pointer (some (a335.add 1)))) h (.agg #[(.int .u32 x336), (.int .i64 x337)]) ∧ 
    newC h (.cells #[(.int .u32 0), (.int .i64 0)] 45 (0, 0)) fun a339 h338 => 
    HU Tryz.prog (Instr.storeAt 45 (.pointer (some a339)) (.agg #[(.int .u32 x336), (.int .i64 x337)])) h338 fun h340 => 
    ∃ x341 : Int, ∃ x342 : Int, HV Tryz.prog (Instr.loadAt 45 (.pointer (some a339))) h340 (.agg #[(.int .u32 x341), (.int .i64 x342)]) ∧ 
    CallsH Tryz.prog 27 #[(.slice A5 l5 c5), (.int .i64 x7), (.agg #[(.int .u32 x341), (.int .i64 x342)]), (.bool false)] h340 fun r344 h343 =>
    ∃ b345 : Bool, r344 = (.bool b345) ∧ 
    br (!b345)
    (quintetref14_Prune_l8 A5 l5 c5 K0 k x6 (IntKind.i64.wrap (x7 + 1)) h343)
    (∃ k660, quintetref14_Prune_l12 A5 l5 c5 x7 a339
    (fun (A656 : Option Addr) (l656 : Nat) (c656 : Nat) (x657 : Int) (x658 : Int) (h659 : Hp) =>
    quintetref14_Prune_l8 A5 l5 c5 K0 k x657 (IntKind.i64.wrap (x658 + 1)) h659)
    k660 x6 0 h343))
    (K0 x6 h)
def quintetref14_Prune_l8_L (Q : Qx) (k : Nat) (tm : Tm) (h : Hp) : Prop :=
  selS (tm 0) fun A5 l5 c5 =>
  selI .i64 (tm 5) fun x6 =>
  selI .i64 (tm 6) fun x7 =>
  quintetref14_Prune_l8 A5 l5 c5 (fun (x334 : Int) h => Q (.exit 0) (mkTm [(5, some (.int .i64 x334))]) h) k x6 x7 h
def quintetref14_Prune (A1 : Option Addr) (l1 : Nat) (c1 : Nat) (h : Hp) (K : Value → Hp → Prop) : Prop :=
  CallsH Tryz.prog 26 #[(.slice A1 l1 c1)] h fun r3 h2 =>
  ∃ x4 : Int, r3 = (.int .i64 x4) ∧ 
  br (x4 != 0)
  (K (.tuple #[(.int .i64 0), (.int .i64 x4)]) h2)
  (∃ k663, quintetref14_Prune_l8 A1 l1 c1
  (fun (x661 : Int) (h662 : Hp) =>
  K (.tuple #[(.int .i64 x661), (.int .i64 0)]) h662)
  k663 0 0 h2)
def quintetref14_Prune_lp (i : Nat) (Q : Qx) (tm : Tm) (h : Hp) : Prop := match Nat.beq i 16404046 with
  | true => ∃ k, quintetref14_Prune_l15_L Q k tm h
  | false => match Nat.beq i 2050505 with
  | true => quintetref14_Prune_j14_L Q tm h
  | false => match Nat.beq i 64078 with
  | true => ∃ k, quintetref14_Prune_l12_L Q k tm h
  | false => match Nat.beq i 250 with
  | true => ∃ k, quintetref14_Prune_l8_L Q k tm h
  | false => False
def quintetref14_Prune_cut (i : Nat) : Option (List Nat) := match Nat.beq i 2050505 with
  | true => some [0, 5, 6, 7, 8, 9]
  | false => none
set_option maxRecDepth 100000 in
theorem quintetref14_Prune_l15_step (Q : Qx) (k : Nat) (A586 : Option Addr) (l586 : Nat) (c586 : Nat) (x587 : Int) (x588 : Int) (a589 : Addr) (x590 : Int) (a591 : Addr) (x592 : Int) (h : Hp) : quintetref14_Prune_l15_L Q (k + 1) (mkTm [(0, some (.slice A586 l586 c586)), (5, some (.int .i64 x587)), (6, some (.int .i64 x588)), (7, some (.pointer (some a589))), (8, some (.int .i64 x590)), (9, some (.pointer (some a591))), (10, some (.int .i64 x592))]) h =
    codeWp Tryz.prog 83 quintetref14_Prune_lp quintetref14_Prune_cut (sub (bodyOf Tryz.f7) [true, true, true, true, false, true, false, false, true, false, false, true, true, true, false, false, true, false, false, true, true, true, false, false]) 32808092 (thenQ (fun tm h => quintetref14_Prune_l15_L Q k (mask [0, 5, 6, 7, 8, 9, 10] tm) h) (maskQ (fun e => match e with | .exit 4 => [0, 5, 6, 7, 8] | _ => []) Q)) (mkTm [(0, some (.slice A586 l586 c586)), (5, some (.int .i64 x587)), (6, some (.int .i64 x588)), (7, some (.pointer (some a589))), (8, some (.int .i64 x590)), (9, some (.pointer (some a591))), (10, some (.int .i64 x592))]) h := by kernel_rfl
theorem quintetref14_Prune_l15_mask (Q : Qx) (k : Nat) (tm : Tm) (h : Hp) : quintetref14_Prune_l15_L Q k tm h ↔ quintetref14_Prune_l15_L Q k (mask [0, 5, 6, 7, 8, 9, 10] tm) h := Iff.rfl
set_option maxRecDepth 100000 in
theorem quintetref14_Prune_l15_snd : SndAt Tryz.prog 83 none (sub (bodyOf Tryz.f7) [true, true, true, true, false, true, false, false, true, false, false, true, true, true, false, false, true, false, false, true, true, true, false]) (quintetref14_Prune_lp 16404046) := by
  refine loop_sound (lp := quintetref14_Prune_lp) (cut := quintetref14_Prune_cut) (i := 16404046) (c := (sub (bodyOf Tryz.f7) [true, true, true, true, false, true, false, false, true, false, false, true, true, true, false, false, true, false, false, true, true, true, false, false])) [0, 5, 6, 7, 8, 9, 10] (fun e => match e with | .exit 4 => [0, 5, 6, 7, 8] | _ => []) quintetref14_Prune_l15_L ?_ ?_ ?_
  · exact good_by (c := (sub (bodyOf Tryz.f7) [true, true, true, true, false, true, false, false, true, false, false, true, true, true, false, false, true, false, false, true, true, true, false, false])) (i := 32808092) (l := []) (by kernel_rfl) (fun _ h => by cases h)
  · intro Q tm h H
    obtain ⟨A586, l586, c586, e0, H⟩ := selS_ex H
    obtain ⟨x587, e5, H⟩ := selI_ex H
    obtain ⟨x588, e6, H⟩ := selI_ex H
    obtain ⟨a589, e7, H⟩ := selA_ex H
    obtain ⟨x590, e8, H⟩ := selI_ex H
    obtain ⟨a591, e9, H⟩ := selA_ex H
    obtain ⟨x592, e10, H⟩ := selI_ex H
    exact H
  · intro Q k tm h H
    have H0 := H
    obtain ⟨A586, l586, c586, e0, H⟩ := selS_ex H
    obtain ⟨x587, e5, H⟩ := selI_ex H
    obtain ⟨x588, e6, H⟩ := selI_ex H
    obtain ⟨a589, e7, H⟩ := selA_ex H
    obtain ⟨x590, e8, H⟩ := selI_ex H
    obtain ⟨a591, e9, H⟩ := selA_ex H
    obtain ⟨x592, e10, H⟩ := selI_ex H
    have e : mask [0, 5, 6, 7, 8, 9, 10] tm = mkTm [(0, some (.slice A586 l586 c586)), (5, some (.int .i64 x587)), (6, some (.int .i64 x588)), (7, some (.pointer (some a589))), (8, some (.int .i64 x590)), (9, some (.pointer (some a591))), (10, some (.int .i64 x592))] := by simp only [mask, List.map_cons, List.map_nil, e0, e5, e6, e7, e8, e9, e10] <;> rfl
    rw [e]
    refine Eq.mp (quintetref14_Prune_l15_step Q k A586 l586 c586 x587 x588 a589 x590 a591 x592 h) ?_
    rw [← e]
    exact (quintetref14_Prune_l15_mask Q (k + 1) tm h).mp H0
set_option maxRecDepth 100000 in
theorem quintetref14_Prune_j14_step (Q : Qx) (A524 : Option Addr) (l524 : Nat) (c524 : Nat) (x525 : Int) (x526 : Int) (a527 : Addr) (x528 : Int) (a529 : Addr) (h : Hp) : quintetref14_Prune_j14_L Q (mkTm [(0, some (.slice A524 l524 c524)), (5, some (.int .i64 x525)), (6, some (.int .i64 x526)), (7, some (.pointer (some a527))), (8, some (.int .i64 x528)), (9, some (.pointer (some a529)))]) h =
    codeWp Tryz.prog 83 quintetref14_Prune_lp quintetref14_Prune_cut (sub (bodyOf Tryz.f7) [true, true, true, true, false, true, false, false, true, false, false, true, true, true, false, false, true, false, false, true, true]) 4101011 (maskQ (fun e => match e with | .normal => [0, 5, 6, 7, 8] | _ => []) Q) (mkTm [(0, some (.slice A524 l524 c524)), (5, some (.int .i64 x525)), (6, some (.int .i64 x526)), (7, some (.pointer (some a527))), (8, some (.int .i64 x528)), (9, some (.pointer (some a529)))]) h := by kernel_rfl
theorem quintetref14_Prune_j14_mask (Q : Qx) (tm : Tm) (h : Hp) : quintetref14_Prune_j14_L Q tm h ↔ quintetref14_Prune_j14_L Q (mask [0, 5, 6, 7, 8, 9] tm) h := Iff.rfl
set_option maxRecDepth 100000 in
theorem quintetref14_Prune_j14_snd : SndAt Tryz.prog 83 none (sub (bodyOf Tryz.f7) [true, true, true, true, false, true, false, false, true, false, false, true, true, true, false, false, true, false, false, true, true]) (quintetref14_Prune_lp 2050505) := by
  refine join_sound (lp := quintetref14_Prune_lp) (cut := quintetref14_Prune_cut) (i := 2050505) (c := (sub (bodyOf Tryz.f7) [true, true, true, true, false, true, false, false, true, false, false, true, true, true, false, false, true, false, false, true, true])) [0, 5, 6, 7, 8, 9] (fun e => match e with | .normal => [0, 5, 6, 7, 8] | _ => []) quintetref14_Prune_j14_L ?_ ?_
  · exact good_by (c := (sub (bodyOf Tryz.f7) [true, true, true, true, false, true, false, false, true, false, false, true, true, true, false, false, true, false, false, true, true])) (i := 4101011) (l := [(16404046, (sub (bodyOf Tryz.f7) [true, true, true, true, false, true, false, false, true, false, false, true, true, true, false, false, true, false, false, true, true, true, false]))]) (by kernel_rfl) (List.forall_mem_cons.2 ⟨quintetref14_Prune_l15_snd, (fun _ h => by cases h)⟩)
  · intro Q tm h H
    have H0 := H
    obtain ⟨A524, l524, c524, e0, H⟩ := selS_ex H
    obtain ⟨x525, e5, H⟩ := selI_ex H
    obtain ⟨x526, e6, H⟩ := selI_ex H
    obtain ⟨a527, e7, H⟩ := selA_ex H
    obtain ⟨x528, e8, H⟩ := selI_ex H
    obtain ⟨a529, e9, H⟩ := selA_ex H
    have e : mask [0, 5, 6, 7, 8, 9] tm = mkTm [(0, some (.slice A524 l524 c524)), (5, some (.int .i64 x525)), (6, some (.int .i64 x526)), (7, some (.pointer (some a527))), (8, some (.int .i64 x528)), (9, some (.pointer (some a529)))] := by simp only [mask, List.map_cons, List.map_nil, e0, e5, e6, e7, e8, e9] <;> rfl
    rw [e]
    refine Eq.mp (quintetref14_Prune_j14_step Q A524 l524 c524 x525 x526 a527 x528 a529 h) ?_
    rw [← e]
    exact (quintetref14_Prune_j14_mask Q tm h).mp H0
set_option maxRecDepth 100000 in
theorem quintetref14_Prune_l12_step (Q : Qx) (k : Nat) (A346 : Option Addr) (l346 : Nat) (c346 : Nat) (x347 : Int) (x348 : Int) (a349 : Addr) (x350 : Int) (h : Hp) : quintetref14_Prune_l12_L Q (k + 1) (mkTm [(0, some (.slice A346 l346 c346)), (5, some (.int .i64 x347)), (6, some (.int .i64 x348)), (7, some (.pointer (some a349))), (8, some (.int .i64 x350))]) h =
    codeWp Tryz.prog 83 quintetref14_Prune_lp quintetref14_Prune_cut (sub (bodyOf Tryz.f7) [true, true, true, true, false, true, false, false, true, false, false, true, true, true, false, false]) 128156 (thenQ (fun tm h => quintetref14_Prune_l12_L Q k (mask [0, 5, 6, 7, 8] tm) h) (maskQ (fun e => match e with | .exit 2 => [0, 5, 6] | _ => []) Q)) (mkTm [(0, some (.slice A346 l346 c346)), (5, some (.int .i64 x347)), (6, some (.int .i64 x348)), (7, some (.pointer (some a349))), (8, some (.int .i64 x350))]) h := by kernel_rfl
theorem quintetref14_Prune_l12_mask (Q : Qx) (k : Nat) (tm : Tm) (h : Hp) : quintetref14_Prune_l12_L Q k tm h ↔ quintetref14_Prune_l12_L Q k (mask [0, 5, 6, 7, 8] tm) h := Iff.rfl
set_option maxRecDepth 100000 in
theorem quintetref14_Prune_l12_snd : SndAt Tryz.prog 83 none (sub (bodyOf Tryz.f7) [true, true, true, true, false, true, false, false, true, false, false, true, true, true, false]) (quintetref14_Prune_lp 64078) := by
  refine loop_sound (lp := quintetref14_Prune_lp) (cut := quintetref14_Prune_cut) (i := 64078) (c := (sub (bodyOf Tryz.f7) [true, true, true, true, false, true, false, false, true, false, false, true, true, true, false, false])) [0, 5, 6, 7, 8] (fun e => match e with | .exit 2 => [0, 5, 6] | _ => []) quintetref14_Prune_l12_L ?_ ?_ ?_
  · exact good_by (c := (sub (bodyOf Tryz.f7) [true, true, true, true, false, true, false, false, true, false, false, true, true, true, false, false])) (i := 128156) (l := [(2050505, (sub (bodyOf Tryz.f7) [true, true, true, true, false, true, false, false, true, false, false, true, true, true, false, false, true, false, false, true, true]))]) (by kernel_rfl) (List.forall_mem_cons.2 ⟨quintetref14_Prune_j14_snd, (fun _ h => by cases h)⟩)
  · intro Q tm h H
    obtain ⟨A346, l346, c346, e0, H⟩ := selS_ex H
    obtain ⟨x347, e5, H⟩ := selI_ex H
    obtain ⟨x348, e6, H⟩ := selI_ex H
    obtain ⟨a349, e7, H⟩ := selA_ex H
    obtain ⟨x350, e8, H⟩ := selI_ex H
    exact H
  · intro Q k tm h H
    have H0 := H
    obtain ⟨A346, l346, c346, e0, H⟩ := selS_ex H
    obtain ⟨x347, e5, H⟩ := selI_ex H
    obtain ⟨x348, e6, H⟩ := selI_ex H
    obtain ⟨a349, e7, H⟩ := selA_ex H
    obtain ⟨x350, e8, H⟩ := selI_ex H
    have e : mask [0, 5, 6, 7, 8] tm = mkTm [(0, some (.slice A346 l346 c346)), (5, some (.int .i64 x347)), (6, some (.int .i64 x348)), (7, some (.pointer (some a349))), (8, some (.int .i64 x350))] := by simp only [mask, List.map_cons, List.map_nil, e0, e5, e6, e7, e8] <;> rfl
    rw [e]
    refine Eq.mp (quintetref14_Prune_l12_step Q k A346 l346 c346 x347 x348 a349 x350 h) ?_
    rw [← e]
    exact (quintetref14_Prune_l12_mask Q (k + 1) tm h).mp H0
set_option maxRecDepth 100000 in
theorem quintetref14_Prune_l8_step (Q : Qx) (k : Nat) (A5 : Option Addr) (l5 : Nat) (c5 : Nat) (x6 : Int) (x7 : Int) (h : Hp) : quintetref14_Prune_l8_L Q (k + 1) (mkTm [(0, some (.slice A5 l5 c5)), (5, some (.int .i64 x6)), (6, some (.int .i64 x7))]) h =
    codeWp Tryz.prog 83 quintetref14_Prune_lp quintetref14_Prune_cut (sub (bodyOf Tryz.f7) [true, true, true, true, false, true, false, false]) 500 (thenQ (fun tm h => quintetref14_Prune_l8_L Q k (mask [0, 5, 6] tm) h) (maskQ (fun e => match e with | .exit 0 => [5] | _ => []) Q)) (mkTm [(0, some (.slice A5 l5 c5)), (5, some (.int .i64 x6)), (6, some (.int .i64 x7))]) h := by kernel_rfl
theorem quintetref14_Prune_l8_mask (Q : Qx) (k : Nat) (tm : Tm) (h : Hp) : quintetref14_Prune_l8_L Q k tm h ↔ quintetref14_Prune_l8_L Q k (mask [0, 5, 6] tm) h := Iff.rfl
set_option maxRecDepth 100000 in
theorem quintetref14_Prune_l8_snd : SndAt Tryz.prog 83 none (sub (bodyOf Tryz.f7) [true, true, true, true, false, true, false]) (quintetref14_Prune_lp 250) := by
  refine loop_sound (lp := quintetref14_Prune_lp) (cut := quintetref14_Prune_cut) (i := 250) (c := (sub (bodyOf Tryz.f7) [true, true, true, true, false, true, false, false])) [0, 5, 6] (fun e => match e with | .exit 0 => [5] | _ => []) quintetref14_Prune_l8_L ?_ ?_ ?_
  · exact good_by (c := (sub (bodyOf Tryz.f7) [true, true, true, true, false, true, false, false])) (i := 500) (l := [(64078, (sub (bodyOf Tryz.f7) [true, true, true, true, false, true, false, false, true, false, false, true, true, true, false]))]) (by kernel_rfl) (List.forall_mem_cons.2 ⟨quintetref14_Prune_l12_snd, (fun _ h => by cases h)⟩)
  · intro Q tm h H
    obtain ⟨A5, l5, c5, e0, H⟩ := selS_ex H
    obtain ⟨x6, e5, H⟩ := selI_ex H
    obtain ⟨x7, e6, H⟩ := selI_ex H
    exact H
  · intro Q k tm h H
    have H0 := H
    obtain ⟨A5, l5, c5, e0, H⟩ := selS_ex H
    obtain ⟨x6, e5, H⟩ := selI_ex H
    obtain ⟨x7, e6, H⟩ := selI_ex H
    have e : mask [0, 5, 6] tm = mkTm [(0, some (.slice A5 l5 c5)), (5, some (.int .i64 x6)), (6, some (.int .i64 x7))] := by simp only [mask, List.map_cons, List.map_nil, e0, e5, e6] <;> rfl
    rw [e]
    refine Eq.mp (quintetref14_Prune_l8_step Q k A5 l5 c5 x6 x7 h) ?_
    rw [← e]
    exact (quintetref14_Prune_l8_mask Q (k + 1) tm h).mp H0
set_option maxRecDepth 100000 in
theorem quintetref14_Prune_eq (A1 : Option Addr) (l1 : Nat) (c1 : Nat) (h : Hp) (K : Value → Hp → Prop) : quintetref14_Prune A1 l1 c1 h K =
    codeWp Tryz.prog 83 quintetref14_Prune_lp quintetref14_Prune_cut (bodyOf Tryz.f7) 1 (endQ Tryz.prog Tryz.f7.results.toList K) (argTm [(.slice A1 l1 c1)]) h := by kernel_rfl
set_option maxRecDepth 100000 in
theorem quintetref14_Prune_ok (A1 : Option Addr) (l1 : Nat) (c1 : Nat) {h : Hp} {K : Value → Hp → Prop} (H : quintetref14_Prune A1 l1 c1 h K) : CallsH Tryz.prog 7 #[(.slice A1 l1 c1)] h K :=
  calls_of (args := [(.slice A1 l1 c1)]) (n := 83) (lp := quintetref14_Prune_lp) (cut := quintetref14_Prune_cut) Tryz.func7 (c := bodyOf Tryz.f7) (by kernel_rfl) (by kernel_rfl) (by kernel_rfl) (good_by (c := (bodyOf Tryz.f7)) (i := 1) (l := [(250, (sub (bodyOf Tryz.f7) [true, true, true, true, false, true, false]))]) (by kernel_rfl) (List.forall_mem_cons.2 ⟨quintetref14_Prune_l8_snd, (fun _ h => by cases h)⟩))
    (Eq.mp (quintetref14_Prune_eq A1 l1 c1 h K) H)

/-! ### quintet/quintetref14.Grid: function 9 -/
def quintetref14_Grid_l3 (A60 : Option Addr) (l60 : Nat) (c60 : Nat) (x62 : Int) (a63 : Addr) (K0 : (Option Addr) → Nat → Nat → Int → Int → Hp → Prop)  : Nat → Int → Int → Hp → Prop
  | 0, _, _, _ => False
  | k + 1, x61, x64, h =>
    br (decide (x64 < (l60 : Int)))
    (∃ x76 : Int, ∃ x77 : Int, HV Tryz.prog (Instr.loadAt 45 (.pointer (some a63))) h (.agg #[(.int .u32 x76), (.int .i64 x77)]) ∧ 
    ∃ a78 : Addr, PV Tryz.prog (Instr.indexAt 22 (.slice A60 l60 c60) (.int .i64 x64)) (.pointer (some a78)) ∧
    ∃ x79 : Int, ∃ x80 : Int, HV Tryz.prog (Instr.loadAt 45 (.pointer (some (a78.add 1)))) h (.agg #[(.int .u32 x79), (.int .i64 x80)]) ∧ 
    CallsH Tryz.prog 28 #[(.agg #[(.int .u32 x76), (.int .i64 x77)]), (.agg #[(.int .u32 x79), (.int .i64 x80)])] h fun r82 h81 =>
    ∃ b83 : Bool, r82 = (.bool b83) ∧ 
    br b83
    (quintetref14_Grid_l3 A60 l60 c60 x62 a63 K0 k (IntKind.i64.wrap (x61 + 1)) (IntKind.i64.wrap (x64 + 1)) h81)
    (quintetref14_Grid_l3 A60 l60 c60 x62 a63 K0 k x61 (IntKind.i64.wrap (x64 + 1)) h81))
    (K0 A60 l60 c60 x61 x62 h)
def quintetref14_Grid_l3_L (Q : Qx) (k : Nat) (tm : Tm) (h : Hp) : Prop :=
  selS (tm 0) fun A60 l60 c60 =>
  selI .i64 (tm 5) fun x61 =>
  selI .i64 (tm 6) fun x62 =>
  selA (tm 7) fun a63 =>
  selI .i64 (tm 8) fun x64 =>
  quintetref14_Grid_l3 A60 l60 c60 x62 a63 (fun (A73 : Option Addr) (l73 : Nat) (c73 : Nat) (x74 : Int) (x75 : Int) h => Q (.exit 2) (mkTm [(0, some (.slice A73 l73 c73)), (5, some (.int .i64 x74)), (6, some (.int .i64 x75))]) h) k x61 x64 h
def quintetref14_Grid_l2 (A5 : Option Addr) (l5 : Nat) (c5 : Nat) (K0 : Int → Hp → Prop)  : Nat → Int → Int → Hp → Prop
  | 0, _, _, _ => False
  | k + 1, x6, x7, h =>
    br (decide (x7 < (l5 : Int)))
    (∃ a49 : Addr, PV Tryz.prog (Instr.indexAt 22 (.slice A5 l5 c5) (.int .i64 x7)) (.pointer (some a49)) ∧
    ∃ x50 : Int, ∃ x51 : Int, HV Tryz.prog (Instr.loadAt 45 (.pointer (some (a49.add 1)))) h (.agg #[(.int .u32 x50), (.int .i64 x51)]) ∧ 
    newC h (.cells #[(.int .u32 0), (.int .i64 0)] 45 (0, 0)) fun a53 h52 => 
    HU Tryz.prog (Instr.storeAt 45 (.pointer (some a53)) (.agg #[(.int .u32 x50), (.int .i64 x51)])) h52 fun h54 => 
    ∃ x55 : Int, ∃ x56 : Int, HV Tryz.prog (Instr.loadAt 45 (.pointer (some a53))) h54 (.agg #[(.int .u32 x55), (.int .i64 x56)]) ∧ 
    CallsH Tryz.prog 27 #[(.slice A5 l5 c5), (.int .i64 x7), (.agg #[(.int .u32 x55), (.int .i64 x56)]), (.bool false)] h54 fun r58 h57 =>
    ∃ b59 : Bool, r58 = (.bool b59) ∧ 
    br (!b59)
    (quintetref14_Grid_l2 A5 l5 c5 K0 k x6 (IntKind.i64.wrap (x7 + 1)) h57)
    (∃ k88, quintetref14_Grid_l3 A5 l5 c5 x7 a53
    (fun (A84 : Option Addr) (l84 : Nat) (c84 : Nat) (x85 : Int) (x86 : Int) (h87 : Hp) =>
    quintetref14_Grid_l2 A5 l5 c5 K0 k x85 (IntKind.i64.wrap (x86 + 1)) h87)
    k88 x6 0 h57))
    (K0 x6 h)
def quintetref14_Grid_l2_L (Q : Qx) (k : Nat) (tm : Tm) (h : Hp) : Prop :=
  selS (tm 0) fun A5 l5 c5 =>
  selI .i64 (tm 5) fun x6 =>
  selI .i64 (tm 6) fun x7 =>
  quintetref14_Grid_l2 A5 l5 c5 (fun (x48 : Int) h => Q (.exit 0) (mkTm [(5, some (.int .i64 x48))]) h) k x6 x7 h
def quintetref14_Grid (A1 : Option Addr) (l1 : Nat) (c1 : Nat) (h : Hp) (K : Value → Hp → Prop) : Prop :=
  CallsH Tryz.prog 26 #[(.slice A1 l1 c1)] h fun r3 h2 =>
  ∃ x4 : Int, r3 = (.int .i64 x4) ∧ 
  br (x4 != 0)
  (K (.tuple #[(.int .i64 0), (.int .i64 x4)]) h2)
  (∃ k91, quintetref14_Grid_l2 A1 l1 c1
  (fun (x89 : Int) (h90 : Hp) =>
  K (.tuple #[(.int .i64 x89), (.int .i64 0)]) h90)
  k91 0 0 h2)
def quintetref14_Grid_lp (i : Nat) (Q : Qx) (tm : Tm) (h : Hp) : Prop := match Nat.beq i 64078 with
  | true => ∃ k, quintetref14_Grid_l3_L Q k tm h
  | false => match Nat.beq i 250 with
  | true => ∃ k, quintetref14_Grid_l2_L Q k tm h
  | false => False
def quintetref14_Grid_cut (i : Nat) : Option (List Nat) := none
set_option maxRecDepth 100000 in
theorem quintetref14_Grid_l3_step (Q : Qx) (k : Nat) (A60 : Option Addr) (l60 : Nat) (c60 : Nat) (x61 : Int) (x62 : Int) (a63 : Addr) (x64 : Int) (h : Hp) : quintetref14_Grid_l3_L Q (k + 1) (mkTm [(0, some (.slice A60 l60 c60)), (5, some (.int .i64 x61)), (6, some (.int .i64 x62)), (7, some (.pointer (some a63))), (8, some (.int .i64 x64))]) h =
    codeWp Tryz.prog 46 quintetref14_Grid_lp quintetref14_Grid_cut (sub (bodyOf Tryz.f9) [true, true, true, true, false, true, false, false, true, false, false, true, true, true, false, false]) 128156 (thenQ (fun tm h => quintetref14_Grid_l3_L Q k (mask [0, 5, 6, 7, 8] tm) h) (maskQ (fun e => match e with | .exit 2 => [0, 5, 6] | _ => []) Q)) (mkTm [(0, some (.slice A60 l60 c60)), (5, some (.int .i64 x61)), (6, some (.int .i64 x62)), (7, some (.pointer (some a63))), (8, some (.int .i64 x64))]) h := by kernel_rfl
theorem quintetref14_Grid_l3_mask (Q : Qx) (k : Nat) (tm : Tm) (h : Hp) : quintetref14_Grid_l3_L Q k tm h ↔ quintetref14_Grid_l3_L Q k (mask [0, 5, 6, 7, 8] tm) h := Iff.rfl
set_option maxRecDepth 100000 in
theorem quintetref14_Grid_l3_snd : SndAt Tryz.prog 46 none (sub (bodyOf Tryz.f9) [true, true, true, true, false, true, false, false, true, false, false, true, true, true, false]) (quintetref14_Grid_lp 64078) := by
  refine loop_sound (lp := quintetref14_Grid_lp) (cut := quintetref14_Grid_cut) (i := 64078) (c := (sub (bodyOf Tryz.f9) [true, true, true, true, false, true, false, false, true, false, false, true, true, true, false, false])) [0, 5, 6, 7, 8] (fun e => match e with | .exit 2 => [0, 5, 6] | _ => []) quintetref14_Grid_l3_L ?_ ?_ ?_
  · exact good_by (c := (sub (bodyOf Tryz.f9) [true, true, true, true, false, true, false, false, true, false, false, true, true, true, false, false])) (i := 128156) (l := []) (by kernel_rfl) (fun _ h => by cases h)
  · intro Q tm h H
    obtain ⟨A60, l60, c60, e0, H⟩ := selS_ex H
    obtain ⟨x61, e5, H⟩ := selI_ex H
    obtain ⟨x62, e6, H⟩ := selI_ex H
    obtain ⟨a63, e7, H⟩ := selA_ex H
    obtain ⟨x64, e8, H⟩ := selI_ex H
    exact H
  · intro Q k tm h H
    have H0 := H
    obtain ⟨A60, l60, c60, e0, H⟩ := selS_ex H
    obtain ⟨x61, e5, H⟩ := selI_ex H
    obtain ⟨x62, e6, H⟩ := selI_ex H
    obtain ⟨a63, e7, H⟩ := selA_ex H
    obtain ⟨x64, e8, H⟩ := selI_ex H
    have e : mask [0, 5, 6, 7, 8] tm = mkTm [(0, some (.slice A60 l60 c60)), (5, some (.int .i64 x61)), (6, some (.int .i64 x62)), (7, some (.pointer (some a63))), (8, some (.int .i64 x64))] := by simp only [mask, List.map_cons, List.map_nil, e0, e5, e6, e7, e8] <;> rfl
    rw [e]
    refine Eq.mp (quintetref14_Grid_l3_step Q k A60 l60 c60 x61 x62 a63 x64 h) ?_
    rw [← e]
    exact (quintetref14_Grid_l3_mask Q (k + 1) tm h).mp H0
set_option maxRecDepth 100000 in
theorem quintetref14_Grid_l2_step (Q : Qx) (k : Nat) (A5 : Option Addr) (l5 : Nat) (c5 : Nat) (x6 : Int) (x7 : Int) (h : Hp) : quintetref14_Grid_l2_L Q (k + 1) (mkTm [(0, some (.slice A5 l5 c5)), (5, some (.int .i64 x6)), (6, some (.int .i64 x7))]) h =
    codeWp Tryz.prog 46 quintetref14_Grid_lp quintetref14_Grid_cut (sub (bodyOf Tryz.f9) [true, true, true, true, false, true, false, false]) 500 (thenQ (fun tm h => quintetref14_Grid_l2_L Q k (mask [0, 5, 6] tm) h) (maskQ (fun e => match e with | .exit 0 => [5] | _ => []) Q)) (mkTm [(0, some (.slice A5 l5 c5)), (5, some (.int .i64 x6)), (6, some (.int .i64 x7))]) h := by kernel_rfl
theorem quintetref14_Grid_l2_mask (Q : Qx) (k : Nat) (tm : Tm) (h : Hp) : quintetref14_Grid_l2_L Q k tm h ↔ quintetref14_Grid_l2_L Q k (mask [0, 5, 6] tm) h := Iff.rfl
set_option maxRecDepth 100000 in
theorem quintetref14_Grid_l2_snd : SndAt Tryz.prog 46 none (sub (bodyOf Tryz.f9) [true, true, true, true, false, true, false]) (quintetref14_Grid_lp 250) := by
  refine loop_sound (lp := quintetref14_Grid_lp) (cut := quintetref14_Grid_cut) (i := 250) (c := (sub (bodyOf Tryz.f9) [true, true, true, true, false, true, false, false])) [0, 5, 6] (fun e => match e with | .exit 0 => [5] | _ => []) quintetref14_Grid_l2_L ?_ ?_ ?_
  · exact good_by (c := (sub (bodyOf Tryz.f9) [true, true, true, true, false, true, false, false])) (i := 500) (l := [(64078, (sub (bodyOf Tryz.f9) [true, true, true, true, false, true, false, false, true, false, false, true, true, true, false]))]) (by kernel_rfl) (List.forall_mem_cons.2 ⟨quintetref14_Grid_l3_snd, (fun _ h => by cases h)⟩)
  · intro Q tm h H
    obtain ⟨A5, l5, c5, e0, H⟩ := selS_ex H
    obtain ⟨x6, e5, H⟩ := selI_ex H
    obtain ⟨x7, e6, H⟩ := selI_ex H
    exact H
  · intro Q k tm h H
    have H0 := H
    obtain ⟨A5, l5, c5, e0, H⟩ := selS_ex H
    obtain ⟨x6, e5, H⟩ := selI_ex H
    obtain ⟨x7, e6, H⟩ := selI_ex H
    have e : mask [0, 5, 6] tm = mkTm [(0, some (.slice A5 l5 c5)), (5, some (.int .i64 x6)), (6, some (.int .i64 x7))] := by simp only [mask, List.map_cons, List.map_nil, e0, e5, e6] <;> rfl
    rw [e]
    refine Eq.mp (quintetref14_Grid_l2_step Q k A5 l5 c5 x6 x7 h) ?_
    rw [← e]
    exact (quintetref14_Grid_l2_mask Q (k + 1) tm h).mp H0
set_option maxRecDepth 100000 in
theorem quintetref14_Grid_eq (A1 : Option Addr) (l1 : Nat) (c1 : Nat) (h : Hp) (K : Value → Hp → Prop) : quintetref14_Grid A1 l1 c1 h K =
    codeWp Tryz.prog 46 quintetref14_Grid_lp quintetref14_Grid_cut (bodyOf Tryz.f9) 1 (endQ Tryz.prog Tryz.f9.results.toList K) (argTm [(.slice A1 l1 c1)]) h := by kernel_rfl
set_option maxRecDepth 100000 in
theorem quintetref14_Grid_ok (A1 : Option Addr) (l1 : Nat) (c1 : Nat) {h : Hp} {K : Value → Hp → Prop} (H : quintetref14_Grid A1 l1 c1 h K) : CallsH Tryz.prog 9 #[(.slice A1 l1 c1)] h K :=
  calls_of (args := [(.slice A1 l1 c1)]) (n := 46) (lp := quintetref14_Grid_lp) (cut := quintetref14_Grid_cut) Tryz.func9 (c := bodyOf Tryz.f9) (by kernel_rfl) (by kernel_rfl) (by kernel_rfl) (good_by (c := (bodyOf Tryz.f9)) (i := 1) (l := [(250, (sub (bodyOf Tryz.f9) [true, true, true, true, false, true, false]))]) (by kernel_rfl) (List.forall_mem_cons.2 ⟨quintetref14_Grid_l2_snd, (fun _ h => by cases h)⟩))
    (Eq.mp (quintetref14_Grid_eq A1 l1 c1 h K) H)

/-! ### quintet/quintetref14.Tuple: function 11 -/
def quintetref14_Tuple_l1 (A5 : Option Addr) (l5 : Nat) (c5 : Nat) (K0 : Int → Hp → Prop)  : Nat → Int → Int → Hp → Prop
  | 0, _, _, _ => False
  | k + 1, x6, x7, h =>
    br (decide (x7 < (l5 : Int)))
    (∃ a23 : Addr, PV Tryz.prog (Instr.indexAt 22 (.slice A5 l5 c5) (.int .i64 x7)) (.pointer (some a23)) ∧
    ∃ x24 : Int, ∃ x25 : Int, HV Tryz.prog (Instr.loadAt 36 (.pointer (some (a23.add 5)))) h (.agg #[(.int .u16 x24), (.int .u16 x25)]) ∧ 
    CallsH Tryz.prog 30 #[(.agg #[(.int .u16 x24), (.int .u16 x25)])] h fun r27 h26 =>
    ∃ x28 : Int, ∃ x29 : Int, r27 = (.tuple #[(.int .i64 x28), (.int .i64 x29)]) ∧ 
    ∃ a30 : Addr, PV Tryz.prog (Instr.indexAt 22 (.slice A5 l5 c5) (.int .i64 x7)) (.pointer (some a30)) ∧
    ∃ x31 : Int, ∃ x32 : Int, HV Tryz.prog (Instr.loadAt 36 (.pointer (some (a30.add 7)))) h26 (.agg #[(.int .u16 x31), (.int .u16 x32)]) ∧ 
    CallsH Tryz.prog 30 #[(.agg #[(.int .u16 x31), (.int .u16 x32)])] h26 fun r34 h33 =>
    ∃ x35 : Int, ∃ x36 : Int, r34 = (.tuple #[(.int .i64 x35), (.int .i64 x36)]) ∧ 
    quintetref14_Tuple_l1 A5 l5 c5 K0 k (IntKind.i64.wrap (x6 + (IntKind.i64.wrap (x28 * x35)))) (IntKind.i64.wrap (x7 + 1)) h33)
    (K0 x6 h)
def quintetref14_Tuple_l1_L (Q : Qx) (k : Nat) (tm : Tm) (h : Hp) : Prop :=
  selS (tm 0) fun A5 l5 c5 =>
  selI .i64 (tm 5) fun x6 =>
  selI .i64 (tm 6) fun x7 =>
  quintetref14_Tuple_l1 A5 l5 c5 (fun (x22 : Int) h => Q (.exit 0) (mkTm [(5, some (.int .i64 x22))]) h) k x6 x7 h
def quintetref14_Tuple (A1 : Option Addr) (l1 : Nat) (c1 : Nat) (h : Hp) (K : Value → Hp → Prop) : Prop :=
  CallsH Tryz.prog 26 #[(.slice A1 l1 c1)] h fun r3 h2 =>
  ∃ x4 : Int, r3 = (.int .i64 x4) ∧ 
  br (x4 != 0)
  (K (.tuple #[(.int .i64 0), (.int .i64 x4)]) h2)
  (∃ k39, quintetref14_Tuple_l1 A1 l1 c1
  (fun (x37 : Int) (h38 : Hp) =>
  K (.tuple #[(.int .i64 x37), (.int .i64 0)]) h38)
  k39 0 0 h2)
def quintetref14_Tuple_lp (i : Nat) (Q : Qx) (tm : Tm) (h : Hp) : Prop := match Nat.beq i 250 with
  | true => ∃ k, quintetref14_Tuple_l1_L Q k tm h
  | false => False
def quintetref14_Tuple_cut (i : Nat) : Option (List Nat) := none
set_option maxRecDepth 100000 in
theorem quintetref14_Tuple_l1_step (Q : Qx) (k : Nat) (A5 : Option Addr) (l5 : Nat) (c5 : Nat) (x6 : Int) (x7 : Int) (h : Hp) : quintetref14_Tuple_l1_L Q (k + 1) (mkTm [(0, some (.slice A5 l5 c5)), (5, some (.int .i64 x6)), (6, some (.int .i64 x7))]) h =
    codeWp Tryz.prog 46 quintetref14_Tuple_lp quintetref14_Tuple_cut (sub (bodyOf Tryz.f11) [true, true, true, true, false, true, false, false]) 500 (thenQ (fun tm h => quintetref14_Tuple_l1_L Q k (mask [0, 5, 6] tm) h) (maskQ (fun e => match e with | .exit 0 => [5] | _ => []) Q)) (mkTm [(0, some (.slice A5 l5 c5)), (5, some (.int .i64 x6)), (6, some (.int .i64 x7))]) h := by kernel_rfl
theorem quintetref14_Tuple_l1_mask (Q : Qx) (k : Nat) (tm : Tm) (h : Hp) : quintetref14_Tuple_l1_L Q k tm h ↔ quintetref14_Tuple_l1_L Q k (mask [0, 5, 6] tm) h := Iff.rfl
set_option maxRecDepth 100000 in
theorem quintetref14_Tuple_l1_snd : SndAt Tryz.prog 46 none (sub (bodyOf Tryz.f11) [true, true, true, true, false, true, false]) (quintetref14_Tuple_lp 250) := by
  refine loop_sound (lp := quintetref14_Tuple_lp) (cut := quintetref14_Tuple_cut) (i := 250) (c := (sub (bodyOf Tryz.f11) [true, true, true, true, false, true, false, false])) [0, 5, 6] (fun e => match e with | .exit 0 => [5] | _ => []) quintetref14_Tuple_l1_L ?_ ?_ ?_
  · exact good_by (c := (sub (bodyOf Tryz.f11) [true, true, true, true, false, true, false, false])) (i := 500) (l := []) (by kernel_rfl) (fun _ h => by cases h)
  · intro Q tm h H
    obtain ⟨A5, l5, c5, e0, H⟩ := selS_ex H
    obtain ⟨x6, e5, H⟩ := selI_ex H
    obtain ⟨x7, e6, H⟩ := selI_ex H
    exact H
  · intro Q k tm h H
    have H0 := H
    obtain ⟨A5, l5, c5, e0, H⟩ := selS_ex H
    obtain ⟨x6, e5, H⟩ := selI_ex H
    obtain ⟨x7, e6, H⟩ := selI_ex H
    have e : mask [0, 5, 6] tm = mkTm [(0, some (.slice A5 l5 c5)), (5, some (.int .i64 x6)), (6, some (.int .i64 x7))] := by simp only [mask, List.map_cons, List.map_nil, e0, e5, e6] <;> rfl
    rw [e]
    refine Eq.mp (quintetref14_Tuple_l1_step Q k A5 l5 c5 x6 x7 h) ?_
    rw [← e]
    exact (quintetref14_Tuple_l1_mask Q (k + 1) tm h).mp H0
set_option maxRecDepth 100000 in
theorem quintetref14_Tuple_eq (A1 : Option Addr) (l1 : Nat) (c1 : Nat) (h : Hp) (K : Value → Hp → Prop) : quintetref14_Tuple A1 l1 c1 h K =
    codeWp Tryz.prog 46 quintetref14_Tuple_lp quintetref14_Tuple_cut (bodyOf Tryz.f11) 1 (endQ Tryz.prog Tryz.f11.results.toList K) (argTm [(.slice A1 l1 c1)]) h := by kernel_rfl
set_option maxRecDepth 100000 in
theorem quintetref14_Tuple_ok (A1 : Option Addr) (l1 : Nat) (c1 : Nat) {h : Hp} {K : Value → Hp → Prop} (H : quintetref14_Tuple A1 l1 c1 h K) : CallsH Tryz.prog 11 #[(.slice A1 l1 c1)] h K :=
  calls_of (args := [(.slice A1 l1 c1)]) (n := 46) (lp := quintetref14_Tuple_lp) (cut := quintetref14_Tuple_cut) Tryz.func11 (c := bodyOf Tryz.f11) (by kernel_rfl) (by kernel_rfl) (by kernel_rfl) (good_by (c := (bodyOf Tryz.f11)) (i := 1) (l := [(250, (sub (bodyOf Tryz.f11) [true, true, true, true, false, true, false]))]) (by kernel_rfl) (List.forall_mem_cons.2 ⟨quintetref14_Tuple_l1_snd, (fun _ h => by cases h)⟩))
    (Eq.mp (quintetref14_Tuple_eq A1 l1 c1 h K) H)

/-! ### quintet/quintetref14.Pairs: function 14 -/
def quintetref14_Pairs_l1 (A9 : Option Addr) (l9 : Nat) (c9 : Nat) (a10 : Addr) (K0 : Int → Hp → Prop)  : Nat → Int → Int → Hp → Prop
  | 0, _, _, _ => False
  | k + 1, x11, x12, h =>
    br (decide (x12 < (l9 : Int)))
    (∃ a44 : Addr, PV Tryz.prog (Instr.indexAt 22 (.slice A9 l9 c9) (.int .i64 x12)) (.pointer (some a44)) ∧
    ∃ x45 : Int, ∃ x46 : Int, ∃ x47 : Int, ∃ x48 : Int, ∃ x49 : Int, ∃ x50 : Int, ∃ x51 : Int, ∃ x52 : Int, ∃ x53 : Int, ∃ x54 : Int, ∃ x55 : Int, ∃ x56 : Int, HV Tryz.prog (Instr.loadAt 49 (.pointer (some a44))) h (.agg #[(.int .i64 x45), (.int .u32 x46), (.int .i64 x47), (.int .u32 x48), (.int .i64 x49), (.int .u16 x50), (.int .u16 x51), (.int .u16 x52), (.int .u16 x53), (.int .u8 x54), (.int .u8 x55), (.int .i64 x56)]) ∧ 
    CallsH Tryz.prog 34 #[(.agg #[(.int .i64 x45), (.int .u32 x46), (.int .i64 x47), (.int .u32 x48), (.int .i64 x49), (.int .u16 x50), (.int .u16 x51), (.int .u16 x52), (.int .u16 x53), (.int .u8 x54), (.int .u8 x55), (.int .i64 x56)])] h fun r58 h57 =>
    ∃ b59 : Bool, r58 = (.bool b59) ∧ 
    br b59
    (∃ a60 : Addr, PV Tryz.prog (Instr.indexAt 22 (.slice A9 l9 c9) (.int .i64 x12)) (.pointer (some a60)) ∧
    ∃ x61 : Int, ∃ x62 : Int, HV Tryz.prog (Instr.loadAt 45 (.pointer (some (a60.add 1)))) h57 (.agg #[(.int .u32 x61), (.int .i64 x62)]) ∧ 
    ∃ x63 : Int, HV Tryz.prog (Instr.loadAt 23 (.pointer (some a10))) h57 (.int .u32 x63) ∧ 
    CallsH Tryz.prog 35 #[(.agg #[(.int .u32 x61), (.int .i64 x62)]), (.int .u32 x63)] h57 fun r65 h64 =>
    ∃ b66 : Bool, r65 = (.bool b66) ∧ 
    br b66
    (∃ a67 : Addr, PV Tryz.prog (Instr.indexAt 22 (.slice A9 l9 c9) (.int .i64 x12)) (.pointer (some a67)) ∧
    ∃ x68 : Int, ∃ x69 : Int, HV Tryz.prog (Instr.loadAt 45 (.pointer (some (a67.add 3)))) h64 (.agg #[(.int .u32 x68), (.int .i64 x69)]) ∧ 
    ∃ x70 : Int, HV Tryz.prog (Instr.loadAt 23 (.pointer (some (a10.add 1)))) h64 (.int .u32 x70) ∧ 
    CallsH Tryz.prog 35 #[(.agg #[(.int .u32 x68), (.int .i64 x69)]), (.int .u32 x70)] h64 fun r72 h71 =>
    ∃ b73 : Bool, r72 = (.bool b73) ∧ 
    br b73
    (quintetref14_Pairs_l1 A9 l9 c9 a10 K0 k (IntKind.i64.wrap (x11 + 1)) (IntKind.i64.wrap (x12 + 1)) h71)
    (quintetref14_Pairs_l1 A9 l9 c9 a10 K0 k x11 (IntKind.i64.wrap (x12 + 1)) h71))
    (quintetref14_Pairs_l1 A9 l9 c9 a10 K0 k x11 (IntKind.i64.wrap (x12 + 1)) h64))
    (quintetref14_Pairs_l1 A9 l9 c9 a10 K0 k x11 (IntKind.i64.wrap (x12 + 1)) h57))
    (K0 x11 h)
def quintetref14_Pairs_l1_L (Q : Qx) (k : Nat) (tm : Tm) (h : Hp) : Prop :=
  selS (tm 0) fun A9 l9 c9 =>
  selA (tm 3) fun a10 =>
  selI .i64 (tm 5) fun x11 =>
  selI .i64 (tm 6) fun x12 =>
  quintetref14_Pairs_l1 A9 l9 c9 a10 (fun (x43 : Int) h => Q (.exit 0) (mkTm [(5, some (.int .i64 x43))]) h) k x11 x12 h
def quintetref14_Pairs (A1 : Option Addr) (l1 : Nat) (c1 : Nat) (x2 : Int) (x3 : Int) (x4 : Int) (x5 : Int) (x6 : Int) (h : Hp) (K : Value → Hp → Prop) : Prop :=
  newC h (.cells #[(.int .u32 x2), (.int .u32 x3), (.int .u16 x4), (.int .u16 x5), (.int .u8 x6)] 26 (0, 0)) fun a8 h7 => 
  ∃ k76, quintetref14_Pairs_l1 A1 l1 c1 a8
  (fun (x74 : Int) (h75 : Hp) =>
  K (.int .i64 x74) h75)
  k76 0 0 h7
def quintetref14_Pairs_lp (i : Nat) (Q : Qx) (tm : Tm) (h : Hp) : Prop := match Nat.beq i 58 with
  | true => ∃ k, quintetref14_Pairs_l1_L Q k tm h
  | false => False
def quintetref14_Pairs_cut (i : Nat) : Option (List Nat) := none
set_option maxRecDepth 100000 in
theorem quintetref14_Pairs_l1_step (Q : Qx) (k : Nat) (A9 : Option Addr) (l9 : Nat) (c9 : Nat) (a10 : Addr) (x11 : Int) (x12 : Int) (h : Hp) : quintetref14_Pairs_l1_L Q (k + 1) (mkTm [(0, some (.slice A9 l9 c9)), (3, some (.pointer (some a10))), (5, some (.int .i64 x11)), (6, some (.int .i64 x12))]) h =
    codeWp Tryz.prog 41 quintetref14_Pairs_lp quintetref14_Pairs_cut (sub (bodyOf Tryz.f14) [true, true, false, true, false, false]) 116 (thenQ (fun tm h => quintetref14_Pairs_l1_L Q k (mask [0, 3, 5, 6] tm) h) (maskQ (fun e => match e with | .exit 0 => [5] | _ => []) Q)) (mkTm [(0, some (.slice A9 l9 c9)), (3, some (.pointer (some a10))), (5, some (.int .i64 x11)), (6, some (.int .i64 x12))]) h := by kernel_rfl
theorem quintetref14_Pairs_l1_mask (Q : Qx) (k : Nat) (tm : Tm) (h : Hp) : quintetref14_Pairs_l1_L Q k tm h ↔ quintetref14_Pairs_l1_L Q k (mask [0, 3, 5, 6] tm) h := Iff.rfl
set_option maxRecDepth 100000 in
theorem quintetref14_Pairs_l1_snd : SndAt Tryz.prog 41 none (sub (bodyOf Tryz.f14) [true, true, false, true, false]) (quintetref14_Pairs_lp 58) := by
  refine loop_sound (lp := quintetref14_Pairs_lp) (cut := quintetref14_Pairs_cut) (i := 58) (c := (sub (bodyOf Tryz.f14) [true, true, false, true, false, false])) [0, 3, 5, 6] (fun e => match e with | .exit 0 => [5] | _ => []) quintetref14_Pairs_l1_L ?_ ?_ ?_
  · exact good_by (c := (sub (bodyOf Tryz.f14) [true, true, false, true, false, false])) (i := 116) (l := []) (by kernel_rfl) (fun _ h => by cases h)
  · intro Q tm h H
    obtain ⟨A9, l9, c9, e0, H⟩ := selS_ex H
    obtain ⟨a10, e3, H⟩ := selA_ex H
    obtain ⟨x11, e5, H⟩ := selI_ex H
    obtain ⟨x12, e6, H⟩ := selI_ex H
    exact H
  · intro Q k tm h H
    have H0 := H
    obtain ⟨A9, l9, c9, e0, H⟩ := selS_ex H
    obtain ⟨a10, e3, H⟩ := selA_ex H
    obtain ⟨x11, e5, H⟩ := selI_ex H
    obtain ⟨x12, e6, H⟩ := selI_ex H
    have e : mask [0, 3, 5, 6] tm = mkTm [(0, some (.slice A9 l9 c9)), (3, some (.pointer (some a10))), (5, some (.int .i64 x11)), (6, some (.int .i64 x12))] := by simp only [mask, List.map_cons, List.map_nil, e0, e3, e5, e6] <;> rfl
    rw [e]
    refine Eq.mp (quintetref14_Pairs_l1_step Q k A9 l9 c9 a10 x11 x12 h) ?_
    rw [← e]
    exact (quintetref14_Pairs_l1_mask Q (k + 1) tm h).mp H0
set_option maxRecDepth 100000 in
theorem quintetref14_Pairs_eq (A1 : Option Addr) (l1 : Nat) (c1 : Nat) (x2 : Int) (x3 : Int) (x4 : Int) (x5 : Int) (x6 : Int) (h : Hp) (K : Value → Hp → Prop) : quintetref14_Pairs A1 l1 c1 x2 x3 x4 x5 x6 h K =
    codeWp Tryz.prog 41 quintetref14_Pairs_lp quintetref14_Pairs_cut (bodyOf Tryz.f14) 1 (endQ Tryz.prog Tryz.f14.results.toList K) (argTm [(.slice A1 l1 c1), (.agg #[(.int .u32 x2), (.int .u32 x3), (.int .u16 x4), (.int .u16 x5), (.int .u8 x6)])]) h := by kernel_rfl
set_option maxRecDepth 100000 in
theorem quintetref14_Pairs_ok (A1 : Option Addr) (l1 : Nat) (c1 : Nat) (x2 : Int) (x3 : Int) (x4 : Int) (x5 : Int) (x6 : Int) {h : Hp} {K : Value → Hp → Prop} (H : quintetref14_Pairs A1 l1 c1 x2 x3 x4 x5 x6 h K) : CallsH Tryz.prog 14 #[(.slice A1 l1 c1), (.agg #[(.int .u32 x2), (.int .u32 x3), (.int .u16 x4), (.int .u16 x5), (.int .u8 x6)])] h K :=
  calls_of (args := [(.slice A1 l1 c1), (.agg #[(.int .u32 x2), (.int .u32 x3), (.int .u16 x4), (.int .u16 x5), (.int .u8 x6)])]) (n := 41) (lp := quintetref14_Pairs_lp) (cut := quintetref14_Pairs_cut) Tryz.func14 (c := bodyOf Tryz.f14) (by kernel_rfl) (by kernel_rfl) (by kernel_rfl) (good_by (c := (bodyOf Tryz.f14)) (i := 1) (l := [(58, (sub (bodyOf Tryz.f14) [true, true, false, true, false]))]) (by kernel_rfl) (List.forall_mem_cons.2 ⟨quintetref14_Pairs_l1_snd, (fun _ h => by cases h)⟩))
    (Eq.mp (quintetref14_Pairs_eq A1 l1 c1 x2 x3 x4 x5 x6 h K) H)

/-! ### quintet/quintetref14.List: function 26 -/
def quintetref14_List_l3 (A59 : Option Addr) (l59 : Nat) (c59 : Nat) (x60 : Int) (K0 : Int → Hp → Prop) (K1 : (Option Addr) → Nat → Nat → Int → Hp → Prop)  : Nat → Int → Hp → Prop
  | 0, _, _ => False
  | k + 1, x61, h =>
    br (decide (x61 < x60))
    (∃ a69 : Addr, PV Tryz.prog (Instr.indexAt 22 (.slice A59 l59 c59) (.int .i64 x61)) (.pointer (some a69)) ∧
    ∃ x70 : Int, HV Tryz.prog (Instr.loadAt 3 (.pointer (some a69))) h (.int .i64 x70) ∧ 
    ∃ a71 : Addr, PV Tryz.prog (Instr.indexAt 22 (.slice A59 l59 c59) (.int .i64 x60)) (.pointer (some a71)) ∧
    ∃ x72 : Int, HV Tryz.prog (Instr.loadAt 3 (.pointer (some a71))) h (.int .i64 x72) ∧ 
    br (x70 == x72)
    (K0 111 h)
    (quintetref14_List_l3 A59 l59 c59 x60 K0 K1 k (IntKind.i64.wrap (x61 + 1)) h))
    (K1 A59 l59 c59 x60 h)
def quintetref14_List_l3_L (Q : Qx) (k : Nat) (tm : Tm) (h : Hp) : Prop :=
  selS (tm 0) fun A59 l59 c59 =>
  selI .i64 (tm 3) fun x60 =>
  selI .i64 (tm 6) fun x61 =>
  quintetref14_List_l3 A59 l59 c59 x60 (fun (x66 : Int) h => Q (.ret) (mkTm [(2, some (.int .i64 x66))]) h) (fun (A67 : Option Addr) (l67 : Nat) (c67 : Nat) (x68 : Int) h => Q (.exit 2) (mkTm [(0, some (.slice A67 l67 c67)), (3, some (.int .i64 x68))]) h) k x61 h
def quintetref14_List_l2 (A2 : Option Addr) (l2 : Nat) (c2 : Nat) (K0 : Int → Hp → Prop) (K1 : Hp → Prop)  : Nat → Int → Hp → Prop
  | 0, _, _ => False
  | k + 1, x3, h =>
    br (decide (x3 < (l2 : Int)))
    (∃ a42 : Addr, PV Tryz.prog (Instr.indexAt 22 (.slice A2 l2 c2) (.int .i64 x3)) (.pointer (some a42)) ∧
    ∃ x43 : Int, ∃ x44 : Int, ∃ x45 : Int, ∃ x46 : Int, ∃ x47 : Int, ∃ x48 : Int, ∃ x49 : Int, ∃ x50 : Int, ∃ x51 : Int, ∃ x52 : Int, ∃ x53 : Int, ∃ x54 : Int, HV Tryz.prog (Instr.loadAt 49 (.pointer (some a42))) h (.agg #[(.int .i64 x43), (.int .u32 x44), (.int .i64 x45), (.int .u32 x46), (.int .i64 x47), (.int .u16 x48), (.int .u16 x49), (.int .u16 x50), (.int .u16 x51), (.int .u8 x52), (.int .u8 x53), (.int .i64 x54)]) ∧ 
    CallsH Tryz.prog 46 #[(.agg #[(.int .i64 x43), (.int .u32 x44), (.int .i64 x45), (.int .u32 x46), (.int .i64 x47), (.int .u16 x48), (.int .u16 x49), (.int .u16 x50), (.int .u16 x51), (.int .u8 x52), (.int .u8 x53), (.int .i64 x54)])] h fun r56 h55 =>
    ∃ x57 : Int, ∃ x58 : Int, r56 = (.tuple #[(.int .i64 x57), (.int .i64 x58)]) ∧ 
    br (x57 != 0)
    (K0 x57 h55)
    (∃ k78, quintetref14_List_l3 A2 l2 c2 x3
    (fun (x73 : Int) (h74 : Hp) =>
    K0 x73 h74)
    (fun (A75 : Option Addr) (l75 : Nat) (c75 : Nat) (x76 : Int) (h77 : Hp) =>
    br (x76 == 64)
    (K0 113 h77)
    (quintetref14_List_l2 A2 l2 c2 K0 K1 k (IntKind.i64.wrap (x76 + 1)) h77))
    k78 0 h55))
    (K1 h)
def quintetref14_List_l2_L (Q : Qx) (k : Nat) (tm : Tm) (h : Hp) : Prop :=
  selS (tm 0) fun A2 l2 c2 =>
  selI .i64 (tm 3) fun x3 =>
  quintetref14_List_l2 A2 l2 c2 (fun (x41 : Int) h => Q (.ret) (mkTm [(2, some (.int .i64 x41))]) h) (fun  h => Q (.exit 0) (mkTm []) h) k x3 h
def quintetref14_List (A1 : Option Addr) (l1 : Nat) (c1 : Nat) (h : Hp) (K : Value → Hp → Prop) : Prop :=
  ∃ k82, quintetref14_List_l2 A1 l1 c1
  (fun (x79 : Int) (h80 : Hp) =>
  K (.int .i64 x79) h80)
  (fun  (h81 : Hp) =>
  K (.int .i64 0) h81)
  k82 0 h
def quintetref14_List_lp (i : Nat) (Q : Qx) (tm : Tm) (h : Hp) : Prop := match Nat.beq i 13466 with
  | true => ∃ k, quintetref14_List_l3_L Q k tm h
  | false => match Nat.beq i 26 with
  | true => ∃ k, quintetref14_List_l2_L Q k tm h
  | false => False
def quintetref14_List_cut (i : Nat) : Option (List Nat) := none
set_option maxRecDepth 100000 in
theorem quintetref14_List_l3_step (Q : Qx) (k : Nat) (A59 : Option Addr) (l59 : Nat) (c59 : Nat) (x60 : Int) (x61 : Int) (h : Hp) : quintetref14_List_l3_L Q (k + 1) (mkTm [(0, some (.slice A59 l59 c59)), (3, some (.int .i64 x60)), (6, some (.int .i64 x61))]) h =
    codeWp Tryz.prog 42 quintetref14_List_lp quintetref14_List_cut (sub (bodyOf Tryz.f26) [true, false, true, false, false, true, false, false, true, true, false, true, false, false]) 26932 (thenQ (fun tm h => quintetref14_List_l3_L Q k (mask [0, 3, 6] tm) h) (maskQ (fun e => match e with | .ret => [2] | .exit 2 => [0, 3] | _ => []) Q)) (mkTm [(0, some (.slice A59 l59 c59)), (3, some (.int .i64 x60)), (6, some (.int .i64 x61))]) h := by kernel_rfl
theorem quintetref14_List_l3_mask (Q : Qx) (k : Nat) (tm : Tm) (h : Hp) : quintetref14_List_l3_L Q k tm h ↔ quintetref14_List_l3_L Q k (mask [0, 3, 6] tm) h := Iff.rfl
set_option maxRecDepth 100000 in
theorem quintetref14_List_l3_snd : SndAt Tryz.prog 42 none (sub (bodyOf Tryz.f26) [true, false, true, false, false, true, false, false, true, true, false, true, false]) (quintetref14_List_lp 13466) := by
  refine loop_sound (lp := quintetref14_List_lp) (cut := quintetref14_List_cut) (i := 13466) (c := (sub (bodyOf Tryz.f26) [true, false, true, false, false, true, false, false, true, true, false, true, false, false])) [0, 3, 6] (fun e => match e with | .ret => [2] | .exit 2 => [0, 3] | _ => []) quintetref14_List_l3_L ?_ ?_ ?_
  · exact good_by (c := (sub (bodyOf Tryz.f26) [true, false, true, false, false, true, false, false, true, true, false, true, false, false])) (i := 26932) (l := []) (by kernel_rfl) (fun _ h => by cases h)
  · intro Q tm h H
    obtain ⟨A59, l59, c59, e0, H⟩ := selS_ex H
    obtain ⟨x60, e3, H⟩ := selI_ex H
    obtain ⟨x61, e6, H⟩ := selI_ex H
    exact H
  · intro Q k tm h H
    have H0 := H
    obtain ⟨A59, l59, c59, e0, H⟩ := selS_ex H
    obtain ⟨x60, e3, H⟩ := selI_ex H
    obtain ⟨x61, e6, H⟩ := selI_ex H
    have e : mask [0, 3, 6] tm = mkTm [(0, some (.slice A59 l59 c59)), (3, some (.int .i64 x60)), (6, some (.int .i64 x61))] := by simp only [mask, List.map_cons, List.map_nil, e0, e3, e6] <;> rfl
    rw [e]
    refine Eq.mp (quintetref14_List_l3_step Q k A59 l59 c59 x60 x61 h) ?_
    rw [← e]
    exact (quintetref14_List_l3_mask Q (k + 1) tm h).mp H0
set_option maxRecDepth 100000 in
theorem quintetref14_List_l2_step (Q : Qx) (k : Nat) (A2 : Option Addr) (l2 : Nat) (c2 : Nat) (x3 : Int) (h : Hp) : quintetref14_List_l2_L Q (k + 1) (mkTm [(0, some (.slice A2 l2 c2)), (3, some (.int .i64 x3))]) h =
    codeWp Tryz.prog 42 quintetref14_List_lp quintetref14_List_cut (sub (bodyOf Tryz.f26) [true, false, true, false, false]) 52 (thenQ (fun tm h => quintetref14_List_l2_L Q k (mask [0, 3] tm) h) (maskQ (fun e => match e with | .ret => [2] | .exit 0 => [] | _ => []) Q)) (mkTm [(0, some (.slice A2 l2 c2)), (3, some (.int .i64 x3))]) h := by kernel_rfl
theorem quintetref14_List_l2_mask (Q : Qx) (k : Nat) (tm : Tm) (h : Hp) : quintetref14_List_l2_L Q k tm h ↔ quintetref14_List_l2_L Q k (mask [0, 3] tm) h := Iff.rfl
set_option maxRecDepth 100000 in
theorem quintetref14_List_l2_snd : SndAt Tryz.prog 42 none (sub (bodyOf Tryz.f26) [true, false, true, false]) (quintetref14_List_lp 26) := by
  refine loop_sound (lp := quintetref14_List_lp) (cut := quintetref14_List_cut) (i := 26) (c := (sub (bodyOf Tryz.f26) [true, false, true, false, false])) [0, 3] (fun e => match e with | .ret => [2] | .exit 0 => [] | _ => []) quintetref14_List_l2_L ?_ ?_ ?_
  · exact good_by (c := (sub (bodyOf Tryz.f26) [true, false, true, false, false])) (i := 52) (l := [(13466, (sub (bodyOf Tryz.f26) [true, false, true, false, false, true, false, false, true, true, false, true, false]))]) (by kernel_rfl) (List.forall_mem_cons.2 ⟨quintetref14_List_l3_snd, (fun _ h => by cases h)⟩)
  · intro Q tm h H
    obtain ⟨A2, l2, c2, e0, H⟩ := selS_ex H
    obtain ⟨x3, e3, H⟩ := selI_ex H
    exact H
  · intro Q k tm h H
    have H0 := H
    obtain ⟨A2, l2, c2, e0, H⟩ := selS_ex H
    obtain ⟨x3, e3, H⟩ := selI_ex H
    have e : mask [0, 3] tm = mkTm [(0, some (.slice A2 l2 c2)), (3, some (.int .i64 x3))] := by simp only [mask, List.map_cons, List.map_nil, e0, e3] <;> rfl
    rw [e]
    refine Eq.mp (quintetref14_List_l2_step Q k A2 l2 c2 x3 h) ?_
    rw [← e]
    exact (quintetref14_List_l2_mask Q (k + 1) tm h).mp H0
set_option maxRecDepth 100000 in
theorem quintetref14_List_eq (A1 : Option Addr) (l1 : Nat) (c1 : Nat) (h : Hp) (K : Value → Hp → Prop) : quintetref14_List A1 l1 c1 h K =
    codeWp Tryz.prog 42 quintetref14_List_lp quintetref14_List_cut (bodyOf Tryz.f26) 1 (endQ Tryz.prog Tryz.f26.results.toList K) (argTm [(.slice A1 l1 c1)]) h := by kernel_rfl
set_option maxRecDepth 100000 in
theorem quintetref14_List_ok (A1 : Option Addr) (l1 : Nat) (c1 : Nat) {h : Hp} {K : Value → Hp → Prop} (H : quintetref14_List A1 l1 c1 h K) : CallsH Tryz.prog 26 #[(.slice A1 l1 c1)] h K :=
  calls_of (args := [(.slice A1 l1 c1)]) (n := 42) (lp := quintetref14_List_lp) (cut := quintetref14_List_cut) Tryz.func26 (c := bodyOf Tryz.f26) (by kernel_rfl) (by kernel_rfl) (by kernel_rfl) (good_by (c := (bodyOf Tryz.f26)) (i := 1) (l := [(26, (sub (bodyOf Tryz.f26) [true, false, true, false]))]) (by kernel_rfl) (List.forall_mem_cons.2 ⟨quintetref14_List_l2_snd, (fun _ h => by cases h)⟩))
    (Eq.mp (quintetref14_List_eq A1 l1 c1 h K) H)

/-! ### quintet/quintetref14.first: function 27 -/
def quintetref14_first_l1 (A8 : Option Addr) (l8 : Nat) (c8 : Nat) (x9 : Int) (b10 : Bool) (a11 : Addr) (K0 : Bool → Hp → Prop) (K1 : Hp → Prop)  : Nat → Int → Hp → Prop
  | 0, _, _ => False
  | k + 1, x12, h =>
    br (decide (x12 < x9))
    (∃ x43 : Int, ∃ x44 : Int, HV Tryz.prog (Instr.loadAt 45 (.pointer (some a11))) h (.agg #[(.int .u32 x43), (.int .i64 x44)]) ∧ 
    ∃ a45 : Addr, PV Tryz.prog (Instr.indexAt 22 (.slice A8 l8 c8) (.int .i64 x12)) (.pointer (some a45)) ∧
    ∃ x46 : Int, ∃ x47 : Int, HV Tryz.prog (Instr.loadAt 45 (.pointer (some (a45.add 1)))) h (.agg #[(.int .u32 x46), (.int .i64 x47)]) ∧ 
    CallsH Tryz.prog 28 #[(.agg #[(.int .u32 x43), (.int .i64 x44)]), (.agg #[(.int .u32 x46), (.int .i64 x47)])] h fun r49 h48 =>
    ∃ b50 : Bool, r49 = (.bool b50) ∧ 
    br b50
    (br b10
    (∃ a51 : Addr, PV Tryz.prog (Instr.indexAt 22 (.slice A8 l8 c8) (.int .i64 x12)) (.pointer (some a51)) ∧
    ∃ x52 : Int, ∃ x53 : Int, HV Tryz.prog (Instr.loadAt 45 (.pointer (some (a51.add 3)))) h48 (.agg #[(.int .u32 x52), (.int .i64 x53)]) ∧ 
    ∃ a54 : Addr, PV Tryz.prog (Instr.indexAt 22 (.slice A8 l8 c8) (.int .i64 x9)) (.pointer (some a54)) ∧
    ∃ x55 : Int, ∃ x56 : Int, HV Tryz.prog (Instr.loadAt 45 (.pointer (some (a54.add 3)))) h48 (.agg #[(.int .u32 x55), (.int .i64 x56)]) ∧ 
    ∃ b57 : Bool, PV Tryz.prog (binOp .eql 45 (.agg #[(.int .u32 x52), (.int .i64 x53)]) (.agg #[(.int .u32 x55), (.int .i64 x56)])) (.bool b57) ∧
    br b57
    (K0 false h48)
    (br (!b10)
    (∃ a58 : Addr, PV Tryz.prog (Instr.indexAt 22 (.slice A8 l8 c8) (.int .i64 x12)) (.pointer (some a58)) ∧
    ∃ x59 : Int, ∃ x60 : Int, HV Tryz.prog (Instr.loadAt 45 (.pointer (some (a58.add 1)))) h48 (.agg #[(.int .u32 x59), (.int .i64 x60)]) ∧ 
    ∃ a61 : Addr, PV Tryz.prog (Instr.indexAt 22 (.slice A8 l8 c8) (.int .i64 x9)) (.pointer (some a61)) ∧
    ∃ x62 : Int, ∃ x63 : Int, HV Tryz.prog (Instr.loadAt 45 (.pointer (some (a61.add 1)))) h48 (.agg #[(.int .u32 x62), (.int .i64 x63)]) ∧ 
    ∃ b64 : Bool, PV Tryz.prog (binOp .eql 45 (.agg #[(.int .u32 x59), (.int .i64 x60)]) (.agg #[(.int .u32 x62), (.int .i64 x63)])) (.bool b64) ∧
    br b64
    (K0 false h48)
    (quintetref14_first_l1 A8 l8 c8 x9 b10 a11 K0 K1 k (IntKind.i64.wrap (x12 + 1)) h48))
    (quintetref14_first_l1 A8 l8 c8 x9 b10 a11 K0 K1 k (IntKind.i64.wrap (x12 + 1)) h48)))
    (br (!b10)
    (∃ a65 : Addr, PV Tryz.prog (Instr.indexAt 22 (.slice A8 l8 c8) (.int .i64 x12)) (.pointer (some a65)) ∧
    ∃ x66 : Int, ∃ x67 : Int, HV Tryz.prog (Instr.loadAt 45 (.pointer (some (a65.add 1)))) h48 (.agg #[(.int .u32 x66), (.int .i64 x67)]) ∧ 
    ∃ a68 : Addr, PV Tryz.prog (Instr.indexAt 22 (.slice A8 l8 c8) (.int .i64 x9)) (.pointer (some a68)) ∧
    ∃ x69 : Int, ∃ x70 : Int, HV Tryz.prog (Instr.loadAt 45 (.pointer (some (a68.add 1)))) h48 (.agg #[(.int .u32 x69), (.int .i64 x70)]) ∧ 
    ∃ b71 : Bool, PV Tryz.prog (binOp .eql 45 (.agg #[(.int .u32 x66), (.int .i64 x67)]) (.agg #[(.int .u32 x69), (.int .i64 x70)])) (.bool b71) ∧
    br b71
    (K0 false h48)
    (quintetref14_first_l1 A8 l8 c8 x9 b10 a11 K0 K1 k (IntKind.i64.wrap (x12 + 1)) h48))
    (quintetref14_first_l1 A8 l8 c8 x9 b10 a11 K0 K1 k (IntKind.i64.wrap (x12 + 1)) h48)))
    (quintetref14_first_l1 A8 l8 c8 x9 b10 a11 K0 K1 k (IntKind.i64.wrap (x12 + 1)) h48))
    (K1 h)
def quintetref14_first_l1_L (Q : Qx) (k : Nat) (tm : Tm) (h : Hp) : Prop :=
  selS (tm 0) fun A8 l8 c8 =>
  selI .i64 (tm 1) fun x9 =>
  selB (tm 3) fun b10 =>
  selA (tm 6) fun a11 =>
  selI .i64 (tm 9) fun x12 =>
  quintetref14_first_l1 A8 l8 c8 x9 b10 a11 (fun (b42 : Bool) h => Q (.ret) (mkTm [(8, some (.bool b42))]) h) (fun  h => Q (.exit 0) (mkTm []) h) k x12 h
def quintetref14_first (A1 : Option Addr) (l1 : Nat) (c1 : Nat) (x2 : Int) (x3 : Int) (x4 : Int) (b5 : Bool) (h : Hp) (K : Value → Hp → Prop) : Prop :=
  newC h (.cells #[(.int .u32 x3), (.int .i64 x4)] 45 (0, 0)) fun a7 h6 => 
  ∃ k75, quintetref14_first_l1 A1 l1 c1 x2 b5 a7
  (fun (b72 : Bool) (h73 : Hp) =>
  K (.bool b72) h73)
  (fun  (h74 : Hp) =>
  K (.bool true) h74)
  k75 0 h6
def quintetref14_first_lp (i : Nat) (Q : Qx) (tm : Tm) (h : Hp) : Prop := match Nat.beq i 26 with
  | true => ∃ k, quintetref14_first_l1_L Q k tm h
  | false => False
def quintetref14_first_cut (i : Nat) : Option (List Nat) := none
set_option maxRecDepth 100000 in
theorem quintetref14_first_l1_step (Q : Qx) (k : Nat) (A8 : Option Addr) (l8 : Nat) (c8 : Nat) (x9 : Int) (b10 : Bool) (a11 : Addr) (x12 : Int) (h : Hp) : quintetref14_first_l1_L Q (k + 1) (mkTm [(0, some (.slice A8 l8 c8)), (1, some (.int .i64 x9)), (3, some (.bool b10)), (6, some (.pointer (some a11))), (9, some (.int .i64 x12))]) h =
    codeWp Tryz.prog 55 quintetref14_first_lp quintetref14_first_cut (sub (bodyOf Tryz.f27) [true, false, true, false, false]) 52 (thenQ (fun tm h => quintetref14_first_l1_L Q k (mask [0, 1, 3, 6, 9] tm) h) (maskQ (fun e => match e with | .ret => [8] | .exit 0 => [] | _ => []) Q)) (mkTm [(0, some (.slice A8 l8 c8)), (1, some (.int .i64 x9)), (3, some (.bool b10)), (6, some (.pointer (some a11))), (9, some (.int .i64 x12))]) h := by kernel_rfl
theorem quintetref14_first_l1_mask (Q : Qx) (k : Nat) (tm : Tm) (h : Hp) : quintetref14_first_l1_L Q k tm h ↔ quintetref14_first_l1_L Q k (mask [0, 1, 3, 6, 9] tm) h := Iff.rfl
set_option maxRecDepth 100000 in
theorem quintetref14_first_l1_snd : SndAt Tryz.prog 55 none (sub (bodyOf Tryz.f27) [true, false, true, false]) (quintetref14_first_lp 26) := by
  refine loop_sound (lp := quintetref14_first_lp) (cut := quintetref14_first_cut) (i := 26) (c := (sub (bodyOf Tryz.f27) [true, false, true, false, false])) [0, 1, 3, 6, 9] (fun e => match e with | .ret => [8] | .exit 0 => [] | _ => []) quintetref14_first_l1_L ?_ ?_ ?_
  · exact good_by (c := (sub (bodyOf Tryz.f27) [true, false, true, false, false])) (i := 52) (l := []) (by kernel_rfl) (fun _ h => by cases h)
  · intro Q tm h H
    obtain ⟨A8, l8, c8, e0, H⟩ := selS_ex H
    obtain ⟨x9, e1, H⟩ := selI_ex H
    obtain ⟨b10, e3, H⟩ := selB_ex H
    obtain ⟨a11, e6, H⟩ := selA_ex H
    obtain ⟨x12, e9, H⟩ := selI_ex H
    exact H
  · intro Q k tm h H
    have H0 := H
    obtain ⟨A8, l8, c8, e0, H⟩ := selS_ex H
    obtain ⟨x9, e1, H⟩ := selI_ex H
    obtain ⟨b10, e3, H⟩ := selB_ex H
    obtain ⟨a11, e6, H⟩ := selA_ex H
    obtain ⟨x12, e9, H⟩ := selI_ex H
    have e : mask [0, 1, 3, 6, 9] tm = mkTm [(0, some (.slice A8 l8 c8)), (1, some (.int .i64 x9)), (3, some (.bool b10)), (6, some (.pointer (some a11))), (9, some (.int .i64 x12))] := by simp only [mask, List.map_cons, List.map_nil, e0, e1, e3, e6, e9] <;> rfl
    rw [e]
    refine Eq.mp (quintetref14_first_l1_step Q k A8 l8 c8 x9 b10 a11 x12 h) ?_
    rw [← e]
    exact (quintetref14_first_l1_mask Q (k + 1) tm h).mp H0
set_option maxRecDepth 100000 in
theorem quintetref14_first_eq (A1 : Option Addr) (l1 : Nat) (c1 : Nat) (x2 : Int) (x3 : Int) (x4 : Int) (b5 : Bool) (h : Hp) (K : Value → Hp → Prop) : quintetref14_first A1 l1 c1 x2 x3 x4 b5 h K =
    codeWp Tryz.prog 55 quintetref14_first_lp quintetref14_first_cut (bodyOf Tryz.f27) 1 (endQ Tryz.prog Tryz.f27.results.toList K) (argTm [(.slice A1 l1 c1), (.int .i64 x2), (.agg #[(.int .u32 x3), (.int .i64 x4)]), (.bool b5)]) h := by kernel_rfl
set_option maxRecDepth 100000 in
theorem quintetref14_first_ok (A1 : Option Addr) (l1 : Nat) (c1 : Nat) (x2 : Int) (x3 : Int) (x4 : Int) (b5 : Bool) {h : Hp} {K : Value → Hp → Prop} (H : quintetref14_first A1 l1 c1 x2 x3 x4 b5 h K) : CallsH Tryz.prog 27 #[(.slice A1 l1 c1), (.int .i64 x2), (.agg #[(.int .u32 x3), (.int .i64 x4)]), (.bool b5)] h K :=
  calls_of (args := [(.slice A1 l1 c1), (.int .i64 x2), (.agg #[(.int .u32 x3), (.int .i64 x4)]), (.bool b5)]) (n := 55) (lp := quintetref14_first_lp) (cut := quintetref14_first_cut) Tryz.func27 (c := bodyOf Tryz.f27) (by kernel_rfl) (by kernel_rfl) (by kernel_rfl) (good_by (c := (bodyOf Tryz.f27)) (i := 1) (l := [(26, (sub (bodyOf Tryz.f27) [true, false, true, false]))]) (by kernel_rfl) (List.forall_mem_cons.2 ⟨quintetref14_first_l1_snd, (fun _ h => by cases h)⟩))
    (Eq.mp (quintetref14_first_eq A1 l1 c1 x2 x3 x4 b5 h K) H)

/-! ### quintet/quintetref02.Within: function 28 -/
def quintetref02_Within (x1 : Int) (x2 : Int) (x3 : Int) (x4 : Int) (h : Hp) (K : Value → Hp → Prop) : Prop :=
  newC h (.cells #[(.int .u32 x1), (.int .i64 x2)] 45 (0, 0)) fun a6 h5 => 
  newC h5 (.cells #[(.int .u32 x3), (.int .i64 x4)] 45 (0, 0)) fun a8 h7 => 
  ∃ x9 : Int, ∃ x10 : Int, HV Tryz.prog (Instr.loadAt 45 (.pointer (some a6))) h7 (.agg #[(.int .u32 x9), (.int .i64 x10)]) ∧ 
  CallsH Tryz.prog 47 #[(.agg #[(.int .u32 x9), (.int .i64 x10)])] h7 fun r12 h11 =>
  ∃ x13 : Int, r12 = (.int .i64 x13) ∧ 
  br (x13 == 0)
  (∃ x14 : Int, ∃ x15 : Int, HV Tryz.prog (Instr.loadAt 45 (.pointer (some a8))) h11 (.agg #[(.int .u32 x14), (.int .i64 x15)]) ∧ 
  CallsH Tryz.prog 47 #[(.agg #[(.int .u32 x14), (.int .i64 x15)])] h11 fun r17 h16 =>
  ∃ x18 : Int, r17 = (.int .i64 x18) ∧ 
  br (x18 == 0)
  (∃ x19 : Int, HV Tryz.prog (Instr.loadAt 3 (.pointer (some (a6.add 1)))) h16 (.int .i64 x19) ∧ 
  ∃ x20 : Int, HV Tryz.prog (Instr.loadAt 3 (.pointer (some (a8.add 1)))) h16 (.int .i64 x20) ∧ 
  br (decide (x19 ≥ x20))
  (∃ x21 : Int, ∃ x22 : Int, HV Tryz.prog (Instr.loadAt 45 (.pointer (some a8))) h16 (.agg #[(.int .u32 x21), (.int .i64 x22)]) ∧ 
  ∃ x23 : Int, HV Tryz.prog (Instr.loadAt 23 (.pointer (some a6))) h16 (.int .u32 x23) ∧ 
  CallsH Tryz.prog 35 #[(.agg #[(.int .u32 x21), (.int .i64 x22)]), (.int .u32 x23)] h16 fun r25 h24 =>
  ∃ b26 : Bool, r25 = (.bool b26) ∧ 
  K (.bool b26) h24)
  (K (.bool false) h16))
  (K (.bool false) h16))
  (K (.bool false) h11)
def quintetref02_Within_lp (i : Nat) (Q : Qx) (tm : Tm) (h : Hp) : Prop := False
def quintetref02_Within_cut (i : Nat) : Option (List Nat) := none
set_option maxRecDepth 100000 in
theorem quintetref02_Within_eq (x1 : Int) (x2 : Int) (x3 : Int) (x4 : Int) (h : Hp) (K : Value → Hp → Prop) : quintetref02_Within x1 x2 x3 x4 h K =
    codeWp Tryz.prog 26 quintetref02_Within_lp quintetref02_Within_cut (bodyOf Tryz.f28) 1 (endQ Tryz.prog Tryz.f28.results.toList K) (argTm [(.agg #[(.int .u32 x1), (.int .i64 x2)]), (.agg #[(.int .u32 x3), (.int .i64 x4)])]) h := by kernel_rfl
set_option maxRecDepth 100000 in
theorem quintetref02_Within_ok (x1 : Int) (x2 : Int) (x3 : Int) (x4 : Int) {h : Hp} {K : Value → Hp → Prop} (H : quintetref02_Within x1 x2 x3 x4 h K) : CallsH Tryz.prog 28 #[(.agg #[(.int .u32 x1), (.int .i64 x2)]), (.agg #[(.int .u32 x3), (.int .i64 x4)])] h K :=
  calls_of (args := [(.agg #[(.int .u32 x1), (.int .i64 x2)]), (.agg #[(.int .u32 x3), (.int .i64 x4)])]) (n := 26) (lp := quintetref02_Within_lp) (cut := quintetref02_Within_cut) Tryz.func28 (c := bodyOf Tryz.f28) (by kernel_rfl) (by kernel_rfl) (by kernel_rfl) (good_by (c := (bodyOf Tryz.f28)) (i := 1) (l := []) (by kernel_rfl) (fun _ h => by cases h))
    (Eq.mp (quintetref02_Within_eq x1 x2 x3 x4 h K) H)

/-! ### quintet/quintetref02.Has: function 35 -/
def quintetref02_Has_l1 (x11 : Int) (a12 : Addr) (K0 : Bool → Hp → Prop) (K1 : Hp → Prop)  : Nat → Int → Hp → Prop
  | 0, _, _ => False
  | k + 1, x13, h =>
    ∃ x23 : Int, HV Tryz.prog (Instr.loadAt 3 (.pointer (some (a12.add 1)))) h (.int .i64 x23) ∧ 
    br (decide (x13 < x23))
    (∃ x24 : Int, HV Tryz.prog (Instr.loadAt 23 (.pointer (some a12))) h (.int .u32 x24) ∧ 
    CallsH Tryz.prog 53 #[(.int .u32 x24), (.int .i64 x13)] h fun r26 h25 =>
    ∃ x27 : Int, r26 = (.int .i64 x27) ∧ 
    CallsH Tryz.prog 53 #[(.int .u32 x11), (.int .i64 x13)] h25 fun r29 h28 =>
    ∃ x30 : Int, r29 = (.int .i64 x30) ∧ 
    br (x27 != x30)
    (K0 false h28)
    (quintetref02_Has_l1 x11 a12 K0 K1 k (IntKind.i64.wrap (x13 + 1)) h28))
    (K1 h)
def quintetref02_Has_l1_L (Q : Qx) (k : Nat) (tm : Tm) (h : Hp) : Prop :=
  selI .u32 (tm 1) fun x11 =>
  selA (tm 2) fun a12 =>
  selI .i64 (tm 5) fun x13 =>
  quintetref02_Has_l1 x11 a12 (fun (b22 : Bool) h => Q (.ret) (mkTm [(4, some (.bool b22))]) h) (fun  h => Q (.exit 0) (mkTm []) h) k x13 h
def quintetref02_Has (x1 : Int) (x2 : Int) (x3 : Int) (h : Hp) (K : Value → Hp → Prop) : Prop :=
  newC h (.cells #[(.int .u32 x1), (.int .i64 x2)] 45 (0, 0)) fun a5 h4 => 
  ∃ x6 : Int, ∃ x7 : Int, HV Tryz.prog (Instr.loadAt 45 (.pointer (some a5))) h4 (.agg #[(.int .u32 x6), (.int .i64 x7)]) ∧ 
  CallsH Tryz.prog 47 #[(.agg #[(.int .u32 x6), (.int .i64 x7)])] h4 fun r9 h8 =>
  ∃ x10 : Int, r9 = (.int .i64 x10) ∧ 
  br (x10 != 0)
  (K (.bool false) h8)
  (∃ k34, quintetref02_Has_l1 x3 a5
  (fun (b31 : Bool) (h32 : Hp) =>
  K (.bool b31) h32)
  (fun  (h33 : Hp) =>
  K (.bool true) h33)
  k34 0 h8)
def quintetref02_Has_lp (i : Nat) (Q : Qx) (tm : Tm) (h : Hp) : Prop := match Nat.beq i 58 with
  | true => ∃ k, quintetref02_Has_l1_L Q k tm h
  | false => False
def quintetref02_Has_cut (i : Nat) : Option (List Nat) := none
set_option maxRecDepth 100000 in
theorem quintetref02_Has_l1_step (Q : Qx) (k : Nat) (x11 : Int) (a12 : Addr) (x13 : Int) (h : Hp) : quintetref02_Has_l1_L Q (k + 1) (mkTm [(1, some (.int .u32 x11)), (2, some (.pointer (some a12))), (5, some (.int .i64 x13))]) h =
    codeWp Tryz.prog 23 quintetref02_Has_lp quintetref02_Has_cut (sub (bodyOf Tryz.f35) [true, true, false, true, false, false]) 116 (thenQ (fun tm h => quintetref02_Has_l1_L Q k (mask [1, 2, 5] tm) h) (maskQ (fun e => match e with | .ret => [4] | .exit 0 => [] | _ => []) Q)) (mkTm [(1, some (.int .u32 x11)), (2, some (.pointer (some a12))), (5, some (.int .i64 x13))]) h := by kernel_rfl
theorem quintetref02_Has_l1_mask (Q : Qx) (k : Nat) (tm : Tm) (h : Hp) : quintetref02_Has_l1_L Q k tm h ↔ quintetref02_Has_l1_L Q k (mask [1, 2, 5] tm) h := Iff.rfl
set_option maxRecDepth 100000 in
theorem quintetref02_Has_l1_snd : SndAt Tryz.prog 23 none (sub (bodyOf Tryz.f35) [true, true, false, true, false]) (quintetref02_Has_lp 58) := by
  refine loop_sound (lp := quintetref02_Has_lp) (cut := quintetref02_Has_cut) (i := 58) (c := (sub (bodyOf Tryz.f35) [true, true, false, true, false, false])) [1, 2, 5] (fun e => match e with | .ret => [4] | .exit 0 => [] | _ => []) quintetref02_Has_l1_L ?_ ?_ ?_
  · exact good_by (c := (sub (bodyOf Tryz.f35) [true, true, false, true, false, false])) (i := 116) (l := []) (by kernel_rfl) (fun _ h => by cases h)
  · intro Q tm h H
    obtain ⟨x11, e1, H⟩ := selI_ex H
    obtain ⟨a12, e2, H⟩ := selA_ex H
    obtain ⟨x13, e5, H⟩ := selI_ex H
    exact H
  · intro Q k tm h H
    have H0 := H
    obtain ⟨x11, e1, H⟩ := selI_ex H
    obtain ⟨a12, e2, H⟩ := selA_ex H
    obtain ⟨x13, e5, H⟩ := selI_ex H
    have e : mask [1, 2, 5] tm = mkTm [(1, some (.int .u32 x11)), (2, some (.pointer (some a12))), (5, some (.int .i64 x13))] := by simp only [mask, List.map_cons, List.map_nil, e1, e2, e5] <;> rfl
    rw [e]
    refine Eq.mp (quintetref02_Has_l1_step Q k x11 a12 x13 h) ?_
    rw [← e]
    exact (quintetref02_Has_l1_mask Q (k + 1) tm h).mp H0
set_option maxRecDepth 100000 in
theorem quintetref02_Has_eq (x1 : Int) (x2 : Int) (x3 : Int) (h : Hp) (K : Value → Hp → Prop) : quintetref02_Has x1 x2 x3 h K =
    codeWp Tryz.prog 23 quintetref02_Has_lp quintetref02_Has_cut (bodyOf Tryz.f35) 1 (endQ Tryz.prog Tryz.f35.results.toList K) (argTm [(.agg #[(.int .u32 x1), (.int .i64 x2)]), (.int .u32 x3)]) h := by kernel_rfl
set_option maxRecDepth 100000 in
theorem quintetref02_Has_ok (x1 : Int) (x2 : Int) (x3 : Int) {h : Hp} {K : Value → Hp → Prop} (H : quintetref02_Has x1 x2 x3 h K) : CallsH Tryz.prog 35 #[(.agg #[(.int .u32 x1), (.int .i64 x2)]), (.int .u32 x3)] h K :=
  calls_of (args := [(.agg #[(.int .u32 x1), (.int .i64 x2)]), (.int .u32 x3)]) (n := 23) (lp := quintetref02_Has_lp) (cut := quintetref02_Has_cut) Tryz.func35 (c := bodyOf Tryz.f35) (by kernel_rfl) (by kernel_rfl) (by kernel_rfl) (good_by (c := (bodyOf Tryz.f35)) (i := 1) (l := [(58, (sub (bodyOf Tryz.f35) [true, true, false, true, false]))]) (by kernel_rfl) (List.forall_mem_cons.2 ⟨quintetref02_Has_l1_snd, (fun _ h => by cases h)⟩))
    (Eq.mp (quintetref02_Has_eq x1 x2 x3 h K) H)

/-! ### quintet/quintetref02.Check: function 47 -/
def quintetref02_Check_l3 (a26 : Addr) (K0 : Int → Hp → Prop) (K1 : Hp → Prop)  : Nat → Int → Hp → Prop
  | 0, _, _ => False
  | k + 1, x27, h =>
    br (decide (x27 < 32))
    (∃ x33 : Int, HV Tryz.prog (Instr.loadAt 23 (.pointer (some a26))) h (.int .u32 x33) ∧ 
    CallsH Tryz.prog 53 #[(.int .u32 x33), (.int .i64 x27)] h fun r35 h34 =>
    ∃ x36 : Int, r35 = (.int .i64 x36) ∧ 
    br (x36 == 1)
    (K0 21 h34)
    (quintetref02_Check_l3 a26 K0 K1 k (IntKind.i64.wrap (x27 + 1)) h34))
    (K1 h)
def quintetref02_Check_l3_L (Q : Qx) (k : Nat) (tm : Tm) (h : Hp) : Prop :=
  selA (tm 1) fun a26 =>
  selI .i64 (tm 3) fun x27 =>
  quintetref02_Check_l3 a26 (fun (x32 : Int) h => Q (.ret) (mkTm [(2, some (.int .i64 x32))]) h) (fun  h => Q (.exit 0) (mkTm []) h) k x27 h
def quintetref02_Check_j2 (K0 : Int → Hp → Prop) (a7 : Addr) (h : Hp) : Prop :=
  ∃ x25 : Int, HV Tryz.prog (Instr.loadAt 3 (.pointer (some (a7.add 1)))) h (.int .i64 x25) ∧ 
  ∃ k40, quintetref02_Check_l3 a7
  (fun (x37 : Int) (h38 : Hp) =>
  K0 x37 h38)
  (fun  (h39 : Hp) =>
  K0 0 h39)
  k40 x25 h
def quintetref02_Check_j2_L (Q : Qx) (tm : Tm) (h : Hp) : Prop :=
  selA (tm 1) fun a7 =>
  quintetref02_Check_j2 (fun (x24 : Int) h => Q (.ret) (mkTm [(2, some (.int .i64 x24))]) h) a7 h
def quintetref02_Check (x1 : Int) (x2 : Int) (h : Hp) (K : Value → Hp → Prop) : Prop :=
  newC h (.cells #[(.int .u32 x1), (.int .i64 x2)] 45 (0, 0)) fun a4 h3 => 
  ∃ x41 : Int, HV Tryz.prog (Instr.loadAt 3 (.pointer (some (a4.add 1)))) h3 (.int .i64 x41) ∧ 
  br (decide (x41 < 0))
  (K (.int .i64 20) h3)
  (∃ x42 : Int, HV Tryz.prog (Instr.loadAt 3 (.pointer (some (a4.add 1)))) h3 (.int .i64 x42) ∧ 
  br (decide (x42 > 32))
  (K (.int .i64 20) h3)
  (quintetref02_Check_j2
  (fun (x43 : Int) (h44 : Hp) =>
  K (.int .i64 x43) h44)
  a4 h3))
def quintetref02_Check_lp (i : Nat) (Q : Qx) (tm : Tm) (h : Hp) : Prop := match Nat.beq i 58 with
  | true => ∃ k, quintetref02_Check_l3_L Q k tm h
  | false => match Nat.beq i 3 with
  | true => quintetref02_Check_j2_L Q tm h
  | false => False
def quintetref02_Check_cut (i : Nat) : Option (List Nat) := match Nat.beq i 3 with
  | true => some [1]
  | false => none
set_option maxRecDepth 100000 in
theorem quintetref02_Check_l3_step (Q : Qx) (k : Nat) (a26 : Addr) (x27 : Int) (h : Hp) : quintetref02_Check_l3_L Q (k + 1) (mkTm [(1, some (.pointer (some a26))), (3, some (.int .i64 x27))]) h =
    codeWp Tryz.prog 23 quintetref02_Check_lp quintetref02_Check_cut (sub (bodyOf Tryz.f47) [true, true, false, true, false, false]) 116 (thenQ (fun tm h => quintetref02_Check_l3_L Q k (mask [1, 3] tm) h) (maskQ (fun e => match e with | .ret => [2] | .exit 0 => [] | _ => []) Q)) (mkTm [(1, some (.pointer (some a26))), (3, some (.int .i64 x27))]) h := by kernel_rfl
theorem quintetref02_Check_l3_mask (Q : Qx) (k : Nat) (tm : Tm) (h : Hp) : quintetref02_Check_l3_L Q k tm h ↔ quintetref02_Check_l3_L Q k (mask [1, 3] tm) h := Iff.rfl
set_option maxRecDepth 100000 in
theorem quintetref02_Check_l3_snd : SndAt Tryz.prog 23 none (sub (bodyOf Tryz.f47) [true, true, false, true, false]) (quintetref02_Check_lp 58) := by
  refine loop_sound (lp := quintetref02_Check_lp) (cut := quintetref02_Check_cut) (i := 58) (c := (sub (bodyOf Tryz.f47) [true, true, false, true, false, false])) [1, 3] (fun e => match e with | .ret => [2] | .exit 0 => [] | _ => []) quintetref02_Check_l3_L ?_ ?_ ?_
  · exact good_by (c := (sub (bodyOf Tryz.f47) [true, true, false, true, false, false])) (i := 116) (l := []) (by kernel_rfl) (fun _ h => by cases h)
  · intro Q tm h H
    obtain ⟨a26, e1, H⟩ := selA_ex H
    obtain ⟨x27, e3, H⟩ := selI_ex H
    exact H
  · intro Q k tm h H
    have H0 := H
    obtain ⟨a26, e1, H⟩ := selA_ex H
    obtain ⟨x27, e3, H⟩ := selI_ex H
    have e : mask [1, 3] tm = mkTm [(1, some (.pointer (some a26))), (3, some (.int .i64 x27))] := by simp only [mask, List.map_cons, List.map_nil, e1, e3] <;> rfl
    rw [e]
    refine Eq.mp (quintetref02_Check_l3_step Q k a26 x27 h) ?_
    rw [← e]
    exact (quintetref02_Check_l3_mask Q (k + 1) tm h).mp H0
set_option maxRecDepth 100000 in
theorem quintetref02_Check_j2_step (Q : Qx) (a7 : Addr) (h : Hp) : quintetref02_Check_j2_L Q (mkTm [(1, some (.pointer (some a7)))]) h =
    codeWp Tryz.prog 23 quintetref02_Check_lp quintetref02_Check_cut (sub (bodyOf Tryz.f47) [true, true]) 7 (maskQ (fun e => match e with | .ret => [2] | _ => []) Q) (mkTm [(1, some (.pointer (some a7)))]) h := by kernel_rfl
theorem quintetref02_Check_j2_mask (Q : Qx) (tm : Tm) (h : Hp) : quintetref02_Check_j2_L Q tm h ↔ quintetref02_Check_j2_L Q (mask [1] tm) h := Iff.rfl
set_option maxRecDepth 100000 in
theorem quintetref02_Check_j2_snd : SndAt Tryz.prog 23 none (sub (bodyOf Tryz.f47) [true, true]) (quintetref02_Check_lp 3) := by
  refine join_sound (lp := quintetref02_Check_lp) (cut := quintetref02_Check_cut) (i := 3) (c := (sub (bodyOf Tryz.f47) [true, true])) [1] (fun e => match e with | .ret => [2] | _ => []) quintetref02_Check_j2_L ?_ ?_
  · exact good_by (c := (sub (bodyOf Tryz.f47) [true, true])) (i := 7) (l := [(58, (sub (bodyOf Tryz.f47) [true, true, false, true, false]))]) (by kernel_rfl) (List.forall_mem_cons.2 ⟨quintetref02_Check_l3_snd, (fun _ h => by cases h)⟩)
  · intro Q tm h H
    have H0 := H
    obtain ⟨a7, e1, H⟩ := selA_ex H
    have e : mask [1] tm = mkTm [(1, some (.pointer (some a7)))] := by simp only [mask, List.map_cons, List.map_nil, e1] <;> rfl
    rw [e]
    refine Eq.mp (quintetref02_Check_j2_step Q a7 h) ?_
    rw [← e]
    exact (quintetref02_Check_j2_mask Q tm h).mp H0
set_option maxRecDepth 100000 in
theorem quintetref02_Check_eq (x1 : Int) (x2 : Int) (h : Hp) (K : Value → Hp → Prop) : quintetref02_Check x1 x2 h K =
    codeWp Tryz.prog 23 quintetref02_Check_lp quintetref02_Check_cut (bodyOf Tryz.f47) 1 (endQ Tryz.prog Tryz.f47.results.toList K) (argTm [(.agg #[(.int .u32 x1), (.int .i64 x2)])]) h := by kernel_rfl
set_option maxRecDepth 100000 in
theorem quintetref02_Check_ok (x1 : Int) (x2 : Int) {h : Hp} {K : Value → Hp → Prop} (H : quintetref02_Check x1 x2 h K) : CallsH Tryz.prog 47 #[(.agg #[(.int .u32 x1), (.int .i64 x2)])] h K :=
  calls_of (args := [(.agg #[(.int .u32 x1), (.int .i64 x2)])]) (n := 23) (lp := quintetref02_Check_lp) (cut := quintetref02_Check_cut) Tryz.func47 (c := bodyOf Tryz.f47) (by kernel_rfl) (by kernel_rfl) (by kernel_rfl) (good_by (c := (bodyOf Tryz.f47)) (i := 1) (l := [(3, (sub (bodyOf Tryz.f47) [true, true]))]) (by kernel_rfl) (List.forall_mem_cons.2 ⟨quintetref02_Check_j2_snd, (fun _ h => by cases h)⟩))
    (Eq.mp (quintetref02_Check_eq x1 x2 h K) H)

/-! ### quintet/quintetref02.Bit: function 53 -/
def quintetref02_Bit (x1 : Int) (x2 : Int) (h : Hp) (K : Value → Hp → Prop) : Prop :=
  ∃ x3 : Int, PV Tryz.prog (binOp .shr 23 (.int .u32 x1) (.int .u64 (IntKind.u64.wrap (IntKind.i64.wrap (31 - x2))))) (.int .u32 x3) ∧
  K (.int .i64 (Int.tmod (IntKind.i64.wrap (x3)) 2)) h
def quintetref02_Bit_lp (i : Nat) (Q : Qx) (tm : Tm) (h : Hp) : Prop := False
def quintetref02_Bit_cut (i : Nat) : Option (List Nat) := none
set_option maxRecDepth 100000 in
theorem quintetref02_Bit_eq (x1 : Int) (x2 : Int) (h : Hp) (K : Value → Hp → Prop) : quintetref02_Bit x1 x2 h K =
    codeWp Tryz.prog 12 quintetref02_Bit_lp quintetref02_Bit_cut (bodyOf Tryz.f53) 1 (endQ Tryz.prog Tryz.f53.results.toList K) (argTm [(.int .u32 x1), (.int .i64 x2)]) h := by kernel_rfl
set_option maxRecDepth 100000 in
theorem quintetref02_Bit_ok (x1 : Int) (x2 : Int) {h : Hp} {K : Value → Hp → Prop} (H : quintetref02_Bit x1 x2 h K) : CallsH Tryz.prog 53 #[(.int .u32 x1), (.int .i64 x2)] h K :=
  calls_of (args := [(.int .u32 x1), (.int .i64 x2)]) (n := 12) (lp := quintetref02_Bit_lp) (cut := quintetref02_Bit_cut) Tryz.func53 (c := bodyOf Tryz.f53) (by kernel_rfl) (by kernel_rfl) (by kernel_rfl) (good_by (c := (bodyOf Tryz.f53)) (i := 1) (l := []) (by kernel_rfl) (fun _ h => by cases h))
    (Eq.mp (quintetref02_Bit_eq x1 x2 h K) H)

/-! ### quintet/quintetref04.Check: function 67 -/
def quintetref04_Check_l1 (a5 : Addr) (K0 : Int → Hp → Prop) (K1 : Hp → Prop)  : Nat → Int → Hp → Prop
  | 0, _, _ => False
  | k + 1, x6, h =>
    br (decide (x6 < 8))
    (∃ x16 : Int, HV Tryz.prog (Instr.loadAt 5 (.pointer (some a5))) h (.int .u8 x16) ∧ 
    CallsH Tryz.prog 88 #[(.int .u8 x16), (.int .i64 x6)] h fun r18 h17 =>
    ∃ x19 : Int, r18 = (.int .i64 x19) ∧ 
    br (x19 == 1)
    (∃ x20 : Int, HV Tryz.prog (Instr.loadAt 5 (.pointer (some (a5.add 1)))) h17 (.int .u8 x20) ∧ 
    CallsH Tryz.prog 88 #[(.int .u8 x20), (.int .i64 x6)] h17 fun r22 h21 =>
    ∃ x23 : Int, r22 = (.int .i64 x23) ∧ 
    br (x23 == 0)
    (K0 40 h21)
    (quintetref04_Check_l1 a5 K0 K1 k (IntKind.i64.wrap (x6 + 1)) h21))
    (quintetref04_Check_l1 a5 K0 K1 k (IntKind.i64.wrap (x6 + 1)) h17))
    (K1 h)
def quintetref04_Check_l1_L (Q : Qx) (k : Nat) (tm : Tm) (h : Hp) : Prop :=
  selA (tm 1) fun a5 =>
  selI .i64 (tm 3) fun x6 =>
  quintetref04_Check_l1 a5 (fun (x15 : Int) h => Q (.ret) (mkTm [(2, some (.int .i64 x15))]) h) (fun  h => Q (.exit 0) (mkTm []) h) k x6 h
def quintetref04_Check (x1 : Int) (x2 : Int) (h : Hp) (K : Value → Hp → Prop) : Prop :=
  newC h (.cells #[(.int .u8 x1), (.int .u8 x2)] 47 (0, 0)) fun a4 h3 => 
  ∃ k27, quintetref04_Check_l1 a4
  (fun (x24 : Int) (h25 : Hp) =>
  K (.int .i64 x24) h25)
  (fun  (h26 : Hp) =>
  K (.int .i64 0) h26)
  k27 0 h3
def quintetref04_Check_lp (i : Nat) (Q : Qx) (tm : Tm) (h : Hp) : Prop := match Nat.beq i 26 with
  | true => ∃ k, quintetref04_Check_l1_L Q k tm h
  | false => False
def quintetref04_Check_cut (i : Nat) : Option (List Nat) := none
set_option maxRecDepth 100000 in
theorem quintetref04_Check_l1_step (Q : Qx) (k : Nat) (a5 : Addr) (x6 : Int) (h : Hp) : quintetref04_Check_l1_L Q (k + 1) (mkTm [(1, some (.pointer (some a5))), (3, some (.int .i64 x6))]) h =
    codeWp Tryz.prog 20 quintetref04_Check_lp quintetref04_Check_cut (sub (bodyOf Tryz.f67) [true, false, true, false, false]) 52 (thenQ (fun tm h => quintetref04_Check_l1_L Q k (mask [1, 3] tm) h) (maskQ (fun e => match e with | .ret => [2] | .exit 0 => [] | _ => []) Q)) (mkTm [(1, some (.pointer (some a5))), (3, some (.int .i64 x6))]) h := by kernel_rfl
theorem quintetref04_Check_l1_mask (Q : Qx) (k : Nat) (tm : Tm) (h : Hp) : quintetref04_Check_l1_L Q k tm h ↔ quintetref04_Check_l1_L Q k (mask [1, 3] tm) h := Iff.rfl
set_option maxRecDepth 100000 in
theorem quintetref04_Check_l1_snd : SndAt Tryz.prog 20 none (sub (bodyOf Tryz.f67) [true, false, true, false]) (quintetref04_Check_lp 26) := by
  refine loop_sound (lp := quintetref04_Check_lp) (cut := quintetref04_Check_cut) (i := 26) (c := (sub (bodyOf Tryz.f67) [true, false, true, false, false])) [1, 3] (fun e => match e with | .ret => [2] | .exit 0 => [] | _ => []) quintetref04_Check_l1_L ?_ ?_ ?_
  · exact good_by (c := (sub (bodyOf Tryz.f67) [true, false, true, false, false])) (i := 52) (l := []) (by kernel_rfl) (fun _ h => by cases h)
  · intro Q tm h H
    obtain ⟨a5, e1, H⟩ := selA_ex H
    obtain ⟨x6, e3, H⟩ := selI_ex H
    exact H
  · intro Q k tm h H
    have H0 := H
    obtain ⟨a5, e1, H⟩ := selA_ex H
    obtain ⟨x6, e3, H⟩ := selI_ex H
    have e : mask [1, 3] tm = mkTm [(1, some (.pointer (some a5))), (3, some (.int .i64 x6))] := by simp only [mask, List.map_cons, List.map_nil, e1, e3] <;> rfl
    rw [e]
    refine Eq.mp (quintetref04_Check_l1_step Q k a5 x6 h) ?_
    rw [← e]
    exact (quintetref04_Check_l1_mask Q (k + 1) tm h).mp H0
set_option maxRecDepth 100000 in
theorem quintetref04_Check_eq (x1 : Int) (x2 : Int) (h : Hp) (K : Value → Hp → Prop) : quintetref04_Check x1 x2 h K =
    codeWp Tryz.prog 20 quintetref04_Check_lp quintetref04_Check_cut (bodyOf Tryz.f67) 1 (endQ Tryz.prog Tryz.f67.results.toList K) (argTm [(.agg #[(.int .u8 x1), (.int .u8 x2)])]) h := by kernel_rfl
set_option maxRecDepth 100000 in
theorem quintetref04_Check_ok (x1 : Int) (x2 : Int) {h : Hp} {K : Value → Hp → Prop} (H : quintetref04_Check x1 x2 h K) : CallsH Tryz.prog 67 #[(.agg #[(.int .u8 x1), (.int .u8 x2)])] h K :=
  calls_of (args := [(.agg #[(.int .u8 x1), (.int .u8 x2)])]) (n := 20) (lp := quintetref04_Check_lp) (cut := quintetref04_Check_cut) Tryz.func67 (c := bodyOf Tryz.f67) (by kernel_rfl) (by kernel_rfl) (by kernel_rfl) (good_by (c := (bodyOf Tryz.f67)) (i := 1) (l := [(26, (sub (bodyOf Tryz.f67) [true, false, true, false]))]) (by kernel_rfl) (List.forall_mem_cons.2 ⟨quintetref04_Check_l1_snd, (fun _ h => by cases h)⟩))
    (Eq.mp (quintetref04_Check_eq x1 x2 h K) H)

/-! ### quintet/quintetref04.Bit: function 88 -/
def quintetref04_Bit (x1 : Int) (x2 : Int) (h : Hp) (K : Value → Hp → Prop) : Prop :=
  ∃ x3 : Int, PV Tryz.prog (binOp .shr 5 (.int .u8 x1) (.int .u64 (IntKind.u64.wrap (IntKind.i64.wrap (7 - x2))))) (.int .u8 x3) ∧
  K (.int .i64 (Int.tmod (IntKind.i64.wrap (x3)) 2)) h
def quintetref04_Bit_lp (i : Nat) (Q : Qx) (tm : Tm) (h : Hp) : Prop := False
def quintetref04_Bit_cut (i : Nat) : Option (List Nat) := none
set_option maxRecDepth 100000 in
theorem quintetref04_Bit_eq (x1 : Int) (x2 : Int) (h : Hp) (K : Value → Hp → Prop) : quintetref04_Bit x1 x2 h K =
    codeWp Tryz.prog 12 quintetref04_Bit_lp quintetref04_Bit_cut (bodyOf Tryz.f88) 1 (endQ Tryz.prog Tryz.f88.results.toList K) (argTm [(.int .u8 x1), (.int .i64 x2)]) h := by kernel_rfl
set_option maxRecDepth 100000 in
theorem quintetref04_Bit_ok (x1 : Int) (x2 : Int) {h : Hp} {K : Value → Hp → Prop} (H : quintetref04_Bit x1 x2 h K) : CallsH Tryz.prog 88 #[(.int .u8 x1), (.int .i64 x2)] h K :=
  calls_of (args := [(.int .u8 x1), (.int .i64 x2)]) (n := 12) (lp := quintetref04_Bit_lp) (cut := quintetref04_Bit_cut) Tryz.func88 (c := bodyOf Tryz.f88) (by kernel_rfl) (by kernel_rfl) (by kernel_rfl) (good_by (c := (bodyOf Tryz.f88)) (i := 1) (l := []) (by kernel_rfl) (fun _ h => by cases h))
    (Eq.mp (quintetref04_Bit_eq x1 x2 h K) H)

/-! ### quintet/quintetref05.Count: function 30 -/
def quintetref05_Count (x1 : Int) (x2 : Int) (h : Hp) (K : Value → Hp → Prop) : Prop :=
  newC h (.cells #[(.int .u16 x1), (.int .u16 x2)] 36 (0, 0)) fun a4 h3 => 
  ∃ x5 : Int, ∃ x6 : Int, HV Tryz.prog (Instr.loadAt 36 (.pointer (some a4))) h3 (.agg #[(.int .u16 x5), (.int .u16 x6)]) ∧ 
  CallsH Tryz.prog 49 #[(.agg #[(.int .u16 x5), (.int .u16 x6)])] h3 fun r8 h7 =>
  ∃ A9 : Option Addr, ∃ l9 : Nat, ∃ c9 : Nat, ∃ x10 : Int, r8 = (.tuple #[(.slice A9 l9 c9), (.int .i64 x10)]) ∧ 
  K (.tuple #[(.int .i64 (l9 : Int)), (.int .i64 x10)]) h7
def quintetref05_Count_lp (i : Nat) (Q : Qx) (tm : Tm) (h : Hp) : Prop := False
def quintetref05_Count_cut (i : Nat) : Option (List Nat) := none
set_option maxRecDepth 100000 in
theorem quintetref05_Count_eq (x1 : Int) (x2 : Int) (h : Hp) (K : Value → Hp → Prop) : quintetref05_Count x1 x2 h K =
    codeWp Tryz.prog 14 quintetref05_Count_lp quintetref05_Count_cut (bodyOf Tryz.f30) 1 (endQ Tryz.prog Tryz.f30.results.toList K) (argTm [(.agg #[(.int .u16 x1), (.int .u16 x2)])]) h := by kernel_rfl
set_option maxRecDepth 100000 in
theorem quintetref05_Count_ok (x1 : Int) (x2 : Int) {h : Hp} {K : Value → Hp → Prop} (H : quintetref05_Count x1 x2 h K) : CallsH Tryz.prog 30 #[(.agg #[(.int .u16 x1), (.int .u16 x2)])] h K :=
  calls_of (args := [(.agg #[(.int .u16 x1), (.int .u16 x2)])]) (n := 14) (lp := quintetref05_Count_lp) (cut := quintetref05_Count_cut) Tryz.func30 (c := bodyOf Tryz.f30) (by kernel_rfl) (by kernel_rfl) (by kernel_rfl) (good_by (c := (bodyOf Tryz.f30)) (i := 1) (l := []) (by kernel_rfl) (fun _ h => by cases h))
    (Eq.mp (quintetref05_Count_eq x1 x2 h K) H)

/-! ### quintet/quintetref05.Of: function 49 -/
def quintetref05_Of (x1 : Int) (x2 : Int) (h : Hp) (K : Value → Hp → Prop) : Prop :=
  newC h (.cells #[(.int .u16 x1), (.int .u16 x2)] 36 (0, 0)) fun a4 h3 => 
  ∃ x5 : Int, HV Tryz.prog (Instr.loadAt 24 (.pointer (some a4))) h3 (.int .u16 x5) ∧ 
  ∃ x6 : Int, HV Tryz.prog (Instr.loadAt 24 (.pointer (some (a4.add 1)))) h3 (.int .u16 x6) ∧ 
  br (decide (x5 > x6))
  (K (.tuple #[(.slice none 0 0), (.int .i64 30)]) h3)
  (newC h3 (.cells (zcOf Tryz.prog 102) 102 (0, 0)) fun a8 h7 => 
  ∃ x9 : Int, ∃ x10 : Int, HV Tryz.prog (Instr.loadAt 36 (.pointer (some a4))) h7 (.agg #[(.int .u16 x9), (.int .u16 x10)]) ∧ 
  CallsH Tryz.prog 70 #[(.pointer (some a8)), (.agg #[(.int .u16 x9), (.int .u16 x10)])] h7 fun r12 h11 =>
  r12 = (.tuple #[]) ∧ 
  CallsH Tryz.prog 71 #[(.pointer (some a8))] h11 fun r14 h13 =>
  ∃ A15 : Option Addr, ∃ l15 : Nat, ∃ c15 : Nat, r14 = (.slice A15 l15 c15) ∧ 
  K (.tuple #[(.slice A15 l15 c15), (.int .i64 0)]) h13)
def quintetref05_Of_lp (i : Nat) (Q : Qx) (tm : Tm) (h : Hp) : Prop := False
def quintetref05_Of_cut (i : Nat) : Option (List Nat) := none
set_option maxRecDepth 100000 in
theorem quintetref05_Of_eq (x1 : Int) (x2 : Int) (h : Hp) (K : Value → Hp → Prop) : quintetref05_Of x1 x2 h K =
    codeWp Tryz.prog 17 quintetref05_Of_lp quintetref05_Of_cut (bodyOf Tryz.f49) 1 (endQ Tryz.prog Tryz.f49.results.toList K) (argTm [(.agg #[(.int .u16 x1), (.int .u16 x2)])]) h := by kernel_rfl
set_option maxRecDepth 100000 in
theorem quintetref05_Of_ok (x1 : Int) (x2 : Int) {h : Hp} {K : Value → Hp → Prop} (H : quintetref05_Of x1 x2 h K) : CallsH Tryz.prog 49 #[(.agg #[(.int .u16 x1), (.int .u16 x2)])] h K :=
  calls_of (args := [(.agg #[(.int .u16 x1), (.int .u16 x2)])]) (n := 17) (lp := quintetref05_Of_lp) (cut := quintetref05_Of_cut) Tryz.func49 (c := bodyOf Tryz.f49) (by kernel_rfl) (by kernel_rfl) (by kernel_rfl) (good_by (c := (bodyOf Tryz.f49)) (i := 1) (l := []) (by kernel_rfl) (fun _ h => by cases h))
    (Eq.mp (quintetref05_Of_eq x1 x2 h K) H)

/-! ### quintet/quintetref05.Tiled: function 71 -/
def quintetref05_Tiled_l1 (p5 : Option Addr) (A6 : Option Addr) (l6 : Nat) (c6 : Nat) (K0 : (Option Addr) → Nat → Nat → Hp → Prop)  : Nat → Int → Hp → Prop
  | 0, _, _ => False
  | k + 1, x7, h =>
    br (decide (x7 < 65536))
    (∃ a20 : Addr, PV Tryz.prog (Instr.indexAt 38 (.slice A6 l6 c6) (.int .i64 x7)) (.pointer (some a20)) ∧
    ∃ x21 : Int, HV Tryz.prog (Instr.loadAt 3 (.pointer (some a20))) h (.int .i64 x21) ∧ 
    ∃ a22 : Addr, PV Tryz.prog (Instr.indexAt 38 (.slice A6 l6 c6) (.int .i64 (IntKind.i64.wrap (x7 + 1)))) (.pointer (some a22)) ∧
    HU Tryz.prog (Instr.storeAt 3 (.pointer (some a22)) (.int .i64 x21)) h fun h23 => 
    drf p5 fun a24 =>
    ∃ a25 : Addr, PV Tryz.prog (Instr.indexAt 102 (.pointer (some a24)) (.int .i64 x7)) (.pointer (some a25)) ∧
    ∃ b26 : Bool, HV Tryz.prog (Instr.loadAt 4 (.pointer (some a25))) h23 (.bool b26) ∧ 
    br b26
    (∃ a27 : Addr, PV Tryz.prog (Instr.indexAt 38 (.slice A6 l6 c6) (.int .i64 (IntKind.i64.wrap (x7 + 1)))) (.pointer (some a27)) ∧
    ∃ x28 : Int, HV Tryz.prog (Instr.loadAt 3 (.pointer (some a27))) h23 (.int .i64 x28) ∧ 
    ∃ a29 : Addr, PV Tryz.prog (Instr.indexAt 38 (.slice A6 l6 c6) (.int .i64 (IntKind.i64.wrap (x7 + 1)))) (.pointer (some a29)) ∧
    HU Tryz.prog (Instr.storeAt 3 (.pointer (some a29)) (.int .i64 (IntKind.i64.wrap (x28 + 1)))) h23 fun h30 => 
    quintetref05_Tiled_l1 p5 A6 l6 c6 K0 k (IntKind.i64.wrap (x7 + 1)) h30)
    (quintetref05_Tiled_l1 p5 A6 l6 c6 K0 k (IntKind.i64.wrap (x7 + 1)) h23))
    (K0 A6 l6 c6 h)
def quintetref05_Tiled_l1_L (Q : Qx) (k : Nat) (tm : Tm) (h : Hp) : Prop :=
  selP (tm 0) fun p5 =>
  selS (tm 3) fun A6 l6 c6 =>
  selI .i64 (tm 4) fun x7 =>
  quintetref05_Tiled_l1 p5 A6 l6 c6 (fun (A19 : Option Addr) (l19 : Nat) (c19 : Nat) h => Q (.exit 0) (mkTm [(3, some (.slice A19 l19 c19))]) h) k x7 h
def quintetref05_Tiled (p1 : Option Addr) (h : Hp) (K : Value → Hp → Prop) : Prop :=
  HW Tryz.prog (Instr.makeSlice 38 (.int .i64 65537) (.int .i64 65537)) h fun r3 h2 =>
  ∃ A4 : Option Addr, ∃ l4 : Nat, ∃ c4 : Nat, r3 = (.slice A4 l4 c4) ∧ 
  ∃ k36, quintetref05_Tiled_l1 p1 A4 l4 c4
  (fun (A31 : Option Addr) (l31 : Nat) (c31 : Nat) (h32 : Hp) =>
  CallsH Tryz.prog 89 #[(.slice A31 l31 c31), (.int .i64 0), (.int .i64 0)] h32 fun r34 h33 =>
  ∃ A35 : Option Addr, ∃ l35 : Nat, ∃ c35 : Nat, r34 = (.slice A35 l35 c35) ∧ 
  K (.slice A35 l35 c35) h33)
  k36 0 h2
def quintetref05_Tiled_lp (i : Nat) (Q : Qx) (tm : Tm) (h : Hp) : Prop := match Nat.beq i 58 with
  | true => ∃ k, quintetref05_Tiled_l1_L Q k tm h
  | false => False
def quintetref05_Tiled_cut (i : Nat) : Option (List Nat) := none
set_option maxRecDepth 100000 in
theorem quintetref05_Tiled_l1_step (Q : Qx) (k : Nat) (p5 : Option Addr) (A6 : Option Addr) (l6 : Nat) (c6 : Nat) (x7 : Int) (h : Hp) : quintetref05_Tiled_l1_L Q (k + 1) (mkTm [(0, some (.pointer p5)), (3, some (.slice A6 l6 c6)), (4, some (.int .i64 x7))]) h =
    codeWp Tryz.prog 32 quintetref05_Tiled_lp quintetref05_Tiled_cut (sub (bodyOf Tryz.f71) [true, true, false, true, false, false]) 116 (thenQ (fun tm h => quintetref05_Tiled_l1_L Q k (mask [0, 3, 4] tm) h) (maskQ (fun e => match e with | .exit 0 => [3] | _ => []) Q)) (mkTm [(0, some (.pointer p5)), (3, some (.slice A6 l6 c6)), (4, some (.int .i64 x7))]) h := by kernel_rfl
theorem quintetref05_Tiled_l1_mask (Q : Qx) (k : Nat) (tm : Tm) (h : Hp) : quintetref05_Tiled_l1_L Q k tm h ↔ quintetref05_Tiled_l1_L Q k (mask [0, 3, 4] tm) h := Iff.rfl
set_option maxRecDepth 100000 in
theorem quintetref05_Tiled_l1_snd : SndAt Tryz.prog 32 none (sub (bodyOf Tryz.f71) [true, true, false, true, false]) (quintetref05_Tiled_lp 58) := by
  refine loop_sound (lp := quintetref05_Tiled_lp) (cut := quintetref05_Tiled_cut) (i := 58) (c := (sub (bodyOf Tryz.f71) [true, true, false, true, false, false])) [0, 3, 4] (fun e => match e with | .exit 0 => [3] | _ => []) quintetref05_Tiled_l1_L ?_ ?_ ?_
  · exact good_by (c := (sub (bodyOf Tryz.f71) [true, true, false, true, false, false])) (i := 116) (l := []) (by kernel_rfl) (fun _ h => by cases h)
  · intro Q tm h H
    obtain ⟨p5, e0, H⟩ := selP_ex H
    obtain ⟨A6, l6, c6, e3, H⟩ := selS_ex H
    obtain ⟨x7, e4, H⟩ := selI_ex H
    exact H
  · intro Q k tm h H
    have H0 := H
    obtain ⟨p5, e0, H⟩ := selP_ex H
    obtain ⟨A6, l6, c6, e3, H⟩ := selS_ex H
    obtain ⟨x7, e4, H⟩ := selI_ex H
    have e : mask [0, 3, 4] tm = mkTm [(0, some (.pointer p5)), (3, some (.slice A6 l6 c6)), (4, some (.int .i64 x7))] := by simp only [mask, List.map_cons, List.map_nil, e0, e3, e4] <;> rfl
    rw [e]
    refine Eq.mp (quintetref05_Tiled_l1_step Q k p5 A6 l6 c6 x7 h) ?_
    rw [← e]
    exact (quintetref05_Tiled_l1_mask Q (k + 1) tm h).mp H0
set_option maxRecDepth 100000 in
theorem quintetref05_Tiled_eq (p1 : Option Addr) (h : Hp) (K : Value → Hp → Prop) : quintetref05_Tiled p1 h K =
    codeWp Tryz.prog 32 quintetref05_Tiled_lp quintetref05_Tiled_cut (bodyOf Tryz.f71) 1 (endQ Tryz.prog Tryz.f71.results.toList K) (argTm [(.pointer p1)]) h := by kernel_rfl
set_option maxRecDepth 100000 in
theorem quintetref05_Tiled_ok (p1 : Option Addr) {h : Hp} {K : Value → Hp → Prop} (H : quintetref05_Tiled p1 h K) : CallsH Tryz.prog 71 #[(.pointer p1)] h K :=
  calls_of (args := [(.pointer p1)]) (n := 32) (lp := quintetref05_Tiled_lp) (cut := quintetref05_Tiled_cut) Tryz.func71 (c := bodyOf Tryz.f71) (by kernel_rfl) (by kernel_rfl) (by kernel_rfl) (good_by (c := (bodyOf Tryz.f71)) (i := 1) (l := [(58, (sub (bodyOf Tryz.f71) [true, true, false, true, false]))]) (by kernel_rfl) (List.forall_mem_cons.2 ⟨quintetref05_Tiled_l1_snd, (fun _ h => by cases h)⟩))
    (Eq.mp (quintetref05_Tiled_eq p1 h K) H)

/-! ### quintet/quintetref05.tiled: function 89 -/
def quintetref05_tiled (A1 : Option Addr) (l1 : Nat) (c1 : Nat) (x2 : Int) (x3 : Int) (h : Hp) (K : Value → Hp → Prop) : Prop :=
  ∃ x4 : Int, PV Tryz.prog (binOp .shl 3 (.int .i64 1) (.int .i64 (IntKind.i64.wrap (16 - x3)))) (.int .i64 x4) ∧
  ∃ a5 : Addr, PV Tryz.prog (Instr.indexAt 38 (.slice A1 l1 c1) (.int .i64 (IntKind.i64.wrap (x2 + x4)))) (.pointer (some a5)) ∧
  ∃ x6 : Int, HV Tryz.prog (Instr.loadAt 3 (.pointer (some a5))) h (.int .i64 x6) ∧ 
  ∃ a7 : Addr, PV Tryz.prog (Instr.indexAt 38 (.slice A1 l1 c1) (.int .i64 x2)) (.pointer (some a7)) ∧
  ∃ x8 : Int, HV Tryz.prog (Instr.loadAt 3 (.pointer (some a7))) h (.int .i64 x8) ∧ 
  br ((IntKind.i64.wrap (x6 - x8)) == x4)
  (newC h (.cells #[(.int .u16 (IntKind.u16.wrap (x2))), (.int .i64 x3)] 98 (0, 0)) fun a10 h9 => 
  K (.slice (some a10) 1 1) h9)
  (br ((IntKind.i64.wrap (x6 - x8)) == 0)
  (K (.slice none 0 0) h)
  (CallsH Tryz.prog 89 #[(.slice A1 l1 c1), (.int .i64 x2), (.int .i64 (IntKind.i64.wrap (x3 + 1)))] h fun r12 h11 =>
  ∃ A13 : Option Addr, ∃ l13 : Nat, ∃ c13 : Nat, r12 = (.slice A13 l13 c13) ∧ 
  CallsH Tryz.prog 89 #[(.slice A1 l1 c1), (.int .i64 (IntKind.i64.wrap (x2 + (IntKind.i64.wrap (Int.tdiv x4 2))))), (.int .i64 (IntKind.i64.wrap (x3 + 1)))] h11 fun r15 h14 =>
  ∃ A16 : Option Addr, ∃ l16 : Nat, ∃ c16 : Nat, r15 = (.slice A16 l16 c16) ∧ 
  HW Tryz.prog (Builtin.append_ #[74, 74] 74 #[(.slice A13 l13 c13), (.slice A16 l16 c16)]) h14 fun r18 h17 =>
  ∃ A19 : Option Addr, ∃ l19 : Nat, ∃ c19 : Nat, r18 = (.slice A19 l19 c19) ∧ 
  K (.slice A19 l19 c19) h17))
def quintetref05_tiled_lp (i : Nat) (Q : Qx) (tm : Tm) (h : Hp) : Prop := False
def quintetref05_tiled_cut (i : Nat) : Option (List Nat) := none
set_option maxRecDepth 100000 in
theorem quintetref05_tiled_eq (A1 : Option Addr) (l1 : Nat) (c1 : Nat) (x2 : Int) (x3 : Int) (h : Hp) (K : Value → Hp → Prop) : quintetref05_tiled A1 l1 c1 x2 x3 h K =
    codeWp Tryz.prog 51 quintetref05_tiled_lp quintetref05_tiled_cut (bodyOf Tryz.f89) 1 (endQ Tryz.prog Tryz.f89.results.toList K) (argTm [(.slice A1 l1 c1), (.int .i64 x2), (.int .i64 x3)]) h := by kernel_rfl
set_option maxRecDepth 100000 in
theorem quintetref05_tiled_ok (A1 : Option Addr) (l1 : Nat) (c1 : Nat) (x2 : Int) (x3 : Int) {h : Hp} {K : Value → Hp → Prop} (H : quintetref05_tiled A1 l1 c1 x2 x3 h K) : CallsH Tryz.prog 89 #[(.slice A1 l1 c1), (.int .i64 x2), (.int .i64 x3)] h K :=
  calls_of (args := [(.slice A1 l1 c1), (.int .i64 x2), (.int .i64 x3)]) (n := 51) (lp := quintetref05_tiled_lp) (cut := quintetref05_tiled_cut) Tryz.func89 (c := bodyOf Tryz.f89) (by kernel_rfl) (by kernel_rfl) (by kernel_rfl) (good_by (c := (bodyOf Tryz.f89)) (i := 1) (l := []) (by kernel_rfl) (fun _ h => by cases h))
    (Eq.mp (quintetref05_tiled_eq A1 l1 c1 x2 x3 h K) H)

/-! ### quintet/quintetref08.May: function 34 -/
def quintetref08_May (x1 : Int) (x2 : Int) (x3 : Int) (x4 : Int) (x5 : Int) (x6 : Int) (x7 : Int) (x8 : Int) (x9 : Int) (x10 : Int) (x11 : Int) (x12 : Int) (h : Hp) (K : Value → Hp → Prop) : Prop :=
  newC h (.cells #[(.int .i64 x1), (.int .u32 x2), (.int .i64 x3), (.int .u32 x4), (.int .i64 x5), (.int .u16 x6), (.int .u16 x7), (.int .u16 x8), (.int .u16 x9), (.int .u8 x10), (.int .u8 x11), (.int .i64 x12)] 49 (0, 0)) fun a14 h13 => 
  ∃ x15 : Int, ∃ x16 : Int, ∃ x17 : Int, ∃ x18 : Int, ∃ x19 : Int, ∃ x20 : Int, ∃ x21 : Int, ∃ x22 : Int, ∃ x23 : Int, ∃ x24 : Int, ∃ x25 : Int, ∃ x26 : Int, HV Tryz.prog (Instr.loadAt 49 (.pointer (some a14))) h13 (.agg #[(.int .i64 x15), (.int .u32 x16), (.int .i64 x17), (.int .u32 x18), (.int .i64 x19), (.int .u16 x20), (.int .u16 x21), (.int .u16 x22), (.int .u16 x23), (.int .u8 x24), (.int .u8 x25), (.int .i64 x26)]) ∧ 
  CallsH Tryz.prog 46 #[(.agg #[(.int .i64 x15), (.int .u32 x16), (.int .i64 x17), (.int .u32 x18), (.int .i64 x19), (.int .u16 x20), (.int .u16 x21), (.int .u16 x22), (.int .u16 x23), (.int .u8 x24), (.int .u8 x25), (.int .i64 x26)])] h13 fun r28 h27 =>
  ∃ x29 : Int, ∃ x30 : Int, r28 = (.tuple #[(.int .i64 x29), (.int .i64 x30)]) ∧ 
  K (.bool (x29 == 0)) h27
def quintetref08_May_lp (i : Nat) (Q : Qx) (tm : Tm) (h : Hp) : Prop := False
def quintetref08_May_cut (i : Nat) : Option (List Nat) := none
set_option maxRecDepth 100000 in
theorem quintetref08_May_eq (x1 : Int) (x2 : Int) (x3 : Int) (x4 : Int) (x5 : Int) (x6 : Int) (x7 : Int) (x8 : Int) (x9 : Int) (x10 : Int) (x11 : Int) (x12 : Int) (h : Hp) (K : Value → Hp → Prop) : quintetref08_May x1 x2 x3 x4 x5 x6 x7 x8 x9 x10 x11 x12 h K =
    codeWp Tryz.prog 12 quintetref08_May_lp quintetref08_May_cut (bodyOf Tryz.f34) 1 (endQ Tryz.prog Tryz.f34.results.toList K) (argTm [(.agg #[(.int .i64 x1), (.int .u32 x2), (.int .i64 x3), (.int .u32 x4), (.int .i64 x5), (.int .u16 x6), (.int .u16 x7), (.int .u16 x8), (.int .u16 x9), (.int .u8 x10), (.int .u8 x11), (.int .i64 x12)])]) h := by kernel_rfl
set_option maxRecDepth 100000 in
theorem quintetref08_May_ok (x1 : Int) (x2 : Int) (x3 : Int) (x4 : Int) (x5 : Int) (x6 : Int) (x7 : Int) (x8 : Int) (x9 : Int) (x10 : Int) (x11 : Int) (x12 : Int) {h : Hp} {K : Value → Hp → Prop} (H : quintetref08_May x1 x2 x3 x4 x5 x6 x7 x8 x9 x10 x11 x12 h K) : CallsH Tryz.prog 34 #[(.agg #[(.int .i64 x1), (.int .u32 x2), (.int .i64 x3), (.int .u32 x4), (.int .i64 x5), (.int .u16 x6), (.int .u16 x7), (.int .u16 x8), (.int .u16 x9), (.int .u8 x10), (.int .u8 x11), (.int .i64 x12)])] h K :=
  calls_of (args := [(.agg #[(.int .i64 x1), (.int .u32 x2), (.int .i64 x3), (.int .u32 x4), (.int .i64 x5), (.int .u16 x6), (.int .u16 x7), (.int .u16 x8), (.int .u16 x9), (.int .u8 x10), (.int .u8 x11), (.int .i64 x12)])]) (n := 12) (lp := quintetref08_May_lp) (cut := quintetref08_May_cut) Tryz.func34 (c := bodyOf Tryz.f34) (by kernel_rfl) (by kernel_rfl) (by kernel_rfl) (good_by (c := (bodyOf Tryz.f34)) (i := 1) (l := []) (by kernel_rfl) (fun _ h => by cases h))
    (Eq.mp (quintetref08_May_eq x1 x2 x3 x4 x5 x6 x7 x8 x9 x10 x11 x12 h K) H)

/-! ### quintet/quintetref08.Check: function 46 -/
def quintetref08_Check_l3 (a96 : Addr) (A97 : Option Addr) (l97 : Nat) (c97 : Nat) (K0 : Int → Int → Hp → Prop) (K1 : Addr → Hp → Prop)  : Nat → Int → Hp → Prop
  | 0, _, _ => False
  | k + 1, x98, h =>
    br (decide (x98 < (l97 : Int)))
    (∃ a106 : Addr, PV Tryz.prog (Instr.indexAt 96 (.slice A97 l97 c97) (.int .i64 x98)) (.pointer (some a106)) ∧
    ∃ x107 : Int, HV Tryz.prog (Instr.loadAt 29 (.pointer (some a106))) h (.int .i64 x107) ∧ 
    br (x107 != 0)
    (∃ a108 : Addr, PV Tryz.prog (Instr.indexAt 96 (.slice A97 l97 c97) (.int .i64 x98)) (.pointer (some a108)) ∧
    ∃ x109 : Int, HV Tryz.prog (Instr.loadAt 29 (.pointer (some a108))) h (.int .i64 x109) ∧ 
    K0 x109 (IntKind.i64.wrap (2 + x98)) h)
    (quintetref08_Check_l3 a96 A97 l97 c97 K0 K1 k (IntKind.i64.wrap (x98 + 1)) h))
    (K1 a96 h)
def quintetref08_Check_l3_L (Q : Qx) (k : Nat) (tm : Tm) (h : Hp) : Prop :=
  selA (tm 1) fun a96 =>
  selS (tm 4) fun A97 l97 c97 =>
  selI .i64 (tm 5) fun x98 =>
  quintetref08_Check_l3 a96 A97 l97 c97 (fun (x103 : Int) (x104 : Int) h => Q (.ret) (mkTm [(2, some (.int .i64 x103)), (3, some (.int .i64 x104))]) h) (fun (a105 : Addr) h => Q (.exit 0) (mkTm [(1, some (.pointer (some a105)))]) h) k x98 h
def quintetref08_Check_j2 (K0 : Int → Int → Hp → Prop) (a17 : Addr) (h : Hp) : Prop :=
  ∃ x69 : Int, ∃ x70 : Int, HV Tryz.prog (Instr.loadAt 45 (.pointer (some (a17.add 1)))) h (.agg #[(.int .u32 x69), (.int .i64 x70)]) ∧ 
  CallsH Tryz.prog 47 #[(.agg #[(.int .u32 x69), (.int .i64 x70)])] h fun r72 h71 =>
  ∃ x73 : Int, r72 = (.int .i64 x73) ∧ 
  ∃ x74 : Int, ∃ x75 : Int, HV Tryz.prog (Instr.loadAt 45 (.pointer (some (a17.add 3)))) h71 (.agg #[(.int .u32 x74), (.int .i64 x75)]) ∧ HV Tryz.prog (Instr.loadAt 45 (.pointer (some (a17.add 3)))) h (.agg #[(.int .u32 x74), (.int .i64 x75)]) ∧ 
  CallsH Tryz.prog 47 #[(.agg #[(.int .u32 x74), (.int .i64 x75)])] h71 fun r77 h76 =>
  ∃ x78 : Int, r77 = (.int .i64 x78) ∧ 
  ∃ x79 : Int, ∃ x80 : Int, HV Tryz.prog (Instr.loadAt 36 (.pointer (some (a17.add 5)))) h76 (.agg #[(.int .u16 x79), (.int .u16 x80)]) ∧ HV Tryz.prog (Instr.loadAt 36 (.pointer (some (a17.add 5)))) h71 (.agg #[(.int .u16 x79), (.int .u16 x80)]) ∧ HV Tryz.prog (Instr.loadAt 36 (.pointer (some (a17.add 5)))) h (.agg #[(.int .u16 x79), (.int .u16 x80)]) ∧ 
  CallsH Tryz.prog 66 #[(.agg #[(.int .u16 x79), (.int .u16 x80)])] h76 fun r82 h81 =>
  ∃ x83 : Int, r82 = (.int .i64 x83) ∧ 
  ∃ x84 : Int, ∃ x85 : Int, HV Tryz.prog (Instr.loadAt 36 (.pointer (some (a17.add 7)))) h81 (.agg #[(.int .u16 x84), (.int .u16 x85)]) ∧ HV Tryz.prog (Instr.loadAt 36 (.pointer (some (a17.add 7)))) h76 (.agg #[(.int .u16 x84), (.int .u16 x85)]) ∧ HV Tryz.prog (Instr.loadAt 36 (.pointer (some (a17.add 7)))) h71 (.agg #[(.int .u16 x84), (.int .u16 x85)]) ∧ HV Tryz.prog (Instr.loadAt 36 (.pointer (some (a17.add 7)))) h (.agg #[(.int .u16 x84), (.int .u16 x85)]) ∧ 
  CallsH Tryz.prog 66 #[(.agg #[(.int .u16 x84), (.int .u16 x85)])] h81 fun r87 h86 =>
  ∃ x88 : Int, r87 = (.int .i64 x88) ∧ 
  ∃ x89 : Int, ∃ x90 : Int, HV Tryz.prog (Instr.loadAt 47 (.pointer (some (a17.add 9)))) h86 (.agg #[(.int .u8 x89), (.int .u8 x90)]) ∧ HV Tryz.prog (Instr.loadAt 47 (.pointer (some (a17.add 9)))) h81 (.agg #[(.int .u8 x89), (.int .u8 x90)]) ∧ HV Tryz.prog (Instr.loadAt 47 (.pointer (some (a17.add 9)))) h76 (.agg #[(.int .u8 x89), (.int .u8 x90)]) ∧ HV Tryz.prog (Instr.loadAt 47 (.pointer (some (a17.add 9)))) h71 (.agg #[(.int .u8 x89), (.int .u8 x90)]) ∧ HV Tryz.prog (Instr.loadAt 47 (.pointer (some (a17.add 9)))) h (.agg #[(.int .u8 x89), (.int .u8 x90)]) ∧ 
  CallsH Tryz.prog 67 #[(.agg #[(.int .u8 x89), (.int .u8 x90)])] h86 fun r92 h91 =>
  ∃ x93 : Int, r92 = (.int .i64 x93) ∧ 
  newC h91 (.cells #[(.int .i64 x73), (.int .i64 x78), (.int .i64 x83), (.int .i64 x88), (.int .i64 x93)] 29 (0, 0)) fun a95 h94 => 
  ∃ k117, quintetref08_Check_l3 a17 (some a95) 5 5
  (fun (x110 : Int) (x111 : Int) (h112 : Hp) =>
  K0 x110 x111 h112)
  (fun (a113 : Addr) (h114 : Hp) =>
  ∃ x115 : Int, HV Tryz.prog (Instr.loadAt 43 (.pointer (some (a113.add 11)))) h114 (.int .i64 x115) ∧ 
  br (decide (x115 < 1))
  (K0 81 7 h114)
  (∃ x116 : Int, HV Tryz.prog (Instr.loadAt 43 (.pointer (some (a113.add 11)))) h114 (.int .i64 x116) ∧ 
  br (decide (x116 > 4))
  (K0 81 7 h114)
  (K0 0 0 h114)))
  k117 0 h94
def quintetref08_Check_j2_L (Q : Qx) (tm : Tm) (h : Hp) : Prop :=
  selA (tm 1) fun a17 =>
  quintetref08_Check_j2 (fun (x67 : Int) (x68 : Int) h => Q (.ret) (mkTm [(2, some (.int .i64 x67)), (3, some (.int .i64 x68))]) h) a17 h
def quintetref08_Check (x1 : Int) (x2 : Int) (x3 : Int) (x4 : Int) (x5 : Int) (x6 : Int) (x7 : Int) (x8 : Int) (x9 : Int) (x10 : Int) (x11 : Int) (x12 : Int) (h : Hp) (K : Value → Hp → Prop) : Prop :=
  newC h (.cells #[(.int .i64 x1), (.int .u32 x2), (.int .i64 x3), (.int .u32 x4), (.int .i64 x5), (.int .u16 x6), (.int .u16 x7), (.int .u16 x8), (.int .u16 x9), (.int .u8 x10), (.int .u8 x11), (.int .i64 x12)] 49 (0, 0)) fun a14 h13 => 
  ∃ x118 : Int, HV Tryz.prog (Instr.loadAt 3 (.pointer (some a14))) h13 (.int .i64 x118) ∧ 
  br (decide (x118 < 1))
  (K (.tuple #[(.int .i64 80), (.int .i64 1)]) h13)
  (∃ x119 : Int, HV Tryz.prog (Instr.loadAt 3 (.pointer (some a14))) h13 (.int .i64 x119) ∧ 
  br (decide (x119 > 999999))
  (K (.tuple #[(.int .i64 80), (.int .i64 1)]) h13)
  (quintetref08_Check_j2
  (fun (x120 : Int) (x121 : Int) (h122 : Hp) =>
  K (.tuple #[(.int .i64 x120), (.int .i64 x121)]) h122)
  a14 h13))
def quintetref08_Check_lp (i : Nat) (Q : Qx) (tm : Tm) (h : Hp) : Prop := match Nat.beq i 122 with
  | true => ∃ k, quintetref08_Check_l3_L Q k tm h
  | false => match Nat.beq i 3 with
  | true => quintetref08_Check_j2_L Q tm h
  | false => False
def quintetref08_Check_cut (i : Nat) : Option (List Nat) := match Nat.beq i 3 with
  | true => some [1]
  | false => none
set_option maxRecDepth 100000 in
theorem quintetref08_Check_l3_step (Q : Qx) (k : Nat) (a96 : Addr) (A97 : Option Addr) (l97 : Nat) (c97 : Nat) (x98 : Int) (h : Hp) : quintetref08_Check_l3_L Q (k + 1) (mkTm [(1, some (.pointer (some a96))), (4, some (.slice A97 l97 c97)), (5, some (.int .i64 x98))]) h =
    codeWp Tryz.prog 55 quintetref08_Check_lp quintetref08_Check_cut (sub (bodyOf Tryz.f46) [true, true, true, false, true, false, false]) 244 (thenQ (fun tm h => quintetref08_Check_l3_L Q k (mask [1, 4, 5] tm) h) (maskQ (fun e => match e with | .ret => [2, 3] | .exit 0 => [1] | _ => []) Q)) (mkTm [(1, some (.pointer (some a96))), (4, some (.slice A97 l97 c97)), (5, some (.int .i64 x98))]) h := by kernel_rfl
theorem quintetref08_Check_l3_mask (Q : Qx) (k : Nat) (tm : Tm) (h : Hp) : quintetref08_Check_l3_L Q k tm h ↔ quintetref08_Check_l3_L Q k (mask [1, 4, 5] tm) h := Iff.rfl
set_option maxRecDepth 100000 in
theorem quintetref08_Check_l3_snd : SndAt Tryz.prog 55 none (sub (bodyOf Tryz.f46) [true, true, true, false, true, false]) (quintetref08_Check_lp 122) := by
  refine loop_sound (lp := quintetref08_Check_lp) (cut := quintetref08_Check_cut) (i := 122) (c := (sub (bodyOf Tryz.f46) [true, true, true, false, true, false, false])) [1, 4, 5] (fun e => match e with | .ret => [2, 3] | .exit 0 => [1] | _ => []) quintetref08_Check_l3_L ?_ ?_ ?_
  · exact good_by (c := (sub (bodyOf Tryz.f46) [true, true, true, false, true, false, false])) (i := 244) (l := []) (by kernel_rfl) (fun _ h => by cases h)
  · intro Q tm h H
    obtain ⟨a96, e1, H⟩ := selA_ex H
    obtain ⟨A97, l97, c97, e4, H⟩ := selS_ex H
    obtain ⟨x98, e5, H⟩ := selI_ex H
    exact H
  · intro Q k tm h H
    have H0 := H
    obtain ⟨a96, e1, H⟩ := selA_ex H
    obtain ⟨A97, l97, c97, e4, H⟩ := selS_ex H
    obtain ⟨x98, e5, H⟩ := selI_ex H
    have e : mask [1, 4, 5] tm = mkTm [(1, some (.pointer (some a96))), (4, some (.slice A97 l97 c97)), (5, some (.int .i64 x98))] := by simp only [mask, List.map_cons, List.map_nil, e1, e4, e5] <;> rfl
    rw [e]
    refine Eq.mp (quintetref08_Check_l3_step Q k a96 A97 l97 c97 x98 h) ?_
    rw [← e]
    exact (quintetref08_Check_l3_mask Q (k + 1) tm h).mp H0
set_option maxRecDepth 100000 in
theorem quintetref08_Check_j2_step (Q : Qx) (a17 : Addr) (h : Hp) : quintetref08_Check_j2_L Q (mkTm [(1, some (.pointer (some a17)))]) h =
    codeWp Tryz.prog 55 quintetref08_Check_lp quintetref08_Check_cut (sub (bodyOf Tryz.f46) [true, true]) 7 (maskQ (fun e => match e with | .ret => [2, 3] | _ => []) Q) (mkTm [(1, some (.pointer (some a17)))]) h := by kernel_rfl
theorem quintetref08_Check_j2_mask (Q : Qx) (tm : Tm) (h : Hp) : quintetref08_Check_j2_L Q tm h ↔ quintetref08_Check_j2_L Q (mask [1] tm) h := Iff.rfl
set_option maxRecDepth 100000 in
theorem quintetref08_Check_j2_snd : SndAt Tryz.prog 55 none (sub (bodyOf Tryz.f46) [true, true]) (quintetref08_Check_lp 3) := by
  refine join_sound (lp := quintetref08_Check_lp) (cut := quintetref08_Check_cut) (i := 3) (c := (sub (bodyOf Tryz.f46) [true, true])) [1] (fun e => match e with | .ret => [2, 3] | _ => []) quintetref08_Check_j2_L ?_ ?_
  · exact good_by (c := (sub (bodyOf Tryz.f46) [true, true])) (i := 7) (l := [(122, (sub (bodyOf Tryz.f46) [true, true, true, false, true, false]))]) (by kernel_rfl) (List.forall_mem_cons.2 ⟨quintetref08_Check_l3_snd, (fun _ h => by cases h)⟩)
  · intro Q tm h H
    have H0 := H
    obtain ⟨a17, e1, H⟩ := selA_ex H
    have e : mask [1] tm = mkTm [(1, some (.pointer (some a17)))] := by simp only [mask, List.map_cons, List.map_nil, e1] <;> rfl
    rw [e]
    refine Eq.mp (quintetref08_Check_j2_step Q a17 h) ?_
    rw [← e]
    exact (quintetref08_Check_j2_mask Q tm h).mp H0
set_option maxRecDepth 100000 in
theorem quintetref08_Check_eq (x1 : Int) (x2 : Int) (x3 : Int) (x4 : Int) (x5 : Int) (x6 : Int) (x7 : Int) (x8 : Int) (x9 : Int) (x10 : Int) (x11 : Int) (x12 : Int) (h : Hp) (K : Value → Hp → Prop) : quintetref08_Check x1 x2 x3 x4 x5 x6 x7 x8 x9 x10 x11 x12 h K =
    codeWp Tryz.prog 55 quintetref08_Check_lp quintetref08_Check_cut (bodyOf Tryz.f46) 1 (endQ Tryz.prog Tryz.f46.results.toList K) (argTm [(.agg #[(.int .i64 x1), (.int .u32 x2), (.int .i64 x3), (.int .u32 x4), (.int .i64 x5), (.int .u16 x6), (.int .u16 x7), (.int .u16 x8), (.int .u16 x9), (.int .u8 x10), (.int .u8 x11), (.int .i64 x12)])]) h := by kernel_rfl
set_option maxRecDepth 100000 in
theorem quintetref08_Check_ok (x1 : Int) (x2 : Int) (x3 : Int) (x4 : Int) (x5 : Int) (x6 : Int) (x7 : Int) (x8 : Int) (x9 : Int) (x10 : Int) (x11 : Int) (x12 : Int) {h : Hp} {K : Value → Hp → Prop} (H : quintetref08_Check x1 x2 x3 x4 x5 x6 x7 x8 x9 x10 x11 x12 h K) : CallsH Tryz.prog 46 #[(.agg #[(.int .i64 x1), (.int .u32 x2), (.int .i64 x3), (.int .u32 x4), (.int .i64 x5), (.int .u16 x6), (.int .u16 x7), (.int .u16 x8), (.int .u16 x9), (.int .u8 x10), (.int .u8 x11), (.int .i64 x12)])] h K :=
  calls_of (args := [(.agg #[(.int .i64 x1), (.int .u32 x2), (.int .i64 x3), (.int .u32 x4), (.int .i64 x5), (.int .u16 x6), (.int .u16 x7), (.int .u16 x8), (.int .u16 x9), (.int .u8 x10), (.int .u8 x11), (.int .i64 x12)])]) (n := 55) (lp := quintetref08_Check_lp) (cut := quintetref08_Check_cut) Tryz.func46 (c := bodyOf Tryz.f46) (by kernel_rfl) (by kernel_rfl) (by kernel_rfl) (good_by (c := (bodyOf Tryz.f46)) (i := 1) (l := [(3, (sub (bodyOf Tryz.f46) [true, true]))]) (by kernel_rfl) (List.forall_mem_cons.2 ⟨quintetref08_Check_j2_snd, (fun _ h => by cases h)⟩))
    (Eq.mp (quintetref08_Check_eq x1 x2 x3 x4 x5 x6 x7 x8 x9 x10 x11 x12 h K) H)

/-! ### quintet/quintetref08.ends: function 66 -/
def quintetref08_ends (x1 : Int) (x2 : Int) (h : Hp) (K : Value → Hp → Prop) : Prop :=
  newC h (.cells #[(.int .u16 x1), (.int .u16 x2)] 36 (0, 0)) fun a4 h3 => 
  ∃ x5 : Int, HV Tryz.prog (Instr.loadAt 24 (.pointer (some a4))) h3 (.int .u16 x5) ∧ 
  ∃ x6 : Int, HV Tryz.prog (Instr.loadAt 24 (.pointer (some (a4.add 1)))) h3 (.int .u16 x6) ∧ 
  br (decide (x5 > x6))
  (K (.int .i64 30) h3)
  (K (.int .i64 0) h3)
def quintetref08_ends_lp (i : Nat) (Q : Qx) (tm : Tm) (h : Hp) : Prop := False
def quintetref08_ends_cut (i : Nat) : Option (List Nat) := none
set_option maxRecDepth 100000 in
theorem quintetref08_ends_eq (x1 : Int) (x2 : Int) (h : Hp) (K : Value → Hp → Prop) : quintetref08_ends x1 x2 h K =
    codeWp Tryz.prog 8 quintetref08_ends_lp quintetref08_ends_cut (bodyOf Tryz.f66) 1 (endQ Tryz.prog Tryz.f66.results.toList K) (argTm [(.agg #[(.int .u16 x1), (.int .u16 x2)])]) h := by kernel_rfl
set_option maxRecDepth 100000 in
theorem quintetref08_ends_ok (x1 : Int) (x2 : Int) {h : Hp} {K : Value → Hp → Prop} (H : quintetref08_ends x1 x2 h K) : CallsH Tryz.prog 66 #[(.agg #[(.int .u16 x1), (.int .u16 x2)])] h K :=
  calls_of (args := [(.agg #[(.int .u16 x1), (.int .u16 x2)])]) (n := 8) (lp := quintetref08_ends_lp) (cut := quintetref08_ends_cut) Tryz.func66 (c := bodyOf Tryz.f66) (by kernel_rfl) (by kernel_rfl) (by kernel_rfl) (good_by (c := (bodyOf Tryz.f66)) (i := 1) (l := []) (by kernel_rfl) (fun _ h => by cases h))
    (Eq.mp (quintetref08_ends_eq x1 x2 h K) H)

/-! ### (*quintet/quintetref03.Ports).Add: function 70 -/
def quintetref03_Ports_Add_l1 (p7 : Option Addr) (a8 : Addr) (K0 : Hp → Prop)  : Nat → Int → Hp → Prop
  | 0, _, _ => False
  | k + 1, x9, h =>
    ∃ x14 : Int, HV Tryz.prog (Instr.loadAt 24 (.pointer (some (a8.add 1)))) h (.int .u16 x14) ∧ 
    br (decide (x9 ≤ (IntKind.i64.wrap (x14))))
    (drf p7 fun a15 =>
    ∃ a16 : Addr, PV Tryz.prog (Instr.indexAt 102 (.pointer (some a15)) (.int .i64 x9)) (.pointer (some a16)) ∧
    HU Tryz.prog (Instr.storeAt 4 (.pointer (some a16)) (.bool true)) h fun h17 => 
    quintetref03_Ports_Add_l1 p7 a8 K0 k (IntKind.i64.wrap (x9 + 1)) h17)
    (K0 h)
def quintetref03_Ports_Add_l1_L (Q : Qx) (k : Nat) (tm : Tm) (h : Hp) : Prop :=
  selP (tm 0) fun p7 =>
  selA (tm 3) fun a8 =>
  selI .i64 (tm 4) fun x9 =>
  quintetref03_Ports_Add_l1 p7 a8 (fun  h => Q (.exit 0) (mkTm []) h) k x9 h
def quintetref03_Ports_Add (p1 : Option Addr) (x2 : Int) (x3 : Int) (h : Hp) (K : Value → Hp → Prop) : Prop :=
  newC h (.cells #[(.int .u16 x2), (.int .u16 x3)] 36 (0, 0)) fun a5 h4 => 
  ∃ x6 : Int, HV Tryz.prog (Instr.loadAt 24 (.pointer (some a5))) h4 (.int .u16 x6) ∧ 
  ∃ k19, quintetref03_Ports_Add_l1 p1 a5
  (fun  (h18 : Hp) =>
  K (.tuple #[]) h18)
  k19 (IntKind.i64.wrap (x6)) h4
def quintetref03_Ports_Add_lp (i : Nat) (Q : Qx) (tm : Tm) (h : Hp) : Prop := match Nat.beq i 14 with
  | true => ∃ k, quintetref03_Ports_Add_l1_L Q k tm h
  | false => False
def quintetref03_Ports_Add_cut (i : Nat) : Option (List Nat) := none
set_option maxRecDepth 100000 in
theorem quintetref03_Ports_Add_l1_step (Q : Qx) (k : Nat) (p7 : Option Addr) (a8 : Addr) (x9 : Int) (h : Hp) : quintetref03_Ports_Add_l1_L Q (k + 1) (mkTm [(0, some (.pointer p7)), (3, some (.pointer (some a8))), (4, some (.int .i64 x9))]) h =
    codeWp Tryz.prog 19 quintetref03_Ports_Add_lp quintetref03_Ports_Add_cut (sub (bodyOf Tryz.f70) [true, true, false, false]) 28 (thenQ (fun tm h => quintetref03_Ports_Add_l1_L Q k (mask [0, 3, 4] tm) h) (maskQ (fun e => match e with | .exit 0 => [] | _ => []) Q)) (mkTm [(0, some (.pointer p7)), (3, some (.pointer (some a8))), (4, some (.int .i64 x9))]) h := by kernel_rfl
theorem quintetref03_Ports_Add_l1_mask (Q : Qx) (k : Nat) (tm : Tm) (h : Hp) : quintetref03_Ports_Add_l1_L Q k tm h ↔ quintetref03_Ports_Add_l1_L Q k (mask [0, 3, 4] tm) h := Iff.rfl
set_option maxRecDepth 100000 in
theorem quintetref03_Ports_Add_l1_snd : SndAt Tryz.prog 19 none (sub (bodyOf Tryz.f70) [true, true, false]) (quintetref03_Ports_Add_lp 14) := by
  refine loop_sound (lp := quintetref03_Ports_Add_lp) (cut := quintetref03_Ports_Add_cut) (i := 14) (c := (sub (bodyOf Tryz.f70) [true, true, false, false])) [0, 3, 4] (fun e => match e with | .exit 0 => [] | _ => []) quintetref03_Ports_Add_l1_L ?_ ?_ ?_
  · exact good_by (c := (sub (bodyOf Tryz.f70) [true, true, false, false])) (i := 28) (l := []) (by kernel_rfl) (fun _ h => by cases h)
  · intro Q tm h H
    obtain ⟨p7, e0, H⟩ := selP_ex H
    obtain ⟨a8, e3, H⟩ := selA_ex H
    obtain ⟨x9, e4, H⟩ := selI_ex H
    exact H
  · intro Q k tm h H
    have H0 := H
    obtain ⟨p7, e0, H⟩ := selP_ex H
    obtain ⟨a8, e3, H⟩ := selA_ex H
    obtain ⟨x9, e4, H⟩ := selI_ex H
    have e : mask [0, 3, 4] tm = mkTm [(0, some (.pointer p7)), (3, some (.pointer (some a8))), (4, some (.int .i64 x9))] := by simp only [mask, List.map_cons, List.map_nil, e0, e3, e4] <;> rfl
    rw [e]
    refine Eq.mp (quintetref03_Ports_Add_l1_step Q k p7 a8 x9 h) ?_
    rw [← e]
    exact (quintetref03_Ports_Add_l1_mask Q (k + 1) tm h).mp H0
set_option maxRecDepth 100000 in
theorem quintetref03_Ports_Add_eq (p1 : Option Addr) (x2 : Int) (x3 : Int) (h : Hp) (K : Value → Hp → Prop) : quintetref03_Ports_Add p1 x2 x3 h K =
    codeWp Tryz.prog 19 quintetref03_Ports_Add_lp quintetref03_Ports_Add_cut (bodyOf Tryz.f70) 1 (endQ Tryz.prog Tryz.f70.results.toList K) (argTm [(.pointer p1), (.agg #[(.int .u16 x2), (.int .u16 x3)])]) h := by kernel_rfl
set_option maxRecDepth 100000 in
theorem quintetref03_Ports_Add_ok (p1 : Option Addr) (x2 : Int) (x3 : Int) {h : Hp} {K : Value → Hp → Prop} (H : quintetref03_Ports_Add p1 x2 x3 h K) : CallsH Tryz.prog 70 #[(.pointer p1), (.agg #[(.int .u16 x2), (.int .u16 x3)])] h K :=
  calls_of (args := [(.pointer p1), (.agg #[(.int .u16 x2), (.int .u16 x3)])]) (n := 19) (lp := quintetref03_Ports_Add_lp) (cut := quintetref03_Ports_Add_cut) Tryz.func70 (c := bodyOf Tryz.f70) (by kernel_rfl) (by kernel_rfl) (by kernel_rfl) (good_by (c := (bodyOf Tryz.f70)) (i := 1) (l := [(14, (sub (bodyOf Tryz.f70) [true, true, false]))]) (by kernel_rfl) (List.forall_mem_cons.2 ⟨quintetref03_Ports_Add_l1_snd, (fun _ h => by cases h)⟩))
    (Eq.mp (quintetref03_Ports_Add_eq p1 x2 x3 h K) H)

end Go.Proofs.YtgahbkbmolfpnaaGreat.Fs
