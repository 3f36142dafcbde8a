/- The span laws' examples, and the laws. -/
import Derived.Test.YtaacfhekjklipaaSpHelp
import Derived.Test.YtaacfhekjklipaaFsC
namespace Go.Proofs.Ytaacfhekjklipaa.Fs
open Go Go.RowKit Go.Proofs.Ytaacfhekjklipaa.Sx Go.Proofs.Ytaacfhekjklipaa.Sp
set_option linter.unusedVariables false
set_option linter.unusedSimpArgs false
set_option maxRecDepth 10000
theorem aw_j3 {h : Hp} {a : Addr} (ca : Cl h a (Sp.enc ⟨5, 9⟩)) {K0 : Bool → Hp → Prop} (H : ∀ h', Ext h h' → K0 true h') : quintetlaw03_awake_j3 K0 a true true true h := by
  unfold quintetlaw03_awake_j3
  refine br_t rfl ⟨_, _, ldS ca (by kernel_rfl), of_s 5 9 fun h1 e1 => ⟨_, _, rfl, ldS (ca.ext e1) (by kernel_rfl), _, eq_sp ⟨5, 9⟩ ⟨5, 9⟩, br_t (by decide) (br_t rfl (br_t rfl ?_))⟩⟩
  refine of_s 2 1 fun h2 e2 => ⟨_, _, rfl, span_Check_s ⟨2, 1⟩ fun h3 e3 => ⟨_, rfl, br_t (by decide) ?_⟩⟩
  refine of_s 0 65535 fun h4 e4 => ⟨_, _, rfl, span_Count_s ⟨0, 65535⟩ ⟨by decide, by decide, by decide, by decide⟩ fun h5 e5 => ⟨_, rfl, br_t (by decide) ?_⟩⟩
  refine of_s 5 6 fun h6 e6 => ⟨_, _, rfl, of_s 0 9 fun h7 e7 => ⟨_, _, rfl, span_Within_s ⟨5, 6⟩ ⟨0, 9⟩ fun h8 e8 => ⟨_, rfl, ?_⟩⟩⟩
  exact H h8 (((((((e1.trans e2).trans e3).trans e4).trans e5).trans e6).trans e7).trans e8)
theorem aw_j2 {h : Hp} {a : Addr} (ca : Cl h a (Sp.enc ⟨5, 9⟩)) {A : Option Addr} {c : Nat} (r : RowP h A c [⟨0, 4⟩, ⟨10, 10⟩]) {K0 : Bool → Hp → Prop} (H : ∀ h', Ext h h' → K0 true h') : quintetlaw03_awake_j2 K0 a true A 2 c true h := by
  unfold quintetlaw03_awake_j2
  refine of_s 0 4 fun h1 e1 => ⟨_, _, rfl, of_s 10 10 fun h2 e2 => ⟨_, _, rfl, ?_⟩⟩
  refine newC_i (cs := [(⟨0, 4⟩ : Sp), ⟨10, 10⟩].flatMap Sp.enc) fun h3 e3 c3 b3 z3 => ?_
  have e13 := (e1.trans e2).trans e3
  refine same_s (l := [⟨0, 4⟩, ⟨10, 10⟩]) (m := [⟨0, 4⟩, ⟨10, 10⟩]) (r.ext e13).read (lit_rs c3) (by decide) ⟨_, rfl, br_t (by decide) ?_⟩
  refine of_s 1 2 fun h4 e4 => ⟨_, _, rfl, of_s 1 3 fun h5 e5 => ⟨_, _, rfl, span_Compare_s ⟨1, 2⟩ ⟨1, 3⟩ fun h6 e6 => ⟨_, rfl, ?_⟩⟩⟩
  have e36 := (e4.trans e5).trans e6
  exact aw_j3 ((ca.ext e13).ext e36) fun h7 e7 => H h7 ((e13.trans e36).trans e7)
theorem aw_u : uni [⟨5, 9⟩, ⟨0, 4⟩, ⟨11, 12⟩] = [⟨0, 9⟩, ⟨11, 12⟩] := by decide +kernel
theorem aw_g : gp 0 (uni [⟨5, 9⟩, ⟨11, 65535⟩]) = [⟨0, 4⟩, ⟨10, 10⟩] := by decide +kernel
theorem aw_l : lessS ⟨0, 9⟩ ⟨3, 4⟩ = [⟨0, 2⟩, ⟨5, 9⟩] := by decide +kernel
theorem aw_m : meetS ⟨0, 9⟩ ⟨5, 20⟩ = (⟨5, 9⟩, true) := by decide +kernel
theorem okD {l : List Sp} (h : l.all (fun s => decide (0 ≤ s.lo ∧ s.lo ≤ 65535 ∧ 0 ≤ s.hi ∧ s.hi ≤ 65535)) = true) : ∀ s ∈ l, Ok s := fun s hs => by
  have := List.all_eq_true.1 h s hs
  have h2 := of_decide_eq_true (p := 0 ≤ s.lo ∧ s.lo ≤ 65535 ∧ 0 ≤ s.hi ∧ s.hi ≤ 65535) this
  exact h2
theorem awake03_s {h : Hp} {K : Value → Hp → Prop} (H : ∀ h', Ext h h' → K (.bool true) h') : CallsH Try.prog 16 #[] h K := by
  refine quintetlaw03_awake_ok ?_
  unfold quintetlaw03_awake
  refine of_s 0 9 fun h1 e1 => ⟨_, _, rfl, of_s 5 20 fun h2 e2 => ⟨_, _, rfl, span_Meet_s ⟨0, 9⟩ ⟨5, 20⟩ fun h3 e3 => ?_⟩⟩
  rw [aw_m]
  refine ⟨_, _, _, rfl, newV (us := Sp.enc ⟨5, 9⟩) rfl rfl size_sp rfl fun h4 e4 c4 b4 z4 => ?_⟩
  refine of_s 0 9 fun h5 e5 => ⟨_, _, rfl, of_s 3 4 fun h6 e6 => ⟨_, _, rfl, span_Less_s ⟨0, 9⟩ ⟨3, 4⟩ ⟨by decide, by decide, by decide, by decide⟩ ⟨by decide, by decide, by decide, by decide⟩ fun h7 A7 k7 e7 r7 F7 => ?_⟩⟩
  rw [aw_l] at r7 ⊢
  refine ⟨_, _, _, rfl, ?_⟩
  refine of_s 5 9 fun h8 e8 => ⟨_, _, rfl, of_s 0 4 fun h9 e9 => ⟨_, _, rfl, of_s 11 12 fun h10 e10 => ⟨_, _, rfl, ?_⟩⟩⟩
  refine newC_i (cs := [(⟨5, 9⟩ : Sp), ⟨0, 4⟩, ⟨11, 12⟩].flatMap Sp.enc) fun h11 e11 c11 b11 z11 => ?_
  refine span_Union_s (l := [⟨5, 9⟩, ⟨0, 4⟩, ⟨11, 12⟩]) (lit_rs c11) (okD (by decide)) (by decide) fun h12 A12 k12 e12 r12 F12 => ?_
  rw [aw_u] at r12 ⊢
  refine ⟨_, _, _, rfl, of_s 5 9 fun h13 e13 => ⟨_, _, rfl, of_s 11 65535 fun h14 e14 => ⟨_, _, rfl, ?_⟩⟩⟩
  refine newC_i (cs := [(⟨5, 9⟩ : Sp), ⟨11, 65535⟩].flatMap Sp.enc) fun h15 e15 c15 b15 z15 => ?_
  refine span_Gaps_s (l := [⟨5, 9⟩, ⟨11, 65535⟩]) (lit_rs c15) (okD (by decide)) (by decide) fun h16 A16 k16 e16 r16 F16 => ?_
  rw [aw_g] at r16 ⊢
  refine ⟨_, _, _, rfl, of_s 0 2 fun h17 e17 => ⟨_, _, rfl, of_s 5 9 fun h18 e18 => ⟨_, _, rfl, ?_⟩⟩⟩
  refine newC_i (cs := [(⟨0, 2⟩ : Sp), ⟨5, 9⟩].flatMap Sp.enc) fun h19 e19 c19 b19 z19 => ?_
  have E7 := ((((((((((e8.trans e9).trans e10).trans e11).trans e12).trans e13).trans e14).trans e15).trans e16).trans e17).trans e18).trans e19
  refine same_s (l := [⟨0, 2⟩, ⟨5, 9⟩]) (m := [⟨0, 2⟩, ⟨5, 9⟩]) (r7.ext E7).read (lit_rs c19) (by decide) ⟨_, rfl, br_t (by decide) ?_⟩
  refine of_s 0 9 fun h20 e20 => ⟨_, _, rfl, of_s 11 12 fun h21 e21 => ⟨_, _, rfl, ?_⟩⟩
  refine newC_i (cs := [(⟨0, 9⟩ : Sp), ⟨11, 12⟩].flatMap Sp.enc) fun h22 e22 c22 b22 z22 => ?_
  have E19 := (e20.trans e21).trans e22
  have E12 := ((((((e13.trans e14).trans e15).trans e16).trans e17).trans e18).trans e19).trans E19
  refine same_s (l := [⟨0, 9⟩, ⟨11, 12⟩]) (m := [⟨0, 9⟩, ⟨11, 12⟩]) (r12.ext E12).read (lit_rs c22) (by decide) ⟨_, rfl, ?_⟩
  rw [decide_eq_true rfl]
  have E16 := ((e17.trans e18).trans e19).trans E19
  have E4 := (((e5.trans e6).trans e7).trans E7).trans E19
  exact aw_j2 (c4.ext E4) (r16.ext E16) fun h23 e23 => H h23 (((((e1.trans e2).trans e3).trans e4).trans E4).trans e23)
theorem SpanLess_s (a b : Sp) (oka : Ok a) (okb : Ok b) {h : Hp} {K : Value → Hp → Prop} (H : ∀ h', Ext h h' → K (.bool true) h') : CallsH Try.prog 3 #[a.val, b.val] h K := by
  refine quintetlaw03_SpanLess_ok _ _ _ _ ?_
  unfold quintetlaw03_SpanLess
  refine newC_i (cs := a.enc) fun h1 e1 c1 b1 z1 => newC_i (cs := b.enc) fun h2 e2 c2 b2 z2 => ?_
  have ca := c1.ext e2
  refine ⟨_, _, ldS ca (by kernel_rfl), _, _, ldS c2 (by kernel_rfl), span_Less_s a b oka okb fun h3 A3 k3 e3 r3 F3 => ⟨_, _, _, rfl, ?_⟩⟩
  refine ⟨_, _, ldS (ca.ext e3) (by kernel_rfl), _, _, ldS (c2.ext e3) (by kernel_rfl), rLess_s a b oka okb fun h4 A4 k4 e4 r4 F4 => ⟨_, _, _, rfl, ?_⟩⟩
  have hlen : (lessS a b).length ≤ 2 := by unfold lessS; (repeat' split) <;> simp
  refine same_s (r3.ext e4).read r4.read (by omega) ⟨_, rfl, ?_⟩
  rw [decide_eq_true rfl]
  refine br_f rfl (spoil_s (r3.ext e4) fun h5 f5 => ⟨rfl, ?_⟩)
  have s12 := (e1.trans e2).size
  have s3 := e3.size
  have cl5 : ∀ {bb : Nat} {vs : List Value}, bb < h2.size → Cl h4 ⟨bb, 0, none⟩ vs → Cl h5 ⟨bb, 0, none⟩ vs := fun hlt c => f5.cl c (fun hb => by have := F3 _ hb; exact absurd this (Nat.not_le.2 hlt))
  have ca5 := cl5 (by have := e2.size; omega) ((ca.ext e3).ext e4)
  have cb5 := cl5 (by omega) ((c2.ext e3).ext e4)
  have r45 := r4.keep f5 (fun k hk hb => by have h1 := F4 k hk; have h2 := r3.old k hb; omega)
  have E5 : Ext h h5 := extOwn (((e1.trans e2).trans e3).trans e4) f5 (fun k hk => by have := F3 k hk; omega)
  refine ⟨_, _, ldS ca5 (by kernel_rfl), _, _, ldS cb5 (by kernel_rfl), span_Less_s a b oka okb fun h6 A6 k6 e6 r6 F6 => ⟨_, _, _, rfl, ?_⟩⟩
  refine awake03_s fun h7 e7 => ⟨_, rfl, br_t rfl ?_⟩
  refine same_s (r6.ext e7).read ((r45.ext e6).ext e7).read (by omega) ⟨_, rfl, ?_⟩
  rw [decide_eq_true rfl]
  exact H h7 ((E5.trans e6).trans e7)
theorem SpanUnions_s {h : Hp} {A : Option Addr} {c : Nat} {l : List Sp} (rs : RSl h A l.length 2 (l.flatMap Sp.enc)) (ok : ∀ s ∈ l, Ok s) {K : Value → Hp → Prop} (H : ∀ h', Ext h h' → K (.bool true) h') : CallsH Try.prog 4 #[.slice A l.length c] h K := by
  refine quintetlaw03_SpanUnions_ok _ _ _ ?_
  unfold quintetlaw03_SpanUnions
  refine br_i (fun p => H h (Ext.refl _)) (fun p => ?_)
  have hl2 : l.length ≤ 1048576 := by simp at p; omega
  have ul := uni_len l
  refine rUnion_s rs ok (by omega) fun h1 A1 k1 e1 r1 F1 => ⟨_, _, _, rfl, ?_⟩
  refine lent_s (rs.ext e1) (by omega) fun h2 g2 k2 e2 hg2 r2 => ⟨_, _, _, rfl, ?_⟩
  have rl : RSl h2 (some ⟨g2, 0, none⟩) l.length 2 (l.flatMap Sp.enc) := by
    refine ⟨flat_len Sp.len l, .inr ⟨_, rfl, ?_⟩⟩
    obtain ⟨_, hh⟩ := r2.row.read
    rcases hh with hh | ⟨a, ha, hcl⟩
    · simp at hh
    · cases ha
      exact hcl.sub (us := l.flatMap Sp.enc) 0 (fun j v hj => by
        rw [Nat.zero_add, List.flatMap_append, List.getElem?_append_left (List.getElem?_eq_some_iff.1 hj).1]; exact hj)
  refine span_Union_s rl ok (by omega) fun h3 A3 k3 e3 r3 F3 => ⟨_, _, _, rfl, ?_⟩
  refine same_s r3.read ((r1.ext e2).ext e3).read (by omega) ⟨_, rfl, ?_⟩
  rw [decide_eq_true rfl]
  have e13 := (e1.trans e2).trans e3
  refine br_f rfl (back_s (rs.ext e13) (by omega) (r2.ext e3) fun h4 f4 => ⟨_, rfl, br_f rfl ?_⟩)
  have s1 := e1.size; have s2 := e2.size; have s3 := e3.size
  have g2lt : g2 < h2.size := r2.old _ ⟨_, rfl, rfl⟩
  have r34 := r3.keep f4 (fun k hk hb => by have := F3 k hk; omega)
  have r14 := ((r1.ext e2).ext e3).keep f4 (fun k hk hb => by have := r1.old k hk; omega)
  refine same_s r34.read r14.read (by omega) ⟨_, rfl, ?_⟩
  rw [decide_eq_true rfl]
  refine br_f rfl (spoil_s r34 fun h5 f5 => ⟨rfl, ?_⟩)
  have E4 : Ext h h4 := extOwn e13 f4 (fun k hk => by omega)
  have E5 : Ext h h5 := extOwn E4 f5 (fun k hk => by have := F3 k hk; omega)
  have r15 := r14.keep f5 (fun k hk hb => by have h1 := r1.old k hk; have h2 := F3 k hb; omega)
  refine span_Union_s (rs.ext E5) ok (by omega) fun h6 A6 k6 e6 r6 F6 => ⟨_, _, _, rfl, ?_⟩
  refine awake03_s fun h7 e7 => ⟨_, rfl, br_t rfl ?_⟩
  refine same_s (r6.ext e7).read ((r15.ext e6).ext e7).read (by omega) ⟨_, rfl, ?_⟩
  rw [decide_eq_true rfl]
  exact H h7 ((E5.trans e6).trans e7)
theorem SpanGaps_s {h : Hp} {A : Option Addr} {c : Nat} {l : List Sp} (rs : RSl h A l.length 2 (l.flatMap Sp.enc)) (ok : ∀ s ∈ l, Ok s) {K : Value → Hp → Prop} (H : ∀ h', Ext h h' → K (.bool true) h') : CallsH Try.prog 5 #[.slice A l.length c] h K := by
  refine quintetlaw03_SpanGaps_ok _ _ _ ?_
  unfold quintetlaw03_SpanGaps
  refine br_i (fun p => H h (Ext.refl _)) (fun p => ?_)
  have hl2 : l.length ≤ 1048576 := by simp at p; omega
  have ul := uni_len l
  have gl := gp_len (uni l) 0
  refine rGaps_s rs ok (by omega) fun h1 A1 k1 e1 r1 F1 => ⟨_, _, _, rfl, ?_⟩
  refine lent_s (rs.ext e1) (by omega) fun h2 g2 k2 e2 hg2 r2 => ⟨_, _, _, rfl, ?_⟩
  have rl : RSl h2 (some ⟨g2, 0, none⟩) l.length 2 (l.flatMap Sp.enc) := by
    refine ⟨flat_len Sp.len l, .inr ⟨_, rfl, ?_⟩⟩
    obtain ⟨_, hh⟩ := r2.row.read
    rcases hh with hh | ⟨a, ha, hcl⟩
    · simp at hh
    · cases ha
      exact hcl.sub (us := l.flatMap Sp.enc) 0 (fun j v hj => by
        rw [Nat.zero_add, List.flatMap_append, List.getElem?_append_left (List.getElem?_eq_some_iff.1 hj).1]; exact hj)
  refine span_Gaps_s rl ok (by omega) fun h3 A3 k3 e3 r3 F3 => ⟨_, _, _, rfl, ?_⟩
  refine same_s r3.read ((r1.ext e2).ext e3).read (by omega) ⟨_, rfl, ?_⟩
  rw [decide_eq_true rfl]
  have e13 := (e1.trans e2).trans e3
  refine br_f rfl (back_s (rs.ext e13) (by omega) (r2.ext e3) fun h4 f4 => ⟨_, rfl, br_f rfl ?_⟩)
  have s1 := e1.size; have s2 := e2.size; have s3 := e3.size
  have g2lt : g2 < h2.size := r2.old _ ⟨_, rfl, rfl⟩
  have r34 := r3.keep f4 (fun k hk hb => by have := F3 k hk; omega)
  have r14 := ((r1.ext e2).ext e3).keep f4 (fun k hk hb => by have := r1.old k hk; omega)
  refine same_s r34.read r14.read (by omega) ⟨_, rfl, ?_⟩
  rw [decide_eq_true rfl]
  refine br_f rfl (spoil_s r34 fun h5 f5 => ⟨rfl, ?_⟩)
  have E4 : Ext h h4 := extOwn e13 f4 (fun k hk => by omega)
  have E5 : Ext h h5 := extOwn E4 f5 (fun k hk => by have := F3 k hk; omega)
  have r15 := r14.keep f5 (fun k hk hb => by have h1 := r1.old k hk; have h2 := F3 k hb; omega)
  refine span_Gaps_s (rs.ext E5) ok (by omega) fun h6 A6 k6 e6 r6 F6 => ⟨_, _, _, rfl, ?_⟩
  refine awake03_s fun h7 e7 => ⟨_, rfl, br_t rfl ?_⟩
  refine same_s (r6.ext e7).read ((r15.ext e6).ext e7).read (by omega) ⟨_, rfl, ?_⟩
  rw [decide_eq_true rfl]
  exact H h7 ((E5.trans e6).trans e7)
end Go.Proofs.Ytaacfhekjklipaa.Fs
