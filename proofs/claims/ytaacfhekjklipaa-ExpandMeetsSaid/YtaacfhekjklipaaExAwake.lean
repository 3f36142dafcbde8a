/- The stem laws' examples, and the laws. -/
import Derived.Test.YtaacfhekjklipaaExRef
import Derived.Test.YtaacfhekjklipaaFsC
namespace Go.Proofs.Ytaacfhekjklipaa.Fs
open Go Go.RowKit Go.Proofs.Ytaacfhekjklipaa.Sx Go.Proofs.Ytaacfhekjklipaa.Sp
set_option linter.unusedVariables false
set_option linter.unusedSimpArgs false
set_option maxRecDepth 10000
theorem ax_of : ofS ⟨1, 6⟩ = [⟨1, 16⟩, ⟨2, 15⟩, ⟨4, 15⟩, ⟨6, 16⟩] := by decide +kernel
theorem ax_back : backT [⟨4, 15⟩, ⟨2, 15⟩, ⟨16, 16⟩] = ([⟨2, 5⟩, ⟨16, 16⟩], 0) := by decide +kernel
theorem ax_least : leastT [⟨2, 15⟩, ⟨0, 15⟩, ⟨3, 16⟩] = ([⟨0, 14⟩], 0) := by decide +kernel
theorem ax_span : spT ⟨1024, 6⟩ = (⟨1024, 2047⟩, 0) := by decide +kernel
theorem ax_cnt : cntT ⟨1, 65534⟩ = (30, 0) := by decide +kernel
theorem ax_chk : chkT ⟨32768, 0⟩ = 50 := by decide +kernel
theorem okTD {l : List St} (h : l.all (fun s => decide (0 ≤ s.bits ∧ s.bits ≤ 65535)) = true) : ∀ s ∈ l, OkT s := fun s hs => by
  have := List.all_eq_true.1 h s hs
  have h2 := of_decide_eq_true (p := 0 ≤ s.bits ∧ s.bits ≤ 65535) this
  exact h2
theorem ax_j3 {h : Hp} {a : Addr} (ca : Cl h a (Sp.enc ⟨1024, 2047⟩)) {A : Option Addr} {c : Nat} (r : RowP h A c [⟨2, 5⟩, ⟨16, 16⟩]) {K0 : Bool → Hp → Prop} (H : ∀ h', Ext h h' → K0 true h') : quintetlaw05_awake_j3 K0 A 2 c a true true h := by
  unfold quintetlaw05_awake_j3
  refine br_t rfl (br_t rfl ⟨_, _, ldS ca (by kernel_rfl), _, eq_sp ⟨1024, 2047⟩ ⟨1024, 2047⟩, br_t (by decide) ?_⟩)
  refine newC_i (cs := [(⟨2, 5⟩ : Sp), ⟨16, 16⟩].flatMap Sp.enc) fun h1 e1 c1 b1 z1 => ?_
  refine same_s (l := [⟨2, 5⟩, ⟨16, 16⟩]) (m := [⟨2, 5⟩, ⟨16, 16⟩]) (r.ext e1).read (lit_rs c1) (by decide) ⟨_, rfl, br_t (by decide) ?_⟩
  refine stem_s 32768 0 fun h2 e2 => ⟨_, _, rfl, Check_s ⟨32768, 0⟩ ⟨by decide, by decide⟩ fun h3 e3 => ⟨_, rfl, ?_⟩⟩
  rw [ax_chk]
  exact H h3 ((e1.trans e2).trans e3)
theorem ax_j2 {h : Hp} {a : Addr} (ca : Cl h a (Sp.enc ⟨1024, 2047⟩)) {A B C : Option Addr} {c d e : Nat} (r1 : RowT h A c [⟨1, 16⟩, ⟨2, 15⟩, ⟨4, 15⟩, ⟨6, 16⟩]) (r2 : RowP h B d [⟨2, 5⟩, ⟨16, 16⟩]) (r3 : RowT h C e [⟨0, 14⟩]) {K0 : Bool → Hp → Prop} (H : ∀ h', Ext h h' → K0 true h') : quintetlaw05_awake_j2 K0 A 4 c B 2 d C 1 e a true h := by
  unfold quintetlaw05_awake_j2
  refine stem_s 1 16 fun h1 e1 => ⟨_, _, rfl, stem_s 2 15 fun h2 e2 => ⟨_, _, rfl, stem_s 4 15 fun h3 e3 => ⟨_, _, rfl, stem_s 6 16 fun h4 e4 => ⟨_, _, rfl, ?_⟩⟩⟩⟩
  refine newC_i (cs := [(⟨1, 16⟩ : St), ⟨2, 15⟩, ⟨4, 15⟩, ⟨6, 16⟩].flatMap St.enc) fun h5 e5 c5 b5 z5 => ?_
  have E5 := (((e1.trans e2).trans e3).trans e4).trans e5
  refine sameT_s (l := [⟨1, 16⟩, ⟨2, 15⟩, ⟨4, 15⟩, ⟨6, 16⟩]) (m := [⟨1, 16⟩, ⟨2, 15⟩, ⟨4, 15⟩, ⟨6, 16⟩]) (r1.ext E5).read (lit_rt c5) (by decide) ⟨_, rfl, br_t (by decide) ?_⟩
  refine stem_s 0 14 fun h6 e6 => ⟨_, _, rfl, ?_⟩
  refine newC_i (cs := [(⟨0, 14⟩ : St)].flatMap St.enc) fun h7 e7 c7 b7 z7 => ?_
  have E7 := (E5.trans e6).trans e7
  refine sameT_s (l := [⟨0, 14⟩]) (m := [⟨0, 14⟩]) (r3.ext E7).read (lit_rt c7) (by decide) ⟨_, rfl, ?_⟩
  rw [decide_eq_true rfl]
  exact ax_j3 (ca.ext E7) (r2.ext E7) fun h8 e8 => H h8 (E7.trans e8)
theorem awake05_s {h : Hp} {K : Value → Hp → Prop} (H : ∀ h', Ext h h' → K (.bool true) h') : CallsH Try.prog 28 #[] h K := by
  refine quintetlaw05_awake_ok ?_
  unfold quintetlaw05_awake
  refine Of_s ⟨1, 6⟩ ⟨by decide, by decide, by decide, by decide⟩ (fun g => absurd g (by decide)) fun _ h1 A1 k1 e1 r1 F1 => ?_
  rw [ax_of] at r1 ⊢
  refine ⟨_, _, _, _, rfl, stem_s 4 15 fun h2 e2 => ⟨_, _, rfl, stem_s 2 15 fun h3 e3 => ⟨_, _, rfl, stem_s 16 16 fun h4 e4 => ⟨_, _, rfl, ?_⟩⟩⟩⟩
  refine newC_i (cs := [(⟨4, 15⟩ : St), ⟨2, 15⟩, ⟨16, 16⟩].flatMap St.enc) fun h5 e5 c5 b5 z5 => ?_
  refine Back_s (l := [⟨4, 15⟩, ⟨2, 15⟩, ⟨16, 16⟩]) (lit_rt c5) (okTD (by decide)) (by decide) fun h6 A6 k6 e6 r6 F6 => ?_
  rw [ax_back] at r6 ⊢
  refine ⟨_, _, _, _, rfl, stem_s 2 15 fun h7 e7 => ⟨_, _, rfl, stem_s 0 15 fun h8 e8 => ⟨_, _, rfl, stem_s 3 16 fun h9 e9 => ⟨_, _, rfl, ?_⟩⟩⟩⟩
  refine newC_i (cs := [(⟨2, 15⟩ : St), ⟨0, 15⟩, ⟨3, 16⟩].flatMap St.enc) fun h10 e10 c10 b10 z10 => ?_
  refine Least_s (l := [⟨2, 15⟩, ⟨0, 15⟩, ⟨3, 16⟩]) (lit_rt c10) (okTD (by decide)) (by decide) fun h11 A11 k11 e11 r11 F11 => ?_
  rw [ax_least] at r11 ⊢
  refine ⟨_, _, _, _, rfl, stem_s 1024 6 fun h12 e12 => ⟨_, _, rfl, Span_s ⟨1024, 6⟩ ⟨by decide, by decide⟩ fun h13 e13 => ?_⟩⟩
  rw [ax_span]
  refine ⟨_, _, _, rfl, newV (us := Sp.enc ⟨1024, 2047⟩) rfl rfl size_sp rfl fun h14 e14 c14 b14 z14 => ?_⟩
  refine Count_s ⟨1, 65534⟩ ⟨by decide, by decide, by decide, by decide⟩ fun h15 e15 => ?_
  rw [ax_cnt]
  refine ⟨_, _, rfl, br_t rfl (br_t rfl (br_t rfl (br_t rfl (br_t rfl ?_))))⟩
  have E11 := ((e12.trans e13).trans e14).trans e15
  have E6 := ((((e7.trans e8).trans e9).trans e10).trans e11).trans E11
  have E1 := ((((e2.trans e3).trans e4).trans e5).trans e6).trans E6
  exact ax_j2 (c14.ext e15) (r1.ext E1) (r6.ext E6) (r11.ext E11) fun h16 e16 => H h16 ((e1.trans E1).trans e16)
theorem ExpandChecks_s (t : St) (ok : OkT t) {p : Int} (hp : 0 ≤ p ∧ p ≤ 65535) {h : Hp} {K : Value → Hp → Prop} (H : ∀ h', Ext h h' → K (.bool true) h') : CallsH Try.prog 9 #[t.val, .int .u16 p] h K := by
  refine quintetlaw05_ExpandChecks_ok _ _ _ ?_
  unfold quintetlaw05_ExpandChecks
  refine newC_i (cs := t.enc) fun h1 e1 c1 b1 z1 => ⟨_, _, ldS c1 (by kernel_rfl), Span_s t ok fun h2 e2 => ⟨_, _, _, rfl, ?_⟩⟩
  refine newV (us := (spT t).1.enc) rfl rfl size_sp rfl fun h3 e3 c3 b3 z3 => ?_
  have t3 := (c1.ext e2).ext e3
  refine ⟨_, _, ldS t3 (by kernel_rfl), rSpan_s t ok fun h4 e4 => ⟨_, _, _, rfl, ?_⟩⟩
  refine newV (us := (spT t).1.enc) rfl rfl size_sp rfl fun h5 e5 c5 b5 z5 => ?_
  refine awake05_s fun h6 e6 => ⟨_, rfl, br_t rfl ?_⟩
  have t6 := ((t3.ext e4).ext e5).ext e6
  refine ⟨_, _, ldS t6 (by kernel_rfl), Check_s t ok fun h7 e7 => ⟨_, rfl, _, _, ldS (t6.ext e7) (by kernel_rfl), ldS t6 (by kernel_rfl), rCheck_s t ok fun h8 e8 => ⟨_, rfl, br_t (by simp) ?_⟩⟩⟩
  have t8 := (t6.ext e7).ext e8
  refine ⟨_, _, ldS t8 (by kernel_rfl), Has_s t ok p fun h9 e9 => ⟨_, rfl, _, _, ldS (t8.ext e9) (by kernel_rfl), ldS t8 (by kernel_rfl), rHas_s t ok hp fun h10 e10 => ⟨_, rfl, br_t (by simp) ?_⟩⟩⟩
  have E5 := ((((e6.trans e7).trans e8).trans e9).trans e10)
  refine ⟨_, _, ldS ((c3.ext (e4.trans e5)).ext E5) (by kernel_rfl), _, _, ldS (c5.ext E5) (by kernel_rfl), _, eq_sp _ _, br_t (by simp) ?_⟩
  have := H h10 (((((e1.trans e2).trans e3).trans e4).trans e5).trans E5)
  simpa using this
theorem ExpandOf_s (s : Sp) (ok : Ok s) {h : Hp} {K : Value → Hp → Prop} (H : ∀ h', Ext h h' → K (.bool true) h') : CallsH Try.prog 6 #[s.val] h K := by
  refine quintetlaw05_ExpandOf_ok _ _ ?_
  unfold quintetlaw05_ExpandOf quintetlaw05_ExpandOf_j1
  have hlen := ofS_len s ok
  refine newC_i (cs := s.enc) fun h1 e1 c1 b1 z1 => ⟨_, _, ldS c1 (by kernel_rfl), ?_⟩
  by_cases g : s.lo ≤ s.hi
  · refine rOf_s s ok (fun g2 => by omega) fun _ h2 A2 k2 e2 r2 F2 => ⟨_, _, _, _, rfl, ?_⟩
    refine ⟨_, _, ldS (c1.ext e2) (by kernel_rfl), Count_s s ok fun h3 e3 => ?_⟩
    rw [show cntT s = (((ofS s).length : Int), 0) by rw [cntT, if_pos g]]
    refine ⟨_, _, rfl, _, _, ldS ((c1.ext e2).ext e3) (by kernel_rfl), Of_s s ok (fun g2 => by omega) fun _ h4 A4 k4 e4 r4 F4 => ⟨_, _, _, _, rfl, br_f rfl (br_f rfl (br_f (by simp) ?_))⟩⟩
    refine sameT_s r4.read ((r2.ext e3).ext e4).read (by omega) ⟨_, rfl, ?_⟩
    rw [decide_eq_true rfl]
    refine br_f rfl (spoilT_s r4 fun h5 f5 => ⟨rfl, ?_⟩)
    have s1 := e1.size; have s2 := e2.size; have s3 := e3.size; have s4 := e4.size
    have c4 := ((c1.ext e2).ext e3).ext e4
    have c5 := f5.cl c4 (fun hb => by have := F4 _ hb; have h0 : (⟨h.size, 0, none⟩ : Addr).block = h.size := rfl; rw [h0] at this; omega)
    have r25 := ((r2.ext e3).ext e4).keep f5 (fun k hk hb => by have h1 := F4 k hb; have h2 := r2.old k hk; omega)
    have E5 : Ext h h5 := extOwn (((e1.trans e2).trans e3).trans e4) f5 (fun k hk => by have := F4 k hk; omega)
    refine ⟨_, _, ldS c5 (by kernel_rfl), Of_s s ok (fun g2 => by omega) fun _ h6 A6 k6 e6 r6 F6 => ⟨_, _, _, _, rfl, ?_⟩⟩
    refine awake05_s fun h7 e7 => ⟨_, rfl, br_t rfl (br_t rfl ?_)⟩
    refine sameT_s (r6.ext e7).read ((r25.ext e6).ext e7).read (by omega) ⟨_, rfl, ?_⟩
    rw [decide_eq_true rfl]
    exact H h7 ((E5.trans e6).trans e7)
  · refine rOf_s s ok (fun _ h2 e2 => ⟨_, _, _, _, rfl, ?_⟩) fun g2 => absurd g2 g
    refine ⟨_, _, ldS (c1.ext e2) (by kernel_rfl), Count_s s ok fun h3 e3 => ?_⟩
    rw [show cntT s = (0, 30) by rw [cntT, if_neg g]]
    refine ⟨_, _, rfl, _, _, ldS ((c1.ext e2).ext e3) (by kernel_rfl), Of_s s ok (fun _ h4 e4 => ⟨_, _, _, _, rfl, br_f rfl (br_f rfl (br_f rfl ?_))⟩) fun g2 => absurd g2 g⟩
    have rn : ∀ hh : Hp, RSl hh none ([] : List St).length 2 (([] : List St).flatMap St.enc) := fun hh => ⟨rfl, .inl rfl⟩
    refine sameT_s (l := []) (m := []) (rn _) (rn _) (by decide) ⟨_, rfl, br_f rfl ?_⟩
    refine spoilT_s (l := []) RowC.nil fun h5 f5 => ⟨rfl, ?_⟩
    have e45 : Ext h4 h5 := extOwn (Ext.refl _) f5 (fun k hk => by obtain ⟨a, ha, _⟩ := hk; cases ha)
    have c5 := ((((c1.ext e2).ext e3).ext e4).ext e45)
    refine ⟨_, _, ldS c5 (by kernel_rfl), Of_s s ok (fun _ h6 e6 => ⟨_, _, _, _, rfl, ?_⟩) fun g2 => absurd g2 g⟩
    refine awake05_s fun h7 e7 => ⟨_, rfl, br_t rfl (br_t rfl ?_)⟩
    refine sameT_s (l := []) (m := []) (rn _) (rn _) (by decide) ⟨_, rfl, ?_⟩
    exact H h7 ((((((e1.trans e2).trans e3).trans e4).trans e45).trans e6).trans e7)
theorem rl_of {h : Hp} {g c : Nat} {l : List St} (r2 : RowT h (some ⟨g, 0, none⟩) c (l ++ [mt0, mt1])) : RSl h (some ⟨g, 0, none⟩) l.length 2 (l.flatMap St.enc) := by
  refine ⟨flat_len St.leng l, .inr ⟨_, rfl, ?_⟩⟩
  obtain ⟨_, hh⟩ := r2.row.read
  rcases hh with hh | ⟨a, ha, hcl⟩
  · simp at hh
  · cases ha
    exact hcl.sub (us := l.flatMap St.enc) 0 (fun j v hj => by
      rw [Nat.zero_add, List.flatMap_append, List.getElem?_append_left (List.getElem?_eq_some_iff.1 hj).1]; exact hj)
theorem ExpandBacks_s {h : Hp} {A : Option Addr} {c : Nat} {l : List St} (rs : RSl h A l.length 2 (l.flatMap St.enc)) (ok : ∀ t ∈ l, OkT t) {K : Value → Hp → Prop} (H : ∀ h', Ext h h' → K (.bool true) h') : CallsH Try.prog 7 #[.slice A l.length c] h K := by
  refine quintetlaw05_ExpandBacks_ok _ _ _ ?_
  unfold quintetlaw05_ExpandBacks
  refine br_i (fun p => H h (Ext.refl _)) (fun p => ?_)
  have hl2 : l.length ≤ 1048576 := by simp at p; omega
  have bl := back_len l
  refine rBack_s rs ok (by omega) fun h1 A1 k1 e1 r1 F1 => ⟨_, _, _, _, rfl, ?_⟩
  refine lentT_s (rs.ext e1) (by omega) fun h2 g2 k2 e2 hg2 r2 => ⟨_, _, _, rfl, ?_⟩
  refine Back_s (rl_of r2) ok (by omega) fun h3 A3 k3 e3 r3 F3 => ⟨_, _, _, _, rfl, ?_⟩
  have e13 := (e1.trans e2).trans e3
  have s1 := e1.size; have s2 := e2.size; have s3 := e3.size
  have g2lt : g2 < h2.size := r2.old _ ⟨_, rfl, rfl⟩
  refine backT_s (rs.ext e13) (by omega) (r2.ext e3) fun h4 f4 => ⟨_, rfl, ?_⟩
  have r34 := r3.keep f4 (fun k hk hb => by have := F3 k hk; omega)
  have r14 := ((r1.ext e2).ext e3).keep f4 (fun k hk hb => by have := r1.old k hk; omega)
  have E4 : Ext h h4 := extOwn e13 f4 (fun k hk => by omega)
  refine awake05_s fun h5 e5 => ⟨_, rfl, br_t rfl (br_t rfl (br_t (by simp) ?_))⟩
  refine same_s (r34.ext e5).read (r14.ext e5).read (by omega) ⟨_, rfl, ?_⟩
  rw [decide_eq_true rfl]
  exact H h5 (E4.trans e5)
theorem least_len (l : List St) (ok : ∀ t ∈ l, OkT t) : (leastT l).1.length ≤ 30 * l.length := by
  have h1 := flat_ofS_len (backT l).1 (Nm.ok (Int.le_refl 0) (back_ok ok))
  have h2 := back_len l
  unfold leastT
  dsimp only
  omega
theorem ExpandLeasts_s {h : Hp} {A : Option Addr} {c : Nat} {l : List St} (rs : RSl h A l.length 2 (l.flatMap St.enc)) (ok : ∀ t ∈ l, OkT t) {K : Value → Hp → Prop} (H : ∀ h', Ext h h' → K (.bool true) h') : CallsH Try.prog 8 #[.slice A l.length c] h K := by
  refine quintetlaw05_ExpandLeasts_ok _ _ _ ?_
  unfold quintetlaw05_ExpandLeasts quintetlaw05_ExpandLeasts_j1
  refine br_i (fun p => H h (Ext.refl _)) (fun p => ?_)
  have hl2 : l.length ≤ 1048576 := by simp at p; omega
  have ll := least_len l ok
  refine rLeast_s rs ok (by omega) fun h1 A1 k1 e1 r1 F1 => ⟨_, _, _, _, rfl, ?_⟩
  refine lentT_s (rs.ext e1) (by omega) fun h2 g2 k2 e2 hg2 r2 => ⟨_, _, _, rfl, ?_⟩
  refine Least_s (rl_of r2) ok (by omega) fun h3 A3 k3 e3 r3 F3 => ⟨_, _, _, _, rfl, ?_⟩
  have e13 := (e1.trans e2).trans e3
  have s1 := e1.size; have s2 := e2.size; have s3 := e3.size
  have g2lt : g2 < h2.size := r2.old _ ⟨_, rfl, rfl⟩
  refine backT_s (rs.ext e13) (by omega) (r2.ext e3) fun h4 f4 => ⟨_, rfl, br_f rfl (br_f (by simp) ?_)⟩
  have r34 := r3.keep f4 (fun k hk hb => by have := F3 k hk; omega)
  have r14 := ((r1.ext e2).ext e3).keep f4 (fun k hk hb => by have := r1.old k hk; omega)
  have E4 : Ext h h4 := extOwn e13 f4 (fun k hk => by omega)
  refine sameT_s r34.read r14.read (by omega) ⟨_, rfl, ?_⟩
  rw [decide_eq_true rfl]
  refine br_f rfl (spoilT_s r34 fun h5 f5 => ⟨rfl, ?_⟩)
  have E5 : Ext h h5 := extOwn E4 f5 (fun k hk => by have := F3 k hk; omega)
  have r15 := r14.keep f5 (fun k hk hb => by have h1 := r1.old k hk; have h2 := F3 k hb; omega)
  refine Least_s (rs.ext E5) ok (by omega) fun h6 A6 k6 e6 r6 F6 => ⟨_, _, _, _, rfl, ?_⟩
  refine awake05_s fun h7 e7 => ⟨_, rfl, br_t rfl (br_t (by simp) ?_)⟩
  refine sameT_s (r6.ext e7).read ((r15.ext e6).ext e7).read (by omega) ⟨_, rfl, ?_⟩
  rw [decide_eq_true rfl]
  exact H h7 ((E5.trans e6).trans e7)
end Go.Proofs.Ytaacfhekjklipaa.Fs
