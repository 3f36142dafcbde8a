/- same, whole. -/
import Derived.Test.YtofjbbfnkefoaaaTrSame
namespace Go.Proofs.Ytofjbbfnkefoaaa.Fs
open Go Go.RowKit Go.Proofs.Ytofjbbfnkefoaaa.Sx Go.Proofs.Ytofjbbfnkefoaaa.Tp
set_option linter.unusedVariables false
set_option linter.unusedSimpArgs false
set_option maxRecDepth 10000
/-- The heap in the first range of same. -/
def EJ (g1 : Hp) (ev ak lr : Nat) (r : Loop) (done : List En) (Y : Nat → Prop) (h : Hp) : Prop := KJ g1 ak lr r done Y h ∧ (ev = 0 ∨ done.length < ev)
def EStop (g1 : Hp) (ev ak lr : Nat) (r : Loop) (h : Hp) : Prop :=
  Fr (fun k => k = ak ∨ k = lr) g1 h ∧ h[ak]? = some (.cells [Value.int .i64 (ev : Int)].toArray 3 (0, 0)) ∧ h[lr]? = some (.loop { r with state := .done, pending := some (.exit 0) }) ∧ 0 < ev
theorem round1 {h0 g1 : Hp} {a7 : Addr} {a9 a11 ak lr ev D : Nat} {r : Loop} {A : Option Addr} {c : Nat} {L : List En} (rs : RSl h0 A L.length 3 (L.flatMap En.enc)) (hL : L.length ≤ 1100000) (c7 : Cl g1 a7 [.slice A L.length c]) (c9 : Cl g1 ⟨a9, 0, none⟩ [.int .i64 (ev : Int)]) (e0 : Ext h0 g1) (hne : ak ≠ lr) (h7 : a7.block < ak ∧ a7.block < lr) (h9 : a9 < ak ∧ a9 < lr) (hk0 : h0.size ≤ ak ∧ h0.size ≤ lr) (ok : RecOK 92 #[25] (sub (bodyOf Try.f33) [true, true, true, true, true, false, true, false, false]) (sub (bodyOf Try.f33) [true, true, true, true, true, false, true, false, true]) (mkTm [(4, some (.pointer (some a7))), (5, some (.pointer (some ⟨a9, 0, none⟩))), (6, some (.pointer (some ⟨a11, 0, none⟩))), (7, some (.pointer (some ⟨ak, 0, none⟩)))]) D r) :
    ItY (EJ g1 ev ak lr r) (EStop g1 ev ak lr r) L (yieldV lr) := by
  refine ⟨fun done Y h h' q e => ⟨q.1.ext e, q.2⟩, fun done Y h q => q.1.lt, ?_⟩
  rintro done e rest Y h K hLe ⟨⟨rfl, f, h1, h2⟩, hev⟩ H1 H0
  obtain ⟨hgm, hgl⟩ := get_mid hLe
  refine quintetlaw12_same_r1_ok a7 ⟨a9, 0, none⟩ ⟨a11, 0, none⟩ ⟨ak, 0, none⟩ _ _ _ h2 ok ?_
  unfold quintetlaw12_same_r1
  refine newV (us := En.enc e) rfl rfl size39 rfl fun g2 e2 c2 b2 z2 => ?_
  have fN := fun (x y : Hp) (e : Ext x y) => e.fr (fun _ => False)
  refine ⟨r, (fN _ _ e2).get h2 (fun h => h), ok.state, ?_⟩
  have f3 : Fr (fun k => k = lr) g2 (g2.setIfInBounds lr (.loop { r with state := .busy })) := set_fr rfl
  have hr3 : (g2.setIfInBounds lr (.loop { r with state := .busy }))[lr]? = some (.loop { r with state := .busy }) := set_get (by have := lt_of_get h2; have := e2.size; omega)
  revert f3 hr3
  generalize g2.setIfInBounds lr (.loop { r with state := .busy }) = g3
  intro f3 hr3
  have F3 : Fr (fun k => k = ak ∨ k = lr) g1 g3 := (f.trans (e2.fr _)).trans (f3.mono fun k hk => .inr hk)
  have E3 : Ext h0 g3 := ⟨Nat.le_trans e0.size F3.size, fun k hk => by rw [F3.keep k (Nat.lt_of_lt_of_le hk e0.size) (by omega), e0.old k hk]⟩
  have hb3 := f3.get ((fN _ _ e2).get h1 (fun h => h)) hne
  have c73 := F3.cl c7 (by omega)
  have cx3 := f3.cl c2 (by intro e; simp at e; have := lt_of_get h2; omega)
  refine chk hb3 c73 cx3 (rs.ext E3) rfl hgm hL fun g4 b4 f4 z4 => ?_
  have hr4 := f4.get hr3 (fun e => hne e.symm)
  have F4 : Fr (fun k => k = ak ∨ k = lr) g1 g4 := F3.trans (f4.mono fun k hk => .inl hk)
  have ck4 : Cl g4 ⟨ak, 0, none⟩ [Value.int .i64 ((done.length + 1 : Nat) : Int)] := Cl.of_block b4 fun j v hj => by rw [Nat.zero_add]; exact hj
  have f5 : ∀ o, Fr (fun k => k = lr) g4 (g4.setIfInBounds lr o) := fun o => set_fr rfl
  have Fy : ∀ o, Fr (fun k => k = ak ∨ k = lr) h (g4.setIfInBounds lr o) := fun o => (((e2.fr _).trans (f3.mono fun k hk => .inr hk)).trans (f4.mono fun k hk => .inl hk)).trans ((f5 o).mono fun k hk => .inr hk)
  refine ⟨_, ld ck4.head (by kernel_rfl), _, ld (F4.cl c9 (by show ¬ (a9 = ak ∨ a9 = lr); omega)).head (by kernel_rfl), br_i (fun he => ?_) (fun he => ?_)⟩
  · have he' : done.length + 1 = ev := by simp at he; omega
    refine ⟨_, hr4, H0 _ ⟨f.trans (Fy _), ?_, ?_, by omega⟩⟩
    · rw [← he']
      exact (f5 _).get b4 hne
    · rw [set_get (lt_of_get hr4)]; rfl
  · have he' : ¬ done.length + 1 = ev := by simp at he; omega
    refine ⟨_, hr4, H1 _ (fun k => k = ak ∨ k = lr) ⟨⟨rfl, f.trans (Fy _), ?_, ?_⟩, ?_⟩ (Fy _) (fun k hk => .inl hk)⟩
    · rw [List.length_append, List.length_singleton]
      exact (f5 _).get b4 hne
    · rw [set_get (lt_of_get hr4), loop_back r ok.state ok.pending]
    · rw [List.length_append, List.length_singleton]
      omega
theorem sameT_s {h0 h : Hp} {g : FuncId} {lb : Array Value} {L : List En} (s : SeqAt h0 g lb L) {a5 a7 : Addr} {a9 a11 : Nat} {A : Option Addr} {c : Nat} (rs : RSl h0 A L.length 3 (L.flatMap En.enc)) (hL : L.length ≤ 1100000) (c5 : Cl h a5 [.func (.func g) #[] lb]) (c7 : Cl h a7 [.slice A L.length c]) {x : Int} (hx : 0 ≤ x) (c9 : h[a9]? = some (.cells [Value.int .i64 x].toArray 3 (0, 0))) (c11 : h[a11]? = some (.cells [Value.bool false].toArray 4 (0, 0))) (e0 : Ext h0 h) (h5 : a5.block < h.size ∧ a5.block ≠ a9) (h7 : a7.block < h.size ∧ a7.block ≠ a9) (h11 : a11 ≠ a9 ∧ h0.size ≤ a11) (h9 : h0.size ≤ a9)
    {K : Value → Hp → Prop} (H : ∀ h', Ext h0 h' → K (.bool true) h') : sameT a5 a7 ⟨a9, 0, none⟩ ⟨a11, 0, none⟩ K h := by
  unfold sameT
  have fN := fun (x y : Hp) (e : Ext x y) => e.fr (fun _ => False)
  have w1 : IntKind.i64.wrap ((L.length : Int) + 1) = ((L.length + 1 : Nat) : Int) := by rw [wrap_in (by omega) (by omega)]; omega
  refine ⟨_, ld (Cl.of_block (vs := [Value.int .i64 x]) c9 fun j v hj => by rw [Nat.zero_add]; exact hj).head (by kernel_rfl), _, _, _, ld c7.head (by kernel_rfl), ?_⟩
  rw [w1]
  refine ⟨_, rem64 _ _ (by omega), ?_⟩
  obtain ⟨ev, hev, hevl⟩ : ∃ ev : Nat, Int.tmod x ((L.length + 1 : Nat) : Int) = ev ∧ ev ≤ L.length := by
    obtain ⟨m, rfl⟩ := Int.eq_ofNat_of_zero_le hx
    refine ⟨m % (L.length + 1), by rw [← Int.ofNat_tmod], ?_⟩
    have := Nat.mod_lt m (show 0 < L.length + 1 by omega)
    omega
  rw [hev]
  have h9l := lt_of_get c9
  have h11l := lt_of_get c11
  have s0 := e0.size
  refine HU_box (us := [Value.int .i64 (ev : Int)]) (cs := [Value.int .i64 x]) c9 rfl rfl intSz rfl fun h1 k1 b1 f1 z1 => ?_
  refine newV (us := [.int .i64 0]) (cs := [.int .i64 0]) rfl rfl intSz rfl fun h2 e2 k2 b2 z2 => ?_
  have s2 := e2.size
  have c5' := (f1.cl c5 h5.2).ext e2
  have c7' := (f1.cl c7 h7.2).ext e2
  have c9' := k1.ext e2
  have b11 := (fN _ _ e2).get (f1.get c11 h11.1) (fun h => h)
  have E2 : Ext h0 h2 := ⟨by omega, fun k hk => by rw [e2.old k (by omega), f1.keep k (by omega) (by omega), e0.old k hk]⟩
  refine ⟨_, ld c5'.head (by kernel_rfl), ?_⟩
  refine ⟨g, lb, rfl, s.enters, fun r ok => ?_⟩
  show CallsH Try.prog g (#[yieldV (h2.size + 1)] ++ lb) _ _
  have e3 : Ext h2 ((h2.push (.deferred (some []))).push (.loop r)) := (Ext.push h2 _).trans (Ext.push _ _)
  have hD3 : ((h2.push (.deferred (some []))).push (.loop r))[h2.size]? = some (.deferred (some [])) := by
    rw [Array.getElem?_push, if_neg (by simp), Array.getElem?_push, if_pos rfl]
  have hR : ((h2.push (.deferred (some []))).push (.loop r))[h2.size + 1]? = some (.loop r) := by rw [Array.getElem?_push, if_pos (by simp)]
  revert e3 hD3 hR
  generalize (h2.push (.deferred (some []))).push (.loop r) = g1
  intro e3 hD3 hR
  have s3 := e3.size
  have E3 := E2.trans e3
  have b1k := (fN _ _ e3).get b2 (fun h => h)
  have hh1 : h.size = h1.size := z1.symm
  have cont : ∀ (g4 : Hp) (kv : Int), Fr (fun k => k = h1.size ∨ k = h2.size + 1) g1 g4 → g4[h1.size]? = some (.cells [Value.int .i64 kv].toArray 3 (0, 0)) → sameE a5 a7 ⟨a11, 0, none⟩ ⟨h1.size, 0, none⟩ [h2.size] K g4 := by
    intro g4 kv f4 hk
    have E4 : Ext h0 g4 := ⟨Nat.le_trans E3.size f4.size, fun k hk => by rw [f4.keep k (by omega) (by omega), E3.old k hk]⟩
    exact sameE_s s rs hL (f4.cl (c5'.ext e3) (by omega)) (f4.cl (c7'.ext e3) (by omega)) (f4.get ((fN _ _ e3).get b11 (fun h => h)) (by omega)) E4 (by omega) (by omega) ⟨by omega, h11.2⟩ hk (f4.get hD3 (by omega)) (by omega) H
  have c93 := c9'.ext e3
  refine s.run (round1 (h0 := h0) (a7 := a7) (a9 := a9) (a11 := a11) (ak := h1.size) (lr := h2.size + 1) (ev := ev) rs hL (c7'.ext e3) c93 E3 (by omega) (by omega) (by omega) (by omega) ok) (fun done Y h' q => ?_) (Y := fun k => k = h1.size ∨ k = h2.size + 1) ⟨⟨rfl, Fr.refl _ _, b1k, hR⟩, by simp; omega⟩ (fun h' Y q => ?_) (fun h' q => ?_)
  · exact ⟨Nat.le_trans E3.size q.1.2.1.size, fun k hk => by rw [q.1.2.1.keep k (by omega) (by omega), E3.old k hk]⟩
  · obtain ⟨⟨_, f7, h71, h72⟩, hz⟩ := q
    have hev0 : ev = 0 := by omega
    refine ⟨_, h72, by rw [ok.state]; decide, ?_⟩
    rw [ok.pending]
    have f8 : ∀ o, Fr (fun k => k = h2.size + 1) h' (h'.setIfInBounds (h2.size + 1) o) := fun o => set_fr rfl
    have F8 : ∀ o, Fr (fun k => k = h1.size ∨ k = h2.size + 1) g1 (h'.setIfInBounds (h2.size + 1) o) := fun o => f7.trans ((f8 o).mono fun k hk => .inr hk)
    refine ⟨_, ld ((F8 _).cl c93 (by show ¬ (a9 = h1.size ∨ a9 = h2.size + 1); omega)).head (by kernel_rfl), br_f (by rw [hev0]; rfl) ?_⟩
    exact cont _ _ (F8 _) ((f8 _).get h71 (by omega))
  · obtain ⟨f7, h71, h72, hpos⟩ := q
    refine ⟨_, h72, by simp, ?_⟩
    have f8 : ∀ o, Fr (fun k => k = h2.size + 1) h' (h'.setIfInBounds (h2.size + 1) o) := fun o => set_fr rfl
    have F8 : ∀ o, Fr (fun k => k = h1.size ∨ k = h2.size + 1) g1 (h'.setIfInBounds (h2.size + 1) o) := fun o => f7.trans ((f8 o).mono fun k hk => .inr hk)
    have c98 : ∀ o, Cl (h'.setIfInBounds (h2.size + 1) o) ⟨a9, 0, none⟩ [.int .i64 (ev : Int)] := fun o => (F8 o).cl c93 (by show ¬ (a9 = h1.size ∨ a9 = h2.size + 1); omega)
    have ck8 : ∀ o, Cl (h'.setIfInBounds (h2.size + 1) o) ⟨h1.size, 0, none⟩ [Value.int .i64 (ev : Int)] := fun o => Cl.of_block (cs := [Value.int .i64 (ev : Int)]) ((f8 o).get h71 (by omega)) fun j v hj => by rw [Nat.zero_add]; exact hj
    refine ⟨_, ld (c98 _).head (by kernel_rfl), br_t (by simp; omega) ⟨_, ld (ck8 _).head (by kernel_rfl), _, ld (c98 _).head (by kernel_rfl), br_f (by simp) ?_⟩⟩
    exact cont _ _ (F8 _) ((f8 _).get h71 (by omega))
theorem same_s {h : Hp} {g : FuncId} {lb : Array Value} {L : List En} (s : SeqAt h g lb L) {A : Option Addr} {c : Nat} (rs : RSl h A L.length 3 (L.flatMap En.enc)) (hL : L.length ≤ 1100000) (early : Int) (he0 : -9223372036854775808 ≤ early) (he1 : early ≤ 9223372036854775807) {K : Value → Hp → Prop} (H : ∀ h', Ext h h' → K (.bool true) h') :
    CallsH Try.prog 33 #[.func (.func g) #[] lb, .slice A L.length c, .int .i64 early] h K := by
  refine quintetlaw12_same_ok _ _ _ _ _ _ _ ?_
  unfold quintetlaw12_same
  refine newC_i fun h1 e1 c1 b1 z1 => newC_i fun h2 e2 c2 b2 z2 => newC_i (cs := [Value.int .i64 early]) fun h3 e3 c3 b3 z3 => newC_i (cs := [Value.bool false]) fun h4 e4 c4 b4 z4 => ?_
  have fN := fun (x y : Hp) (e : Ext x y) => e.fr (fun _ => False)
  have e14 := ((e1.trans e2).trans e3).trans e4
  have s1 := e1.size
  have s2 := e2.size
  have s3 := e3.size
  have s4 := e4.size
  have c14 := ((c1.ext e2).ext e3).ext e4
  have c24 := (c2.ext e3).ext e4
  have c34 := c3.ext e4
  have b34 := (fN _ _ e4).get b3 (fun h => h)
  refine ⟨_, ld c14.head (by kernel_rfl), ?_⟩
  refine ⟨false, fun w => pureRun_run Try.prog _ _ (by kernel_rfl) w, br_f rfl ?_⟩
  refine ⟨_, ld c34.head (by kernel_rfl), br_i (fun hneg => ?_) (fun hneg => ?_)⟩
  · have hneg' : early < 0 := by simpa using hneg
    refine ⟨_, ld c34.head (by kernel_rfl), ?_⟩
    have hw : IntKind.i64.wrap (0 - (IntKind.i64.wrap (early + 1))) = -(early + 1) := by
      rw [wrap_in (n := early + 1) (by omega) (by omega), wrap_in (by omega) (by omega)]; omega
    rw [hw]
    refine HU_box (us := [Value.int .i64 (-(early + 1))]) (cs := [Value.int .i64 early]) b34 rfl rfl intSz rfl fun h5 c5 b5 f5 z5 => ?_
    have e5 : Ext h h5 := ⟨by omega, fun k hk => by rw [f5.keep k (by omega) (by omega), e14.old k hk]⟩
    exact sameT_s (h0 := h) s rs hL (a5 := ⟨h.size, 0, none⟩) (a7 := ⟨h1.size, 0, none⟩) (a9 := h2.size) (a11 := h3.size) (f5.cl c14 (by show ¬ h.size = h2.size; omega)) (f5.cl c24 (by show ¬ h1.size = h2.size; omega)) (x := -(early + 1)) (by omega) b5 (f5.get b4 (by omega)) e5 (by show h.size < _ ∧ h.size ≠ _; omega) (by show h1.size < _ ∧ h1.size ≠ _; omega) (by omega) (by omega) H
  · have hneg' : ¬ early < 0 := by simpa using hneg
    exact sameT_s (h0 := h) s rs hL (a5 := ⟨h.size, 0, none⟩) (a7 := ⟨h1.size, 0, none⟩) (a9 := h2.size) (a11 := h3.size) c14 c24 (x := early) (by omega) b34 b4 e14 (by show h.size < _ ∧ h.size ≠ _; omega) (by show h1.size < _ ∧ h1.size ≠ _; omega) (by omega) (by omega) H
end Go.Proofs.Ytofjbbfnkefoaaa.Fs
