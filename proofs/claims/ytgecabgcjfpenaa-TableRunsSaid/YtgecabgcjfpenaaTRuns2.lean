/- told: a table tells just its rules, twice. -/
import Derived.Test.YtgecabgcjfpenaaTRuns1
namespace Go.Proofs.Ytgecabgcjfpenaa.Fs
open Go Go.RowKit Go.Proofs.Ytgecabgcjfpenaa.Sx
set_option linter.unusedVariables false
set_option linter.unusedSimpArgs false
set_option maxRecDepth 10000
theorem loop_back (r : Loop) (h1 : r.state = .ready) (h2 : r.pending = none) : ({ ({ r with state := .busy } : Loop) with state := if (none : Option Code).isNone = true then .ready else .done, pending := none } : Loop) = r := by
  cases r; simp_all
theorem set_get {h : Hp} {l : Nat} {o : Obj} (hl : l < h.size) : (h.setIfInBounds l o)[l]? = some o := by simp [hl]
theorem set_fr {h : Hp} {l : Nat} {o : Obj} {S : Nat → Prop} (hS : S l) : Fr S h (h.setIfInBounds l o) :=
  ⟨by simp, fun k hk hn => Array.getElem?_setIfInBounds_ne (fun e => hn (by rw [← e]; exact hS))⟩
theorem Fr.rsl {S : Nat → Prop} {h h' : Hp} (f : Fr S h h') {A : Option Addr} {l sz : Nat} {cs : List Value} (r : RSl h A l sz cs) (hn : 0 < l → ∀ a, A = some a → ¬ S a.block) : RSl h' A l sz cs := by
  obtain ⟨q1, q2⟩ := r
  refine ⟨q1, ?_⟩
  rcases q2 with q2 | ⟨a, ha, hcl⟩
  · exact .inl q2
  · rcases Nat.eq_zero_or_pos l with hz | hz
    · exact .inl hz
    · exact .inr ⟨a, ha, f.cl hcl (hn hz a ha)⟩
/-- The heap in a range of told: what may have changed since g1, the counter's box, the loop's record. -/
def TInv (g1 : Hp) (nb lr : Nat) (r : Loop) (i : Nat) (h : Hp) : Prop := Fr (fun k => k = nb ∨ k = lr) g1 h ∧ h[nb]? = some (.cells #[.int .i64 i] 3 (0, 0)) ∧ h[lr]? = some (.loop r)
def TStop (g1 : Hp) (nb lr : Nat) (r : Loop) (kv : Int) (l : Nat) (h : Hp) : Prop := Fr (fun k => k = nb ∨ k = lr) g1 h ∧ h[nb]? = some (.cells #[.int .i64 2] 3 (0, 0)) ∧ h[lr]? = some (.loop { r with state := .done, pending := some (.exit 2) }) ∧ kv = 0 ∧ 2 ≤ l
theorem int1 : (Try.prog.info? 3).map (·.size) = some 1 := by kernel_rfl
theorem told_round {g1 : Hp} {nb lr D p39 p40 kb : Nat} {r : Loop} {kv : Int} {A : Option Addr} {l c : Nat} {xs : List Rul} (hl : xs.length = l) (hlen : l ≤ 1000000) (hne : nb ≠ lr)
    (ok : RecOK 77 #[37, 38] (sub (bodyOf Try.f27) [true, true, true, true, true, true, true, false, true, false, false, true, false, false, true, false, true, false, false]) (sub (bodyOf Try.f27) [true, true, true, true, true, true, true, false, true, false, false, true, false, false, true, false, true, false, true]) (mkTm [(3, some (.pointer (some ⟨p39, 0, none⟩))), (4, some (.pointer (some ⟨p40, 0, none⟩))), (8, some (.pointer (some ⟨kb, 0, none⟩))), (9, some (.pointer (some ⟨nb, 0, none⟩)))]) D r)
    (c39 : Cl g1 ⟨p39, 0, none⟩ [.slice A l c]) (n39 : p39 ≠ nb ∧ p39 ≠ lr) (ckb : Cl g1 ⟨kb, 0, none⟩ [.int .i64 kv]) (nkb : kb ≠ nb ∧ kb ≠ lr)
    (hr : RSl g1 A l 12 (xs.flatMap Rul.enc)) (hrn : 0 < l → ∀ a, A = some a → a.block ≠ nb ∧ a.block ≠ lr)
    (i : Nat) (hi : i < xs.length) (h : Hp) (K : Value → Hp → Prop) (inv : TInv g1 nb lr r i h) (H1 : ∀ h', TInv g1 nb lr r (i + 1) h' → K (.bool true) h') (H0 : ∀ h', TStop g1 nb lr r kv l h' → K (.bool false) h') :
    HN Try.prog (callS (yieldV lr) #[.int .i64 i, (xs[i]).val]) h K := by
  obtain ⟨f, hn, hrec⟩ := inv
  refine quintetlaw11_told_r1_ok ⟨p39, 0, none⟩ ⟨p40, 0, none⟩ (some ⟨kb, 0, none⟩) ⟨nb, 0, none⟩ _ _ _ _ _ _ _ _ _ _ _ _ _ hrec ok ?_
  unfold quintetlaw11_told_r1
  refine newV (us := (xs[i]).enc) rfl rfl size55 rfl fun h1 e1 c1 b1 z1 => ?_
  have hlr := lt_of_get hrec
  have hnb := lt_of_get hn
  have g1e := (e1.fr (fun _ => False))
  refine ⟨r, g1e.get hrec (fun h => h), ok.state, ?_⟩
  have f2 : Fr (fun k => k = lr) h1 (h1.setIfInBounds lr (.loop { r with state := .busy })) := set_fr rfl
  have hr2 : (h1.setIfInBounds lr (.loop { r with state := .busy }))[lr]? = some (.loop { r with state := .busy }) := set_get (by omega)
  revert f2 hr2
  generalize h1.setIfInBounds lr (.loop { r with state := .busy }) = h2
  intro f2 hr2
  have hn2 := f2.get (g1e.get hn (fun h => h)) hne
  have cn2 : Cl h2 ⟨nb, 0, none⟩ [.int .i64 (i : Int)] := Cl.of_block (cs := [.int .i64 (i : Int)]) hn2 fun j v hj => by rw [Nat.zero_add]; exact hj
  have F2 : Fr (fun k => k = nb ∨ k = lr) g1 h2 := (f.trans (e1.fr _)).trans (f2.mono (fun k hk => .inr hk))
  have c39' := F2.cl c39 (by rintro (e | e) <;> simp at e <;> omega)
  have c1' := f2.cl c1 (by intro e; simp at e; omega)
  have hrr := Fr.rsl F2 hr (fun hz a ha e => by have := hrn hz a ha; omega)
  refine ⟨_, ld cn2.head (by kernel_rfl), br_f (by simp) ⟨_, ld cn2.head (by kernel_rfl), _, _, _, ld c39'.head (by kernel_rfl), br_f (by simp; omega) ?_⟩⟩
  refine ⟨_, _, _, _, _, _, _, _, _, _, _, _, ldS c1' (by kernel_rfl), _, _, _, ld c39'.head (by kernel_rfl), _, ld cn2.head (by kernel_rfl), ?_⟩
  obtain ⟨a, hp, hcl⟩ := rd_elem (c := c) hrr hl (i := i) (by omega)
  refine ⟨_, hp, _, _, _, _, _, _, _, _, _, _, _, _, ldS hcl (by kernel_rfl), false, ne55 _, br_f rfl ?_⟩
  refine ⟨_, ld cn2.head (by kernel_rfl), ?_⟩
  rw [wrap_in (by omega) (by omega)]
  refine HU_box (us := [.int .i64 ((i : Int) + 1)]) (cs := [.int .i64 (i : Int)]) hn2 rfl rfl int1 rfl fun h3 c3 b3 f3 z3 => ?_
  have F3 : Fr (fun k => k = nb ∨ k = lr) g1 h3 := F2.trans (f3.mono (fun k hk => .inl hk))
  have hr3 := f3.get hr2 (fun e => hne e.symm)
  have ck3 := F3.cl ckb (by rintro (e | e) <;> simp at e <;> omega)
  have hlr3 := lt_of_get hr3
  have go : rend lr none h3 fun h' => K (.bool true) h' := by
    refine ⟨_, hr3, H1 _ ⟨F3.trans (set_fr (.inr rfl)), ?_, ?_⟩⟩
    · rw [Array.getElem?_setIfInBounds_ne (fun e => hne e.symm)]
      exact b3
    · rw [set_get hlr3, loop_back r ok.state ok.pending]
  refine ⟨_, ld ck3.head (by kernel_rfl), br_i (fun hk => ⟨_, ld c3.head (by kernel_rfl), br_i (fun h2' => ?_) (fun _ => go)⟩) (fun _ => go)⟩
  have hi1 : i = 1 := by simp at h2'; omega
  subst hi1
  refine ⟨_, hr3, H0 _ ⟨F3.trans (set_fr (.inr rfl)), ?_, ?_, by simpa using hk, by omega⟩⟩
  · rw [Array.getElem?_setIfInBounds_ne (fun e => hne e.symm)]
    exact b3
  · rw [set_get hlr3]; rfl
theorem told_loop {hB : Hp} {b : Nat} {S : Nat → Prop} {cf : Cfg} {xs : List Rul} (t : TabAt hB b S cf xs) {A : Option Addr} {l c : Nat} (hl : xs.length = l) (hlen : l ≤ 1000000) {a : Addr} (ca : Cl hB a [.pointer (some ⟨b, 0, none⟩)]) {p39 p40 : Nat}
    (c39 : Cl hB ⟨p39, 0, none⟩ [.slice A l c]) (hr : RSl hB A l 12 (xs.flatMap Rul.enc)) {K0 K1 : Addr → List Nat → Hp → Prop}
    (H : ∀ dl g, Ext hB g → dl.Nodup → (∀ D ∈ dl, hB.size ≤ D ∧ g[D]? = some (.deferred (some []))) → K1 ⟨p40, 0, none⟩ dl g) :
    ∀ (m : Nat) (kv : Int) (g : Hp) (dl : List Nat) (kb : Nat), kv + m = 2 → 0 ≤ kv → Ext hB g → Cl g ⟨kb, 0, none⟩ [.int .i64 kv] → dl.Nodup → (∀ D ∈ dl, hB.size ≤ D ∧ g[D]? = some (.deferred (some []))) →
      quintetlaw11_told_l1 ⟨p39, 0, none⟩ ⟨p40, 0, none⟩ (.func (.func 46) #[] #[.pointer (some a)]) K0 K1 (m + 1) (some ⟨kb, 0, none⟩) dl g := by
  intro m
  induction m with
  | zero =>
    intro kv g dl kb hk h0 e ck hn hd
    unfold quintetlaw11_told_l1
    exact ⟨_, ld ck.head (by kernel_rfl), br_f (by simp; omega) (H dl g e hn hd)⟩
  | succ m ih =>
    intro kv g dl kb hk h0 e ck hn hd
    unfold quintetlaw11_told_l1
    refine ⟨_, ld ck.head (by kernel_rfl), br_t (by simp; omega) ?_⟩
    refine newV (us := [.int .i64 0]) (cs := [.int .i64 0]) rfl rfl int1 rfl fun g0 e0 c0 b0 z0 => ?_
    have hkb : kb < g.size := cell_lt ck.head
    refine ⟨46, _, rfl, by kernel_rfl, fun r ok => ?_⟩
    show CallsH Try.prog 46 #[yieldV (g0.size + 1), .pointer (some a)] _ _
    have e1 : Ext g0 ((g0.push (.deferred (some []))).push (.loop r)) := (Ext.push g0 _).trans (Ext.push _ _)
    have hD1 : ((g0.push (.deferred (some []))).push (.loop r))[g0.size]? = some (.deferred (some [])) := by
      rw [Array.getElem?_push, if_neg (by simp), Array.getElem?_push, if_pos rfl]
    have hL1 : ((g0.push (.deferred (some []))).push (.loop r))[g0.size + 1]? = some (.loop r) := by rw [Array.getElem?_push, if_pos (by simp)]
    revert e1 hD1 hL1
    generalize (g0.push (.deferred (some []))).push (.loop r) = g1
    intro e1 hD1 hL1
    have eB1 : Ext hB g1 := (e.trans e0).trans e1
    have eg1 : Ext g g1 := e0.trans e1
    have hBg := e.size
    have hp39 : p39 < hB.size := cell_lt c39.head
    -- on with the next
    have cont : ∀ g3, Fr (fun k => k = g.size ∨ k = g0.size + 1) g1 g3 → ∃ x106 : Int, HV Try.prog (Instr.loadAt 3 (.pointer (some ⟨kb, 0, none⟩))) g3 (.int .i64 x106) ∧ newC g3 (.cells #[(.int .i64 0)] 3 (0, 0)) fun a108 h107 =>
        HU Try.prog (Instr.storeAt 3 (.pointer (some a108)) (.int .i64 x106)) h107 fun h109 => ∃ x110 : Int, HV Try.prog (Instr.loadAt 3 (.pointer (some a108))) h109 (.int .i64 x110) ∧
        HU Try.prog (Instr.storeAt 3 (.pointer (some a108)) (.int .i64 (IntKind.i64.wrap (x110 + 1)))) h109 fun h111 => quintetlaw11_told_l1 ⟨p39, 0, none⟩ ⟨p40, 0, none⟩ (.func (.func 46) #[] #[.pointer (some a)]) K0 K1 (m + 1) (some a108) (g0.size :: dl) h111 := by
      intro g3 f3
      have eg3 : Ext g g3 := ⟨by have := f3.size; have := eg1.size; omega, fun q hq => by rw [f3.keep q (by have := eg1.size; omega) (by rintro (e | e) <;> omega), eg1.old q hq]⟩
      refine ⟨kv, ld ((ck.ext eg3).head) (by kernel_rfl), ?_⟩
      refine newV (us := [.int .i64 kv]) (cs := [.int .i64 0]) rfl rfl int1 rfl fun g4 e4 c4 b4 z4 => ⟨kv, ld c4.head (by kernel_rfl), ?_⟩
      rw [wrap_in (by omega) (by omega)]
      refine HU_box (us := [.int .i64 (kv + 1)]) (cs := [.int .i64 kv]) b4 rfl rfl int1 rfl fun g5 c5 b5 f5 z5 => ?_
      have e35 : Ext g3 g5 := box_ext e4 (Nat.le_refl _) f5
      refine ih (kv + 1) g5 (g0.size :: dl) g3.size (by omega) (by omega) ((e.trans eg3).trans e35) c5 (List.nodup_cons.2 ⟨fun hm => ?_, hn⟩) (fun D hD => ?_)
      · have := lt_of_get (hd _ hm).2
        omega
      · rcases List.mem_cons.1 hD with rfl | hD
        · exact ⟨by omega, (e35.fr (fun _ => False)).get (f3.get hD1 (by rintro (e | e) <;> omega)) (fun h => h)⟩
        · exact ⟨(hd D hD).1, ((eg3.trans e35).fr (fun _ => False)).get (hd D hD).2 (fun h => h)⟩
    have bl : ∀ {a' : Addr}, a'.block < g.size → a'.block ≠ g.size ∧ a'.block ≠ g0.size + 1 := fun h => by omega
    refine iter_s (t.ext eB1) (by omega) (ca.ext eB1) (g0.size + 1) (TInv g1 g.size (g0.size + 1) r) (TStop g1 g.size (g0.size + 1) r kv l) ?_ ?_ ?_ ?_ ?_ ?_
    · intro i h' inv
      refine ⟨_, inv.1, fun k hk hS => ?_⟩
      have := t.2.1 k hk
      rcases hS with e | e <;> omega
    · intro i h1 h2 inv ee
      exact ⟨inv.1.trans (ee.fr _), (ee.fr (fun _ => False)).get inv.2.1 (fun h => h), (ee.fr (fun _ => False)).get inv.2.2 (fun h => h)⟩
    · exact ⟨Fr.refl _ _, (e1.fr (fun _ => False)).get b0 (fun h => h), hL1⟩
    · intro i hi h' K inv H1 H0
      refine told_round (p39 := p39) (p40 := p40) (kb := kb) hl hlen (by omega) ok (c39.ext eB1) (by omega) (ck.ext eg1) (by omega) (hr.ext eB1) (fun hz a' ha' => ?_) i hi h' K inv H1 H0
      have := rsl_block hr hz a' ha'
      exact bl (by omega)
    · rintro h' ⟨f, hn', hl', hk0, h2l⟩
      refine ⟨_, hl', by simp, ?_⟩
      have fx : ∀ o, Fr (fun k => k = g.size ∨ k = g0.size + 1) g1 (h'.setIfInBounds (g0.size + 1) o) := fun o => f.trans (set_fr (.inr rfl))
      have cn : ∀ o, Cl (h'.setIfInBounds (g0.size + 1) o) ⟨g.size, 0, none⟩ [.int .i64 2] := fun o => Cl.of_block (cs := [.int .i64 2]) (by rw [Array.getElem?_setIfInBounds_ne (by omega)]; exact hn') fun j v hj => by rw [Nat.zero_add]; exact hj
      have cc : ∀ o, Cl (h'.setIfInBounds (g0.size + 1) o) ⟨p39, 0, none⟩ [.slice A l c] := fun o => (fx o).cl (c39.ext eB1) (by rintro (e | e) <;> simp at e <;> omega)
      have ckk : ∀ o, Cl (h'.setIfInBounds (g0.size + 1) o) ⟨kb, 0, none⟩ [.int .i64 kv] := fun o => (fx o).cl (ck.ext eg1) (by rintro (e | e) <;> simp at e <;> omega)
      refine ⟨2, ld (cn _).head (by kernel_rfl), _, _, _, ld (cc _).head (by kernel_rfl), br_i (fun _ => ⟨_, ld (ckk _).head (by kernel_rfl), br_f (by rw [hk0]; rfl) ⟨_, ld (cn _).head (by kernel_rfl), br_f rfl (cont _ (fx _))⟩⟩) (fun _ => cont _ (fx _))⟩
    · rintro h' ⟨f, hn', hl'⟩
      refine ⟨_, hl', by rw [ok.state]; decide, ?_⟩
      have fx : ∀ o, Fr (fun k => k = g.size ∨ k = g0.size + 1) g1 (h'.setIfInBounds (g0.size + 1) o) := fun o => f.trans (set_fr (.inr rfl))
      have cn : ∀ o, Cl (h'.setIfInBounds (g0.size + 1) o) ⟨g.size, 0, none⟩ [.int .i64 (xs.length : Int)] := fun o => Cl.of_block (cs := [.int .i64 (xs.length : Int)]) (by rw [Array.getElem?_setIfInBounds_ne (by omega)]; exact hn') fun j v hj => by rw [Nat.zero_add]; exact hj
      have cc : ∀ o, Cl (h'.setIfInBounds (g0.size + 1) o) ⟨p39, 0, none⟩ [.slice A l c] := fun o => (fx o).cl (c39.ext eB1) (by rintro (e | e) <;> simp at e <;> omega)
      rw [ok.pending]
      refine ⟨_, ld (cn _).head (by kernel_rfl), _, _, _, ld (cc _).head (by kernel_rfl), br_f (by rw [hl]; simp) (cont _ (fx _))⟩
theorem told_s {h : Hp} {b : Nat} {S : Nat → Prop} {cf : Cfg} {xs : List Rul} (t : TabAt h b S cf xs) {A : Option Addr} {l c : Nat} (hl : xs.length = l) (hlen : l ≤ 1000000) (hr : RSl h A l 12 (xs.flatMap Rul.enc)) {K : Value → Hp → Prop}
    (H : ∀ h', Ext h h' → K (.bool true) h') : CallsH Try.prog 27 #[.pointer (some ⟨b, 0, none⟩), .slice A l c] h K := by
  refine quintetlaw11_told_ok _ _ _ _ ?_
  unfold quintetlaw11_told
  refine newC_i fun h1 e1 c1 b1 z1 => newC_i fun h2 e2 c2 b2 z2 => ?_
  have e12 := e1.trans e2
  have s1 := e1.size
  refine table_Rules_s (t.ext e12) (by omega) fun h3 e3 r3 => ⟨_, _, _, rfl, ?_⟩
  have c3 := (c1.ext e2).ext e3
  refine ⟨_, _, _, ld c3.head (by kernel_rfl), ?_⟩
  subst hl
  refine same_s r3.read (hr.ext (e12.trans e3)) rfl hlen ⟨_, rfl, br_f rfl ?_⟩
  have hg3 : h2.size < h3.size := by
    rcases r3 with ⟨h, _⟩ | ⟨g, rest, hA, hg, _⟩
    · cases h
    · injection hA with hA; injection hA with hA; rw [hA]; exact lt_of_get hg
  refine spoil_s r3 hlen hg3 fun h4 f4 => ⟨rfl, ?_⟩
  have e24 : Ext h2 h4 := ⟨by have := f4.size; omega, fun q hq => by rw [f4.keep q (by omega) (by omega), e3.old q hq]⟩
  have e14 := e12.trans e24
  refine table_Rules_s (t.ext e14) (by omega) fun h5 e5 r5 => ⟨_, _, _, rfl, ?_⟩
  refine all_s _ fun h6 a e6 c6 => ⟨_, rfl, ?_⟩
  refine ⟨false, fun w => pureRun_run Try.prog _ _ (by kernel_rfl) w, br_f rfl ?_⟩
  have e26 := (e24.trans e5).trans e6
  have cA := (c1.ext e2).ext e26
  refine ⟨_, _, _, ld cA.head (by kernel_rfl), ?_⟩
  refine same_s (r5.read.ext e6) (hr.ext (e12.trans e26)) rfl hlen ⟨_, rfl, br_f rfl ?_⟩
  refine newV (us := [.int .i64 0]) (cs := [.int .i64 0]) rfl rfl int1 rfl fun h7 e7 c7 b7 z7 => ⟨3, ?_⟩
  have e27 := e26.trans e7
  have e17 := e12.trans e27
  have b2' := (e27.fr (fun _ => False)).get b2 (fun h => h)
  have s12 := e12.size
  have s2 := e2.size
  have s27 := e27.size
  refine told_loop (t.ext e17) rfl hlen (c6.ext e7) (cA.ext e7) (hr.ext e17) (fun dl g eg hn hd => ?_) 2 0 h7 [] h6.size (by omega) (by omega) (Ext.refl _) c7 List.nodup_nil (fun D hD => by cases hD)
  have hb := (eg.fr (fun _ => False)).get b2' (fun h => h)
  have hne : ∀ D ∈ dl, D ≠ h1.size := fun D hD => by have := (hd D hD).1; omega
  refine HU_box (us := [.bool true]) (cs := [.bool false]) hb rfl rfl (by kernel_rfl) rfl fun g1 c1' b1' f1 z1' => ?_
  refine shutAll dl g1 hn (fun D hD => f1.get (hd D hD).2 (hne D hD)) fun g2 f2 => ?_
  have c2' := f2.cl c1' (fun hD => hne _ hD rfl)
  refine ⟨_, ld c2'.head (by kernel_rfl), H g2 ⟨?_, fun q hq => ?_⟩⟩
  · have := f2.size; have := f1.size; have := eg.size; omega
  · have := eg.size
    rw [f2.keep q (by have := f1.size; omega) (fun hD => by have := (hd q hD).1; omega), f1.keep q (by omega) (by omega), eg.old q (by omega), e17.old q hq]
end Go.Proofs.Ytgecabgcjfpenaa.Fs
