/- What is asked of an engine; any calls on it. -/
import Derived.Test.YtomhkbhgpmcbiaaGreatPnKeep
namespace Go.Proofs.YtomhkbhgpmcbiaaGreat.Fs
open Go Go.RowKit Go.Proofs.YtomhkbhgpmcbiaaGreat.Sx Go.Proofs.YtomhkbhgpmcbiaaGreat.Uq
set_option linter.unusedVariables false
set_option linter.unusedSimpArgs false
set_option maxRecDepth 10000
def kindL : List Value := [.func (.func 17) #[] #[], .func (.func 18) #[] #[], .int .i64 160, .func (.func 19) #[] #[]]
abbrev kindV : Value := .agg #[.func (.func 17) #[] #[], .func (.func 18) #[] #[], .int .i64 160, .func (.func 19) #[] #[]]
theorem kind_s {h : Hp} {K : Value → Hp → Prop} (H : ∀ h', Ext h h' → K kindV h') : CallsH Tryz.prog 9 #[] h K := by
  refine quintetlaw16_kind_ok ?_
  unfold quintetlaw16_kind
  refine newC_i (cs := [.nilFunc, .nilFunc, .int .i64 0, .nilFunc]) fun h1 e1 c1 b1 z1 => ?_
  refine HU_box (us := kindL) b1 rfl rfl (by kernel_rfl) rfl fun h2 c2 b2 f2 z2 => ?_
  exact ⟨_, _, _, _, ldS (vs := kindL) c2 (by kernel_rfl), H h2 (extOwn e1 f2 fun k hk => by omega)⟩
theorem Size_s {A : Option Addr} {c : Nat} {l : List Rul} {h : Hp} (r : RSl h A l.length 12 (l.flatMap Rul.enc)) (hwf : ∀ x, x ∈ l → x.wf) (ok : listE l = 0) {K : Value → Hp → Prop} (H : ∀ h', Ext h h' → K (.int .i64 (pruneN l : Nat)) h') : CallsH Tryz.prog 17 #[.slice A l.length c] h K := by
  refine quintetref16_Size_ok _ _ _ ?_
  unfold quintetref16_Size
  exact refPrune_ok (c := c) r hwf ok fun h1 e1 => ⟨_, _, rfl, br_f rfl (H h1 e1)⟩
theorem Budget_s (cf : Cfg) {h : Hp} {K : Value → Hp → Prop} (H : ∀ h', Ext h h' → K (.int .i64 cf.prune) h') : CallsH Tryz.prog 18 #[cf.val] h K := by
  refine quintetref16_Budget_ok _ _ _ _ _ _ _ ?_
  unfold quintetref16_Budget
  exact newC_i (cs := cf.enc) fun h1 e1 c1 b1 z1 => ⟨_, ld (c1.at_ 2 _ rfl) (by kernel_rfl), H h1 e1⟩
theorem kroom_s {A : Option Addr} {c : Nat} {l : List Rul} {h : Hp} (r : RSl h A l.length 12 (l.flatMap Rul.enc)) (hwf : ∀ x, x ∈ l → x.wf) (cf : Cfg) (e : Int) (he : e = 0 → listE l = 0) {K : Value → Hp → Prop}
    (H : ∀ h', Ext h h' → K (.int .i64 (if e ≠ 0 then e else if roomB cf l = true then 0 else 160)) h') : CallsH Tryz.prog 21 #[kindV, cf.val, .slice A l.length c, .int .i64 e] h K := by
  refine quintetkeep_Kind_room_ok _ _ _ _ _ _ _ _ _ _ _ _ _ _ _ ?_
  unfold quintetkeep_Kind_room
  refine newC_i (cs := kindL) fun h1 e1 c1 b1 z1 => newC_i (cs := cf.enc) fun h2 e2 c2 b2 z2 => ?_
  have e12 := e1.trans e2
  refine br_i (fun u => ?_) (fun u => ?_)
  · have u : e = 0 := by simpa using u
    have ok := he u
    refine ⟨_, ld (c1.ext e2).head (by kernel_rfl), callF (by kernel_rfl) ?_⟩
    refine Size_s (c := c) (r.ext e12) hwf ok fun h3 e3 => ⟨_, rfl, _, ld (((c1.ext e2).ext e3).at_ 1 _ rfl) (by kernel_rfl), ld ((c1.ext e2).at_ 1 _ rfl) (by kernel_rfl), _, _, _, _, _, _, _, ldS (vs := cf.enc) (c2.ext e3) (by kernel_rfl), ldS (vs := cf.enc) c2 (by kernel_rfl), callF (by kernel_rfl) ?_⟩
    refine Budget_s cf fun h4 e4 => ⟨_, rfl, ?_⟩
    have e14 := (e12.trans e3).trans e4
    have := H h4 e14
    rw [if_neg (by omega)] at this
    unfold roomB at this
    rw [if_pos ok] at this
    refine br_i (fun v => ?_) (fun v => ?_)
    · rw [if_neg (by simp at v ⊢; omega)] at this
      exact ⟨_, ld ((c1.ext ((e2.trans e3).trans e4)).at_ 2 _ rfl) (by kernel_rfl), this⟩
    · rw [if_pos (by simp at v ⊢; omega)] at this
      rw [u]
      exact this
  · have u : e ≠ 0 := by simpa using u
    have := H h2 e12
    rw [if_pos u] at this
    exact this
/-! ### Fits -/
theorem gridN_le {h0 : Hp} {A : Option Addr} {l : List Rul} (r : RSl h0 A l.length 12 (l.flatMap Rul.enc)) (hwf : ∀ x, x ∈ l → x.wf) (ok : listE l = 0) : gridN l ≤ 4096 := by
  have := gridTo_le r hwf ok l.length
  unfold gridTo at this
  rw [List.take_length] at this
  exact this
theorem Fits_s {A : Option Addr} {c : Nat} {l : List Rul} {h : Hp} (r0 : RSl h A l.length 12 (l.flatMap Rul.enc)) (hwf : ∀ x, x ∈ l → x.wf) (ok : listE l = 0) (cf : Cfg) (g : Hdr) (hg : g.wf) (v : Bool × Int × Int) (n r : Nat) (nd : Int) (ent : Nat)
    (hn : n ≤ 68) (hr : r ≤ pairsN l g) (hh : v.1 = true → 1 ≤ r) (n0 : 0 ≤ nd) (n1 : nd ≤ 33 * ((gridN l : Int) + l.length) + 1) (t0 : l.length ≤ ent) (t1 : ent ≤ pruneN l) {K : Value → Hp → Prop} (H : ∀ h', Ext h h' → K (.bool true) h') :
    CallsH Tryz.prog 19 #[cf.val, .slice A l.length c, g.val, .agg #[.bool v.1, .int .i64 v.2.1, .int .i64 v.2.2], .agg #[.int .i64 (n : Int), .int .i64 (r : Int), .int .i64 0, .int .i64 0, .int .i64 0], .agg #[.int .i64 nd, .int .i64 (ent : Int), .int .i64 0, .int .i64 0]] h K := by
  have hlen := listE_len ok
  have hgr := gridN_le r0 hwf ok
  refine quintetref16_Fits_ok _ _ _ _ _ _ _ _ _ _ _ _ _ _ _ _ _ _ _ _ _ _ _ _ _ _ _ ?_
  unfold quintetref16_Fits
  refine newC_i (cs := cf.enc) fun h1 e1 c1 b1 z1 => newC_i (cs := g.enc) fun h2 e2 c2 b2 z2 => newC_i (cs := verd v) fun h3 e3 c3 b3 z3 => newC_i (cs := stp n r) fun h4 e4 c4 b4 z4 => newC_i (cs := [Value.int .i64 nd, Value.int .i64 (ent : Int), Value.int .i64 0, Value.int .i64 0]) fun h5 e5 c5 b5 z5 => ?_
  have e05 := (((e1.trans e2).trans e3).trans e4).trans e5
  have k4 := c4.ext e5
  refine ⟨_, ld k4.head (by kernel_rfl), br_t (by simp) ⟨_, ld k4.head (by kernel_rfl), br_t (by simp; omega) ⟨_, ld (k4.at_ 1 _ rfl) (by kernel_rfl), _, _, _, _, _, ldS (vs := g.enc) (((c2.ext e3).ext e4).ext e5) (by kernel_rfl), ?_⟩⟩⟩
  refine refPairs_s (c := c) (r0.ext e05) (by omega) hwf g ⟨hg.s, hg.d⟩ fun h6 e6 => ⟨_, rfl, ?_⟩
  have k46 := k4.ext e6
  have k5 := c5.ext e6
  have k36 := (((c3.ext e4).ext e5).ext e6)
  have e06 := e05.trans e6
  have fin : quintetref16_Fits_j1 (fun b h => K (.bool b) h) A l.length c ⟨h4.size, 0, none⟩ true h6 := by
    unfold quintetref16_Fits_j1
    refine refGrid_ok (c := c) (r0.ext e06) hwf ok fun h7 e7 => ⟨_, _, rfl, br_t rfl ?_⟩
    have k57 := k5.ext e7
    have hw : IntKind.i64.wrap (IntKind.i64.wrap (33 * IntKind.i64.wrap ((gridN l : Int) + (l.length : Int))) + 1) = 33 * ((gridN l : Int) + l.length) + 1 := by
      rw [wrap_in (n := (gridN l : Int) + (l.length : Int)) (by omega) (by omega), wrap_in (n := 33 * ((gridN l : Int) + (l.length : Int))) (by omega) (by omega), wrap_in (by omega) (by omega)]
    rw [hw]
    refine ⟨_, ld k57.head (by kernel_rfl), br_t (by simpa using n0) ⟨_, ld k57.head (by kernel_rfl), br_t (by simpa using n1) ⟨_, ld (k57.at_ 1 _ rfl) (by kernel_rfl), br_t (by simpa using t0) ⟨_, ld (k57.at_ 1 _ rfl) (by kernel_rfl), ?_⟩⟩⟩⟩
    refine Size_s (c := c) (r0.ext (e06.trans e7)) hwf ok fun h8 e8 => ⟨_, rfl, ld ((k57.ext e8).at_ 1 _ rfl) (by kernel_rfl), br_t (by simpa using t1) ⟨_, ld ((k57.ext e8).at_ 2 _ rfl) (by kernel_rfl), br_t rfl ⟨_, ld ((k57.ext e8).at_ 3 _ rfl) (by kernel_rfl), ?_⟩⟩⟩
    exact H h8 ((e06.trans e7).trans e8)
  refine ⟨ld (k46.at_ 1 _ rfl) (by kernel_rfl), br_t (by simpa using hr) ⟨_, ld (k46.at_ 1 _ rfl) (by kernel_rfl), br_t (by simp) ⟨_, ld (k46.at_ 1 _ rfl) (by kernel_rfl), br_i (fun u => ?_) (fun u => ?_)⟩⟩⟩
  · exact ⟨_, ld (k46.at_ 2 _ rfl) (by kernel_rfl), br_t rfl ⟨_, ld (k46.at_ 3 _ rfl) (by kernel_rfl), br_t rfl ⟨_, ld (k46.at_ 4 _ rfl) (by kernel_rfl), fin⟩⟩⟩
  · have hv : v.1 = false := by
      cases hv : v.1 with
      | false => rfl
      | true =>
        have := hh hv
        simp at u
        omega
    refine ⟨_, ld k36.head (by kernel_rfl), ?_⟩
    rw [hv]
    exact br_t rfl ⟨_, ld (k46.at_ 2 _ rfl) (by kernel_rfl), br_t rfl ⟨_, ld (k46.at_ 3 _ rfl) (by kernel_rfl), br_t rfl ⟨_, ld (k46.at_ 4 _ rfl) (by kernel_rfl), fin⟩⟩⟩
/-! ### asked -/
theorem pr_ok {l : List Rul} (gd : Gd l) (hwf : ∀ x, x ∈ l → x.wf) : PRok l := fun x hx => ⟨⟨(hwf x hx).s, (chk_pf (gd.ok x hx)).1⟩, ⟨(hwf x hx).d, (chk_pf (gd.ok x hx)).2⟩⟩
theorem En.gd {h : Hp} {b : Nat} {S : Nat → Prop} {cf : Cfg} {l : List Rul} (q : En h b S cf l) : Gd l := by
  obtain ⟨_, _, _, _, _, _, _, g⟩ := q
  exact g
theorem list_ok {l : List Rul} (gd : Gd l) (di : DI l) : listE l = 0 := lsE_zero l [] (by have := gd.n; simpa using this) gd.ok (fun _ _ _ h => by simp at h) di
theorem asked_s {h : Hp} {b : Nat} {S : Nat → Prop} {cf : Cfg} {l : List Rul} (q : En h b S cf l) (di : DI l) (hwf : ∀ x, x ∈ l → x.wf) {A : Option Addr} {c : Nat} (r : RSl h A l.length 12 (l.flatMap Rul.enc)) (g : Hdr) (hg : g.wf) {K : Value → Hp → Prop} (H : ∀ h', Ext h h' → K (.bool true) h') :
    CallsH Tryz.prog 27 #[kindV, .iface 31 (.pointer (some ⟨b, 0, none⟩)), cf.val, .slice A l.length c, g.val] h K := by
  have gd := q.gd
  have ok := list_ok gd di
  have pr := pr_ok gd hwf
  have ao := ask_ok gd pr cf.dflt (g := g) ⟨hg.s, hg.d⟩
  have so := stat_ok gd pr
  refine quintetkeep_Kind_asked_ok _ _ _ _ _ _ _ _ _ _ _ _ _ _ _ _ _ _ _ _ ?_
  unfold quintetkeep_Kind_asked
  refine newC_i (cs := kindL) fun h1 e1 c1 b1 z1 => newC_i (cs := cf.enc) fun h2 e2 c2 b2 z2 => newC_i (cs := g.enc) fun h3 e3 c3 b3 z3 => ?_
  have e03 := (e1.trans e2).trans e3
  refine ⟨_, ld ((c2.ext e3).at_ 1 _ rfl) (by kernel_rfl), _, _, _, _, _, ldS (vs := g.enc) c3 (by kernel_rfl), ?_⟩
  refine refMatch_s (c := c) (r.ext e03) (by have := gd.n; omega) hwf cf.dflt g hg fun h4 ix e4 => ⟨_, _, _, _, rfl, ?_⟩
  refine newC_i (cs := verd (false, 0, 0)) fun h5 e5 c5 b5 z5 => ?_
  refine HU_box (us := verd (fstI l cf.dflt g)) b5 rfl rfl (by kernel_rfl) rfl fun h6 c6 b6 f6 z6 => ?_
  have e46 : Ext h4 h6 := extOwn e5 f6 fun k hk => by omega
  have e06 := (e03.trans e4).trans e46
  have c36 := c3.ext (e4.trans e46)
  refine ⟨_, _, _, _, _, ldS (vs := g.enc) c36 (by kernel_rfl), ?_⟩
  refine callI (f := 14) (by kernel_rfl) (by kernel_rfl) ?_
  refine eAsk_s (q.ext e06) g fun h7 e7 => ⟨_, _, _, _, _, _, _, _, rfl, ansN _ _ _ fun h8 a56 a58 e8 c56 c58 n56 n58 => ?_⟩
  have e68 := e7.trans e8
  refine callI (f := 133) (by kernel_rfl) (by kernel_rfl) ?_
  refine eStats_s ((q.ext e06).ext e68) fun h9 e9 => ⟨_, _, _, _, rfl, ?_⟩
  refine newC_i (cs := [Value.int .i64 0, Value.int .i64 0, Value.int .i64 0, Value.int .i64 0]) fun h10 e10 c10 b10 z10 => ?_
  refine HU_box (us := sta l) b10 rfl rfl (by kernel_rfl) rfl fun h11 c11 b11 f11 z11 => ?_
  have e911 : Ext h9 h11 := extOwn e10 f11 fun k hk => by omega
  have e811 := e9.trans e911
  have e611 := e68.trans e811
  refine ⟨_, _, _, _, _, ldS (vs := g.enc) (c36.ext e611) (by kernel_rfl), ?_⟩
  refine callI (f := 14) (by kernel_rfl) (by kernel_rfl) ?_
  refine eAsk_s ((q.ext e06).ext e611) g fun h12 e12 => ⟨_, _, _, _, _, _, _, _, rfl, ansN _ _ _ fun h13 a86 a88 e13 c86 c88 n86 n88 => ?_⟩
  have e1113 := e12.trans e13
  have e813 := e811.trans e1113
  have e613 := e611.trans e1113
  have v56 := c56.ext e813
  have s58 := c58.ext e813
  have w38 := c6.ext e613
  rw [← ao.v] at w38
  refine ⟨_, _, _, ldS (vs := verd (askI l cf.dflt g).1) v56 (by kernel_rfl), _, _, _, ldS (vs := verd (askI l cf.dflt g).1) w38 (by kernel_rfl), _, eqV _ _ _ _ _ _, br_t (by simp) ?_⟩
  refine ⟨_, _, _, ldS (vs := verd (askI l cf.dflt g).1) c86 (by kernel_rfl), _, _, _, ldS (vs := verd (askI l cf.dflt g).1) w38 (by kernel_rfl), _, eqV _ _ _ _ _ _, br_t (by simp) ?_⟩
  refine ⟨_, _, _, _, _, ldS (vs := stp (askI l cf.dflt g).2.1 (askI l cf.dflt g).2.2) s58 (by kernel_rfl), _, _, _, _, _, ldS (vs := stp (askI l cf.dflt g).2.1 (askI l cf.dflt g).2.2) c88 (by kernel_rfl), _, eqSteps _ _ _ _ _ _ _ _ _ _, br_t (by simp) ?_⟩
  have e013 := e06.trans e613
  have e113 : Ext h1 h13 := ((e2.trans e3).trans (e4.trans e46)).trans e613
  have e213 : Ext h2 h13 := (e3.trans (e4.trans e46)).trans e613
  refine ⟨_, ld ((c1.ext e113).at_ 3 _ rfl) (by kernel_rfl), _, _, _, _, _, _, _, ldS (vs := cf.enc) (c2.ext e213) (by kernel_rfl), _, _, _, _, _, ldS (vs := g.enc) (c36.ext e613) (by kernel_rfl), _, _, _, ldS (vs := verd (askI l cf.dflt g).1) v56 (by kernel_rfl), _, _, _, _, _, ldS (vs := stp (askI l cf.dflt g).2.1 (askI l cf.dflt g).2.2) s58 (by kernel_rfl), _, _, _, _, ldS (vs := sta l) (c11.ext e1113) (by kernel_rfl), callF (by kernel_rfl) ?_⟩
  have h1l := so.one
  have hnl := so.n
  refine Fits_s (c := c) (r.ext e013) hwf ok cf g hg (askI l cf.dflt g).1 (askI l cf.dflt g).2.1 (askI l cf.dflt g).2.2 _ _ ao.n ao.r (fun hv => ao.h (by rw [← ao.v]; exact hv)) (by omega) (by omega) so.lo (Nat.le_of_eq so.hi) fun h14 e14 => ⟨_, rfl, H h14 (e013.trans e14)⟩
/-! ### Play -/
theorem Hdr.len5 (g : Hdr) : g.enc.length = 5 := rfl
theorem und_hs5 : Tryz.prog.underlying 26 = some (.slice 54) := by kernel_rfl
theorem size_h5 : (Tryz.prog.info? 54).map (·.size) = some 5 := by kernel_rfl
structure PS (h0 h : Hp) (ak ac : Addr) (b : Nat) (S : Nat → Prop) (cf : Cfg) (l : List Rul) (A : Option Addr) (c : Nat) : Prop where
  o : EO h0 h b S cf l
  di : DI l
  wf : ∀ x, x ∈ l → x.wf
  room : roomB cf l = true
  row : Pr S h A l
  hc : l.length ≤ c
  bk : Pt S h ak kindL
  bc : Pt S h ac cf.enc
theorem PS.ext {h0 h h' : Hp} {ak ac : Addr} {b : Nat} {S : Nat → Prop} {cf : Cfg} {l : List Rul} {A : Option Addr} {c : Nat} (p : PS h0 h ak ac b S cf l A c) (e : Ext h h') : PS h0 h' ak ac b S cf l A c := ⟨p.o.ext e, p.di, p.wf, p.room, p.row.ext e, p.hc, p.bk.tg (Ext.tg e), p.bc.tg (Ext.tg e)⟩
theorem l15_s {h0 : Hp} {ak ac : Addr} {b : Nat} {S : Nat → Prop} {cf : Cfg} {l : List Rul} {A As Ag : Option Addr} {c ls cs cg : Nat} {gs : List Hdr} (rg : RSl h0 Ag gs.length 5 (gs.flatMap Hdr.enc)) (hg : ∀ x, x ∈ gs → x.wf) (hgl : gs.length ≤ 2000) (i : Int) {K0 : Bool → Hp → Prop} {K1 : Value → (Option Addr) → Nat → Nat → (Option Addr) → Nat → Nat → Addr → Addr → (Option Addr) → Nat → Nat → Int → Hp → Prop}
    (H : ∀ h', PS h0 h' ak ac b S cf l A c → K1 (.iface 31 (.pointer (some ⟨b, 0, none⟩))) As ls cs Ag gs.length cg ak ac A l.length c i h') :
    ∀ d n h, n + d = gs.length → PS h0 h ak ac b S cf l A c → quintetkeep_Kind_Play_l15 (.iface 31 (.pointer (some ⟨b, 0, none⟩))) As ls cs Ag gs.length cg ak ac A l.length c i K0 K1 (d + 1) (n : Int) h := by
  intro d
  induction d with
  | zero =>
    intro n h hn p
    unfold quintetkeep_Kind_Play_l15
    exact br_f (by simp; omega) (H h p)
  | succ d ih =>
    intro n h hn p
    unfold quintetkeep_Kind_Play_l15
    have hx : gs[n]? = some (gs[n]'(by omega)) := List.getElem?_eq_getElem (by omega)
    generalize gs[n]'(by omega) = g at hx
    obtain ⟨a, _, _, hix, hcl⟩ := ixR (P := Tryz.prog) (T := 26) (E := 54) (k := .i64) (c := cg) Hdr.len5 (rg.ext p.o.e) rfl und_hs5 size_h5 hx
    refine br_t (by simp; omega) ⟨_, _, _, _, ldS (vs := kindL) p.bk.cl (by kernel_rfl), _, _, _, _, _, _, _, ldS (vs := cf.enc) p.bc.cl (by kernel_rfl), _, hix, _, _, _, _, _, ldS (vs := g.enc) hcl (by kernel_rfl), ?_⟩
    refine asked_s (c := c) p.o.q p.di p.wf p.row.rs g (hg g (List.mem_of_getElem? hx)) fun h1 e1 => ⟨_, rfl, br_f rfl ?_⟩
    rw [wrapN (by omega)]
    exact ih (n + 1) h1 (by omega) (p.ext e1)
theorem j12_s {h0 : Hp} {ak ac : Addr} {b : Nat} {cf : Cfg} {l m : List Rul} {A As Ag B : Option Addr} {c ls cs cg d : Nat} {gs : List Hdr} (rg : RSl h0 Ag gs.length 5 (gs.flatMap Hdr.enc)) (hg : ∀ x, x ∈ gs → x.wf) (hgl : gs.length ≤ 2000) (i : Int) {K0 : Bool → Hp → Prop} {K1 : Value → (Option Addr) → Nat → Nat → (Option Addr) → Nat → Nat → Addr → Addr → (Option Addr) → Nat → Nat → Int → Hp → Prop}
    (H : ∀ h' S' l' A' c', PS h0 h' ak ac b S' cf l' A' c' → K1 (.iface 31 (.pointer (some ⟨b, 0, none⟩))) As ls cs Ag gs.length cg ak ac A' l'.length c' i h')
    {h : Hp} {S : Nat → Prop} {e f : Int} (he : e = f) (p0 : f = 0 → PS h0 h ak ac b S cf m B d) (p1 : f ≠ 0 → PS h0 h ak ac b S cf l A c) :
    quintetkeep_Kind_Play_j12 K0 K1 (.iface 31 (.pointer (some ⟨b, 0, none⟩))) As ls cs Ag gs.length cg ak ac A l.length c i B m.length d e f h := by
  subst he
  unfold quintetkeep_Kind_Play_j12
  refine br_f (by simp) (br_i (fun u => ?_) (fun u => ?_))
  · unfold quintetkeep_Kind_Play_j14
    exact ⟨gs.length + 1, l15_s rg hg hgl i (fun h' p => H h' S m B d p) gs.length 0 h (by omega) (p0 (by simpa using u))⟩
  · unfold quintetkeep_Kind_Play_j14
    exact ⟨gs.length + 1, l15_s rg hg hgl i (fun h' p => H h' S l A c p) gs.length 0 h (by omega) (p1 (by simpa using u))⟩
/-! ### what stays true of the rules -/
theorem room_parts {cf : Cfg} {l : List Rul} (h : roomB cf l = true) : listE l = 0 ∧ (pruneN l : Int) ≤ cf.prune := by
  unfold roomB at h
  split at h
  · exact ⟨‹_›, by simpa using h⟩
  · cases h
theorem room_of {cf : Cfg} {l : List Rul} (h : listE l = 0) (h2 : (pruneN l : Int) ≤ cf.prune) : roomB cf l = true := by
  unfold roomB
  rw [if_pos h]
  exact decide_eq_true h2
theorem ins_inv {cf : Cfg} {l : List Rul} (gd : Gd l) (di : DI l) (hwf : ∀ x, x ∈ l → x.wf) (hm : cf.max ≤ 64) (p : Int) {x : Rul} (hx : x.wf) (h : (insI cf l p x).1 = 0) : Gd (insI cf l p x).2 ∧ DI (insI cf l p x).2 ∧ (∀ y, y ∈ (insI cf l p x).2 → y.wf) := by
  refine ⟨(insI_good gd hm p x).1 h, ?_⟩
  unfold insI at h ⊢
  split at h
  · rename_i h1; exact absurd h h1
  · rename_i h1
    rw [if_neg h1]
    split at h
    · cases h
    · rename_i h2
      rw [if_neg h2]
      split at h
      · cases h
      · rename_i h3
        rw [if_neg h3]
        have ht : takesI l x = 0 := by simpa using h1
        unfold takesI at ht
        have hck : x.check.1 = 0 := Classical.byContradiction fun hn => by rw [if_pos hn] at ht; exact hn ht
        rw [if_neg (by omega)] at ht
        have hf : ¬ findI l x.id ≥ 0 := fun hp => by rw [if_pos hp] at ht; cases ht
        refine ⟨?_, fun y hy => ?_⟩
        · unfold DI
          rw [List.Perm.pairwise_iff (fun {a b} hab => Ne.symm hab) List.perm_middle, List.take_append_drop, List.pairwise_cons]
          exact ⟨fun y hy he => find_neg hf y hy he.symm, di⟩
        · rcases List.mem_append.1 hy with hy | hy
          · exact hwf y (List.mem_of_mem_take hy)
          · rcases List.mem_cons.1 hy with rfl | hy
            · exact hx
            · exact hwf y (List.mem_of_mem_drop hy)
theorem del_inv {cf : Cfg} {l : List Rul} (gd : Gd l) (di : DI l) (hwf : ∀ x, x ∈ l → x.wf) (rm : roomB cf l = true) (id : Int) (h : (delI l id).1 = 0) : DI (delI l id).2 ∧ (∀ y, y ∈ (delI l id).2 → y.wf) ∧ roomB cf (delI l id).2 = true := by
  have g2 := delI_good gd id
  unfold delI at h g2 ⊢
  split at h
  · cases h
  · rename_i h1
    rw [if_neg h1] at g2 ⊢
    obtain ⟨n, hn, hnl, _⟩ := findI_lt l id (by omega)
    rw [hn, Int.toNat_natCast] at g2 ⊢
    have hsub : (l.take n ++ l.drop (n + 1)).Sublist l := by
      rw [← List.eraseIdx_eq_take_drop_succ]
      exact List.eraseIdx_sublist ..
    have d2 : DI (l.take n ++ l.drop (n + 1)) := di.sublist hsub
    refine ⟨d2, fun y hy => hwf y (hsub.subset hy), ?_⟩
    have hx : l[n]? = some l[n] := List.getElem?_eq_getElem hnl
    have hxm := List.mem_of_getElem? hx
    have hck := chk_pf (gd.ok _ hxm)
    have := prune_cut hx (self_in (hwf _ hxm).s hck.1) (self_in (hwf _ hxm).d hck.2)
    have hr := room_parts rm
    show roomB cf (l.take n ++ l.drop (n + 1)) = true
    exact room_of (list_ok g2 d2) (by omega)
theorem set_inv {cf : Cfg} {l xs : List Rul} (hm : cf.max ≤ 64) (hwf : ∀ x, x ∈ xs → x.wf) (h : setI cf.max [] xs 0 = 0) : Gd xs ∧ DI xs := by
  have h1 := setI_ok cf.max xs [] 0 h
  refine ⟨⟨?_, h1.1⟩, (set_DI cf.max xs [] 0 h).2⟩
  by_cases hx : xs = []
  · rw [hx]; decide
  · have := h1.2 hx; omega
theorem EO.put {h0 h h' : Hp} {cf : Cfg} {b g : Nat} {S : Nat → Prop} {l : List Rul} (o : EO h0 h b S cf l) (f : Fr (fun k => k = g) h h') (hn : ¬ S g) (hg : h0.size ≤ g) : EO h0 h' b S cf l := ⟨o.q.keep f (fun k hk e => hn (e ▸ hk)), o.hS, extOwn o.e f (fun k hk => hk ▸ hg)⟩
/-- An engine that took a call: the state then. -/
theorem PS.then_ {h0 h h' : Hp} {ak ac : Addr} {b : Nat} {S S' : Nat → Prop} {cf : Cfg} {l m : List Rul} {A : Option Addr} {c : Nat} (p : PS h0 h ak ac b S cf l A c) (q : En h' b S' cf m) (t : Tg S S' h h') : EO h0 h' b S' cf m ∧ Pr S' h' A l ∧ Pt S' h' ak kindL ∧ Pt S' h' ac cf.enc :=
  ⟨p.o.step q t, p.row.tg t, p.bk.tg t, p.bc.tg t⟩
theorem fresh_pr {h h' : Hp} {S : Nat → Prop} {A : Option Addr} {c : Nat} {l : List Rul} (r : RowR h' A c l) (hF : Fresh h A) (hS : ∀ k, S k → k < h.size) : Pr S h' A l := ⟨r.read, fun k hk => ⟨fun hs => by have := hF k hk; have := hS k hs; omega, r.old k hk⟩⟩
theorem Play_l8 {h0 : Hp} {ak ac : Addr} {b : Nat} {cf : Cfg} (hm : cf.max ≤ 64) {As Ag : Option Addr} {cs cg : Nat} {os : List Opr} {gs : List Hdr} (ro : RSl h0 As os.length 21 (os.flatMap Opr.enc)) (hos : ∀ o, o ∈ os → ∃ zs, OpOK h0 o zs ∧ o.n ≤ 2000) (hol : os.length ≤ 2000) (rg : RSl h0 Ag gs.length 5 (gs.flatMap Hdr.enc)) (hg : ∀ x, x ∈ gs → x.wf) (hgl : gs.length ≤ 2000) {K0 : Bool → Hp → Prop} {K1 : Hp → Prop} (H : ∀ h', Ext h0 h' → K1 h') :
    ∀ d n h S l A c, n + d = os.length → PS h0 h ak ac b S cf l A c → quintetkeep_Kind_Play_l8 (.iface 31 (.pointer (some ⟨b, 0, none⟩))) As os.length cs Ag gs.length cg ak ac K0 K1 (d + 1) A l.length c (n : Int) h := by
  intro d
  induction d with
  | zero =>
    intro n h S l A c hn p
    unfold quintetkeep_Kind_Play_l8
    exact br_f (by simp; omega) (H h p.o.e)
  | succ d ih =>
    intro n h S l A c hn p
    unfold quintetkeep_Kind_Play_l8
    have hx : os[n]? = some (os[n]'(by omega)) := List.getElem?_eq_getElem (by omega)
    generalize os[n]'(by omega) = o at hx
    obtain ⟨zs, ok, hzn⟩ := hos o (List.mem_of_getElem? hx)
    obtain ⟨a, hix, hcl⟩ := ixOp (c := cs) (ro.ext p.o.e) hx
    refine br_t (by simp; omega) ⟨_, hix, _, _, _, _, _, _, _, _, _, _, _, _, _, _, _, _, _, _, _, _, _, _, _, ldS (vs := o.enc) hcl (by kernel_rfl), ?_⟩
    refine newC_i (cs := (⟨0, 0, 0, zRul, ⟨0, 0, 0, 0, 0⟩, none, 0, 0⟩ : Opr).enc) fun h1 e1 c1 b1 z1 => ?_
    refine HU_box (us := o.enc) b1 rfl rfl size_op rfl fun h2 c2 b2 f2 z2 => ?_
    have e02 : Ext h h2 := extOwn e1 f2 fun k hk => by omega
    have p2 := p.ext e02
    have old := p.o.q.old
    have bo : Pt S h2 ⟨h.size, 0, none⟩ o.enc := ⟨c2, fun hs => by have := old _ hs; have : h.size < h.size := this; omega, by show h.size < _; omega⟩
    have gd := p2.o.q.gd
    have w1 : IntKind.i64.wrap ((n : Int) + 1) = ((n + 1 : Nat) : Int) := wrapN (by omega)
    have go : ∀ h' S' l' A' c', PS h0 h' ak ac b S' cf l' A' c' → (fun (v : Value) (A1 : Option Addr) (l1 c1 : Nat) (A2 : Option Addr) (l2 c2 : Nat) (a1 a2 : Addr) (A3 : Option Addr) (l3 c3 : Nat) (x : Int) (hh : Hp) => quintetkeep_Kind_Play_l8 (.iface 31 (.pointer (some ⟨b, 0, none⟩))) As os.length cs Ag gs.length cg ak ac K0 K1 (d + 1) A3 l3 c3 (IntKind.i64.wrap (x + 1)) hh) (.iface 31 (.pointer (some ⟨b, 0, none⟩))) As os.length cs Ag gs.length cg ak ac A' l'.length c' (n : Int) h' := fun h' S' l' A' c' p' => by
      show quintetkeep_Kind_Play_l8 _ _ _ _ _ _ _ _ _ _ _ _ _ _ _ (IntKind.i64.wrap ((n : Int) + 1)) _
      rw [w1]
      exact ih (n + 1) h' S' l' A' c' (by omega) p'
    refine ⟨_, ld bo.cl.head (by kernel_rfl), br_i (fun u1 => ?_) (fun u1 => br_i (fun u2 => ?_) (fun u2 => br_i (fun u4 => ?_) (fun u4 => ?_)))⟩
    · -- Insert
      refine ⟨_, ld (bo.cl.at_ 1 _ rfl) (by kernel_rfl), _, _, _, _, _, _, _, _, _, _, _, _, ldS (vs := o.rule.enc) (Cl.sl bo.cl (n := 3) (us := o.rule.enc) rfl) (by kernel_rfl), ?_⟩
      refine callI (f := 13) (by kernel_rfl) (by kernel_rfl) ?_
      refine ins_u p2.o.q hm o.place o.rule fun h3 S3 q3 t3 => ⟨_, rfl, ?_⟩
      obtain ⟨o3, row3, bk3, bc3⟩ := p2.then_ q3 t3
      have bo3 := bo.tg t3
      refine ⟨_, ld bc3.cl.head (by kernel_rfl), _, ld (bo3.cl.at_ 1 _ rfl) (by kernel_rfl), _, _, _, _, _, _, _, _, _, _, _, _, ldS (vs := o.rule.enc) (Cl.sl bo3.cl (n := 3) (us := o.rule.enc) rfl) (by kernel_rfl), ?_⟩
      have hl6 : l.length ≤ 1000000 := by have := gd.n; omega
      refine refIns_s (c := c) row3.rs hl6 p.hc cf o.place o.rule ok.rw_ (fun h0e h4 e4 => ⟨_, _, _, _, rfl, ?_⟩) (fun h0e h4 A4 c4 e4 r4 F4 => ⟨_, _, _, _, rfl, ?_⟩)
      · refine ⟨_, _, _, _, ldS (vs := kindL) (bk3.cl.ext e4) (by kernel_rfl), _, _, _, _, _, _, _, ldS (vs := cf.enc) (bc3.cl.ext e4) (by kernel_rfl), ?_⟩
        refine kroom_s (c := c) (row3.rs.ext e4) p.wf cf _ (fun h => absurd h h0e) fun h5 e5 => ⟨_, rfl, ?_⟩
        rw [if_pos h0e]
        rw [runE_no h0e] at o3 ⊢
        have e35 := e4.trans e5
        have hp : PS h0 h5 ak ac b S3 cf l A c := (⟨o3, p.di, p.wf, p.room, row3, p.hc, bk3, bc3⟩ : PS h0 h3 ak ac b S3 cf l A c).ext e35
        exact j12_s rg hg hgl (n : Int) go rfl (fun h => absurd h h0e) (fun _ => hp)
      · obtain ⟨g4, d4, w4⟩ := ins_inv gd p.di p.wf hm o.place ok.rw_ h0e
        have le4 := list_ok g4 d4
        refine ⟨_, _, _, _, ldS (vs := kindL) (bk3.cl.ext e4) (by kernel_rfl), _, _, _, _, _, _, _, ldS (vs := cf.enc) (bc3.cl.ext e4) (by kernel_rfl), ?_⟩
        refine kroom_s (c := c4) r4.read w4 cf 0 (fun _ => le4) fun h5 e5 => ⟨_, rfl, ?_⟩
        rw [if_neg (by decide)]
        have e35 := e4.trans e5
        cases hr : roomB cf (insI cf l o.place o.rule).2 with
        | true =>
          rw [runE_yes h0e hr] at o3 ⊢
          rw [if_pos rfl]
          have hp : PS h0 h5 ak ac b S3 cf (insI cf l o.place o.rule).2 A4 c4 := ⟨o3.ext e35, d4, w4, hr, (fresh_pr r4 F4 o3.q.old).ext e5, r4.le, bk3.tg (Ext.tg e35), bc3.tg (Ext.tg e35)⟩
          exact j12_s rg hg hgl (n : Int) go rfl (fun _ => hp) (fun h => absurd rfl h)
        | false =>
          rw [runE_full h0e hr] at o3 ⊢
          rw [if_neg (by decide)]
          have hp : PS h0 h5 ak ac b S3 cf l A c := (⟨o3, p.di, p.wf, p.room, row3, p.hc, bk3, bc3⟩ : PS h0 h3 ak ac b S3 cf l A c).ext e35
          exact j12_s rg hg hgl (n : Int) go rfl (fun h => absurd h (by decide)) (fun _ => hp)
    · -- Delete
      refine ⟨_, ld (bo.cl.at_ 2 _ rfl) (by kernel_rfl), ?_⟩
      refine callI (f := 131) (by kernel_rfl) (by kernel_rfl) ?_
      refine del_u p2.o.q o.id fun h3 S3 q3 t3 => ⟨_, rfl, ?_⟩
      obtain ⟨o3, row3, bk3, bc3⟩ := p2.then_ q3 t3
      have bo3 := bo.tg t3
      have hl6 : l.length ≤ 1000000 := by have := gd.n; omega
      refine ⟨_, ld (bo3.cl.at_ 2 _ rfl) (by kernel_rfl), refDel_s (c := c) row3.rs hl6 p.hc o.id (fun h0e h4 e4 => ⟨_, _, _, _, rfl, ?_⟩) (fun h0e h4 A4 c4 e4 r4 F4 => ⟨_, _, _, _, rfl, ?_⟩)⟩
      · rw [runE_no h0e] at o3 ⊢
        have hp : PS h0 h4 ak ac b S3 cf l A c := (⟨o3, p.di, p.wf, p.room, row3, p.hc, bk3, bc3⟩ : PS h0 h3 ak ac b S3 cf l A c).ext e4
        exact j12_s rg hg hgl (n : Int) go rfl (fun h => absurd h h0e) (fun _ => hp)
      · obtain ⟨d4, w4, hr⟩ := del_inv gd p.di p.wf p.room o.id h0e
        rw [runE_yes h0e hr] at o3 ⊢
        have hp : PS h0 h4 ak ac b S3 cf (delI l o.id).2 A4 c4 := ⟨o3.ext e4, d4, w4, hr, fresh_pr r4 F4 o3.q.old, r4.le, bk3.tg (Ext.tg e4), bc3.tg (Ext.tg e4)⟩
        exact j12_s rg hg hgl (n : Int) go rfl (fun _ => hp) (fun h => absurd rfl h)
    · -- Set
      have hzl : zs.length ≤ 1000000 := by have := ok.n; omega
      have rz : ∀ {h' : Hp}, Ext h0 h' → RSl h' o.A zs.length 12 (zs.flatMap Rul.enc) := fun e => ok.r.ext e
      have hn' : o.n = zs.length := ok.n.symm
      refine ⟨_, _, _, ld (bo.cl.at_ 20 _ rfl) (by kernel_rfl), ?_⟩
      rw [hn']
      refine Lend_s (c := o.c) (rz p2.o.e) hzl fun h3 g3 e3 hg3 r3 => ⟨_, _, _, rfl, ?_⟩
      have p3 := p2.ext e3
      have bo3 := bo.tg (Ext.tg e3)
      refine callI (f := 132) (by kernel_rfl) (by kernel_rfl) ?_
      have own3 : RSl h3 (some ⟨g3, 0, none⟩) zs.length 12 (zs.flatMap Rul.enc) := by
        have := rslTake Rul.enc_len r3.read rfl (n := zs.length) (by simp)
        rwa [List.take_left] at this
      refine set_u p3.o.q hm hzl (by omega) own3 fun h4 S4 q4 t4 => ⟨_, rfl, ?_⟩
      obtain ⟨o4, row4, bk4, bc4⟩ := p3.then_ q4 t4
      have bo4 := bo3.tg t4
      have ng3 : ¬ S g3 := fun hs => by have := p2.o.q.old g3 hs; omega
      have g3l : g3 < h3.size := r3.old g3 (blk_self g3)
      have ng4 : ¬ S4 g3 := t4.not g3l ng3
      have r4 := r3.keep t4.fr (fun k hk hs => ng3 (by rw [← blk_one hk]; exact hs))
      refine ⟨_, _, _, ld (bo4.cl.at_ 20 _ rfl) (by kernel_rfl), ?_⟩
      rw [hn']
      refine Back_s (c := o.c) r4 (rz o4.e) hzl fun h5 f5 => ⟨_, rfl, br_f rfl ?_⟩
      have hg0 : h0.size ≤ g3 := by have := p2.o.e.size; omega
      have hbg : ∀ {a : Addr} {vs : List Value}, Pt S4 h4 a vs → a.block ≠ g3 → Pt S4 h5 a vs := fun pt hne => ⟨f5.cl pt.cl hne, pt.nb, Nat.lt_of_lt_of_le pt.lt f5.size⟩
      have o5 : EO h0 h5 b S4 cf (runE cf l (setO cf l zs)).2 := o4.put f5 ng4 hg0
      have hkl : ak.block < h2.size := p2.bk.lt
      have hcl2 : ac.block < h2.size := p2.bc.lt
      have bk5 := hbg bk4 (by omega)
      have bc5 := hbg bc4 (by omega)
      have bo5 := hbg bo4 (by show h.size ≠ g3; have := e02.size; omega)
      have row5 : Pr S4 h5 A l := ⟨⟨row4.rs.1, row4.rs.2.imp id fun ⟨a, ha, hc⟩ => ⟨a, ha, f5.cl hc (fun e => by
        have h6 := (p2.row.nb a.block ⟨a, ha, rfl⟩).2
        omega)⟩⟩, fun k hk => ⟨(row4.nb k hk).1, Nat.lt_of_lt_of_le (row4.nb k hk).2 f5.size⟩⟩
      refine ⟨_, _, _, ld (bo5.cl.at_ 20 _ rfl) (by kernel_rfl), ?_⟩
      rw [hn']
      refine refCopy_s (c := o.c) (rz o5.e) hzl fun h6 e6 r6 => ⟨_, _, _, rfl, ?_⟩
      refine ⟨_, _, _, _, ldS (vs := kindL) (bk5.cl.ext e6) (by kernel_rfl), _, _, _, _, _, _, _, ldS (vs := cf.enc) (bc5.cl.ext e6) (by kernel_rfl), _, _, _, ld ((bo5.cl.ext e6).at_ 20 _ rfl) (by kernel_rfl), _, ld (bc5.cl.ext e6).head (by kernel_rfl), ?_⟩
      rw [hn']
      refine refSet_s (c := o.c) (rz (o5.e.trans e6)) hzl (by have := ok.c; omega) ok.w cf fun h7 e7 => ⟨_, rfl, ldS (vs := cf.enc) (bc5.cl.ext (e6.trans e7)) (by kernel_rfl), ldS (vs := kindL) (bk5.cl.ext (e6.trans e7)) (by kernel_rfl), ?_⟩
      refine kroom_s (c := zs.length) (r6.ext e7).read ok.w cf (setI cf.max [] zs 0) (fun hz => ?_) fun h8 e8 => ⟨_, rfl, ?_⟩
      · obtain ⟨gz, dz⟩ := set_inv (l := l) hm ok.w hz
        exact list_ok gz dz
      · have e58 := (e6.trans e7).trans e8
        by_cases hz : setI cf.max [] zs 0 = 0
        · have h0e : (setO cf l zs).1 = 0 := hz
          have h2e : (setO cf l zs).2 = zs := by unfold setO; rw [if_pos hz]
          obtain ⟨gz, dz⟩ := set_inv (l := l) hm ok.w hz
          rw [if_neg (by omega)]
          cases hr : roomB cf zs with
          | true =>
            rw [runE_yes h0e (by rw [h2e]; exact hr), h2e] at o5
            rw [runE_yes h0e (by rw [h2e]; exact hr), if_pos rfl]
            have hp : PS h0 h8 ak ac b S4 cf zs (some ⟨h5.size, 0, none⟩) zs.length := ⟨o5.ext e58, dz, ok.w, hr, (fresh_pr r6 (Fresh.some (Nat.le_refl _)) o5.q.old).ext (e7.trans e8), Nat.le_refl _, bk5.tg (Ext.tg e58), bc5.tg (Ext.tg e58)⟩
            exact j12_s rg hg hgl (n : Int) go rfl (fun _ => hp) (fun h => absurd rfl h)
          | false =>
            rw [runE_full h0e (by rw [h2e]; exact hr)] at o5
            rw [runE_full h0e (by rw [h2e]; exact hr), if_neg (by decide)]
            have hp : PS h0 h8 ak ac b S4 cf l A c := (⟨o5, p.di, p.wf, p.room, row5, p.hc, bk5, bc5⟩ : PS h0 h5 ak ac b S4 cf l A c).ext e58
            exact j12_s rg hg hgl (n : Int) go rfl (fun h => absurd h (by decide)) (fun _ => hp)
        · have h0e : (setO cf l zs).1 ≠ 0 := hz
          rw [if_pos hz]
          rw [runE_no h0e] at o5 ⊢
          have hp : PS h0 h8 ak ac b S4 cf l A c := (⟨o5, p.di, p.wf, p.room, row5, p.hc, bk5, bc5⟩ : PS h0 h5 ak ac b S4 cf l A c).ext e58
          exact j12_s rg hg hgl (n : Int) go rfl (fun h => absurd h hz) (fun _ => hp)
    · -- Ask
      refine ⟨_, _, _, _, ldS (vs := kindL) p2.bk.cl (by kernel_rfl), _, _, _, _, _, _, _, ldS (vs := cf.enc) p2.bc.cl (by kernel_rfl), _, _, _, _, _, ldS (vs := o.head.enc) (Cl.sl bo.cl (n := 15) (us := o.head.enc) rfl) (by kernel_rfl), ?_⟩
      refine asked_s (c := c) p2.o.q p2.di p2.wf p2.row.rs o.head ok.hw fun h3 e3 => ⟨_, rfl, br_f rfl ?_⟩
      exact j12_s rg hg hgl (n : Int) go rfl (fun _ => p2.ext e3) (fun h => absurd rfl h)
theorem PrunePlays_s (cf : Cfg) {os : List Opr} {gs : List Hdr} {A B : Option Addr} {c d : Nat} {h : Hp} (ro : RSl h A os.length 21 (os.flatMap Opr.enc)) (hos : ∀ o, o ∈ os → ∃ zs, OpOK h o zs) (rg : RSl h B gs.length 5 (gs.flatMap Hdr.enc)) (hg : ∀ x, x ∈ gs → x.wf) {K : Value → Hp → Prop} (H : ∀ h', Ext h h' → K (.bool true) h') :
    CallsH Tryz.prog 3 #[cf.val, .slice A os.length c, .slice B gs.length d] h K := by
  refine quintetlaw16_PrunePlays_ok _ _ _ _ _ _ _ _ _ _ _ _ _ ?_
  unfold quintetlaw16_PrunePlays
  refine newC_i (cs := cf.enc) fun h1 e1 c1 b1 z1 => ?_
  refine Large_s (c := c) (d := d) (ro.ext e1) ⟨_, rfl, br_t rfl (eawake_s fun h2 e2 => ⟨_, rfl, H h2 (e1.trans e2)⟩)⟩ fun hol hgl hon => ⟨_, rfl, br_f rfl ?_⟩
  refine ⟨_, _, _, _, _, _, _, ldS (vs := cf.enc) c1 (by kernel_rfl), ref_Check_s cf fun v h2 e2 hv => ⟨_, rfl, ?_⟩⟩
  subst hv
  have e12 := e1.trans e2
  refine br_i (fun u => eawake_s fun h3 e3 => ⟨_, rfl, H h3 (e12.trans e3)⟩) (fun u => ?_)
  have hck : cf.check = 0 := by simpa using u
  unfold quintetlaw16_PrunePlays_j1
  refine ⟨_, _, _, _, _, _, _, ldS (vs := cf.enc) (c1.ext e2) (by kernel_rfl), ?_⟩
  refine eNew_s cf (fun hc => absurd hck hc) (fun _ h3 b S e3 hS q3 => ⟨_, _, rfl, _, eqNil und_ep, br_f rfl (br_f rfl ?_)⟩)
  refine kind_s fun h4 e4 => ⟨_, _, _, _, rfl, _, _, _, _, _, _, _, ldS (vs := cf.enc) (((c1.ext e2).ext e3).ext e4) (by kernel_rfl), ldS (vs := cf.enc) ((c1.ext e2).ext e3) (by kernel_rfl), ?_⟩
  refine quintetkeep_Kind_Play_ok _ _ _ _ _ _ _ _ _ _ _ _ _ _ _ _ _ _ ?_
  unfold quintetkeep_Kind_Play
  refine newC_i (cs := kindL) fun h5 e5 c5 b5 z5 => newC_i (cs := cf.enc) fun h6 e6 c6 b6 z6 => ⟨os.length + 1, ?_⟩
  have e36 := (e4.trans e5).trans e6
  have hold := q3.old
  have s4 := e4.size
  have s5 := e5.size
  have s12 := e12.size
  have hmx := cf_max hck
  have hpr : 0 ≤ cf.prune := by
    unfold Cfg.check at hck
    split at hck
    · rename_i hk
      unfold Cfg.ok inB at hk
      simp only [Bool.and_eq_true, decide_eq_true_eq] at hk
      omega
    · cases hck
  have p6 : PS h h6 ⟨h4.size, 0, none⟩ ⟨h5.size, 0, none⟩ b S cf [] none 0 := ⟨⟨q3.ext e36, fun k hk => by have := hS k hk; omega, (e12.trans e3).trans e36⟩, List.Pairwise.nil, fun x hx => by simp at hx, room_of rfl hpr, ⟨⟨rfl, .inl rfl⟩, fun k hk => by obtain ⟨a, ha, _⟩ := hk; cases ha⟩, Nat.le_refl _, ⟨c5.ext e6, fun hs => by have := hold _ hs; have : h4.size < h3.size := this; omega, by show h4.size < _; omega⟩, ⟨c6, fun hs => by have := hold _ hs; have : h5.size < h3.size := this; omega, by show h5.size < _; omega⟩⟩
  refine Play_l8 (os := os) hmx ro (fun o ho => ?_) hol rg hg hgl (fun h7 e7 => ⟨_, rfl, br_t rfl (eawake_s fun h8 e8 => ⟨_, rfl, H h8 (e7.trans e8)⟩)⟩) os.length 0 h6 S [] none 0 (by omega) p6
  obtain ⟨zs, ok⟩ := hos o ho
  exact ⟨zs, ok, hon o ho⟩
theorem zRul_wf : zRul.wf := ⟨by decide, by decide, by decide, by decide⟩
theorem zHdr_wf : (⟨0, 0, 0, 0, 0⟩ : Hdr).wf := ⟨by decide, by decide, by decide⟩
theorem PruneSets_s (cf : Cfg) {zs : List Rul} {gs : List Hdr} {A B : Option Addr} {c d : Nat} (hc : zs.length ≤ c) (hw : ∀ x, x ∈ zs → x.wf) {h : Hp} (rz : RSl h A zs.length 12 (zs.flatMap Rul.enc)) (rg : RSl h B gs.length 5 (gs.flatMap Hdr.enc)) (hg : ∀ x, x ∈ gs → x.wf) {K : Value → Hp → Prop} (H : ∀ h', Ext h h' → K (.bool true) h') :
    CallsH Tryz.prog 4 #[cf.val, .slice A zs.length c, .slice B gs.length d] h K := by
  refine quintetlaw16_PruneSets_ok _ _ _ _ _ _ _ _ _ _ _ _ _ ?_
  unfold quintetlaw16_PruneSets
  refine newC_i (cs := cf.enc) fun h1 e1 c1 b1 z1 => ⟨_, _, _, _, _, _, _, ldS (vs := cf.enc) c1 (by kernel_rfl), ?_⟩
  refine newC_i (cs := (⟨4, 0, 0, zRul, ⟨0, 0, 0, 0, 0⟩, A, zs.length, c⟩ : Opr).enc) fun h2 e2 c2 b2 z2 => ?_
  have e12 := e1.trans e2
  refine PrunePlays_s cf (os := [⟨4, 0, 0, zRul, ⟨0, 0, 0, 0, 0⟩, A, zs.length, c⟩]) (c := 1) (d := d) ⟨rfl, .inr ⟨_, rfl, c2⟩⟩ (fun o ho => ?_) (rg.ext e12) hg fun h3 e3 => ⟨_, rfl, H h3 (e12.trans e3)⟩
  rw [List.mem_singleton.1 ho]
  exact ⟨zs, rfl, hc, rz.ext e12, hw, zRul_wf, zHdr_wf⟩
end Go.Proofs.YtomhkbhgpmcbiaaGreat.Fs
