/- The engine's build: fill, build. -/
import Derived.Test.YtomhkbhgpmcbiaaGreatPnEng
namespace Go.Proofs.YtomhkbhgpmcbiaaGreat.Fs
open Go Go.RowKit Go.Proofs.YtomhkbhgpmcbiaaGreat.Sx
set_option linter.unusedVariables false
set_option linter.unusedSimpArgs false
set_option maxRecDepth 10000
/-- Cells that the engine doesn't own. -/
structure Pt (S : Nat → Prop) (h : Hp) (a : Addr) (vs : List Value) : Prop where
  cl : Cl h a vs
  nb : ¬ S a.block
  lt : a.block < h.size
theorem Pt.tg {S S' : Nat → Prop} {h h' : Hp} {a : Addr} {vs : List Value} (p : Pt S h a vs) (t : Tg S S' h h') : Pt S' h' a vs := ⟨t.fr.cl p.cl p.nb, t.not p.lt p.nb, Nat.lt_of_lt_of_le p.lt t.fr.size⟩
structure Pr (S : Nat → Prop) (h : Hp) (A : Option Addr) (l : List Rul) : Prop where
  rs : RSl h A l.length 12 (l.flatMap Rul.enc)
  nb : ∀ k, blk A k → ¬ S k ∧ k < h.size
theorem Pr.tg {S S' : Nat → Prop} {h h' : Hp} {A : Option Addr} {l : List Rul} (p : Pr S h A l) (t : Tg S S' h h') : Pr S' h' A l :=
  ⟨⟨p.rs.1, p.rs.2.imp id fun ⟨a, ha, hc⟩ => ⟨a, ha, t.fr.cl hc (p.nb _ ⟨a, ha, rfl⟩).1⟩⟩, fun k hk => ⟨t.not (p.nb k hk).2 (p.nb k hk).1, Nat.lt_of_lt_of_le (p.nb k hk).2 t.fr.size⟩⟩
theorem Pr.ext {S : Nat → Prop} {h h' : Hp} {A : Option Addr} {l : List Rul} (p : Pr S h A l) (e : Ext h h') : Pr S h' A l := p.tg (Ext.tg e)
def Nd.put (n : Nd) (i : Nat) : Nd := { n with list := n.list ++ [i] }
theorem j7_s {h : Hp} {b : Nat} {S : Nat → Prop} {cfv : List Value} {ar : List Nd} {ent : Nat} (q : ArN h b S cfv ar ent) {d i : Nat} (hd : d < ar.length) (hll : (ndAt ar d).list.length ≤ 1000000) (hent : ent ≤ 1000000000) (bb : Bool)
    {K0 : (Option Addr) → Int → (Option Addr) → Nat → Nat → Addr → Addr → Int → (Option Addr) → Nat → Nat → Int → Int → (Option Addr) → Nat → Nat → Int → Int → Hp → Prop} {x555 : Int} {A556 : Option Addr} {l556 c556 : Nat} {a557 a558 : Addr} {A561 : Option Addr} {l561 c561 : Nat} {x562 x563 : Int} {A564 : Option Addr} {l564 c564 : Nat} {x565 x566 : Int}
    (H : ∀ h' S', ArN h' b S' cfv (if bb then ar.set d ((ndAt ar d).put i) else ar) (if bb then ent + 1 else ent) → Tg S S' h h' → K0 (some ⟨b, 0, none⟩) x555 A556 l556 c556 a557 a558 (d : Int) A561 l561 c561 x562 x563 A564 l564 c564 x565 x566 h') :
    prune_Engine_fill_j7 K0 (some ⟨b, 0, none⟩) x555 A556 l556 c556 a557 a558 (d : Int) (i : Int) A561 l561 c561 x562 x563 A564 l564 c564 x565 x566 bb h := by
  unfold prune_Engine_fill_j7
  cases bb with
  | false => exact br_f rfl (H h S q (Tg.refl _ _))
  | true =>
    obtain ⟨A, c, hs, q, m⟩ := q
    have hsl : hs.length = ar.length := by rw [← m, List.length_map]
    obtain ⟨x, hx, hxn⟩ := at_of m hd
    obtain ⟨g, rfl⟩ := q.blkA (by omega)
    have hxm := List.mem_of_getElem? hx
    have hix : PV Tryz.prog (Instr.indexAt 72 (.slice (some ⟨g, 0, none⟩) hs.length c) (.int .i64 (d : Int))) (.pointer (some ⟨g, d * 5, none⟩)) := ix0 (by omega) und_nd size_nd
    have hcl := q.row.elem0 HNd.len hx
    refine br_t rfl ⟨_, _, _, q.ld8, _, _, _, q.ld8, _, hix, _, _, _, ld (hcl.at_ 4 _ rfl) (by kernel_rfl), ?_⟩
    refine newC_i (cs := encI (i : Int)) fun h1 e1 c1 b1 z1 => ?_
    have q1 := q.ext e1
    refine ⟨ld ((hcl.ext e1).at_ 4 _ rfl) (by kernel_rfl), q1.ld8, q1.ld8, ?_⟩
    obtain ⟨ii, z, hi, hisz, hiby, hiz, hzc⟩ := info_int
    have hlen : x.nd.list.length = (ints x.nd.list).length := by simp
    rw [hlen]
    refine appG encI_len encI_flat und_ints hi hiz (by rw [hzc]; rfl) hisz (by omega) (by omega) (q1.ls x hxm) (x := (i : Int)) c1 (by rw [← hlen, hxn]; omega) fun h2 g2 c2 r2 hg f2 => ⟨_, _, _, rfl, ?_⟩
    have hS := q.sA g (blk_self g)
    have hxb := q.sl x hxm
    have nbA : ¬ blk x.A g := fun hk => (hxb g hk).2.2 (blk_self g)
    have nbb : ¬ blk x.A b := fun hk => (hxb b hk).2.1 rfl
    have row2 := q1.row.keep f2 (fun k hk => by rw [blk_one hk]; exact nbA)
    have bx2 := f2.get q1.bx nbb
    have cl2 : Cl h2 ⟨b, 0, none⟩ (cfv ++ [Value.slice (some ⟨g, 0, none⟩) hs.length c, Value.int .i64 (ent : Int)]) := Cl.of_block bx2 fun j v hj => by rw [Nat.zero_add]; exact hj
    refine ⟨ld (cl2.at_ 8 _ (by rw [List.getElem?_append_right (by rw [q.l8]; exact Nat.le_refl _), q.l8]; rfl)) (by kernel_rfl), _, hix, ?_⟩
    have hadd : ((⟨g, d * 5, none⟩ : Addr).add 4) = ⟨g, d * 5 + 4, none⟩ := add_off rfl 4
    rw [hadd]
    have hl2 : (ints x.nd.list ++ [(i : Int)]).length = (x.nd.list ++ [i]).length := by simp
    rw [hl2]
    refine HU_part (x' := (⟨x.nd.put i, some ⟨g2, 0, none⟩, c2⟩ : HNd)) (us := [.slice (some ⟨g2, 0, none⟩) (x.nd.list ++ [i]).length c2]) HNd.len row2.row hx rfl (by kernel_rfl) rfl (by show 4 + 1 ≤ 5; decide) rfl fun h3 r3 f3 z3 => ?_
    have bx3 := f3.get bx2 (fun e => hS.2 e.symm)
    have cl3 : Cl h3 ⟨b, 0, none⟩ (cfv ++ [Value.slice (some ⟨g, 0, none⟩) hs.length c, Value.int .i64 (ent : Int)]) := Cl.of_block bx3 fun j v hj => by rw [Nat.zero_add]; exact hj
    refine ⟨_, ld (cl3.at_ 9 _ (by rw [List.getElem?_append_right (by rw [q.l8]; decide), q.l8]; rfl)) (by kernel_rfl), ?_⟩
    show HU Tryz.prog (Instr.storeAt 3 (.pointer (some ((⟨b, 0, none⟩ : Addr).add 9))) _) h3 _
    rw [add_eq0]
    have hw : IntKind.i64.wrap ((ent : Int) + 1) = ((ent + 1 : Nat) : Int) := by rw [wrap_in (by omega) (by omega)]; omega
    rw [hw]
    have hc9 : (cfv ++ [Value.slice (some ⟨g, 0, none⟩) hs.length c, Value.int .i64 (ent : Int)]).take 9 ++ [Value.int .i64 ((ent + 1 : Nat) : Int)] ++ (cfv ++ [Value.slice (some ⟨g, 0, none⟩) hs.length c, Value.int .i64 (ent : Int)]).drop (9 + [Value.int .i64 ((ent + 1 : Nat) : Int)].length) = cfv ++ [Value.slice (some ⟨g, 0, none⟩) hs.length c, Value.int .i64 ((ent + 1 : Nat) : Int)] := by
      have hl8 := q.l8
      match cfv, hl8 with
      | [_, _, _, _, _, _, _, _], _ => rfl
    refine HU_st (us := [Value.int .i64 ((ent + 1 : Nat) : Int)]) bx3 rfl (by kernel_rfl) (by have := q.l8; simp; omega) rfl ?_
    rw [hc9]
    have hblt : b < h3.size := lt_of_get bx3
    have f4 : Fr (fun k => k = b) h3 (setB h3 b (cfv ++ [Value.slice (some ⟨g, 0, none⟩) hs.length c, Value.int .i64 ((ent + 1 : Nat) : Int)]) 74) := setB_fr rfl
    have hb4 := setB_get (cs := cfv ++ [Value.slice (some ⟨g, 0, none⟩) hs.length c, Value.int .i64 ((ent + 1 : Nat) : Int)]) (T := 74) hblt
    revert f4 hb4
    generalize setB h3 b (cfv ++ [Value.slice (some ⟨g, 0, none⟩) hs.length c, Value.int .i64 ((ent + 1 : Nat) : Int)]) 74 = h4
    intro f4 hb4
    have hg2b : g2 ≠ b ∧ g2 ≠ g ∧ (S g2 ∨ h.size ≤ g2) := by
      rcases hg with hg | hg
      · exact ⟨(hxb g2 hg).2.1, fun e => nbA (e ▸ hg), .inl (hxb g2 hg).1⟩
      · have h1 := q1.old b q.sb
        have h2 := q1.old g hS.1
        exact ⟨by omega, by omega, .inr (by have := e1.size; omega)⟩
    have hgl : g2 < h2.size := r2.old g2 (blk_self g2)
    have key : ∀ (j : Nat) (y : HNd), (hs.set d (⟨x.nd.put i, some ⟨g2, 0, none⟩, c2⟩ : HNd))[j]? = some y → (j = d ∧ y = ⟨x.nd.put i, some ⟨g2, 0, none⟩, c2⟩) ∨ (j ≠ d ∧ hs[j]? = some y) := fun j y hy => by
      by_cases e : d = j
      · subst e
        rw [List.getElem?_set_self (List.getElem?_eq_some_iff.1 hx).1] at hy
        exact .inl ⟨rfl, by simpa using hy.symm⟩
      · rw [List.getElem?_set_ne e] at hy
        exact .inr ⟨fun h => e h.symm, hy⟩
    have other : ∀ (j : Nat) (y : HNd), j ≠ d → hs[j]? = some y → ∀ k, blk y.A k → k ≠ g2 := fun j y hj hy k hk e => by
      subst e
      rcases hg with hg | hg
      · exact q.dj j d y x hy hx hj _ hk hg
      · have := q1.old _ (q.sl y (List.mem_of_getElem? hy) _ hk).1; omega
    refine H h4 (fun k => S k ∨ k = g2) ⟨some ⟨g, 0, none⟩, c, hs.set d ⟨x.nd.put i, some ⟨g2, 0, none⟩, c2⟩, ⟨q.l8, .inl q.sb, fun k hk => ?_, ?_, ?_, fun k hk => ?_, fun y hy => ?_, fun y hy k hk => ?_, fun i1 i2 y1 y2 h1 h2 hne k hk1 hk2 => ?_⟩, ?_⟩ ⟨?_, fun k hk => ?_⟩
    · have s3 := f3.size
      have s4 := f4.size
      have s2 := f2.size
      rcases hk with hk | rfl
      · have := q1.old k hk; omega
      · omega
    · rw [List.length_set]; exact hb4
    · exact (⟨r3, q.row.cap⟩ : RowN h3 (some ⟨g, 0, none⟩) c _).keep f4 (fun k hk e => hS.2 ((blk_one hk).symm.trans e))
    · exact ⟨.inl (q.sA k hk).1, (q.sA k hk).2⟩
    · obtain ⟨j, hj⟩ := List.mem_iff_getElem?.1 hy
      rcases key j y hj with ⟨_, rfl⟩ | ⟨hne, hj⟩
      · have : ints ((x.nd.put i).list) = ints x.nd.list ++ [(i : Int)] := by simp [Nd.put, ints]
        show RowI h4 (some ⟨g2, 0, none⟩) c2 (ints ((x.nd.put i).list))
        rw [this]
        exact (r2.keep f3 (fun k hk e => hg2b.2.1 ((blk_one hk).symm.trans e))).keep f4 (fun k hk e => hg2b.1 ((blk_one hk).symm.trans e))
      · have hym := List.mem_of_getElem? hj
        exact (((q1.ls y hym).keep f2 (fun k hk hkx => q.dj j d y x hj hx hne k hk hkx)).keep f3 (fun k hk e => (q.sl y hym k hk).2.2 (e ▸ blk_self g))).keep f4 (fun k hk => (q.sl y hym k hk).2.1)
    · obtain ⟨j, hj⟩ := List.mem_iff_getElem?.1 hy
      rcases key j y hj with ⟨_, rfl⟩ | ⟨hne, hj⟩
      · have hk := blk_one hk
        subst hk
        exact ⟨.inr rfl, hg2b.1, fun hk => hg2b.2.1 (blk_one hk)⟩
      · obtain ⟨s1, s2, s3⟩ := q.sl y (List.mem_of_getElem? hj) k hk
        exact ⟨.inl s1, s2, s3⟩
    · rcases key i1 y1 h1 with ⟨e1, rfl⟩ | ⟨n1, h1⟩ <;> rcases key i2 y2 h2 with ⟨e2, rfl⟩ | ⟨n2, h2⟩
      · omega
      · exact other i2 y2 n2 h2 k hk2 (blk_one hk1)
      · exact other i1 y1 n1 h1 k hk1 (blk_one hk2)
      · exact q.dj i1 i2 y1 y2 h1 h2 hne k hk1 hk2
    · rw [List.map_set, m]
      show ar.set d (x.nd.put i) = _
      rw [hxn]
      rfl
    · exact (((e1.fr S).trans (f2.mono fun k hk => (hxb k hk).1)).trans (f3.mono fun k hk => hk ▸ hS.1)).trans (f4.mono fun k hk => hk ▸ q.sb)
    · rcases hk with hk | rfl
      · exact .inl hk
      · exact hg2b.2.2
/-! ### fill -/
def inB2 (s d : Pf) (x : Rul) : Bool := withinB s x.src && withinB d x.dst
def idxTo (l : List Rul) (s d : Pf) (n : Nat) : List Nat := (List.range n).filter fun i => match l[i]? with
  | some x => inB2 s d x
  | none => false
theorem idxTo_s {l : List Rul} {s d : Pf} {n : Nat} {x : Rul} (hx : l[n]? = some x) : idxTo l s d (n + 1) = if inB2 s d x then idxTo l s d n ++ [n] else idxTo l s d n := by
  unfold idxTo
  rw [List.range_succ, List.filter_append, List.filter_cons, List.filter_nil]
  simp only [hx]
  split <;> simp
theorem idxTo_len (l : List Rul) (s d : Pf) (n : Nat) : (idxTo l s d n).length ≤ n := by
  have := List.length_filter_le (fun i => match l[i]? with
    | some x => inB2 s d x
    | none => false) (List.range n)
  rw [List.length_range] at this
  exact this
def Nd.full (n : Nd) (l : List Nat) : Nd := { n with whole := true, list := n.list ++ l }
def fillI (root : Nat) (s : Pf) (l : List Rul) : List Rul → List Nd → Nat → List Nd × Nat
  | [], ar, ent => (ar, ent)
  | r :: rs, ar, ent => if withinB s r.src = false then fillI root s l rs ar ent
    else if (ndAt (downI ar root (bitsOf r.dA r.dL.toNat)).1 (downI ar root (bitsOf r.dA r.dL.toNat)).2).whole = true then fillI root s l rs (downI ar root (bitsOf r.dA r.dL.toNat)).1 ent
    else fillI root s l rs ((downI ar root (bitsOf r.dA r.dL.toNat)).1.set (downI ar root (bitsOf r.dA r.dL.toNat)).2 ((ndAt (downI ar root (bitsOf r.dA r.dL.toNat)).1 (downI ar root (bitsOf r.dA r.dL.toNat)).2).full (idxTo l s r.dst l.length))) (ent + (idxTo l s r.dst l.length).length)
theorem ndAt_set {ar : List Nd} {i : Nat} (hi : i < ar.length) (n : Nd) : ndAt (ar.set i n) i = n := by
  unfold ndAt
  rw [List.getD_eq_getElem?_getD, List.getElem?_set_self hi]
  rfl
theorem WF.same {ar : List Nd} (w : WF ar) {i : Nat} (hi : i < ar.length) {n : Nd} (h0 : n.k0 = (ndAt ar i).k0) (h1 : n.k1 = (ndAt ar i).k1) (h2 : n.hang = (ndAt ar i).hang) : WF (ar.set i n) := w.set i (by rw [h0, h1, h2]; exact w.ok _ (ndAt_mem hi))
/-- The rules' prefixes are of lengths that may be. -/
def Lok (l : List Rul) : Prop := ∀ r, r ∈ l → (0 ≤ r.sL ∧ r.sL ≤ 32) ∧ (0 ≤ r.dL ∧ r.dL ≤ 32)
theorem fill_l6 {b : Nat} {cfv : List Value} {root : Int} {l : List Rul} {A : Option Addr} {c : Nat} (hl : l.length ≤ 64) {s : Pf} {r : Rul} {a11 ad : Addr} {d : Nat} {B : Option Addr} {lb cb : Nat} {x13 x14 : Int} {n0 : Nd} {ar0 : List Nd} {ent0 : Nat} (hd : d < ar0.length) (hn0 : n0 = ndAt ar0 d) (hll : n0.list.length ≤ 100000) (hent : ent0 ≤ 900000000)
    {K0 : (Option Addr) → Int → (Option Addr) → Nat → Nat → Addr → (Option Addr) → Nat → Nat → Int → Int → Hp → Prop} :
    ∀ (x i : Nat) (h : Hp) (S : Nat → Prop), i + x = l.length → ArN h b S cfv (ar0.set d (n0.full (idxTo l s r.dst i))) (ent0 + (idxTo l s r.dst i).length) → Pt S h a11 s.enc → Pt S h ad r.enc → ad.spot = none → Pr S h A l →
      (∀ h' S', ArN h' b S' cfv (ar0.set d (n0.full (idxTo l s r.dst l.length))) (ent0 + (idxTo l s r.dst l.length).length) → Tg S S' h h' → K0 (some ⟨b, 0, none⟩) root A l.length c a11 B lb cb x13 x14 h') →
      prune_Engine_fill_l6 (some ⟨b, 0, none⟩) root A l.length c a11 ad (d : Int) B lb cb x13 x14 A l.length c (l.length : Int) K0 (x + 1) (i : Int) h := by
  intro x
  induction x with
  | zero =>
    intro i h S hi q p1 p2 hsp pr H
    have : i = l.length := by omega
    subst this
    unfold prune_Engine_fill_l6
    exact br_f (by simp) (H h S q (Tg.refl _ _))
  | succ x ih =>
    intro i h S hi q p1 p2 hsp pr H
    unfold prune_Engine_fill_l6
    have hx : l[i]? = some l[i] := List.getElem?_eq_getElem (by omega)
    generalize l[i] = y at hx
    obtain ⟨ax, hix, hcl⟩ := ixRu (c := c) pr.rs hx
    refine br_t (by simp; omega) ⟨_, hix, _, _, _, _, _, _, _, _, _, _, _, _, ldS (vs := y.enc) hcl (by kernel_rfl), newV (us := y.enc) rfl rfl size_ru rfl fun h1 e1 c1 b1 z1 => ?_⟩
    refine ⟨_, _, ldS (vs := s.enc) (p1.cl.ext e1) (by kernel_rfl), _, _, ldS (Rul.cl_src c1) (by kernel_rfl), Within_s s y.src fun h2 e2 => ⟨_, rfl, ?_⟩⟩
    have hw : IntKind.i64.wrap ((i : Int) + 1) = ((i + 1 : Nat) : Int) := by rw [wrap_in (by omega) (by omega)]; omega
    have hil := idxTo_len l s r.dst i
    have step : ∀ h3 (e3 : Ext h2 h3) (bb : Bool), bb = inB2 s r.dst y → prune_Engine_fill_j7
      (fun (p628 : Option Addr) (x629 : Int) (A630 : Option Addr) (l630 : Nat) (c630 : Nat) (a631 : Addr) (a632 : Addr) (x633 : Int) (A634 : Option Addr) (l634 : Nat) (c634 : Nat) (x635 : Int) (x636 : Int) (A637 : Option Addr) (l637 : Nat) (c637 : Nat) (x638 : Int) (x639 : Int) (h640 : Hp) =>
        prune_Engine_fill_l6 (some ⟨b, 0, none⟩) root A l.length c a11 ad (d : Int) B lb cb x13 x14 A l.length c (l.length : Int) K0 (x + 1) (IntKind.i64.wrap (x639 + 1)) h640)
      (some ⟨b, 0, none⟩) root A l.length c a11 ad (d : Int) (i : Int) B lb cb x13 x14 A l.length c (l.length : Int) (i : Int) bb h3 := fun h3 e3 bb hbb => by
      have e03 := (e1.trans e2).trans e3
      refine j7_s (q.ext e03) (by rw [List.length_set]; exact hd) (by rw [ndAt_set hd]; show (n0.list ++ _).length ≤ _; rw [List.length_append]; omega) (by omega) bb fun h4 S4 q4 t4 => ?_
      have t04 : Tg S S4 h h4 := (Ext.tg e03).trans t4
      show prune_Engine_fill_l6 _ _ _ _ _ _ _ _ _ _ _ _ _ _ _ _ _ K0 (x + 1) (IntKind.i64.wrap ((i : Int) + 1)) h4
      rw [hw]
      refine ih (i + 1) h4 S4 (by omega) ?_ (p1.tg t04) (p2.tg t04) hsp (pr.tg t04) fun h5 S5 q5 t5 => H h5 S5 q5 (t04.trans t5)
      rw [idxTo_s hx, ← hbb]
      rw [ndAt_set hd, List.set_set] at q4
      cases bb
      · exact q4
      · have e1 : (n0.full (idxTo l s r.dst i)).put i = n0.full (idxTo l s r.dst i ++ [i]) := by simp [Nd.full, Nd.put]
        rw [if_pos rfl, if_pos rfl, e1] at q4
        rw [if_pos rfl, List.length_append, List.length_singleton]
        exact q4
    refine br_i (fun u => ?_) (fun u => ?_)
    · have e12 := e1.trans e2
      refine ⟨_, _, ldS (Rul.cl_dst (p2.cl.ext e12)) (by kernel_rfl), _, _, ldS (Rul.cl_dst (c1.ext e2)) (by kernel_rfl), Within_s r.dst y.dst fun h3 e3 => ⟨_, rfl, ?_⟩⟩
      exact step h3 e3 _ (by unfold inB2; rw [u, Bool.true_and])
    · exact step h2 (Ext.refl _) false (by unfold inB2; rw [u, Bool.false_and])
theorem fill_ok (root : Nat) (s : Pf) (l : List Rul) : ∀ (rs : List Rul) (ar : List Nd) (ent : Nat), WF ar → root < ar.length → WF (fillI root s l rs ar ent).1 ∧ ar.length ≤ (fillI root s l rs ar ent).1.length
  | [], ar, ent, w, hr => ⟨w, Nat.le_refl _⟩
  | r :: rs, ar, ent, w, hr => by
    rw [fillI]
    obtain ⟨w1, d1, l1, _⟩ := down_ok (bitsOf r.dA r.dL.toNat) ar root w hr
    split
    · exact fill_ok root s l rs ar ent w hr
    · split
      · have := fill_ok root s l rs _ ent w1 (by omega)
        exact ⟨this.1, by omega⟩
      · have := fill_ok root s l rs _ (ent + (idxTo l s r.dst l.length).length) (w1.same d1 (n := (ndAt (downI ar root (bitsOf r.dA r.dL.toNat)).1 (downI ar root (bitsOf r.dA r.dL.toNat)).2).full (idxTo l s r.dst l.length)) rfl rfl rfl) (by rw [List.length_set]; omega)
        rw [List.length_set] at this
        exact ⟨this.1, by omega⟩
/-- What is not whole has no list. -/
def LN (ar : List Nd) : Prop := ∀ n, n ∈ ar → n.whole = false → n.list = []
theorem LN.snoc {ar : List Nd} (w : LN ar) : LN (ar ++ [zNd]) := fun n hn hw => by
  rcases List.mem_append.1 hn with h | h
  · exact w n h hw
  · rw [List.mem_singleton.1 h]; rfl
theorem LN.set {ar : List Nd} (w : LN ar) (i : Nat) {n : Nd} (hn : n.whole = false → n.list = []) : LN (ar.set i n) := fun x hx hw => by
  rcases List.mem_or_eq_of_mem_set hx with h | h
  · exact w x h hw
  · subst h; exact hn hw
theorem down_LN : ∀ (bs : List Bool) (ar : List Nd) (i : Nat), LN ar → WF ar → i < ar.length → LN (downI ar i bs).1
  | [], ar, i, w, _, _ => w
  | b :: bs, ar, i, w, wf, hi => by
    rw [downI]
    split
    · refine down_LN bs _ ar.length (w.snoc.set i fun hw => ?_) (wf.grow hi b) (by simp)
      have := w (ndAt ar i) (ndAt_mem hi)
      cases b <;> exact this hw
    · exact down_LN bs ar _ w wf (wf.kid hi b)
theorem fill_LN (root : Nat) (s : Pf) (l : List Rul) : ∀ (rs : List Rul) (ar : List Nd) (ent : Nat), LN ar → WF ar → root < ar.length → LN (fillI root s l rs ar ent).1
  | [], ar, ent, w, _, _ => w
  | r :: rs, ar, ent, w, wf, hr => by
    rw [fillI]
    obtain ⟨w1, d1, l1, _⟩ := down_ok (bitsOf r.dA r.dL.toNat) ar root wf hr
    have n1 := down_LN (bitsOf r.dA r.dL.toNat) ar root w wf hr
    split
    · exact fill_LN root s l rs ar ent w wf hr
    · split
      · exact fill_LN root s l rs _ ent n1 w1 (by omega)
      · exact fill_LN root s l rs _ _ (n1.set _ fun h => by cases h) (w1.same d1 rfl rfl rfl) (by rw [List.length_set]; omega)
theorem fill_len (root : Nat) (s : Pf) (l : List Rul) (hl : Lok l) : ∀ (rs : List Rul) (ar : List Nd) (ent : Nat), (∀ r, r ∈ rs → r ∈ l) → WF ar → root < ar.length → (fillI root s l rs ar ent).1.length ≤ ar.length + 32 * rs.length ∧ (fillI root s l rs ar ent).2 ≤ ent + l.length * rs.length
  | [], ar, ent, _, wf, hr => ⟨Nat.le_refl _, Nat.le_refl _⟩
  | r :: rs, ar, ent, hm, wf, hr => by
    rw [fillI]
    obtain ⟨w1, d1, l1, l2⟩ := down_ok (bitsOf r.dA r.dL.toNat) ar root wf hr
    rw [bits_len] at l2
    have hr32 := (hl r (hm r (by simp))).2
    have hm' : ∀ r, r ∈ rs → r ∈ l := fun r h => hm r (by simp [h])
    rw [List.length_cons, Nat.mul_add, Nat.mul_add, Nat.mul_one, Nat.mul_one]
    split
    · have := fill_len root s l hl rs ar ent hm' wf hr
      omega
    · split
      · have := fill_len root s l hl rs (downI ar root (bitsOf r.dA r.dL.toNat)).1 ent hm' w1 (by omega)
        omega
      · have := fill_len root s l hl rs ((downI ar root (bitsOf r.dA r.dL.toNat)).1.set (downI ar root (bitsOf r.dA r.dL.toNat)).2 ((ndAt (downI ar root (bitsOf r.dA r.dL.toNat)).1 (downI ar root (bitsOf r.dA r.dL.toNat)).2).full (idxTo l s r.dst l.length))) (ent + (idxTo l s r.dst l.length).length) hm' (w1.same d1 rfl rfl rfl) (by rw [List.length_set]; omega)
        rw [List.length_set] at this
        have h2 := idxTo_len l s r.dst l.length
        omega
theorem fill_l4 {b : Nat} {cfv : List Value} {root : Nat} {l : List Rul} {A : Option Addr} {c : Nat} (hl : l.length ≤ 64) (lok : Lok l) {s : Pf} {a11 : Addr} {K0 : Hp → Prop} :
    ∀ (rs done : List Rul) (h : Hp) (S : Nat → Prop) (ar : List Nd) (ent : Nat), l = done ++ rs → ArN h b S cfv ar ent → WF ar → LN ar → root < ar.length → ar.length + 32 * rs.length ≤ 700000000 → ent + 64 * rs.length ≤ 700000000 → Pt S h a11 s.enc → Pr S h A l →
      (∀ h' S', ArN h' b S' cfv (fillI root s l rs ar ent).1 (fillI root s l rs ar ent).2 → Tg S S' h h' → K0 h') →
      prune_Engine_fill_l4 (some ⟨b, 0, none⟩) (root : Int) A l.length c a11 A l.length c (l.length : Int) K0 (rs.length + 1) (done.length : Int) h := by
  intro rs
  induction rs with
  | nil =>
    intro done h S ar ent he q w ln hr hb1 hb2 p1 pr H
    unfold prune_Engine_fill_l4
    have : l.length = done.length := by rw [he]; simp
    exact br_f (by simp; omega) (H h S q (Tg.refl _ _))
  | cons r rs ih =>
    intro done h S ar ent he q w ln hr hb1 hb2 p1 pr H
    unfold prune_Engine_fill_l4
    have hlen : l.length = done.length + (rs.length + 1) := by rw [he]; simp
    have hx : l[done.length]? = some r := by rw [he]; simp
    have hrm : r ∈ l := List.mem_of_getElem? hx
    have hd32 := (lok r hrm).2
    rw [List.length_cons] at hb1 hb2
    obtain ⟨ax, hix, hcl⟩ := ixRu (c := c) pr.rs hx
    refine br_t (by simp; omega) ⟨_, hix, _, _, _, _, _, _, _, _, _, _, _, _, ldS (vs := r.enc) hcl (by kernel_rfl), newV (us := r.enc) rfl rfl size_ru rfl fun h1 e1 c1 b1 z1 => ?_⟩
    have hw : IntKind.i64.wrap ((done.length : Int) + 1) = ((done ++ [r]).length : Int) := by rw [wrap_in (by omega) (by omega)]; simp
    have he' : l = (done ++ [r]) ++ rs := by rw [he]; simp
    rw [fillI] at H
    refine ⟨_, _, ldS (vs := s.enc) (p1.cl.ext e1) (by kernel_rfl), _, _, ldS (Rul.cl_src c1) (by kernel_rfl), Within_s s r.src fun h2 e2 => ⟨_, rfl, ?_⟩⟩
    have e12 := e1.trans e2
    rw [hw]
    have hS0 : ¬ S h.size := fun hs => by
      obtain ⟨A', c', hs', q', _⟩ := q
      have := q'.old _ hs
      omega
    refine br_i (fun u => ?_) (fun u => ?_)
    · have u : withinB s r.src = false := by simpa using u
      rw [if_pos u] at H
      exact ih (done ++ [r]) h2 S ar ent he' (q.ext e12) w ln hr (by omega) (by omega) (p1.tg (Ext.tg e12)) (pr.ext e12) fun h3 S3 q3 t3 => H h3 S3 q3 ((Ext.tg e12).trans t3)
    · have u : ¬ withinB s r.src = false := by simpa using u
      rw [if_neg u] at H
      refine ⟨_, _, ldS (Rul.cl_dst (c1.ext e2)) (by kernel_rfl), ?_⟩
      obtain ⟨w1, d1, l1, l2⟩ := down_ok (bitsOf r.dA r.dL.toNat) ar root w hr
      have n1 := down_LN (bitsOf r.dA r.dL.toNat) ar root ln w hr
      rw [bits_len] at l2
      refine down_s (q.ext e12) w hr (by omega) r.dst (n := r.dL.toNat) (by show r.dL = _; omega) (by omega) fun h3 S3 q3 t3 => ⟨_, rfl, ?_⟩
      have t03 := (Ext.tg (S := S) e12).trans t3
      have pd : Pt S3 h3 ⟨h.size, 0, none⟩ r.enc := (⟨c1.ext e2, hS0, by have := e2.size; show h.size < _; omega⟩ : Pt S h2 ⟨h.size, 0, none⟩ r.enc).tg t3
      have p13 := p1.tg t03
      have pr3 := pr.tg t03
      show ∃ A368 l368 c368, _ ∧ _
      revert q3 H w1 d1 l1 l2 n1
      rw [show r.dst.addr = r.dA from rfl]
      generalize downI ar root (bitsOf r.dA r.dL.toNat) = D
      obtain ⟨ar1, d⟩ := D
      intro H w1 d1 l1 l2 n1 q3
      simp only at H w1 d1 l1 l2 n1 q3
      obtain ⟨A', cc, hs, q3, m⟩ := q3
      have hsl : hs.length = ar1.length := by rw [← m, List.length_map]
      obtain ⟨x, hxx, hxn⟩ := at_of m d1
      obtain ⟨g, rfl⟩ := q3.blkA (by omega)
      have hix3 : PV Tryz.prog (Instr.indexAt 72 (.slice (some ⟨g, 0, none⟩) hs.length cc) (.int .i64 (d : Int))) (.pointer (some ⟨g, d * 5, none⟩)) := ix0 (by omega) und_nd size_nd
      have hcl3 := q3.row.elem0 HNd.len hxx
      refine ⟨_, _, _, q3.ld8, _, hix3, _, ld (hcl3.at_ 3 _ rfl) (by kernel_rfl), ?_⟩
      rw [hxn]
      refine br_i (fun v => ?_) (fun v => ?_)
      · rw [if_pos v] at H
        exact ih (done ++ [r]) h3 S3 ar1 ent he' ⟨_, _, _, q3, m⟩ w1 n1 (by omega) (by omega) (by omega) p13 pr3 fun h4 S4 q4 t4 => H h4 S4 q4 (t03.trans t4)
      · rw [if_neg (by rw [v]; decide)] at H
        refine ⟨_, _, _, q3.ld8, _, hix3, ?_⟩
        have hadd : ((⟨g, d * 5, none⟩ : Addr).add 3) = ⟨g, d * 5 + 3, none⟩ := add_off rfl 3
        rw [hadd]
        refine q3.part hxx { x.nd with whole := true } rfl (us := [.bool true]) rfl (by kernel_rfl) rfl (by show 3 + 1 ≤ 5; decide) rfl fun h4 q4 f4 z4 => ⟨l.length + 1, ?_⟩
        have hl0 : (ndAt ar1 d).list = [] := n1 _ (ndAt_mem d1) v
        have t04 := t03.trans (Fr.tg f4)
        have m4 : (hs.set d (⟨{ x.nd with whole := true }, x.A, x.c⟩ : HNd)).map (·.nd) = ar1.set d ((ndAt ar1 d).full (idxTo l s r.dst 0)) := by
          rw [List.map_set, m, ← hxn]
          congr 1
          simp [Nd.full, idxTo]
        refine fill_l6 hl (s := s) (r := r) (n0 := ndAt ar1 d) (ar0 := ar1) (ent0 := ent) d1 rfl (by rw [hl0]; simp) (by omega) l.length 0 h4 S3 (by omega) ⟨_, _, _, q4, m4⟩ (p13.tg (Fr.tg f4)) (pd.tg (Fr.tg f4)) rfl (pr3.tg (Fr.tg f4)) fun h5 S5 q5 t5 => ?_
        rw [hw]
        have hil := idxTo_len l s r.dst l.length
        refine ih (done ++ [r]) h5 S5 _ _ he' q5 (w1.same d1 rfl rfl rfl) (n1.set _ fun h => by cases h) (by rw [List.length_set]; omega) (by rw [List.length_set]; omega) (by omega) (p13.tg ((Fr.tg f4).trans t5)) (pr3.tg ((Fr.tg f4).trans t5)) fun h6 S6 q6 t6 => H h6 S6 q6 (t04.trans (t5.trans t6))
theorem fill_s {b : Nat} {cfv : List Value} {root : Nat} {l : List Rul} {A : Option Addr} {c : Nat} (hl : l.length ≤ 64) (lok : Lok l) (s : Pf) {h : Hp} {S : Nat → Prop} {ar : List Nd} {ent : Nat} (q : ArN h b S cfv ar ent) (w : WF ar) (ln : LN ar) (hr : root < ar.length) (hb1 : ar.length ≤ 600000000) (hb2 : ent ≤ 600000000) (pr : Pr S h A l) {K : Value → Hp → Prop}
    (H : ∀ h' S', ArN h' b S' cfv (fillI root s l l ar ent).1 (fillI root s l l ar ent).2 → Tg S S' h h' → K (.tuple #[]) h') : CallsH Tryz.prog 41 #[.pointer (some ⟨b, 0, none⟩), .int .i64 (root : Int), s.val, .slice A l.length c] h K := by
  refine prune_Engine_fill_ok _ _ _ _ _ _ _ ?_
  unfold prune_Engine_fill
  refine newC_i (cs := s.enc) fun h1 e1 c1 b1 z1 => ⟨l.length + 1, ?_⟩
  have hS0 : ¬ S h.size := fun hs => by
    obtain ⟨A', c', hs', q', _⟩ := q
    have := q'.old _ hs
    omega
  exact fill_l4 hl lok l [] h1 S ar ent rfl (q.ext e1) w ln hr (by omega) (by omega) ⟨c1, hS0, by show h.size < _; omega⟩ (pr.ext e1) fun h2 S2 q2 t2 => H h2 S2 q2 ((Ext.tg e1).trans t2)
/-! ### build -/
def buildI (l : List Rul) : List Rul → List Nd → Nat → List Nd × Nat
  | [], ar, ent => (ar, ent)
  | r :: rs, ar, ent => if 0 < (ndAt (downI ar 1 (bitsOf r.sA r.sL.toNat)).1 (downI ar 1 (bitsOf r.sA r.sL.toNat)).2).hang then buildI l rs (downI ar 1 (bitsOf r.sA r.sL.toNat)).1 ent
    else buildI l rs (fillI (downI ar 1 (bitsOf r.sA r.sL.toNat)).1.length r.src l l (((downI ar 1 (bitsOf r.sA r.sL.toNat)).1 ++ [zNd]).set (downI ar 1 (bitsOf r.sA r.sL.toNat)).2 { ndAt (downI ar 1 (bitsOf r.sA r.sL.toNat)).1 (downI ar 1 (bitsOf r.sA r.sL.toNat)).2 with hang := (downI ar 1 (bitsOf r.sA r.sL.toNat)).1.length }) ent).1
        (fillI (downI ar 1 (bitsOf r.sA r.sL.toNat)).1.length r.src l l (((downI ar 1 (bitsOf r.sA r.sL.toNat)).1 ++ [zNd]).set (downI ar 1 (bitsOf r.sA r.sL.toNat)).2 { ndAt (downI ar 1 (bitsOf r.sA r.sL.toNat)).1 (downI ar 1 (bitsOf r.sA r.sL.toNat)).2 with hang := (downI ar 1 (bitsOf r.sA r.sL.toNat)).1.length }) ent).2
theorem hang_ok {ar : List Nd} (w : WF ar) (ln : LN ar) {d : Nat} (hd : d < ar.length) : WF ((ar ++ [zNd]).set d { ndAt ar d with hang := ar.length }) ∧ LN ((ar ++ [zNd]).set d { ndAt ar d with hang := ar.length }) := by
  have h0 := w.ok _ (ndAt_mem hd)
  refine ⟨w.snoc.set d ?_, ln.snoc.set d (fun h => ln (ndAt ar d) (ndAt_mem hd) h)⟩
  rw [List.length_append, List.length_singleton]
  exact ⟨Nat.lt_succ_of_lt h0.1, Nat.lt_succ_of_lt h0.2.1, Nat.lt_succ_self _⟩
theorem build_l1 {b : Nat} {cfv : List Value} {l : List Rul} {A : Option Addr} {c : Nat} (hl : l.length ≤ 64) (lok : Lok l) {K0 : Hp → Prop} :
    ∀ (rs done : List Rul) (h : Hp) (S : Nat → Prop) (ar : List Nd) (ent : Nat), l = done ++ rs → ArN h b S cfv ar ent → WF ar → LN ar → 1 < ar.length → ar.length + 4000 * rs.length ≤ 500000 → ent + 4096 * rs.length ≤ 500000 → Pr S h A l →
      (∀ h' S', ArN h' b S' cfv (buildI l rs ar ent).1 (buildI l rs ar ent).2 → Tg S S' h h' → WF (buildI l rs ar ent).1 → 1 < (buildI l rs ar ent).1.length → (buildI l rs ar ent).1.length ≤ 500000 → LN (buildI l rs ar ent).1 → K0 h') →
      prune_Engine_build_l1 (some ⟨b, 0, none⟩) A l.length c A l.length c (l.length : Int) K0 (rs.length + 1) (done.length : Int) h := by
  intro rs
  induction rs with
  | nil =>
    intro done h S ar ent he q w ln hr hb1 hb2 pr H
    unfold prune_Engine_build_l1
    have : l.length = done.length := by rw [he]; simp
    exact br_f (by simp; omega) (H h S q (Tg.refl _ _) w hr (by rw [buildI]; omega) ln)
  | cons r rs ih =>
    intro done h S ar ent he q w ln hr hb1 hb2 pr H
    unfold prune_Engine_build_l1
    have hlen : l.length = done.length + (rs.length + 1) := by rw [he]; simp
    have hx : l[done.length]? = some r := by rw [he]; simp
    have hrm : r ∈ l := List.mem_of_getElem? hx
    have hs32 := (lok r hrm).1
    rw [List.length_cons] at hb1 hb2
    obtain ⟨ax, hix, hcl⟩ := ixRu (c := c) pr.rs hx
    refine br_t (by simp; omega) ⟨_, hix, _, _, _, _, _, _, _, _, _, _, _, _, ldS (vs := r.enc) hcl (by kernel_rfl), newV (us := r.enc) rfl rfl size_ru rfl fun h1 e1 c1 b1 z1 => ?_⟩
    have hw : IntKind.i64.wrap ((done.length : Int) + 1) = ((done ++ [r]).length : Int) := by rw [wrap_in (by omega) (by omega)]; simp
    have he' : l = (done ++ [r]) ++ rs := by rw [he]; simp
    have hS0 : ¬ S h.size := fun hs => by
      obtain ⟨A', c', hs', q', _⟩ := q
      have := q'.old _ hs
      omega
    rw [buildI] at H
    refine ⟨_, _, ldS (Rul.cl_src c1) (by kernel_rfl), ?_⟩
    obtain ⟨w1, d1, l1, l2⟩ := down_ok (bitsOf r.sA r.sL.toNat) ar 1 w hr
    have n1 := down_LN (bitsOf r.sA r.sL.toNat) ar 1 ln w hr
    rw [bits_len] at l2
    refine down_s (i := 1) (q.ext e1) w hr (by omega) r.src (n := r.sL.toNat) (by show r.sL = _; omega) (by omega) fun h3 S3 q3 t3 => ⟨_, rfl, ?_⟩
    have t03 := (Ext.tg (S := S) e1).trans t3
    have pd : Pt S3 h3 ⟨h.size, 0, none⟩ r.enc := (⟨c1, hS0, by show h.size < _; omega⟩ : Pt S h1 ⟨h.size, 0, none⟩ r.enc).tg t3
    have pr3 := pr.tg t03
    show ∃ A368 l368 c368, _ ∧ _
    revert q3 H w1 d1 l1 l2 n1
    rw [show r.src.addr = r.sA from rfl]
    generalize downI ar 1 (bitsOf r.sA r.sL.toNat) = D
    obtain ⟨ar1, d⟩ := D
    intro H w1 d1 l1 l2 n1 q3
    simp only at H w1 d1 l1 l2 n1 q3
    obtain ⟨A', cc, hs, q3, m⟩ := q3
    have hsl : hs.length = ar1.length := by rw [← m, List.length_map]
    obtain ⟨x, hxx, hxn⟩ := at_of m d1
    obtain ⟨g, rfl⟩ := q3.blkA (by omega)
    have hix3 : PV Tryz.prog (Instr.indexAt 72 (.slice (some ⟨g, 0, none⟩) hs.length cc) (.int .i64 (d : Int))) (.pointer (some ⟨g, d * 5, none⟩)) := ix0 (by omega) und_nd size_nd
    have hcl3 := q3.row.elem0 HNd.len hxx
    refine ⟨_, _, _, q3.ld8, _, hix3, _, ld (hcl3.at_ 2 _ rfl) (by kernel_rfl), ?_⟩
    rw [hxn, hw]
    refine br_i (fun v => ?_) (fun v => ?_)
    · have v : 0 < (ndAt ar1 d).hang := by simp at v; omega
      rw [if_pos v] at H
      exact ih (done ++ [r]) h3 S3 ar1 ent he' ⟨_, _, _, q3, m⟩ w1 n1 (by omega) (by omega) (by omega) pr3 fun h4 S4 q4 t4 => H h4 S4 q4 (t03.trans t4)
    · have v : ¬ 0 < (ndAt ar1 d).hang := by simp at v; omega
      rw [if_neg v] at H
      refine fresh_s q3 (by omega) fun h4 S4 A4 c4 q4 t4 => ⟨_, rfl, ?_⟩
      obtain ⟨g4, rfl⟩ := q4.blkA (by simp)
      have hix4 : PV Tryz.prog (Instr.indexAt 72 (.slice (some ⟨g4, 0, none⟩) (hs ++ [zH]).length c4) (.int .i64 (d : Int))) (.pointer (some ⟨g4, d * 5, none⟩)) := ix0 (by rw [List.length_append]; omega) und_nd size_nd
      refine ⟨_, _, _, q4.ld8, _, hix4, ?_⟩
      have hadd : ((⟨g4, d * 5, none⟩ : Addr).add 2) = ⟨g4, d * 5 + 2, none⟩ := add_off rfl 2
      rw [hadd]
      have hx4 : (hs ++ [zH])[d]? = some x := by rw [List.getElem?_append_left (by omega)]; exact hxx
      refine q4.part hx4 { x.nd with hang := hs.length } rfl (us := [.int .i64 (hs.length : Int)]) rfl (by kernel_rfl) rfl (by show 2 + 1 ≤ 5; decide) rfl fun h5 q5 f5 z5 => ?_
      have t05 := (t03.trans t4).trans (Fr.tg f5)
      have pd5 := (pd.tg t4).tg (Fr.tg f5)
      have pr5 := (pr3.tg t4).tg (Fr.tg f5)
      refine ⟨_, _, ldS (Rul.cl_src pd5.cl) (by kernel_rfl), ?_⟩
      have m5 : ((hs ++ [zH]).set d (⟨{ x.nd with hang := hs.length }, x.A, x.c⟩ : HNd)).map (·.nd) = (ar1 ++ [zNd]).set d { ndAt ar1 d with hang := ar1.length } := by
        rw [List.map_set, List.map_append, m, ← hxn, hsl]
        rfl
      obtain ⟨w5, n5⟩ := hang_ok w1 n1 d1
      have hlen5 : ((ar1 ++ [zNd]).set d { ndAt ar1 d with hang := ar1.length }).length = ar1.length + 1 := by simp
      have q5N : ArN h5 b S4 cfv ((ar1 ++ [zNd]).set d { ndAt ar1 d with hang := ar1.length }) ent := ⟨_, _, _, q5, m5⟩
      have hfl := fill_len ar1.length r.src l lok l ((ar1 ++ [zNd]).set d { ndAt ar1 d with hang := ar1.length }) ent (fun r h => h) w5 (by rw [hlen5]; omega)
      rw [hlen5] at hfl
      have hmul : l.length * l.length ≤ 4096 := Nat.mul_le_mul hl hl
      have hfo := fill_ok ar1.length r.src l l ((ar1 ++ [zNd]).set d { ndAt ar1 d with hang := ar1.length }) ent w5 (by rw [hlen5]; omega)
      rw [hlen5] at hfo
      rw [hsl]
      refine fill_s hl lok r.src q5N w5 n5 (root := ar1.length) (by rw [hlen5]; omega) (by rw [hlen5]; omega) (by omega) pr5 fun h6 S6 q6 t6 => ⟨rfl, ?_⟩
      exact ih (done ++ [r]) h6 S6 _ _ he' q6 hfo.1 (fill_LN _ _ _ _ _ _ n5 w5 (by rw [hlen5]; omega)) (by omega) (by omega) (by omega) (pr5.tg t6) fun h7 S7 q7 t7 => H h7 S7 q7 (t05.trans (t6.trans t7))
end Go.Proofs.YtomhkbhgpmcbiaaGreat.Fs
