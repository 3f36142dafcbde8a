/- Tries in an arena: cut. -/
import Derived.Test.YtofjbbfnkefoaaaTrPure5
namespace Go.Proofs.Ytofjbbfnkefoaaa.Fs
open Go Go.RowKit Go.Proofs.Ytofjbbfnkefoaaa.Sx Go.Proofs.Ytofjbbfnkefoaaa.Tp
set_option linter.unusedVariables false
set_option linter.unusedSimpArgs false
set_option maxRecDepth 10000
def upr : List Bool → Tr → Tr
  | [], t => t
  | b :: p, t => t.setSub b (Tr.mkd (upr p (t.sub b)))
theorem set_set (t : Tr) (b : Bool) (x y : Tr) : (t.setSub b x).setSub b y = t.setSub b y := by cases b <;> rfl
theorem cut_upr : ∀ (p : List Bool) (T : Tr), Tr.cut p T = (upr p (repl p (.node none (subt p T).l (subt p T).r) T)).mkd
  | [], T => rfl
  | b :: p, T => by
    rw [Tr.cut, cut_upr p (T.sub b), upr, repl, set_set, Tr.sub_set, if_pos rfl]
    rfl
theorem mkd_set {t : Tr} {b : Bool} {s : Tr} (h : s ≠ .nil) : (t.setSub b s).mkd = t.setSub b s := by
  cases b
  · show Tr.mk t.h s t.r = _
    rw [Tr.mk, if_neg (fun e => h e.2.1)]; rfl
  · show Tr.mk t.h t.l s = _
    rw [Tr.mk, if_neg (fun e => h e.2.2)]; rfl
theorem mkd_h {t : Tr} (h : t.h ≠ none) : t.mkd = t := by
  cases t with
  | nil => rfl
  | node x l r => show Tr.mk x l r = _; rw [Tr.mk, if_neg (fun e => h e.1)]
theorem mkd_kid {t : Tr} (h : ¬ (t.l = .nil ∧ t.r = .nil)) : t.mkd = t := by
  cases t with
  | nil => rfl
  | node x l r => show Tr.mk x l r = _; rw [Tr.mk, if_neg (fun e => h e.2)]
def Pls (ns : List Node) : Nat → List Bool → List Nat
  | _, [] => []
  | i, b :: p => match ns[i]? with
    | some x => (x.kid (bi b)).toNat :: Pls ns (x.kid (bi b)).toNat p
    | none => []
theorem path_go {ns : List Node} {w key n : Int} : ∀ (p : List Bool) (T : Tr) (i : Nat) (fp : List Nat) (d f : Nat) (ps : List Int), Rep ns T i fp → T ≠ .nil → Tr.hv p T = p.length + 1 → Bits w key d p → n = ((d + p.length : Nat) : Int) → p.length < f → ps.length = d + 1 → ps[d]? = some (i : Int) → d + p.length ≤ 900 →
    pathT ns w key n f (d : Int) ps = some (ps ++ (Pls ns i p).map fun (k : Nat) => (k : Int)) ∧ (Pls ns i p).length = p.length := by
  intro p
  induction p with
  | nil =>
    intro T i fp d f ps hr hT hv hb hn hf hl hi hd
    obtain ⟨f, rfl⟩ : ∃ f', f = f' + 1 := ⟨f - 1, by simp at hf; omega⟩
    rw [pathT, if_neg (by simp at hn; omega)]
    simp [Pls]
  | cons b p ih =>
    intro T i fp d f ps hr hT hv hb hn hf hl hi hd
    obtain ⟨f, rfl⟩ : ∃ f', f = f' + 1 := ⟨f - 1, by simp at hf; omega⟩
    rw [List.length_cons] at hv hn hf hd
    obtain ⟨k, o, f1, g0, hx, h1, h2, hp, z1, z2⟩ := hr.open_ hT b
    have hhv : Tr.hv (b :: p) T = Tr.hv p (T.sub b) + 1 := by
      cases T with
      | nil => exact absurd rfl hT
      | node x l r => rfl
    have hs : T.sub b ≠ .nil := fun e => by rw [hhv, e, Tr.hv_nil] at hv; omega
    obtain ⟨hb0, hb1⟩ := hb
    have := ih (T.sub b) k f1 (d + 1) f (ps ++ [(k : Int)]) h1 hs (by omega) (by exact_mod_cast hb1) (by omega) (by omega) (by simp [hl]) (by rw [List.getElem?_append_right (by omega), hl]; simp) (by omega)
    have hP : Pls ns i (b :: p) = k :: Pls ns k p := by rw [Pls, hx]; simp only [mkN_kid, Int.toNat_natCast]
    rw [hP]
    refine ⟨?_, by rw [List.length_cons, List.length_cons, this.2]⟩
    rw [pathT, if_pos (by omega), if_pos ⟨by omega, by rw [hb0]; exact bi01 b, by omega⟩, Int.toNat_natCast, hi]
    simp only
    rw [if_neg (by omega), Int.toNat_natCast, hx]
    simp only [hb0, mkN_kid]
    have e : ((d + 1 : Nat) : Int) = (d : Int) + 1 := by omega
    rw [← e, this.1]
    simp
theorem give_st {t : TT} {U fs : List Nat} {k : Nat} (s : St t (k :: U) fs) (h0 : k ≠ 0) : St (giveT t k) U (k :: fs) := by
  have hlt := s.lt k (by simp)
  have hkf := s.off (k := k) (by simp)
  have hnd := s.nd
  rw [List.cons_append, List.nodup_cons, List.mem_append, not_or] at hnd
  refine ⟨⟨rfl, by omega, ⟨t.free, 0, false, 0⟩, ?_, ?_⟩, ?_, ?_, ?_, ?_, ?_⟩
  · show (t.ns.set k _)[k]? = _
    rw [List.getElem?_set_self hlt]
  · refine s.chain.frame fun m hm => ?_
    have hne : k ≠ m := fun e => hkf (e ▸ hm)
    show (t.ns.set k _)[m]? = _
    rw [List.getElem?_set_ne hne]
  · refine (List.perm_middle.nodup_iff).2 ?_
    rw [List.nodup_cons, List.mem_append, not_or]
    exact hnd
  · have := s.len
    show _ = (t.ns.set k _).length
    rw [List.length_set, ← this]
    simp; omega
  · intro m hm
    show _ < (t.ns.set k _).length
    rw [List.length_set]
    exact s.lt m (by simp [hm])
  · show t.nodes - 1 = _
    rw [s.nodes]; simp
  · have := s.zero
    rcases List.mem_cons.1 this with e | e
    · exact absurd e.symm h0
    · exact e
theorem up_go {w key : Int} {qs : List Int} : ∀ (p : List Bool) (T : Tr) (i : Nat) (fp : List Nat) (d : Nat) (t : TT) (U fs : List Nat), Rep t.ns T i fp → T ≠ .nil → Tr.hv p T = p.length + 1 → fp.Nodup → St t U fs → (∀ k, k ∈ fp → k ∈ U) → Bits w key d p → ((d + p.length : Nat) : Int) ≤ w → t.ns.length ≤ 1100000 →
    qs[d]? = some (i : Int) → (∀ m k : Nat, (Pls t.ns i p)[m]? = some k → qs[d + 1 + m]? = some (k : Int)) →
    ∃ (t' : TT) (U' fs' fp' gone : List Nat), Rep t'.ns (upr p T) i fp' ∧ upr p T ≠ .nil ∧ St t' U' fs' ∧ U.Perm (gone ++ U') ∧ fp.Perm (gone ++ fp') ∧ (∀ k, k ∉ fp → t'.ns[k]? = t.ns[k]?) ∧ t'.ns.length = t.ns.length ∧ t'.width = t.width ∧ t'.most = t.most ∧ t'.rooted = t.rooted ∧
      ((∀ f, upT w key qs (f + p.length) ((d + p.length : Nat) : Int) t = upT w key qs f (d : Int) t') ∨ ((upr p T).mkd = upr p T ∧ ∀ f, upT w key qs (f + p.length + 1) ((d + p.length : Nat) : Int) t = some t')) := by
  intro p
  induction p with
  | nil =>
    intro T i fp d t U fs hr hT hv hnd st hU hb hw hl hq hqs
    exact ⟨t, U, fs, fp, [], hr, hT, st, List.Perm.refl _, List.Perm.refl _, fun k hk => rfl, rfl, rfl, rfl, rfl, .inl fun f => rfl⟩
  | cons b p ih =>
    intro T i fp d t U fs hr hT hv hnd st hU hb hw hl hq hqs
    rw [List.length_cons] at hv hw
    obtain ⟨k, o, f1, g0, hx, h1, h2, hp, z1, z2⟩ := hr.open_ hT b
    have hhv : Tr.hv (b :: p) T = Tr.hv p (T.sub b) + 1 := by
      cases T with
      | nil => exact absurd rfl hT
      | node x l r => rfl
    have hs : T.sub b ≠ .nil := fun e => by rw [hhv, e, Tr.hv_nil] at hv; omega
    have hk0 : k ≠ 0 := fun e => hs ((h1.kid0 z1).1 e)
    obtain ⟨hb0, hb1⟩ := hb
    have hnd' := hp.nodup_iff.1 hnd
    have hif := (List.nodup_cons.1 hnd').1
    have hnd2 := List.nodup_append.1 (List.nodup_cons.1 hnd').2
    have hP : Pls t.ns i (b :: p) = k :: Pls t.ns k p := by rw [Pls, hx]; simp only [mkN_kid, Int.toNat_natCast]
    rw [hP] at hqs
    have hqk : qs[d + 1]? = some (k : Int) := hqs 0 k rfl
    obtain ⟨t1, U1, fs1, fp1, gone, r1, ne1, st1, pU, pf, hk1, l1, w1, m1, ro1, alt⟩ := ih (T.sub b) k f1 (d + 1) t U fs h1 hs (by omega) hnd2.1 st (fun m hm => hU m (hp.mem_iff.2 (by simp [hm]))) (by exact_mod_cast hb1) (by omega) hl hqk (fun m k' hm => by
      have := hqs (m + 1) k' (by simpa using hm)
      rw [show d + 1 + 1 + m = d + 1 + (m + 1) by omega]; exact this)
    have hx1 : t1.ns[i]? = some (mkN T.h b k o) := by rw [hk1 i (fun h => hif (by simp [h])), hx]
    have hg1 : Rep t1.ns (T.sub !b) o g0 := h2.frame fun m hm => hk1 m (fun h => hnd2.2.2 m h m hm rfl)
    have z1' : 0 ∉ fp1 := fun h => z1 (pf.mem_iff.2 (List.mem_append_right _ h))
    have hsub1 : ∀ m, m ∈ fp1 → m ∈ f1 := fun m hm => pf.mem_iff.2 (List.mem_append_right _ hm)
    have hsz : d + (b :: p).length = d + 1 + p.length := by rw [List.length_cons]; omega
    have hfps : ∀ m, m ∉ fp → m ≠ i ∧ m ∉ f1 := fun m hm => ⟨fun e => hm (hp.mem_iff.2 (by simp [e])), fun h => hm (hp.mem_iff.2 (by simp [h]))⟩
    have stop : (upr p (T.sub b)).mkd = upr p (T.sub b) → (∀ f, upT w key qs (f + 1 + p.length + 1) ((d + 1 + p.length : Nat) : Int) t = some t1) → ∃ (t' : TT) (U' fs' fp' gone : List Nat), Rep t'.ns (upr (b :: p) T) i fp' ∧ upr (b :: p) T ≠ .nil ∧ St t' U' fs' ∧ U.Perm (gone ++ U') ∧ fp.Perm (gone ++ fp') ∧ (∀ k, k ∉ fp → t'.ns[k]? = t.ns[k]?) ∧ t'.ns.length = t.ns.length ∧ t'.width = t.width ∧ t'.most = t.most ∧ t'.rooted = t.rooted ∧
      ((∀ f, upT w key qs (f + (b :: p).length) ((d + (b :: p).length : Nat) : Int) t = upT w key qs f (d : Int) t') ∨ ((upr (b :: p) T).mkd = upr (b :: p) T ∧ ∀ f, upT w key qs (f + (b :: p).length + 1) ((d + (b :: p).length : Nat) : Int) t = some t')) := by
      intro hm hf
      obtain ⟨fp', hr', hp'⟩ := Rep.shut_ hx1 r1 hg1 z1' z2
      have hu : upr (b :: p) T = T.setSub b (upr p (T.sub b)) := by rw [upr, hm]
      refine ⟨t1, U1, fs1, fp', gone, by rw [hu, setSub_nodeC]; exact hr', by rw [hu]; exact Tr.set_ne _ _ _, st1, pU, ?_, fun m hm' => hk1 m (hfps m hm').2, l1, w1, m1, ro1, .inr ⟨by rw [hu]; exact mkd_set ne1, fun f => ?_⟩⟩
      · refine hp.trans ?_
        refine (List.Perm.cons i (pf.append_right g0)).trans ?_
        rw [List.append_assoc]
        exact (List.perm_middle (l₁ := gone) (l₂ := fp1 ++ g0) (a := i)).symm.trans (List.Perm.append_left gone hp'.symm)
      · rw [hsz, List.length_cons, show f + (p.length + 1) + 1 = f + 1 + p.length + 1 by omega]
        exact hf f
    rcases alt with alt | ⟨hm, alt⟩
    · obtain ⟨a, o', fa, fb, hy, ha, hb', hpc, za, zb⟩ := r1.open_ ne1 false
      have ha0 : (a : Int) = 0 ↔ (upr p (T.sub b)).l = .nil := by rw [show (a : Int) = 0 ↔ a = 0 by omega]; exact ha.kid0 za
      have hb0' : (o' : Int) = 0 ↔ (upr p (T.sub b)).r = .nil := by rw [show (o' : Int) = 0 ↔ o' = 0 by omega]; exact hb'.kid0 zb
      have e0 : (((d + 1 : Nat) : Int)).toNat = d + 1 := by omega
      have hstep : ∀ f, upT w key qs (f + 1) ((d + 1 : Nat) : Int) t1 = if (upr p (T.sub b)).h.isSome = true then some t1 else if (a : Int) = 0 ∧ (o' : Int) = 0 then upT w key qs f (d : Int) (giveT { t1 with ns := t1.ns.set i (mkN T.h b 0 o) } k) else some t1 := by
        intro f
        have hge : ((d + 1 : Nat) : Int) ≥ 0 := by omega
        rw [upT, if_pos hge, e0, hqk]
        simp only
        rw [if_neg (by omega), Int.toNat_natCast, hy]
        simp only [mkN_held]
        have hk01 : (mkN (upr p (T.sub b)).h false a o').k0 = a ∧ (mkN (upr p (T.sub b)).h false a o').k1 = o' := ⟨rfl, rfl⟩
        rw [hk01.1, hk01.2]
        by_cases c1 : (upr p (T.sub b)).h.isSome = true
        · rw [if_pos c1, if_pos c1]
        · rw [if_neg c1, if_neg c1]
          by_cases c2 : (a : Int) = 0 ∧ (o' : Int) = 0
          · rw [if_pos c2, if_pos c2]
            have hnodes : 0 ≤ t1.nodes ∧ t1.nodes ≤ 2 ^ 60 := by
              have := st1.nodes
              have := st1.len
              omega
            rw [if_pos hnodes, if_neg (by omega)]
            have e1 : (((d + 1 : Nat) : Int) - 1).toNat = d := by omega
            have e2 : ((d + 1 : Nat) : Int) - 1 = (d : Int) := by omega
            rw [e1, hq, e2]
            simp only
            have hbb : bitT w key (d : Int) = 0 ∨ bitT w key (d : Int) = 1 := by rw [hb0]; exact bi01 b
            rw [if_neg (by omega), Int.toNat_natCast, hx1, hb0]
            simp only
            have := mkN_set T.h b k o 0
            rw [show ((0 : Nat) : Int) = 0 from rfl] at this
            rw [this]
          · rw [if_neg c2, if_neg c2]
      by_cases hh : (upr p (T.sub b)).h.isSome = true
      · refine stop (mkd_h (fun e => by rw [e] at hh; cases hh)) fun f => ?_
        rw [show f + 1 + p.length + 1 = (f + 1 + 1) + p.length by omega, alt, hstep, if_pos hh]
      · by_cases hkk : (a : Int) = 0 ∧ (o' : Int) = 0
        · have hl' := ha0.1 hkk.1
          have hr' := hb0'.1 hkk.2
          have hh' : (upr p (T.sub b)).h = none := by simpa using hh
          have hm : (upr p (T.sub b)).mkd = .nil := by rw [Tr.mkd, hl', hr', hh']; rfl
          have hfa : fa = [] := by rw [show (upr p (T.sub b)).sub false = .nil from hl'] at ha; exact ha.2
          have hfb : fb = [] := by rw [show (upr p (T.sub b)).sub (!false) = .nil from hr'] at hb'; exact hb'.2
          rw [hfa, hfb, List.append_nil] at hpc
          have hfp1 : fp1 = [k] := List.perm_singleton.1 hpc
          have hkU1 : k ∈ U1 := by
            have hkf : k ∈ f1 := hsub1 k (by rw [hfp1]; simp)
            have hkU := hU k (hp.mem_iff.2 (by simp [hkf]))
            rcases List.mem_append.1 (pU.mem_iff.1 hkU) with h | h
            · exfalso
              have hnd1 := List.nodup_append.1 (pf.nodup_iff.1 hnd2.1)
              exact hnd1.2.2 k h k (by rw [hfp1]; simp) rfl
            · exact h
          have hiU1 : i ∈ U1 := by
            have hiU := hU i (hp.mem_iff.2 (by simp))
            rcases List.mem_append.1 (pU.mem_iff.1 hiU) with h | h
            · exact absurd (by simp [pf.mem_iff.2 (List.mem_append_left _ h)]) hif
            · exact h
          have hlt1 := (List.getElem?_eq_some_iff.1 hx1).1
          have hki : k ≠ i := fun e => hif (by rw [← e]; simp [hsub1 k (by rw [hfp1]; simp)])
          have stA := (st1.set hiU1 (mkN T.h b 0 o)).perm (List.perm_cons_erase hkU1)
          have stB := give_st stA hk0
          have hns : ∀ m, m ≠ i → m ≠ k → (giveT { t1 with ns := t1.ns.set i (mkN T.h b 0 o) } k).ns[m]? = t1.ns[m]? := by
            intro m hmi hmk
            show ((t1.ns.set i _).set k _)[m]? = _
            rw [List.getElem?_set_ne (fun e => hmk e.symm), List.getElem?_set_ne (fun e => hmi e.symm)]
          have hx2 : (giveT { t1 with ns := t1.ns.set i (mkN T.h b 0 o) } k).ns[i]? = some (mkN T.h b 0 o) := by
            show ((t1.ns.set i _).set k _)[i]? = _
            rw [List.getElem?_set_ne hki, List.getElem?_set_self hlt1]
          have hkf1 : k ∈ f1 := hsub1 k (by rw [hfp1]; simp)
          obtain ⟨fp', hr2, hp'⟩ := Rep.shut_ (s := .nil) (f := []) hx2 ⟨rfl, rfl⟩ (hg1.frame fun m hm' => hns m (fun e => hif (by rw [← e]; simp [hm'])) (fun e => hnd2.2.2 k hkf1 k (e ▸ hm') rfl)) (by simp) z2
          have hu : upr (b :: p) T = T.setSub b .nil := by rw [upr, hm]
          refine ⟨_, U1.erase k, k :: fs1, fp', gone ++ [k], by rw [hu, setSub_nodeC]; exact hr2, by rw [hu]; exact Tr.set_ne _ _ _, stB, ?_, ?_, ?_, ?_, w1, m1, ro1, .inl fun f => ?_⟩
          · refine pU.trans ?_
            rw [List.append_assoc]
            exact List.Perm.append_left gone (List.perm_cons_erase hkU1)
          · refine hp.trans ?_
            refine (List.Perm.cons i (pf.append_right g0)).trans ?_
            rw [hfp1]
            refine (List.perm_middle (l₁ := gone ++ [k]) (l₂ := g0) (a := i)).symm.trans ?_
            exact List.Perm.append_left _ hp'.symm
          · intro m hm'
            have := hfps m hm'
            rw [hns m this.1 (fun e => this.2 (e ▸ hkf1)), hk1 m this.2]
          · show ((t1.ns.set i _).set k _).length = _
            rw [List.length_set, List.length_set, l1]
          · rw [hsz, List.length_cons, show f + (p.length + 1) = (f + 1) + p.length by omega, alt, hstep, if_neg hh, if_pos hkk]
        · refine stop (mkd_kid (fun e => hkk ⟨ha0.2 e.1, hb0'.2 e.2⟩)) fun f => ?_
          rw [show f + 1 + p.length + 1 = (f + 1 + 1) + p.length by omega, alt, hstep, if_neg hh, if_neg hkk]
    · exact stop hm fun f => alt (f + 1)
end Go.Proofs.Ytofjbbfnkefoaaa.Fs
