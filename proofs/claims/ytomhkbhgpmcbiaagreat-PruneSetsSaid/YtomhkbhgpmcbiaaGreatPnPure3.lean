/- What fill and build leave, in terms of the rules. Plain. -/
import Derived.Test.YtomhkbhgpmcbiaaGreatPnPure2
namespace Go.Proofs.YtomhkbhgpmcbiaaGreat.Fs
open Go Go.RowKit Go.Proofs.YtomhkbhgpmcbiaaGreat.Sx Go.Proofs.YtomhkbhgpmcbiaaGreat.Uq
set_option linter.unusedVariables false
set_option linter.unusedSimpArgs false
set_option maxRecDepth 10000
theorem idx_count (l : List Rul) (s d : Pf) : (idxTo l s d l.length).length = cntD (held l s) d := by
  have key : ∀ n, n ≤ l.length → (idxTo l s d n).length = ((l.take n).filter (inB2 s d)).length := by
    intro n
    induction n with
    | zero => intro _; rfl
    | succ n ih =>
      intro hn
      have hx : l[n]? = some l[n] := List.getElem?_eq_getElem (by omega)
      rw [idxTo_s hx, filt1 hx, ← ih (by omega)]
      split
      · rw [List.length_append, List.length_singleton]
      · rfl
  rw [key _ (Nat.le_refl _), List.take_length]
  unfold cntD held
  rw [List.filter_filter]
  congr 1
  refine List.filter_congr fun x _ => ?_
  unfold inB2
  exact Bool.and_comm _ _
/-- What is below the root, told of the rules gone through. -/
structure FI (l : List Rul) (ar : List Nd) (ad : Ads) (root : Nat) (s : Pf) (done : List Rul) : Prop where
  has : ∀ x, x ∈ done → withinB s x.src = true → ∃ k : Nat, ad[k]? = some (root, x.dst.path) ∧ (ndAt ar k).whole = true
  only : ∀ (k : Nat) q, ad[k]? = some (root, q) → (ndAt ar k).whole = true → ∃ x, x ∈ done ∧ withinB s x.src = true ∧ x.dst.path = q ∧ (ndAt ar k).list = idxTo l s x.dst l.length
/-- Outside the roots T the lists are as they were. -/
structure Outs (T : Nat → Prop) (ar : List Nd) (ad : Ads) (ar' : List Nd) (ad' : Ads) : Prop where
  old : ∀ (k : Nat) a, ad[k]? = some a → ad'[k]? = some a
  wl : ∀ (k : Nat) a, ad'[k]? = some a → ¬ T a.1 → ad[k]? = some a ∧ (ndAt ar' k).whole = (ndAt ar k).whole ∧ (ndAt ar' k).list = (ndAt ar k).list
theorem Outs.refl (T : Nat → Prop) (ar : List Nd) (ad : Ads) : Outs T ar ad ar ad := ⟨fun _ _ h => h, fun _ _ h _ => ⟨h, rfl, rfl⟩⟩
theorem Outs.trans {T : Nat → Prop} {ar ar1 ar2 : List Nd} {ad ad1 ad2 : Ads} (g : Outs T ar ad ar1 ad1) (f : Outs T ar1 ad1 ar2 ad2) : Outs T ar ad ar2 ad2 :=
  ⟨fun k a h => f.old k a (g.old k a h), fun k a h hn => by
    obtain ⟨h1, h2, h3⟩ := f.wl k a h hn
    obtain ⟨g1, g2, g3⟩ := g.wl k a h1 hn
    exact ⟨g1, h2.trans g2, h3.trans g3⟩⟩
theorem inf_parts {a b : Nd} (h : a.inf = b.inf) : a.hang = b.hang ∧ a.whole = b.whole ∧ a.list = b.list := by
  unfold Nd.inf at h
  injection h with h1 h2
  injection h2 with h2 h3
  exact ⟨h1, h2, h3⟩
theorem Gro.outs {r : Nat} {ar ar' : List Nd} {ad ad' : Ads} (g : Gro r ar ad ar' ad') {T : Nat → Prop} (hT : T r) : Outs T ar ad ar' ad' := ⟨g.old, fun k a h hn => by
  have := inf_parts (g.inf k)
  exact ⟨(g.new k a h).resolve_left (fun e => hn (e ▸ hT)), this.2.1, this.2.2⟩⟩
theorem FI.outs {l : List Rul} {ar ar' : List Nd} {ad ad' : Ads} {root : Nat} {s : Pf} {done : List Rul} {T : Nat → Prop} (f : FI l ar ad root s done) (o : Outs T ar ad ar' ad') (hn : ¬ T root) : FI l ar' ad' root s done := by
  refine ⟨fun x hx hw => ?_, fun k q hk hw => ?_⟩
  · obtain ⟨k, h1, h2⟩ := f.has x hx hw
    have h3 := o.old k _ h1
    exact ⟨k, h3, by rw [(o.wl k _ h3 hn).2.1]; exact h2⟩
  · obtain ⟨h1, h2, h3⟩ := o.wl k _ hk hn
    rw [h2] at hw
    rw [h3]
    exact f.only k q h1 hw
/-- New nodes below a root bear nothing. -/
theorem FI.gro {l : List Rul} {r : Nat} {ar ar' : List Nd} {ad ad' : Ads} {root : Nat} {s : Pf} {done : List Rul} (R : Rep ar ad) (f : FI l ar ad root s done) (g : Gro r ar ad ar' ad') : FI l ar' ad' root s done := by
  refine ⟨fun x hx hw => ?_, fun k q hk hw => ?_⟩
  · obtain ⟨k, h1, h2⟩ := f.has x hx hw
    exact ⟨k, g.old k _ h1, by rw [(inf_parts (g.inf k)).2.1]; exact h2⟩
  · have hi := inf_parts (g.inf k)
    rw [hi.2.1] at hw
    rw [hi.2.2]
    have hkl : k < ar.length := by
      refine Classical.byContradiction fun hc => ?_
      rw [ndAt_out (by omega)] at hw
      cases hw
    have hka : ad[k]? = some (ad[k]'(by rw [R.len]; exact hkl)) := List.getElem?_eq_getElem (by rw [R.len]; exact hkl)
    have := g.old k _ hka
    rw [hk] at this
    exact f.only k q (by rw [hka, this]) hw
theorem full_kid (n : Nd) (L : List Nat) (b : Bool) : (n.full L).kid b = n.kid b := by cases b <;> rfl
def PRok (l : List Rul) : Prop := ∀ r, r ∈ l → POk r.src ∧ POk r.dst
theorem held_snoc (l : List Rul) (s : Pf) (x : Rul) : held (l ++ [x]) s = if withinB s x.src then held l s ++ [x] else held l s := by
  unfold held
  rw [List.filter_append, List.filter_cons, List.filter_nil]
  split <;> simp
theorem fill_rep {root : Nat} {s : Pf} {l : List Rul} (hl : PRok l) (h1 : 0 < root) (e0 : Nat) : ∀ (rs done : List Rul) (ar : List Nd) (ad : Ads) (ent : Nat), (∀ x, x ∈ done ++ rs → x ∈ l) → Rep ar ad → WF ar → LN ar → ad[root]? = some (root, []) → FI l ar ad root s done → ent = e0 + ((uq ((held done s).map Rul.dst)).map (cntD (held l s))).sum →
    ∃ ad', Rep (fillI root s l rs ar ent).1 ad' ∧ FI l (fillI root s l rs ar ent).1 ad' root s (done ++ rs) ∧ Outs (fun t => t = root) ar ad (fillI root s l rs ar ent).1 ad' ∧ (∀ k, (ndAt (fillI root s l rs ar ent).1 k).hang = (ndAt ar k).hang) ∧ (fillI root s l rs ar ent).2 = e0 + ((uq ((held (done ++ rs) s).map Rul.dst)).map (cntD (held l s))).sum
  | [], done, ar, ad, ent, hm, R, wf, ln, hr, f, he => ⟨ad, R, by rw [List.append_nil]; exact f, Outs.refl _ _ _, fun _ => rfl, by rw [List.append_nil]; exact he⟩
  | r :: rs, done, ar, ad, ent, hm, R, wf, ln, hr, f, he => by
    have hcons : done ++ r :: rs = (done ++ [r]) ++ rs := by simp
    have hrl := R.lt hr
    rw [fillI, hcons]
    rw [hcons] at hm
    have hrm := (hl r (hm r (by simp))).2
    by_cases hw : withinB s r.src = false
    · rw [if_pos hw]
      have hh : held (done ++ [r]) s = held done s := by rw [held_snoc, hw]; rfl
      refine fill_rep hl h1 e0 rs (done ++ [r]) ar ad ent hm R wf ln hr ⟨fun x hx hxw => ?_, fun k q hk hkw => ?_⟩ (by rw [hh]; exact he)
      · rcases List.mem_append.1 hx with hx | hx
        · exact f.has x hx hxw
        · rw [List.mem_singleton.1 hx, hw] at hxw; cases hxw
      · obtain ⟨x, a, b⟩ := f.only k q hk hkw
        exact ⟨x, List.mem_append_left _ a, b⟩
    · rw [if_neg hw]
      have hw : withinB s r.src = true := by simpa using hw
      have hh : held (done ++ [r]) s = held done s ++ [r] := by rw [held_snoc, hw]; rfl
      obtain ⟨wf1, dl1, _, _⟩ := down_ok (bitsOf r.dA r.dL.toNat) ar root wf hrl
      have ln1 := down_LN (bitsOf r.dA r.dL.toNat) ar root ln wf hrl
      obtain ⟨ad1, R1, g1, hj, hj0⟩ := down_rep root (bitsOf r.dA r.dL.toNat) ar ad root [] R h1 hr
      rw [List.nil_append] at hj
      have hj : ad1[(downI ar root (bitsOf r.dA r.dL.toNat)).2]? = some (root, r.dst.path) := hj
      have f1 := f.gro R g1
      revert wf1 dl1 ln1 R1 g1 hj hj0 f1
      generalize (downI ar root (bitsOf r.dA r.dL.toNat)).1 = ar1
      generalize (downI ar root (bitsOf r.dA r.dL.toNat)).2 = j
      intro wf1 dl1 ln1 R1 g1 hj0 hj f1
      have ho1 : Outs (fun t => t = root) ar ad ar1 ad1 := g1.outs rfl
      by_cases hwh : (ndAt ar1 j).whole = true
      · rw [if_pos hwh]
        have hin : r.dst ∈ uq ((held done s).map Rul.dst) := by
          obtain ⟨x, a, b, c, _⟩ := f1.only j _ hj hwh
          have : x.dst = r.dst := path_inj (hl x (hm x (by simp [a]))).2 hrm c
          rw [uq_mem, ← this]
          exact List.mem_map.2 ⟨x, List.mem_filter.2 ⟨a, b⟩, rfl⟩
        have he' : ent = e0 + ((uq ((held (done ++ [r]) s).map Rul.dst)).map (cntD (held l s))).sum := by
          rw [hh, List.map_append, List.map_singleton, uq_snoc, if_pos hin]; exact he
        have f2 : FI l ar1 ad1 root s (done ++ [r]) := by
          refine ⟨fun x hx hxw => ?_, fun k q hk hkw => ?_⟩
          · rcases List.mem_append.1 hx with hx | hx
            · exact f1.has x hx hxw
            · rw [List.mem_singleton.1 hx]; exact ⟨j, hj, hwh⟩
          · obtain ⟨x, a, b⟩ := f1.only k q hk hkw
            exact ⟨x, List.mem_append_left _ a, b⟩
        obtain ⟨ad', q1, q2, q3, q4, q5⟩ := fill_rep hl h1 e0 rs (done ++ [r]) ar1 ad1 ent hm R1 wf1 ln1 (g1.old _ _ hr) f2 he'
        exact ⟨ad', q1, q2, ho1.trans q3, fun k => (q4 k).trans (inf_parts (g1.inf k)).1, q5⟩
      · rw [if_neg hwh]
        have hwh : (ndAt ar1 j).whole = false := by simpa using hwh
        have hnin : r.dst ∉ uq ((held done s).map Rul.dst) := fun hin => by
          rw [uq_mem] at hin
          obtain ⟨x, hx, hxe⟩ := List.mem_map.1 hin
          obtain ⟨a, b⟩ := List.mem_filter.1 hx
          obtain ⟨k, hk, hkw⟩ := f1.has x a b
          rw [hxe] at hk
          rw [R1.inj k j _ hk hj, hwh] at hkw
          cases hkw
        have he' : ent + (idxTo l s r.dst l.length).length = e0 + ((uq ((held (done ++ [r]) s).map Rul.dst)).map (cntD (held l s))).sum := by
          rw [hh, List.map_append, List.map_singleton, uq_snoc, if_neg hnin, List.map_append, List.map_singleton, List.sum_append, List.sum_singleton, idx_count]; omega
        have hnd : ndAt (ar1.set j ((ndAt ar1 j).full (idxTo l s r.dst l.length))) j = (ndAt ar1 j).full (idxTo l s r.dst l.length) := ndAt_set dl1 _
        have hlist : (ndAt ar1 j).list = [] := ln1 _ (ndAt_mem dl1) hwh
        have R2 := R1.same hj0 dl1 (n := (ndAt ar1 j).full (idxTo l s r.dst l.length)) (full_kid _ _)
        have ho2 : Outs (fun t => t = root) ar1 ad1 (ar1.set j ((ndAt ar1 j).full (idxTo l s r.dst l.length))) ad1 := ⟨fun _ _ h => h, fun k a hk hn => by
          have hkj : k ≠ j := fun e => by
            subst e
            rw [hj] at hk
            injection hk with hk
            exact hn (by rw [← hk])
          rw [ndAt_set_ne hkj]
          exact ⟨hk, rfl, rfl⟩⟩
        have hh2 : ∀ k, (ndAt (ar1.set j ((ndAt ar1 j).full (idxTo l s r.dst l.length))) k).hang = (ndAt ar1 k).hang := fun k => by
          by_cases hkj : k = j
          · rw [hkj, hnd]; rfl
          · rw [ndAt_set_ne hkj]
        have f2 : FI l (ar1.set j ((ndAt ar1 j).full (idxTo l s r.dst l.length))) ad1 root s (done ++ [r]) := by
          refine ⟨fun x hx hxw => ?_, fun k q hk hkw => ?_⟩
          · rcases List.mem_append.1 hx with hx | hx
            · obtain ⟨k, a, b⟩ := f1.has x hx hxw
              refine ⟨k, a, ?_⟩
              by_cases hkj : k = j
              · rw [hkj, hnd]; rfl
              · rw [ndAt_set_ne hkj]; exact b
            · rw [List.mem_singleton.1 hx]; exact ⟨j, hj, by rw [hnd]; rfl⟩
          · by_cases hkj : k = j
            · subst hkj
              rw [hj] at hk
              injection hk with hk
              injection hk with hk1 hk2
              refine ⟨r, by simp, hw, hk2, ?_⟩
              rw [hnd]
              show (ndAt ar1 k).list ++ _ = _
              rw [hlist, List.nil_append]
            · rw [ndAt_set_ne hkj] at hkw ⊢
              obtain ⟨x, a, b⟩ := f1.only k q hk hkw
              exact ⟨x, List.mem_append_left _ a, b⟩
        obtain ⟨ad', q1, q2, q3, q4, q5⟩ := fill_rep hl h1 e0 rs (done ++ [r]) _ ad1 _ hm R2 (wf1.same dl1 (n := (ndAt ar1 j).full (idxTo l s r.dst l.length)) rfl rfl rfl) (ln1.set _ fun h => by cases h) (g1.old _ _ hr) f2 he'
        exact ⟨ad', q1, q2, (ho1.trans ho2).trans q3, fun k => ((q4 k).trans (hh2 k)).trans (inf_parts (g1.inf k)).1, q5⟩
theorem fill_len2 (root : Nat) (s : Pf) (l : List Rul) (hl : Lok l) : ∀ (rs : List Rul) (ar : List Nd) (ent : Nat), (∀ r, r ∈ rs → r ∈ l) → WF ar → root < ar.length → (fillI root s l rs ar ent).1.length ≤ ar.length + 32 * (held rs s).length
  | [], ar, ent, _, wf, hr => Nat.le_refl _
  | r :: rs, ar, ent, hm, wf, hr => by
    rw [fillI]
    obtain ⟨w1, d1, l1, l2⟩ := down_ok (bitsOf r.dA r.dL.toNat) ar root wf hr
    rw [bits_len] at l2
    have hr32 := (hl r (hm r (by simp))).2
    have hm' : ∀ r, r ∈ rs → r ∈ l := fun r h => hm r (by simp [h])
    by_cases hw : withinB s r.src = false
    · rw [if_pos hw]
      have hh : held (r :: rs) s = held rs s := by unfold held; rw [List.filter_cons, if_neg (by rw [hw]; decide)]
      rw [hh]
      exact fill_len2 root s l hl rs ar ent hm' wf hr
    · rw [if_neg hw]
      have hh : (held (r :: rs) s).length = (held rs s).length + 1 := by unfold held; rw [List.filter_cons, if_pos (by simpa using hw)]; rfl
      rw [hh]
      split
      · have := fill_len2 root s l hl rs (downI ar root (bitsOf r.dA r.dL.toNat)).1 ent hm' w1 (by omega)
        omega
      · have := fill_len2 root s l hl rs ((downI ar root (bitsOf r.dA r.dL.toNat)).1.set (downI ar root (bitsOf r.dA r.dL.toNat)).2 ((ndAt (downI ar root (bitsOf r.dA r.dL.toNat)).1 (downI ar root (bitsOf r.dA r.dL.toNat)).2).full (idxTo l s r.dst l.length))) (ent + (idxTo l s r.dst l.length).length) hm' (w1.same d1 rfl rfl rfl) (by rw [List.length_set]; omega)
        rw [List.length_set] at this
        omega
/-! ### build -/
/-- The sources' trie, told of the rules gone through. -/
structure BI (l : List Rul) (ar : List Nd) (ad : Ads) (done : List Rul) (ent : Nat) : Prop where
  has : ∀ r, r ∈ done → ∃ k : Nat, ad[k]? = some (1, r.src.path) ∧ 0 < (ndAt ar k).hang
  only : ∀ (k : Nat) p, ad[k]? = some (1, p) → 0 < (ndAt ar k).hang → ∃ r, r ∈ done ∧ r.src.path = p ∧ 1 < (ndAt ar k).hang ∧ ad[(ndAt ar k).hang]? = some ((ndAt ar k).hang, []) ∧ FI l ar ad (ndAt ar k).hang r.src l
  ent : ent = ((uq (done.map Rul.src)).map (pruneS l)).sum
  len : ar.length ≤ 2 + 33 * done.length + 32 * ((uq (done.map Rul.src)).map fun s => (held l s).length).sum
theorem build_rep {l : List Rul} (hl : PRok l) (hl' : Lok l) : ∀ (rs done : List Rul) (ar : List Nd) (ad : Ads) (ent : Nat), (∀ x, x ∈ done ++ rs → x ∈ l) → Rep ar ad → WF ar → LN ar → ad[1]? = some (1, []) → BI l ar ad done ent →
    ∃ ad', Rep (buildI l rs ar ent).1 ad' ∧ BI l (buildI l rs ar ent).1 ad' (done ++ rs) (buildI l rs ar ent).2 ∧ ad'[1]? = some (1, [])
  | [], done, ar, ad, ent, hm, R, wf, ln, hr, f => ⟨ad, R, by rw [List.append_nil]; exact f, hr⟩
  | r :: rs, done, ar, ad, ent, hm, R, wf, ln, hr, f => by
    have hcons : done ++ r :: rs = (done ++ [r]) ++ rs := by simp
    have hrl := R.lt hr
    rw [buildI, hcons]
    rw [hcons] at hm
    have hrm := (hl r (hm r (by simp))).1
    have hr32 := (hl' r (hm r (by simp))).1
    obtain ⟨wf1, dl1, _, len1⟩ := down_ok (bitsOf r.sA r.sL.toNat) ar 1 wf hrl
    rw [bits_len] at len1
    have ln1 := down_LN (bitsOf r.sA r.sL.toNat) ar 1 ln wf hrl
    obtain ⟨ad1, R1, g1, hj, hj0⟩ := down_rep 1 (bitsOf r.sA r.sL.toNat) ar ad 1 [] R (by decide) hr
    rw [List.nil_append] at hj
    have hj : ad1[(downI ar 1 (bitsOf r.sA r.sL.toNat)).2]? = some (1, r.src.path) := hj
    revert wf1 dl1 ln1 R1 g1 hj hj0 len1
    generalize (downI ar 1 (bitsOf r.sA r.sL.toNat)).1 = ar1
    generalize (downI ar 1 (bitsOf r.sA r.sL.toNat)).2 = j
    intro wf1 dl1 len1 ln1 R1 g1 hj0 hj
    have hr1 := g1.old _ _ hr
    have has1 : ∀ x, x ∈ done → ∃ k : Nat, ad1[k]? = some (1, x.src.path) ∧ 0 < (ndAt ar1 k).hang := fun x hx => by
      obtain ⟨k, a, b⟩ := f.has x hx
      exact ⟨k, g1.old _ _ a, by rw [(inf_parts (g1.inf k)).1]; exact b⟩
    have only1 : ∀ (k : Nat) p, ad1[k]? = some (1, p) → 0 < (ndAt ar1 k).hang → ∃ x, x ∈ done ∧ x.src.path = p ∧ 1 < (ndAt ar1 k).hang ∧ ad1[(ndAt ar1 k).hang]? = some ((ndAt ar1 k).hang, []) ∧ FI l ar1 ad1 (ndAt ar1 k).hang x.src l := fun k p hk hh => by
      have he := (inf_parts (g1.inf k)).1
      rw [he] at hh ⊢
      have hkl : k < ar.length := by
        refine Classical.byContradiction fun hc => ?_
        rw [ndAt_out (by omega)] at hh
        exact absurd hh (by decide)
      have hka : ad[k]? = some (ad[k]'(by rw [R.len]; exact hkl)) := List.getElem?_eq_getElem (by rw [R.len]; exact hkl)
      have h2 := g1.old k _ hka
      rw [hk] at h2
      obtain ⟨x, a, b, c, d, e⟩ := f.only k p (by rw [hka, h2]) hh
      exact ⟨x, a, b, c, g1.old _ _ d, e.gro R g1⟩
    by_cases hh : 0 < (ndAt ar1 j).hang
    · rw [if_pos hh]
      have hin : r.src ∈ uq (done.map Rul.src) := by
        obtain ⟨x, a, b, _⟩ := only1 j _ hj hh
        have : x.src = r.src := path_inj (hl x (hm x (by simp [a]))).1 hrm b
        rw [uq_mem, ← this]
        exact List.mem_map.2 ⟨x, a, rfl⟩
      have hu : uq ((done ++ [r]).map Rul.src) = uq (done.map Rul.src) := by rw [List.map_append, List.map_singleton, uq_snoc, if_pos hin]
      refine build_rep hl hl' rs (done ++ [r]) ar1 ad1 ent hm R1 wf1 ln1 hr1 ⟨fun x hx => ?_, fun k p hk h2 => ?_, by rw [hu]; exact f.ent, ?_⟩
      · rcases List.mem_append.1 hx with hx | hx
        · exact has1 x hx
        · rw [List.mem_singleton.1 hx]; exact ⟨j, hj, hh⟩
      · obtain ⟨x, a, b⟩ := only1 k p hk h2
        exact ⟨x, List.mem_append_left _ a, b⟩
      · rw [hu, List.length_append, List.length_singleton]
        have := f.len
        omega
    · rw [if_neg hh]
      have hh : (ndAt ar1 j).hang = 0 := by omega
      have hnin : r.src ∉ uq (done.map Rul.src) := fun hin => by
        rw [uq_mem] at hin
        obtain ⟨x, hx, hxe⟩ := List.mem_map.1 hin
        obtain ⟨k, hk, hkw⟩ := has1 x hx
        rw [hxe] at hk
        rw [R1.inj k j _ hk hj, hh] at hkw
        omega
      have hu : uq ((done ++ [r]).map Rul.src) = uq (done.map Rul.src) ++ [r.src] := by rw [List.map_append, List.map_singleton, uq_snoc, if_neg hnin]
      obtain ⟨wf2, ln2⟩ := hang_ok wf1 ln1 dl1
      have h1l := R1.lt hr1
      have Rr := R1.root (by omega)
      have hnj : ndAt (ar1 ++ [zNd]) j = ndAt ar1 j := ndAt_app dl1 _
      have R2 : Rep ((ar1 ++ [zNd]).set j { ndAt ar1 j with hang := ar1.length }) (ad1 ++ [(ar1.length, [])]) := Rr.same hj0 (by rw [List.length_append]; omega) fun b => by rw [hnj]; cases b <;> rfl
      have hnd : ndAt ((ar1 ++ [zNd]).set j { ndAt ar1 j with hang := ar1.length }) j = { ndAt ar1 j with hang := ar1.length } := ndAt_set (by rw [List.length_append]; omega) _
      have hne : ∀ k, k ≠ j → (ndAt ((ar1 ++ [zNd]).set j { ndAt ar1 j with hang := ar1.length }) k) = ndAt ar1 k := fun k hk => by
        rw [ndAt_set_ne hk]
        by_cases h : k < ar1.length
        · rw [ndAt_app h]
        · rw [ndAt_out (ar := ar1) (by omega)]
          by_cases he : k = ar1.length
          · rw [he, ndAt_end]
          · rw [ndAt_out (by rw [List.length_append, List.length_singleton]; omega)]
      have hroot : (ad1 ++ [(ar1.length, [])])[ar1.length]? = some (ar1.length, []) := by rw [← R1.len]; exact app_new _ _
      have ho : Outs (fun t => t = ar1.length) ar1 ad1 ((ar1 ++ [zNd]).set j { ndAt ar1 j with hang := ar1.length }) (ad1 ++ [(ar1.length, [])]) := ⟨fun k a h => app_old h, fun k a h hn => by
        rcases app_get h with h | ⟨_, h2⟩
        · refine ⟨h, ?_⟩
          by_cases hkj : k = j
          · rw [hkj, hnd]; exact ⟨rfl, rfl⟩
          · rw [hne k hkj]; exact ⟨rfl, rfl⟩
        · exact absurd (by rw [h2]) hn⟩
      have f0 : FI l ((ar1 ++ [zNd]).set j { ndAt ar1 j with hang := ar1.length }) (ad1 ++ [(ar1.length, [])]) ar1.length r.src [] := ⟨fun x hx => by simp at hx, fun k q hk hw => by
        exfalso
        rcases app_get hk with h | ⟨h1, _⟩
        · have := R1.top _ _ _ h; omega
        · rw [R1.len] at h1
          rw [hne k (by omega), ndAt_out (by omega)] at hw
          cases hw⟩
      obtain ⟨ad2, q1, q2, q3, q4, q5⟩ := fill_rep (s := r.src) hl (show 0 < ar1.length by omega) ent l [] _ _ ent (fun x hx => by simpa using hx) R2 wf2 ln2 hroot f0 (by show ent = ent + 0; rfl)
      have hlt : ar1.length < ((ar1 ++ [zNd]).set j { ndAt ar1 j with hang := ar1.length }).length := by simp
      have len2 := fill_len2 ar1.length r.src l hl' l _ ent (fun x hx => hx) wf2 hlt
      have wfF := (fill_ok ar1.length r.src l l _ ent wf2 hlt).1
      have lnF := fill_LN ar1.length r.src l l _ ent ln2 wf2 hlt
      rw [List.nil_append] at q2 q5
      revert q1 q2 q3 q4 q5 len2 wfF lnF
      generalize (fillI ar1.length r.src l l ((ar1 ++ [zNd]).set j { ndAt ar1 j with hang := ar1.length }) ent).1 = arF
      generalize (fillI ar1.length r.src l l ((ar1 ++ [zNd]).set j { ndAt ar1 j with hang := ar1.length }) ent).2 = entF
      intro q1 q2 q3 q4 q5 len2 wfF lnF
      have hjF : ad2[j]? = some (1, r.src.path) := q3.old _ _ (app_old hj)
      have hangF : ∀ k, k ≠ j → (ndAt arF k).hang = (ndAt ar1 k).hang := fun k hk => by rw [q4 k, hne k hk]
      have hangJ : (ndAt arF j).hang = ar1.length := by rw [q4 j, hnd]
      refine build_rep hl hl' rs (done ++ [r]) arF ad2 entF hm q1 wfF lnF (q3.old _ _ (app_old hr1)) ⟨fun x hx => ?_, fun k p hk h2 => ?_, ?_, ?_⟩
      · rcases List.mem_append.1 hx with hx | hx
        · obtain ⟨k, a, b⟩ := has1 x hx
          have hkj : k ≠ j := fun e => by rw [e, hh] at b; omega
          exact ⟨k, q3.old _ _ (app_old a), by rw [hangF k hkj]; exact b⟩
        · rw [List.mem_singleton.1 hx]; exact ⟨j, hjF, by rw [hangJ]; omega⟩
      · by_cases hkj : k = j
        · subst hkj
          rw [hjF] at hk
          injection hk with hk
          injection hk with hk1 hk2
          refine ⟨r, by simp, hk2, ?_⟩
          rw [hangJ]
          exact ⟨h1l, q3.old _ _ hroot, q2⟩
        · rw [hangF k hkj] at h2 ⊢
          have hk1 : ad1[k]? = some (1, p) := by
            have := (q3.wl k _ hk (by show ¬ 1 = _; omega)).1
            rcases app_get this with h | ⟨_, h3⟩
            · exact h
            · injection h3 with h3 _; omega
          obtain ⟨x, a, b, c, d, e⟩ := only1 k p hk1 h2
          have hd := R1.lt d
          exact ⟨x, List.mem_append_left _ a, b, c, q3.old _ _ (app_old d), (e.outs ho (by show ¬ _ = _; omega)).outs q3 (by show ¬ _ = _; omega)⟩
      · rw [hu, List.map_append, List.map_singleton, List.sum_append, List.sum_singleton, q5, f.ent]; rfl
      · rw [hu, List.map_append, List.map_singleton, List.sum_append, List.sum_singleton, List.length_append, List.length_singleton]
        have := f.len
        rw [List.length_set, List.length_append, List.length_singleton] at len2
        omega
theorem two_rep : Rep [zNd, zNd] [(0, []), (1, [])] := by
  have nd : ∀ k, ndAt [zNd, zNd] k = zNd := fun k => by
    match k with
    | 0 => rfl
    | 1 => rfl
    | k + 2 => exact ndAt_out (by simp)
  have two : ∀ (k : Nat) r p, ([(0, []), (1, [])] : Ads)[k]? = some (r, p) → (k = 0 ∧ r = 0 ∨ k = 1 ∧ r = 1) ∧ p = [] := fun k r p h => by
    match k with
    | 0 => simp at h; exact ⟨.inl ⟨rfl, h.1.symm⟩, h.2⟩
    | 1 => simp at h; exact ⟨.inr ⟨rfl, h.1.symm⟩, h.2⟩
    | k + 2 => simp at h
  refine ⟨rfl, fun i j a hi hj => ?_, rfl, rfl, fun j r p hj h => ?_, fun j r p h => ?_, fun j r p b hj h hk => ?_, fun j r p b hj h hk k hc => ?_, fun k r p b h => ?_⟩
  · obtain ⟨r, p⟩ := a
    have := (two i r p hi).1
    have := (two j r p hj).1
    omega
  · have := (two j r p h).1; omega
  · have := (two j r p h).1
    show r < 2
    omega
  · rw [nd] at hk; exact absurd (by cases b <;> rfl) hk
  · have := (two k _ _ hc).2; simp at this
  · have := (two k _ _ h).2; simp at this
theorem bld_rep {l : List Rul} (hl : PRok l) (hl' : Lok l) : ∃ ad, Rep (bld l).1 ad ∧ BI l (bld l).1 ad l (bld l).2 ∧ ad[1]? = some (1, []) := by
  refine build_rep hl hl' l [] [zNd, zNd] [(0, []), (1, [])] 0 (fun x hx => by simpa using hx) two_rep two_ok.1 two_ok.2.1 rfl ⟨fun r hr => by simp at hr, fun k p hk hh => ?_, rfl, Nat.le_refl 2⟩
  exfalso
  have : ndAt [zNd, zNd] k = zNd := by
    match k with
    | 0 => rfl
    | 1 => rfl
    | k + 2 => exact ndAt_out (by simp)
  rw [this] at hh
  exact absurd hh (by decide)
end Go.Proofs.YtomhkbhgpmcbiaaGreat.Fs
