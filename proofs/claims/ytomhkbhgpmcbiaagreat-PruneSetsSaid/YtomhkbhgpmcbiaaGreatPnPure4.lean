/- What the engine answers is the first match; its steps and sizes are within the document's bounds. Plain. -/
import Derived.Test.YtomhkbhgpmcbiaaGreatPnPure3
namespace Go.Proofs.YtomhkbhgpmcbiaaGreat.Fs
open Go Go.RowKit Go.Proofs.YtomhkbhgpmcbiaaGreat.Sx Go.Proofs.YtomhkbhgpmcbiaaGreat.Uq
set_option linter.unusedVariables false
set_option linter.unusedSimpArgs false
set_option maxRecDepth 10000
def fstI (l : List Rul) (d : Int) (g : Hdr) : Bool × Int × Int := match l.find? fun r => r.has g with
  | some r => (true, r.id, r.act)
  | none => (false, 0, d)
def pairB (g : Hdr) (r : Rul) : Bool := (r.check.1 == 0) && prefixHas r.sA r.sL g.src && prefixHas r.dA r.dL g.dst
def pairsN (l : List Rul) (g : Hdr) : Nat := (l.filter (pairB g)).length
def gridN (l : List Rul) : Nat := ((uq (l.map Rul.src)).map fun s => (held l s).length).sum
theorem find_idx (L : List Nat) (p : Nat → Bool) : L.find? p = if L.findIdx p < L.length then some (L.getD (L.findIdx p) 0) else none := by
  induction L with
  | nil => rfl
  | cons a L ih =>
    rw [List.find?_cons, List.findIdx_cons]
    cases hp : p a with
    | true => simp
    | false =>
      simp only [cond_false, List.length_cons]
      rw [ih]
      by_cases h : L.findIdx p < L.length
      · rw [if_pos h, if_pos (by omega)]; rfl
      · rw [if_neg h, if_neg (by omega)]
theorem range_map (l : List Rul) : (List.range l.length).map (ruAt l) = l := by
  apply List.ext_getElem?
  intro i
  rw [List.getElem?_map]
  by_cases h : i < l.length
  · rw [List.getElem?_range h, ruAt_get h]; rfl
  · rw [List.getElem?_eq_none (by rw [List.length_range]; omega), List.getElem?_eq_none (by omega)]; rfl
/-- The first of those that a list of places names, if the list leaves out none that answers. -/
theorem first_in (l : List Rul) (p q : Rul → Bool) (hpq : ∀ x, x ∈ l → p x = true → q x = true) (L : List Nat) (hL : L = (List.range l.length).filter fun i => q (ruAt l i)) :
    l.find? p = if L.findIdx (fun i => p (ruAt l i)) < L.length then some (ruAt l (L.getD (L.findIdx fun i => p (ruAt l i)) 0)) else none := by
  have h1 : l.find? p = ((List.range l.length).find? fun i => p (ruAt l i)).map (ruAt l) := by
    conv => lhs; rw [← range_map l]
    rw [List.find?_map]
    rfl
  have h2 : (List.range l.length).find? (fun i => p (ruAt l i)) = L.find? fun i => p (ruAt l i) := by
    rw [hL, List.find?_filter]
    have key : ∀ M : List Nat, (∀ i, i ∈ M → i < l.length) → M.find? (fun i => p (ruAt l i)) = M.find? fun i => decide (q (ruAt l i) = true ∧ p (ruAt l i) = true) := by
      intro M
      induction M with
      | nil => intro _; rfl
      | cons i M ih =>
        intro hm
        have hmem : ruAt l i ∈ l := List.mem_of_getElem? (ruAt_get (hm i (by simp)))
        rw [List.find?_cons, List.find?_cons]
        cases hp : p (ruAt l i) with
        | true => simp [hpq _ hmem hp]
        | false => simpa using ih fun j hj => hm j (by simp [hj])
    exact key _ fun i hi => List.mem_range.1 hi
  rw [h1, h2, find_idx]
  split <;> rfl
theorem idx_filter (l : List Rul) (s d : Pf) : idxTo l s d l.length = (List.range l.length).filter fun i => inB2 s d (ruAt l i) := by
  unfold idxTo
  refine List.filter_congr fun i hi => ?_
  rw [ruAt_get (List.mem_range.1 hi)]
structure HOk (g : Hdr) : Prop where
  s : AdOk g.src
  d : AdOk g.dst
theorem pre_take {B p : List Bool} (h : p <+: B) : p = B.take p.length := (List.prefix_iff_eq_take.1 h)
theorem take_pre {B : List Bool} {m n : Nat} (h : m ≤ n) : B.take m <+: B.take n := by
  have := List.take_prefix m (B.take n)
  rwa [List.take_take, Nat.min_eq_left h] at this
structure AskOk (l : List Rul) (d : Int) (g : Hdr) : Prop where
  v : (askI l d g).1 = fstI l d g
  n : (askI l d g).2.1 ≤ 68
  r : (askI l d g).2.2 ≤ pairsN l g
  h : (fstI l d g).1 = true → 1 ≤ (askI l d g).2.2
theorem has_parts {r : Rul} {g : Hdr} (h : r.has g = true) : r.check.1 = 0 ∧ prefixHas r.sA r.sL g.src = true ∧ prefixHas r.dA r.dL g.dst = true := by
  unfold Rul.has at h
  simp only [Bool.and_eq_true, beq_iff_eq] at h
  exact ⟨h.1.1.1.1.1, h.1.1.1.1.2, h.1.1.1.2⟩
theorem fstI_none {l : List Rul} {d : Int} {g : Hdr} (h : ∀ r, r ∈ l → r.has g = false) : fstI l d g = (false, 0, d) := by
  have : l.find? (fun r => r.has g) = none := by
    rw [List.find?_eq_none]
    intro r hr
    rw [h r hr]; decide
  unfold fstI
  rw [this]
theorem ask_ok {l : List Rul} (gd : Gd l) (hl : PRok l) (d : Int) {g : Hdr} (hg : HOk g) : AskOk l d g := by
  obtain ⟨ad, R, bi, hr⟩ := bld_rep hl gd.lok
  obtain ⟨wf, li, h1l⟩ := bld_ok l
  have b1 := seek_rep R (fun n => decide (0 < n.hang)) g.src 1 34 1 0 0 0 (by decide) (by decide) (fun _ => by rw [List.take_zero]; exact hr) (fun h => absurd h (by decide)) (.inl ⟨rfl, fun m hm => absurd hm (by omega)⟩)
  have n1 := (seek_lt wf (fun n => decide (0 < n.hang)) g.src 34 1 0 0 0 h1l (by omega)).2
  change Best (bld l).1 ad 1 (fun n => decide (0 < n.hang)) (bitsOf g.src 32) 33 (found1 l g).1 at b1
  change (found1 l g).2 ≤ 0 + 34 at n1
  have lenOk : ∀ p : Pf, POk p → p.path.length < 33 := fun p hp => by rw [path_len]; have := hp.nat.2; omega
  by_cases h0 : (found1 l g).1 = 0
  · have hv : askI l d g = ((false, 0, d), (found1 l g).2, 0) := by unfold askI; rw [if_pos h0]
    have hm : fstI l d g = (false, 0, d) := fstI_none fun r hrl => by
      refine Bool.eq_false_iff.2 fun hh => ?_
      obtain ⟨_, hs, _⟩ := has_parts hh
      have hp := (has_path (hl r hrl).1 hg.s).1 hs
      obtain ⟨k, hk, hkh⟩ := bi.has r hrl
      rcases b1 with ⟨_, hb⟩ | ⟨m, _, h2, _⟩
      · rw [pre_take hp] at hk
        have := hb _ (lenOk _ (hl r hrl).1) k hk
        simp at this
        omega
      · omega
    exact ⟨by rw [hv, hm], by rw [hv]; show (found1 l g).2 ≤ 68; omega, by rw [hv]; exact Nat.zero_le _, by rw [hm]; intro h; cases h⟩
  · rcases b1 with ⟨hb, _⟩ | ⟨m1, hm1, _, hf1, hw1, hmax1⟩
    · exact absurd hb h0
    have hw1 : 0 < (ndAt (bld l).1 (found1 l g).1).hang := by simpa using hw1
    obtain ⟨y, hy, hyp, hh1, hroot, fi⟩ := bi.only _ _ hf1 hw1
    have hs : ∀ x, x ∈ l → (prefixHas x.sA x.sL g.src = true ↔ withinB y.src x.src = true) := fun x hx => by
      rw [within_path (hl y hy).1 (hl x hx).1]
      show prefixHas x.src.addr x.src.len g.src = true ↔ _
      rw [has_path (hl x hx).1 hg.s, hyp]
      constructor
      · intro hp
        obtain ⟨k, hk, hkh⟩ := bi.has x hx
        have hle : x.src.path.length ≤ m1 := by
          refine Classical.byContradiction fun hc => ?_
          rw [pre_take hp] at hk
          have := hmax1 _ (Nat.lt_of_not_le hc) (lenOk _ (hl x hx).1) k hk
          simp at this
          omega
        rw [pre_take hp]
        exact take_pre hle
      · exact fun hp => hp.trans (List.take_prefix _ _)
    have b2 := seek_rep R (fun n => n.whole) g.dst (ndAt (bld l).1 (found1 l g).1).hang 34 (ndAt (bld l).1 (found1 l g).1).hang 0 0 0 (by decide) (by decide) (fun _ => by rw [List.take_zero]; exact hroot) (fun h => by omega) (.inl ⟨rfl, fun m hm => absurd hm (by omega)⟩)
    have n2 := (seek_lt wf (fun n => n.whole) g.dst 34 (ndAt (bld l).1 (found1 l g).1).hang 0 0 0 (R.lt hroot) (by omega)).2
    change Best (bld l).1 ad (ndAt (bld l).1 (found1 l g).1).hang (fun n => n.whole) (bitsOf g.dst 32) 33 (found2 l g).1 at b2
    change (found2 l g).2 ≤ 0 + 34 at n2
    rcases b2 with ⟨hb0, hb⟩ | ⟨m2, hm2, _, hf2, hw2, hmax2⟩
    · have hL : lstOf l g = [] := by unfold lstOf; rw [hb0, R.zz]; rfl
      have hv : askI l d g = ((false, 0, d), (found1 l g).2 + (found2 l g).2, 0) := by
        unfold askI
        rw [if_neg h0, hL]
        rfl
      have hm : fstI l d g = (false, 0, d) := fstI_none fun r hrl => by
        refine Bool.eq_false_iff.2 fun hh => ?_
        obtain ⟨_, hs1, hd1⟩ := has_parts hh
        obtain ⟨k, hk, hkw⟩ := fi.has r hrl ((hs r hrl).1 hs1)
        have hp := (has_path (hl r hrl).2 hg.d).1 hd1
        rw [pre_take hp] at hk
        have hq : (ndAt (bld l).1 k).whole = false := hb _ (lenOk _ (hl r hrl).2) k hk
        rw [hq] at hkw
        cases hkw
      exact ⟨by rw [hv, hm], by rw [hv]; show (found1 l g).2 + (found2 l g).2 ≤ 68; omega, by rw [hv]; exact Nat.zero_le _, by rw [hm]; intro h; cases h⟩
    · obtain ⟨z, hz, hzs, hzp, hzl⟩ := fi.only _ _ hf2 hw2
      have hd : ∀ x, x ∈ l → withinB y.src x.src = true → (prefixHas x.dA x.dL g.dst = true ↔ withinB z.dst x.dst = true) := fun x hx hxs => by
        rw [within_path (hl z hz).2 (hl x hx).2]
        show prefixHas x.dst.addr x.dst.len g.dst = true ↔ _
        rw [has_path (hl x hx).2 hg.d, hzp]
        constructor
        · intro hp
          obtain ⟨k, hk, hkh⟩ := fi.has x hx hxs
          have hle : x.dst.path.length ≤ m2 := by
            refine Classical.byContradiction fun hc => ?_
            rw [pre_take hp] at hk
            have hq : (ndAt (bld l).1 k).whole = false := hmax2 _ (Nat.lt_of_not_le hc) (lenOk _ (hl x hx).2) k hk
            rw [hq] at hkh
            cases hkh
          rw [pre_take hp]
          exact take_pre hle
        · exact fun hp => hp.trans (List.take_prefix _ _)
      have hL : lstOf l g = (List.range l.length).filter fun i => inB2 y.src z.dst (ruAt l i) := by
        rw [← idx_filter]; exact hzl
      have hin : ∀ x, x ∈ l → inB2 y.src z.dst x = pairB g x := fun x hx => by
        unfold inB2 pairB
        rw [gd.ok x hx]
        simp only [beq_self_eq_true, Bool.true_and]
        cases hws : withinB y.src x.src with
        | false =>
          have : prefixHas x.sA x.sL g.src = false := Bool.eq_false_iff.2 fun h => by rw [(hs x hx).1 h] at hws; cases hws
          rw [this]; rfl
        | true =>
          rw [(hs x hx).2 hws, Bool.true_and, Bool.true_and]
          cases hwd : withinB z.dst x.dst with
          | false => exact (Bool.eq_false_iff.2 fun h => by rw [(hd x hx hws).1 h] at hwd; cases hwd).symm
          | true => exact ((hd x hx hws).2 hwd).symm
      have hlen : (lstOf l g).length ≤ pairsN l g := by
        have e : lstOf l g = idxTo l y.src z.dst l.length := hzl
        rw [e, idx_count]
        unfold cntD held pairsN
        rw [List.filter_filter]
        refine Nat.le_of_eq (congrArg List.length (List.filter_congr fun x hx => ?_))
        rw [← hin x hx]
        unfold inB2
        exact Bool.and_comm _ _
      have hfind := first_in l (fun r => r.has g) (inB2 y.src z.dst) (fun x hx hh => by
        rw [hin x hx]
        obtain ⟨a, b, c⟩ := has_parts hh
        unfold pairB
        rw [a, b, c]; rfl) (lstOf l g) hL
      change l.find? (fun r => r.has g) = if hitOf l g < (lstOf l g).length then some (ruAt l ((lstOf l g).getD (hitOf l g) 0)) else none at hfind
      have hnn : (found1 l g).2 + (found2 l g).2 ≤ 68 := by omega
      by_cases hc : hitOf l g < (lstOf l g).length
      · have hv : askI l d g = ((true, (ruAt l ((lstOf l g).getD (hitOf l g) 0)).id, (ruAt l ((lstOf l g).getD (hitOf l g) 0)).act), (found1 l g).2 + (found2 l g).2, hitOf l g + 1) := by
          unfold askI; rw [if_neg h0, if_pos hc]
        rw [if_pos hc] at hfind
        have hm : fstI l d g = (true, (ruAt l ((lstOf l g).getD (hitOf l g) 0)).id, (ruAt l ((lstOf l g).getD (hitOf l g) 0)).act) := by unfold fstI; rw [hfind]
        exact ⟨by rw [hv, hm], by rw [hv]; exact hnn, by rw [hv]; show hitOf l g + 1 ≤ _; omega, fun _ => by rw [hv]; show 1 ≤ hitOf l g + 1; omega⟩
      · have hv : askI l d g = ((false, 0, d), (found1 l g).2 + (found2 l g).2, (lstOf l g).length) := by
          unfold askI; rw [if_neg h0, if_neg hc]
        rw [if_neg hc] at hfind
        have hm : fstI l d g = (false, 0, d) := by unfold fstI; rw [hfind]
        exact ⟨by rw [hv, hm], by rw [hv]; exact hnn, by rw [hv]; exact hlen, by rw [hm]; intro h; cases h⟩
/-! ### sizes -/
theorem sum_le {α : Type} {f g : α → Nat} : ∀ {U : List α}, (∀ u, u ∈ U → f u ≤ g u) → (U.map f).sum ≤ (U.map g).sum
  | [], _ => Nat.le_refl _
  | u :: U, h => by
    rw [List.map_cons, List.map_cons, List.sum_cons, List.sum_cons]
    have h1 := h u (by simp)
    have h2 := sum_le (U := U) fun v hv => h v (by simp [hv])
    omega
theorem one_of {β : Type} [DecidableEq β] (b : β) : ∀ (U : List β), U.Nodup → b ∈ U → (U.map fun u => if b = u then 1 else 0).sum = 1
  | [], _, h => by simp at h
  | u :: U, hn, h => by
    rw [List.nodup_cons] at hn
    rw [List.map_cons, List.sum_cons]
    by_cases hb : b = u
    · rw [if_pos hb]
      have : (U.map fun u => if b = u then 1 else 0).sum = 0 := by
        have key : ∀ V : List β, b ∉ V → (V.map fun u => if b = u then 1 else 0).sum = 0 := by
          intro V
          induction V with
          | nil => intro _; rfl
          | cons v V ih =>
            intro hv
            rw [List.mem_cons, not_or] at hv
            rw [List.map_cons, List.sum_cons, if_neg hv.1, ih hv.2]
        exact key U (hb ▸ hn.1)
      omega
    · rw [if_neg hb, one_of b U hn.2 ((List.mem_cons.1 h).resolve_left hb)]
theorem cnt_all {α β : Type} [DecidableEq β] (f : α → β) {U : List β} (hn : U.Nodup) : ∀ (M : List α), (∀ x, x ∈ M → f x ∈ U) → (U.map fun u => (M.filter fun x => decide (f x = u)).length).sum = M.length
  | [], _ => by
    have : ∀ V : List β, (V.map fun u => (([] : List α).filter fun x => decide (f x = u)).length).sum = 0 := by
      intro V
      induction V with
      | nil => rfl
      | cons v V ih => rw [List.map_cons, List.sum_cons, ih]; rfl
    rw [this]; rfl
  | x :: M, h => by
    have ih := cnt_all f hn M fun y hy => h y (by simp [hy])
    have e : ∀ V : List β, (V.map fun u => ((x :: M).filter fun y => decide (f y = u)).length).sum = (V.map fun u => if f x = u then 1 else 0).sum + (V.map fun u => (M.filter fun y => decide (f y = u)).length).sum := by
      intro V
      induction V with
      | nil => rfl
      | cons v V ihV =>
        rw [List.map_cons, List.sum_cons, List.map_cons, List.sum_cons, List.map_cons, List.sum_cons, ihV, List.filter_cons]
        by_cases hx : f x = v
        · rw [if_pos (by simpa using hx), if_pos hx, List.length_cons]; omega
        · rw [if_neg (by simpa using hx), if_neg hx]; omega
    rw [e, ih, one_of (f x) U hn (h x (by simp)), List.length_cons]; omega
theorem filter_le {α : Type} {p q : α → Bool} : ∀ (l : List α), (∀ x, x ∈ l → p x = true → q x = true) → (l.filter p).length ≤ (l.filter q).length
  | [], _ => Nat.le_refl _
  | x :: l, h => by
    have ih := filter_le l fun y hy => h y (by simp [hy])
    rw [List.filter_cons, List.filter_cons]
    by_cases hp : p x = true
    · rw [if_pos hp, if_pos (h x (by simp) hp), List.length_cons, List.length_cons]; omega
    · rw [if_neg hp]
      split
      · rw [List.length_cons]; omega
      · exact ih
theorem prune_ge {l : List Rul} (hl : PRok l) : l.length ≤ pruneN l := by
  unfold pruneN
  rw [← cnt_all Rul.src (uq_nodup (l.map Rul.src)) l fun x hx => (uq_mem _ _).2 (List.mem_map.2 ⟨x, hx, rfl⟩)]
  refine sum_le fun s hs => ?_
  obtain ⟨y, hy, hys⟩ := List.mem_map.1 ((uq_mem _ _).1 hs)
  have hsok : POk s := hys ▸ (hl y hy).1
  unfold pruneS
  have hwr : withinB s s = true := within_refl hsok
  rw [← cnt_all Rul.dst (uq_nodup ((held l s).map Rul.dst)) (l.filter fun x => decide (x.src = s)) fun x hx => by
    obtain ⟨a, b⟩ := List.mem_filter.1 hx
    have b : x.src = s := by simpa using b
    exact (uq_mem _ _).2 (List.mem_map.2 ⟨x, List.mem_filter.2 ⟨a, by rw [b]; exact hwr⟩, rfl⟩)]
  refine sum_le fun d hd => ?_
  obtain ⟨z, hz, hzd⟩ := List.mem_map.1 ((uq_mem _ _).1 hd)
  have hdok : POk d := hzd ▸ (hl z (List.mem_filter.1 hz).1).2
  unfold cntD held
  rw [List.filter_filter, List.filter_filter]
  refine filter_le l fun x hx h => ?_
  simp only [Bool.and_eq_true, decide_eq_true_eq] at h ⊢
  rw [h.1, h.2]
  exact ⟨within_refl hdok, hwr⟩
structure StatOk (l : List Rul) : Prop where
  n : (bld l).1.length ≤ 33 * (gridN l + l.length) + 2
  one : 1 < (bld l).1.length
  lo : l.length ≤ (bld l).2
  hi : (bld l).2 = pruneN l
theorem stat_ok {l : List Rul} (gd : Gd l) (hl : PRok l) : StatOk l := by
  obtain ⟨ad, R, bi, hr⟩ := bld_rep hl gd.lok
  obtain ⟨wf, li, h1l⟩ := bld_ok l
  have he : (bld l).2 = pruneN l := bi.ent
  have hn : (bld l).1.length ≤ 2 + 33 * l.length + 32 * gridN l := bi.len
  exact ⟨by omega, h1l, by rw [he]; exact prune_ge hl, he⟩
end Go.Proofs.YtomhkbhgpmcbiaaGreat.Fs
