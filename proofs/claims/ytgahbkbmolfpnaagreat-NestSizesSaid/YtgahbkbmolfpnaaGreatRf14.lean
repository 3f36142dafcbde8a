/- The document's sizes of a list of rules: List, first, Pairs, Grid, Prune. -/
import Derived.Test.YtgahbkbmolfpnaaGreatNeSz
import Derived.Test.YtgahbkbmolfpnaaGreatRuRefH
namespace Go.Proofs.YtgahbkbmolfpnaaGreat.Fs
open Go Go.RowKit Go.Proofs.YtgahbkbmolfpnaaGreat.Sx Go.Proofs.YtgahbkbmolfpnaaGreat.Uq
set_option linter.unusedVariables false
set_option linter.unusedSimpArgs false
set_option linter.unusedSectionVars false
set_option maxRecDepth 10000
abbrev U32 (a : Int) : Prop := 0 ≤ a ∧ a ≤ 4294967295
theorem refWithin_s (p q : Pf) (hp : U32 p.addr) (hq : U32 q.addr) {h : Hp} {K : Value → Hp → Prop} (H : ∀ h', Ext h h' → K (.bool (withinB p q)) h') : CallsH Tryz.prog 28 #[p.val, q.val] h K := by
  refine quintetref02_Within_ok _ _ _ _ ?_
  unfold quintetref02_Within
  refine newC_i (cs := p.enc) fun h1 e1 c1 b1 z1 => newC_i (cs := q.enc) fun h2 e2 c2 b2 z2 => ?_
  have e12 := e1.trans e2
  refine ⟨_, _, ldS (vs := p.enc) (c1.ext e2) (by kernel_rfl), ref02_Check_s _ _ hp.1 hp.2 fun h3 e3 => ⟨_, rfl, br_i (fun u => ?_) (fun u => ?_)⟩⟩
  · have u : prefixCheck p.addr p.len = 0 := by simpa using u
    have e13 := e12.trans e3
    refine ⟨_, _, ldS (vs := q.enc) (c2.ext e3) (by kernel_rfl), ref02_Check_s _ _ hq.1 hq.2 fun h4 e4 => ⟨_, rfl, br_i (fun v => ?_) (fun v => ?_)⟩⟩
    · have e14 := e13.trans e4
      have c14 := (c1.ext e2).ext (e3.trans e4)
      have c24 := c2.ext (e3.trans e4)
      refine ⟨_, ld (c14.at_ 1 _ rfl) (by kernel_rfl), _, ld (c24.at_ 1 _ rfl) (by kernel_rfl), br_i (fun w => ?_) (fun w => ?_)⟩
      · refine ⟨_, _, ldS (vs := q.enc) c24 (by kernel_rfl), _, ld c14.head (by kernel_rfl), ref02_Has_s _ _ _ hq.1 hq.2 hp.1 hp.2 fun h5 e5 => ⟨_, rfl, ?_⟩⟩
        have := H h5 (e14.trans e5)
        unfold withinB at this
        rw [u, decide_eq_true (show q.len ≤ p.len by simpa using w)] at this
        exact this
      · have := H h4 e14
        unfold withinB at this
        rw [decide_eq_false (show ¬ q.len ≤ p.len by simpa using w)] at this
        simpa using this
    · have hv : ¬ prefixCheck q.addr q.len = 0 := by simpa using v
      have := H h4 (e13.trans e4)
      have hz : prefixHas q.addr q.len p.addr = false := by unfold prefixHas; simp [hv]
      unfold withinB at this
      rw [hz] at this
      simpa using this
  · have hu : ¬ prefixCheck p.addr p.len = 0 := by simpa using u
    have := H h3 (e12.trans e3)
    unfold withinB at this
    rw [show (prefixCheck p.addr p.len == 0) = false by simpa using hu] at this
    exact this
theorem pfbox {h : Hp} (p : Pf) {K : Addr → Hp → Prop} (H : ∀ h' a, Ext h h' → Cl h' a p.enc → K a h') : newC h (.cells #[(.int .u32 0), (.int .i64 0)] 45 (0, 0)) fun a h1 => HU Tryz.prog (Instr.storeAt 45 (.pointer (some a)) (.agg #[(.int .u32 p.addr), (.int .i64 p.len)])) h1 fun h2 => K a h2 := by
  refine newC_i (cs := (⟨0, 0⟩ : Pf).enc) fun h1 e1 c1 b1 z1 => ?_
  refine HU_box (us := p.enc) b1 rfl rfl (by kernel_rfl) rfl fun h2 c2 b2 f2 z2 => ?_
  exact H h2 _ ⟨by omega, fun k hk => by rw [f2.keep k (by omega) (by omega), e1.old k hk]⟩ c2
theorem any_take {l : List Rul} {i : Nat} {x : Rul} (h : l[i]? = some x) (p : Rul → Bool) : (l.take (i + 1)).any p = ((l.take i).any p || p x) := by
  rw [tk1 h, List.any_append]; simp
section
variable {h0 : Hp} {A : Option Addr} {c : Nat} {l : List Rul} (r : RSl h0 A l.length 12 (l.flatMap Rul.enc)) (hl : l.length ≤ 1000000000) (hwf : ∀ x, x ∈ l → x.wf)
include r hl hwf
/-! ### List -/
theorem refList_l3 {h : Hp} (e0 : Ext h0 h) {i : Nat} {x : Rul} (hx : l[i]? = some x) {K0 : Int → Hp → Prop} {K1 : (Option Addr) → Nat → Nat → Int → Hp → Prop}
    (H0 : ((l.take i).any fun y => y.id == x.id) = true → K0 111 h) (H1 : ((l.take i).any fun y => y.id == x.id) = false → K1 A l.length c (i : Int) h) :
    ∀ d k, k + d = i → ((l.take k).any fun y => y.id == x.id) = false → quintetref14_List_l3 A l.length c (i : Int) K0 K1 (d + 1) (k : Int) h := by
  have hil := (List.getElem?_eq_some_iff.1 hx).1
  intro d
  induction d with
  | zero =>
    intro k hk hn
    unfold quintetref14_List_l3
    have hk : k = i := by omega
    subst hk
    exact br_f (by simp) (H1 hn)
  | succ d ih =>
    intro k hk hn
    unfold quintetref14_List_l3
    have hy : l[k]? = some (l[k]'(by omega)) := List.getElem?_eq_getElem (by omega)
    generalize l[k]'(by omega) = y at hy
    obtain ⟨a, hix, hcl⟩ := ixRu (c := c) (r.ext e0) hy
    obtain ⟨a', hix', hcl'⟩ := ixRu (c := c) (r.ext e0) hx
    refine br_t (by simp; omega) ⟨_, hix, _, ld hcl.head (by kernel_rfl), _, hix', _, ld hcl'.head (by kernel_rfl), br_i (fun u => H0 ?_) (fun u => ?_)⟩
    · rw [List.any_eq_true]
      exact ⟨y, List.mem_of_getElem? (i := k) (by rw [List.getElem?_take, if_pos (by omega)]; exact hy), u⟩
    · rw [wrapN (by omega)]
      refine ih (k + 1) (by omega) ?_
      rw [any_take hy, hn, Bool.false_or]
      exact u
theorem refList_s {K : Value → Hp → Prop} (H : ∀ h', Ext h0 h' → K (.int .i64 (listE l)) h') : CallsH Tryz.prog 26 #[.slice A l.length c] h0 K := by
  refine quintetref14_List_ok _ _ _ ?_
  unfold quintetref14_List
  have key : ∀ d i h, i + d = l.length → Ext h0 h → lsE (l.take i) (l.drop i) = listE l → quintetref14_List_l2 A l.length c (fun x h => K (.int .i64 x) h) (fun h => K (.int .i64 0) h) (d + 1) (i : Int) h := by
    intro d
    induction d with
    | zero =>
      intro i h hi e hn
      unfold quintetref14_List_l2
      refine br_f (by simp; omega) ?_
      have := H h e
      rw [← hn, List.drop_of_length_le (by omega)] at this
      exact this
    | succ d ih =>
      intro i h hi e hn
      unfold quintetref14_List_l2
      have hx : l[i]? = some (l[i]'(by omega)) := List.getElem?_eq_getElem (by omega)
      generalize l[i]'(by omega) = x at hx
      obtain ⟨a, hix, hcl⟩ := ixRu (c := c) (r.ext e) hx
      rw [listE_at hx] at hn
      refine br_t (by simp; omega) ⟨_, hix, _, _, _, _, _, _, _, _, _, _, _, _, ldS (vs := x.enc) hcl (by kernel_rfl), ?_⟩
      refine ref08_Check_s x (hwf x (List.mem_of_getElem? hx)) fun h1 e1 => ⟨_, _, rfl, br_i (fun u => ?_) (fun u => ?_)⟩
      · have u : x.check.1 ≠ 0 := by simpa using u
        rw [if_pos u] at hn
        rw [hn]
        exact H h1 (e.trans e1)
      · have u : ¬ x.check.1 ≠ 0 := by simpa using u
        rw [if_neg u] at hn
        refine ⟨i + 1, refList_l3 (c := c) r hl hwf (e.trans e1) hx (fun v => ?_) (fun v => ?_) i 0 (by omega) (by simp)⟩
        · rw [if_pos v] at hn
          have := H h1 (e.trans e1)
          rw [← hn] at this
          exact this
        · rw [if_neg (by rw [v]; decide)] at hn
          refine br_i (fun w => ?_) (fun w => ?_)
          · rw [if_pos (by simp at w; omega)] at hn
            have := H h1 (e.trans e1)
            rw [← hn] at this
            exact this
          · rw [if_neg (by simp at w; omega)] at hn
            rw [wrapN (by omega)]
            exact ih (i + 1) h1 (by omega) (e.trans e1) hn
  exact ⟨l.length + 1, key l.length 0 h0 (by omega) (Ext.refl _) (by simp [listE])⟩
/-! ### first -/
def samB (s : Pf) (dst : Bool) (x y : Rul) : Bool := withinB s y.src && (if dst then decide (y.dst = x.dst) else decide (y.src = x.src))
theorem refFirst_s {h : Hp} (e0 : Ext h0 h) {i : Nat} {x : Rul} (hx : l[i]? = some x) (s : Pf) (hs : U32 s.addr) (dst : Bool) {K : Value → Hp → Prop} (H : ∀ h', Ext h h' → K (.bool (!(l.take i).any (samB s dst x))) h') :
    CallsH Tryz.prog 27 #[.slice A l.length c, .int .i64 (i : Int), s.val, .bool dst] h K := by
  refine quintetref14_first_ok _ _ _ _ _ _ _ ?_
  unfold quintetref14_first
  have hil := (List.getElem?_eq_some_iff.1 hx).1
  refine newC_i (cs := s.enc) fun h1 e1 c1 b1 z1 => ⟨i + 1, ?_⟩
  have key : ∀ d k h2, k + d = i → Ext h1 h2 → (l.take k).any (samB s dst x) = false → quintetref14_first_l1 A l.length c (i : Int) dst ⟨h.size, 0, none⟩ (fun b h => K (.bool b) h) (fun h => K (.bool true) h) (d + 1) (k : Int) h2 := by
    intro d
    induction d with
    | zero =>
      intro k h2 hk e2 hn
      unfold quintetref14_first_l1
      have hk : k = i := by omega
      subst hk
      have := H h2 (e1.trans e2)
      rw [hn] at this
      exact br_f (by simp) this
    | succ d ih =>
      intro k h2 hk e2 hn
      unfold quintetref14_first_l1
      have hy : l[k]? = some (l[k]'(by omega)) := List.getElem?_eq_getElem (by omega)
      generalize l[k]'(by omega) = y at hy
      have eh := (e0.trans e1).trans e2
      have hym := List.mem_of_getElem? hy
      obtain ⟨a, hix, hcl⟩ := ixRu (c := c) (r.ext eh) hy
      refine br_t (by simp; omega) ⟨_, _, ldS (vs := s.enc) (c1.ext e2) (by kernel_rfl), _, hix, _, _, ldS (Rul.cl_src hcl) (by kernel_rfl), ?_⟩
      refine refWithin_s s y.src hs (hwf y hym).s fun h3 e3 => ⟨_, rfl, ?_⟩
      have e13 := e2.trans e3
      have eh3 := eh.trans e3
      obtain ⟨a', hix', hcl'⟩ := ixRu (c := c) (r.ext eh3) hx
      have hcy := hcl.ext e3
      have next : samB s dst x y = false → quintetref14_first_l1 A l.length c (i : Int) dst ⟨h.size, 0, none⟩ (fun b h => K (.bool b) h) (fun h => K (.bool true) h) (d + 1) (IntKind.i64.wrap ((k : Int) + 1)) h3 := fun hz => by
        rw [wrapN (by omega)]
        exact ih (k + 1) h3 (by omega) e13 (by rw [any_take hy, hn, hz]; rfl)
      have stop : samB s dst x y = true → K (.bool false) h3 := fun hz => by
        have := H h3 (e1.trans e13)
        have ha : (l.take i).any (samB s dst x) = true := by
          rw [List.any_eq_true]
          exact ⟨y, List.mem_of_getElem? (i := k) (by rw [List.getElem?_take, if_pos (by omega)]; exact hy), hz⟩
        rw [ha] at this
        exact this
      refine br_i (fun u => ?_) (fun u => next (by unfold samB; rw [u]; rfl))
      cases dst with
      | true =>
        refine br_t rfl ⟨_, hix, _, _, ldS (Rul.cl_dst hcy) (by kernel_rfl), _, hix', _, _, ldS (Rul.cl_dst hcl') (by kernel_rfl), _, eq_pf y.dst x.dst, br_i (fun v => stop ?_) (fun v => br_f rfl (next ?_))⟩
        · unfold samB; rw [u]; exact v
        · unfold samB; rw [u]; exact v
      | false =>
        refine br_f rfl (br_t rfl ⟨_, hix, _, _, ldS (Rul.cl_src hcy) (by kernel_rfl), _, hix', _, _, ldS (Rul.cl_src hcl') (by kernel_rfl), _, eq_pf y.src x.src, br_i (fun v => stop ?_) (fun v => next ?_)⟩)
        · unfold samB; rw [u]; exact v
        · unfold samB; rw [u]; exact v
  exact key i 0 h1 (by omega) (Ext.refl _) (by simp)
/-! ### Pairs -/
theorem refPairs_s (g : Hdr) (hg : U32 g.src ∧ U32 g.dst) {K : Value → Hp → Prop} (H : ∀ h', Ext h0 h' → K (.int .i64 (pairsN l g : Nat)) h') : CallsH Tryz.prog 14 #[.slice A l.length c, g.val] h0 K := by
  refine quintetref14_Pairs_ok _ _ _ _ _ _ _ _ ?_
  unfold quintetref14_Pairs
  refine newC_i (cs := g.enc) fun h1 e1 c1 b1 z1 => ⟨l.length + 1, ?_⟩
  have key : ∀ d i h, i + d = l.length → Ext h1 h → quintetref14_Pairs_l1 A l.length c ⟨h0.size, 0, none⟩ (fun x h => K (.int .i64 x) h) (d + 1) (((l.take i).filter (pairB g)).length : Nat) (i : Int) h := by
    intro d
    induction d with
    | zero =>
      intro i h hi e
      unfold quintetref14_Pairs_l1
      refine br_f (by simp; omega) ?_
      rw [List.take_of_length_le (by omega)]
      exact H h (e1.trans e)
    | succ d ih =>
      intro i h hi e
      unfold quintetref14_Pairs_l1
      have hx : l[i]? = some (l[i]'(by omega)) := List.getElem?_eq_getElem (by omega)
      generalize l[i]'(by omega) = x at hx
      have hw := hwf x (List.mem_of_getElem? hx)
      have eh := e1.trans e
      obtain ⟨a, hix, hcl⟩ := ixRu (c := c) (r.ext eh) hx
      have hle := filtle l i (pairB g)
      have nextF : pairB g x = false → ∀ h2, Ext h h2 → quintetref14_Pairs_l1 A l.length c ⟨h0.size, 0, none⟩ (fun x h => K (.int .i64 x) h) (d + 1) (((l.take i).filter (pairB g)).length : Nat) (IntKind.i64.wrap ((i : Int) + 1)) h2 := fun hz h2 e2 => by
        have := ih (i + 1) h2 (by omega) (e.trans e2)
        rw [filt1 hx, hz, if_neg (by decide), Nat.add_zero] at this
        rw [wrapN (by omega)]
        exact this
      refine br_t (by simp; omega) ⟨_, hix, _, _, _, _, _, _, _, _, _, _, _, _, ldS (vs := x.enc) hcl (by kernel_rfl), ?_⟩
      refine ref08_May_s x hw fun h2 e2 => ⟨_, rfl, br_i (fun u => ?_) (fun u => nextF (by unfold pairB; rw [u]; rfl) h2 e2)⟩
      refine ⟨_, hix, _, _, ldS (Rul.cl_src (hcl.ext e2)) (by kernel_rfl), _, ld (c1.ext (e.trans e2)).head (by kernel_rfl), ?_⟩
      refine ref02_Has_s _ _ _ hw.s.1 hw.s.2 hg.1.1 hg.1.2 fun h3 e3 => ⟨_, rfl, br_i (fun v => ?_) (fun v => nextF (by have v' : prefixHas x.sA x.sL g.src = false := v; unfold pairB; rw [u, v']; rfl) h3 (e2.trans e3))⟩
      have e23 := e2.trans e3
      refine ⟨_, hix, _, _, ldS (Rul.cl_dst (hcl.ext e23)) (by kernel_rfl), _, ld ((c1.ext (e.trans e23)).at_ 1 _ rfl) (by kernel_rfl), ?_⟩
      refine ref02_Has_s _ _ _ hw.d.1 hw.d.2 hg.2.1 hg.2.2 fun h4 e4 => ⟨_, rfl, br_i (fun w => ?_) (fun w => nextF (by have v' : prefixHas x.sA x.sL g.src = true := v; have w' : prefixHas x.dA x.dL g.dst = false := w; unfold pairB; rw [u, v', w']; rfl) h4 (e23.trans e4))⟩
      have := ih (i + 1) h4 (by omega) (e.trans (e23.trans e4))
      have hz : pairB g x = true := by have v' : prefixHas x.sA x.sL g.src = true := v; have w' : prefixHas x.dA x.dL g.dst = true := w; unfold pairB; rw [u, v', w']; rfl
      rw [filt1 hx, hz, if_pos rfl] at this
      rw [wrapN (by omega), wrapN (by omega)]
      exact this
  have := key l.length 0 h1 (by omega) (Ext.refl _)
  exact this
end
/-! ### Grid, Prune -/
theorem self_in {p : Pf} (hp : U32 p.addr) (h : prefixCheck p.addr p.len = 0) : withinB p p = true := by
  obtain ⟨l0, l1⟩ := prefixCheck_len h
  obtain ⟨n, hn⟩ := Int.eq_ofNat_of_zero_le l0
  have hq : bAndNot .u32 p.addr (careV (n : Nat)) = 0 := by
    rw [← hn]
    have h' := h
    unfold prefixCheck at h'
    rw [if_neg (by omega), if_neg (by omega)] at h'
    split at h'
    · cases h'
    · rename_i hq; simpa using hq
  have := (has_bits p.addr p.addr hp.1 hp.2 n (by omega) hq).2 fun _ _ => rfl
  unfold withinB prefixHas
  rw [h, hn]
  simp [this]
theorem chk_pf {x : Rul} (h : x.check.1 = 0) : prefixCheck x.src.addr x.src.len = 0 ∧ prefixCheck x.dst.addr x.dst.len = 0 := by
  unfold Rul.check at h
  split at h
  · cases h
  · unfold Rul.check2 at h
    cases hf : firstBad x.parts 0 with
    | none => exact ⟨firstBad_none _ _ hf _ (by simp [Rul.parts, Rul.src]), firstBad_none _ _ hf _ (by simp [Rul.parts, Rul.dst])⟩
    | some v =>
      obtain ⟨e, j⟩ := v
      rw [hf] at h
      exact absurd h (firstBad_some _ _ e j hf)
theorem uq_take {l : List Rul} {i : Nat} {x : Rul} (h : l[i]? = some x) (f : Rul → Pf) : uq ((l.take (i + 1)).map f) = if f x ∈ uq ((l.take i).map f) then uq ((l.take i).map f) else uq ((l.take i).map f) ++ [f x] := by
  rw [tk1 h, List.map_append, List.map_singleton, uq_snoc]
theorem held_take {l : List Rul} {i : Nat} {x : Rul} (h : l[i]? = some x) (s : Pf) : held (l.take (i + 1)) s = if withinB s x.src = true then held (l.take i) s ++ [x] else held (l.take i) s := by
  unfold held
  rw [tk1 h, List.filter_append, List.filter_cons, List.filter_nil]
  split <;> simp
def gridTo (l : List Rul) (i : Nat) : Nat := ((uq ((l.take i).map Rul.src)).map fun s => (held l s).length).sum
def pruneTo (l : List Rul) (i : Nat) : Nat := ((uq ((l.take i).map Rul.src)).map (pruneS l)).sum
def midTo (l : List Rul) (s : Pf) (k : Nat) : Nat := ((uq ((held (l.take k) s).map Rul.dst)).map (cntD (held l s))).sum
section
variable {h0 : Hp} {A : Option Addr} {c : Nat} {l : List Rul} (r : RSl h0 A l.length 12 (l.flatMap Rul.enc)) (hwf : ∀ x, x ∈ l → x.wf) (ok : listE l = 0)
include r hwf ok
theorem first_src {i : Nat} {x : Rul} (hx : l[i]? = some x) : ((l.take i).any (samB x.src false x)) = decide (x.src ∈ uq ((l.take i).map Rul.src)) := by
  have hxm := List.mem_of_getElem? hx
  have hs := self_in (hwf x hxm).s (chk_pf (listE_chk ok x hxm)).1
  rw [Bool.eq_iff_iff, List.any_eq_true, decide_eq_true_eq, uq_mem, List.mem_map]
  constructor
  · rintro ⟨y, hy, he⟩
    unfold samB at he
    simp only [Bool.and_eq_true, Bool.false_eq_true, if_false, decide_eq_true_eq] at he
    exact ⟨y, hy, he.2⟩
  · rintro ⟨y, hy, he⟩
    refine ⟨y, hy, ?_⟩
    unfold samB
    rw [he]
    simp [hs]
theorem first_dst {k : Nat} {x : Rul} (s : Pf) : ((l.take k).any (samB s true x)) = decide (x.dst ∈ uq ((held (l.take k) s).map Rul.dst)) := by
  rw [Bool.eq_iff_iff, List.any_eq_true, decide_eq_true_eq, uq_mem, List.mem_map]
  constructor
  · rintro ⟨y, hy, he⟩
    unfold samB at he
    simp only [Bool.and_eq_true, if_true, decide_eq_true_eq] at he
    exact ⟨y, List.mem_filter.2 ⟨hy, he.1⟩, he.2⟩
  · rintro ⟨y, hy, he⟩
    obtain ⟨a, b⟩ := List.mem_filter.1 hy
    refine ⟨y, a, ?_⟩
    unfold samB
    rw [b, he]
    simp
theorem grid_l3 {s : Pf} (hs : U32 s.addr) {a : Addr} {h1 : Hp} (e0 : Ext h0 h1) (ca : Cl h1 a s.enc) (n : Nat) (hn : n ≤ 4096) (i : Int) {K0 : (Option Addr) → Nat → Nat → Int → Int → Hp → Prop} (H : ∀ h', Ext h1 h' → K0 A l.length c ((n + (held l s).length : Nat) : Int) i h') :
    ∀ d k h, k + d = l.length → Ext h1 h → quintetref14_Grid_l3 A l.length c i a K0 (d + 1) ((n + (held (l.take k) s).length : Nat) : Int) (k : Int) h := by
  have hlen := listE_len ok
  intro d
  induction d with
  | zero =>
    intro k h hk e
    unfold quintetref14_Grid_l3
    refine br_f (by simp; omega) ?_
    rw [List.take_of_length_le (by omega)]
    exact H h e
  | succ d ih =>
    intro k h hk e
    unfold quintetref14_Grid_l3
    have hx : l[k]? = some (l[k]'(by omega)) := List.getElem?_eq_getElem (by omega)
    generalize l[k]'(by omega) = x at hx
    have eh := e0.trans e
    obtain ⟨b, hix, hcl⟩ := ixRu (c := c) (r.ext eh) hx
    have hle := filtle l k fun r => withinB s r.src
    refine br_t (by simp; omega) ⟨_, _, ldS (vs := s.enc) (ca.ext e) (by kernel_rfl), _, hix, _, _, ldS (Rul.cl_src hcl) (by kernel_rfl), ?_⟩
    refine refWithin_s s x.src hs (hwf x (List.mem_of_getElem? hx)).s fun h2 e2 => ⟨_, rfl, ?_⟩
    have := ih (k + 1) h2 (by omega) (e.trans e2)
    rw [held_take hx] at this
    refine br_i (fun u => ?_) (fun u => ?_)
    · rw [if_pos u, List.length_append, List.length_singleton, ← Nat.add_assoc] at this
      rw [wrapN (by unfold held; omega), wrapN (by omega)]
      exact this
    · rw [if_neg (by rw [u]; decide)] at this
      rw [wrapN (by omega)]
      exact this
theorem gridTo_le (i : Nat) : gridTo l i ≤ 4096 := by
  have hlen := listE_len ok
  have h1 := uq_len ((l.take i).map Rul.src)
  rw [List.length_map, List.length_take] at h1
  have h2 := sum_bd (fun s => (held l s).length) 64 (uq ((l.take i).map Rul.src)) fun s _ => Nat.le_trans (held_le l s) hlen
  have h3 := Nat.mul_le_mul_right 64 (show (uq ((l.take i).map Rul.src)).length ≤ 64 by omega)
  unfold gridTo
  omega
theorem grid_l2 {K0 : Int → Hp → Prop} (H : ∀ h', Ext h0 h' → K0 (gridN l : Nat) h') :
    ∀ d i h, i + d = l.length → Ext h0 h → quintetref14_Grid_l2 A l.length c K0 (d + 1) (gridTo l i : Nat) (i : Int) h := by
  have hlen := listE_len ok
  intro d
  induction d with
  | zero =>
    intro i h hi e
    unfold quintetref14_Grid_l2
    refine br_f (by simp; omega) ?_
    unfold gridTo
    rw [List.take_of_length_le (by omega)]
    exact H h e
  | succ d ih =>
    intro i h hi e
    unfold quintetref14_Grid_l2
    have hx : l[i]? = some (l[i]'(by omega)) := List.getElem?_eq_getElem (by omega)
    generalize l[i]'(by omega) = x at hx
    have hw := hwf x (List.mem_of_getElem? hx)
    obtain ⟨b, hix, hcl⟩ := ixRu (c := c) (r.ext e) hx
    refine br_t (by simp; omega) ⟨_, hix, _, _, ldS (Rul.cl_src hcl) (by kernel_rfl), ?_⟩
    refine pfbox x.src fun h2 a e2 ca => ⟨_, _, ldS (vs := x.src.enc) ca (by kernel_rfl), ?_⟩
    refine refFirst_s (c := c) r (by omega) hwf (e.trans e2) hx x.src hw.s false fun h3 e3 => ⟨_, rfl, ?_⟩
    rw [first_src r hwf ok hx]
    have e03 := e.trans (e2.trans e3)
    have hu := uq_take hx Rul.src
    refine br_i (fun u => ?_) (fun u => ?_)
    · have u : x.src ∈ uq ((l.take i).map Rul.src) := by simpa using u
      rw [if_pos u] at hu
      have := ih (i + 1) h3 (by omega) e03
      unfold gridTo at this ⊢
      rw [hu] at this
      rw [wrapN (by omega)]
      exact this
    · have u : ¬ x.src ∈ uq ((l.take i).map Rul.src) := by simpa using u
      rw [if_neg u] at hu
      have hb := gridTo_le r hwf ok i
      refine ⟨l.length + 1, ?_⟩
      have := grid_l3 (c := c) r hwf ok hw.s e03 (ca.ext e3) (gridTo l i) hb (i : Int) (K0 := fun _ _ _ x85 x86 h87 => quintetref14_Grid_l2 A l.length c K0 (d + 1) x85 (IntKind.i64.wrap (x86 + 1)) h87) (fun h4 e4 => by
        have := ih (i + 1) h4 (by omega) (e03.trans e4)
        rw [wrapN (by omega)]
        have hs : gridTo l (i + 1) = gridTo l i + (held l x.src).length := by
          unfold gridTo
          rw [hu, List.map_append, List.map_singleton, List.sum_append, List.sum_singleton]
        rw [hs] at this
        exact this) l.length 0 h3 (by omega) (Ext.refl _)
      simpa [held] using this
theorem refGrid_ok {K : Value → Hp → Prop} (H : ∀ h', Ext h0 h' → K (.tuple #[.int .i64 (gridN l : Nat), .int .i64 0]) h') : CallsH Tryz.prog 9 #[.slice A l.length c] h0 K := by
  have hlen := listE_len ok
  refine quintetref14_Grid_ok _ _ _ ?_
  unfold quintetref14_Grid
  refine refList_s (c := c) r (by omega) hwf fun h1 e1 => ⟨_, rfl, br_f (by rw [ok]; rfl) ⟨l.length + 1, ?_⟩⟩
  have := grid_l2 (c := c) (K0 := fun x h => K (.tuple #[.int .i64 x, .int .i64 0]) h) (r.ext e1) hwf ok (fun h2 e2 => H h2 (e1.trans e2)) l.length 0 h1 (by omega) (Ext.refl _)
  exact this
/-! ### Prune -/
theorem prune_l15 {s dd : Pf} (hs : U32 s.addr) (hd : U32 dd.addr) {a a' : Addr} {h1 : Hp} (e0 : Ext h0 h1) (ca : Cl h1 a s.enc) (cd : Cl h1 a' dd.enc) (n : Nat) (hn : n ≤ 1000000) (i k : Int) {K0 : (Option Addr) → Nat → Nat → Int → Int → Addr → Int → Hp → Prop} (H : ∀ h', Ext h1 h' → K0 A l.length c ((n + cntD (held l s) dd : Nat) : Int) i a k h') :
    ∀ d j h, j + d = l.length → Ext h1 h → quintetref14_Prune_l15 A l.length c i a k a' K0 (d + 1) ((n + ((l.take j).filter fun x => withinB s x.src && withinB dd x.dst).length : Nat) : Int) (j : Int) h := by
  have hlen := listE_len ok
  intro d
  induction d with
  | zero =>
    intro j h hj e
    unfold quintetref14_Prune_l15
    refine br_f (by simp; omega) ?_
    rw [List.take_of_length_le (by omega)]
    have hc : (l.filter fun x => withinB s x.src && withinB dd x.dst).length = cntD (held l s) dd := by
      unfold cntD held
      rw [List.filter_filter]
      exact congrArg List.length (List.filter_congr fun x _ => Bool.and_comm _ _)
    rw [hc]
    exact H h e
  | succ d ih =>
    intro j h hj e
    unfold quintetref14_Prune_l15
    have hx : l[j]? = some (l[j]'(by omega)) := List.getElem?_eq_getElem (by omega)
    generalize l[j]'(by omega) = x at hx
    have hw := hwf x (List.mem_of_getElem? hx)
    have eh := e0.trans e
    obtain ⟨b, hix, hcl⟩ := ixRu (c := c) (r.ext eh) hx
    have hle := filtle l j fun x => withinB s x.src && withinB dd x.dst
    have nextF : (withinB s x.src && withinB dd x.dst) = false → ∀ h2, Ext h h2 → quintetref14_Prune_l15 A l.length c i a k a' K0 (d + 1) ((n + ((l.take j).filter fun x => withinB s x.src && withinB dd x.dst).length : Nat) : Int) (IntKind.i64.wrap ((j : Int) + 1)) h2 := fun hz h2 e2 => by
      have := ih (j + 1) h2 (by omega) (e.trans e2)
      rw [filt1 hx, hz, if_neg (by decide), Nat.add_zero] at this
      rw [wrapN (by omega)]
      exact this
    refine br_t (by simp; omega) ⟨_, _, ldS (vs := s.enc) (ca.ext e) (by kernel_rfl), _, hix, _, _, ldS (Rul.cl_src hcl) (by kernel_rfl), ?_⟩
    refine refWithin_s s x.src hs hw.s fun h2 e2 => ⟨_, rfl, br_i (fun u => ?_) (fun u => nextF (by rw [u]; rfl) h2 e2)⟩
    refine ⟨_, _, ldS (vs := dd.enc) (cd.ext (e.trans e2)) (by kernel_rfl), _, hix, _, _, ldS (Rul.cl_dst (hcl.ext e2)) (by kernel_rfl), ?_⟩
    refine refWithin_s dd x.dst hd hw.d fun h3 e3 => ⟨_, rfl, br_i (fun v => ?_) (fun v => nextF (by rw [u, v]; rfl) h3 (e2.trans e3))⟩
    have := ih (j + 1) h3 (by omega) (e.trans (e2.trans e3))
    rw [filt1 hx, u, v, if_pos (show (true && true) = true from rfl), ← Nat.add_assoc] at this
    rw [wrapN (by omega), wrapN (by omega)]
    exact this
theorem midTo_le (s : Pf) (k : Nat) : midTo l s k ≤ 4096 := by
  have hlen := listE_len ok
  have h1 := uq_len ((held (l.take k) s).map Rul.dst)
  have h0 := held_le (l.take k) s
  rw [List.length_take] at h0
  rw [List.length_map] at h1
  have h2 := sum_bd (cntD (held l s)) 64 (uq ((held (l.take k) s).map Rul.dst)) fun d _ => Nat.le_trans (cntD_le _ d) (Nat.le_trans (held_le l s) hlen)
  have h3 := Nat.mul_le_mul_right 64 (show (uq ((held (l.take k) s).map Rul.dst)).length ≤ 64 by omega)
  unfold midTo
  omega
theorem pruneTo_le (i : Nat) : pruneTo l i ≤ 262144 := by
  have hlen := listE_len ok
  have h1 := uq_len ((l.take i).map Rul.src)
  rw [List.length_map, List.length_take] at h1
  have h2 := sum_bd (pruneS l) 4096 (uq ((l.take i).map Rul.src)) fun s _ => pruneS_le hlen s
  have h3 := Nat.mul_le_mul_right 4096 (show (uq ((l.take i).map Rul.src)).length ≤ 64 by omega)
  unfold pruneTo
  omega
theorem prune_l12 {s : Pf} (hs : U32 s.addr) {a : Addr} {h1 : Hp} (e0 : Ext h0 h1) (ca : Cl h1 a s.enc) (n : Nat) (hn : n ≤ 262144) (i : Int) {K0 : (Option Addr) → Nat → Nat → Int → Int → Hp → Prop} (H : ∀ h', Ext h1 h' → K0 A l.length c ((n + pruneS l s : Nat) : Int) i h') :
    ∀ d k h, k + d = l.length → Ext h1 h → quintetref14_Prune_l12 A l.length c i a K0 (d + 1) ((n + midTo l s k : Nat) : Int) (k : Int) h := by
  have hlen := listE_len ok
  intro d
  induction d with
  | zero =>
    intro k h hk e
    unfold quintetref14_Prune_l12
    refine br_f (by simp; omega) ?_
    unfold midTo
    rw [List.take_of_length_le (by omega)]
    exact H h e
  | succ d ih =>
    intro k h hk e
    unfold quintetref14_Prune_l12
    have hx : l[k]? = some (l[k]'(by omega)) := List.getElem?_eq_getElem (by omega)
    generalize l[k]'(by omega) = x at hx
    have hw := hwf x (List.mem_of_getElem? hx)
    have eh := e0.trans e
    obtain ⟨b, hix, hcl⟩ := ixRu (c := c) (r.ext eh) hx
    refine br_t (by simp; omega) ⟨_, hix, _, _, ldS (Rul.cl_dst hcl) (by kernel_rfl), ?_⟩
    refine pfbox x.dst fun h2 a2 e2 cd => ⟨_, _, ldS (vs := s.enc) (ca.ext (e.trans e2)) (by kernel_rfl), _, hix, _, _, ldS (Rul.cl_src (hcl.ext e2)) (by kernel_rfl), ?_⟩
    refine refWithin_s s x.src hs hw.s fun h3 e3 => ⟨_, rfl, ?_⟩
    have hh := held_take hx s
    have e13 := e.trans (e2.trans e3)
    refine br_i (fun u => ?_) (fun u => ?_)
    · have u : withinB s x.src = false := by simpa using u
      rw [if_neg (by rw [u]; decide)] at hh
      have := ih (k + 1) h3 (by omega) e13
      unfold midTo at this ⊢
      rw [hh] at this
      rw [wrapN (by omega)]
      exact this
    · have u : withinB s x.src = true := by simpa using u
      rw [if_pos u] at hh
      refine ⟨_, _, ldS (vs := s.enc) (ca.ext e13) (by kernel_rfl), refFirst_s (c := c) r (by omega) hwf (e0.trans e13) hx s hs true fun h4 e4 => ⟨_, rfl, ?_⟩⟩
      rw [first_dst r hwf ok s]
      have e14 := e13.trans e4
      have hu : uq ((held (l.take (k + 1)) s).map Rul.dst) = if x.dst ∈ uq ((held (l.take k) s).map Rul.dst) then uq ((held (l.take k) s).map Rul.dst) else uq ((held (l.take k) s).map Rul.dst) ++ [x.dst] := by
        rw [hh, List.map_append, List.map_singleton, uq_snoc]
      refine br_i (fun v => ?_) (fun v => ?_)
      · have v : x.dst ∈ uq ((held (l.take k) s).map Rul.dst) := by simpa using v
        rw [if_pos v] at hu
        have := ih (k + 1) h4 (by omega) e14
        unfold midTo at this ⊢
        rw [hu] at this
        rw [wrapN (by omega)]
        exact this
      · have v : ¬ x.dst ∈ uq ((held (l.take k) s).map Rul.dst) := by simpa using v
        rw [if_neg v] at hu
        unfold quintetref14_Prune_j14
        have hb := midTo_le r hwf ok s k
        refine ⟨l.length + 1, ?_⟩
        have := prune_l15 (c := c) r hwf ok hs hw.d (e0.trans e14) (ca.ext e14) (cd.ext (e3.trans e4)) (n + midTo l s k) (by omega) i (k : Int) (K0 := fun _ _ _ x651 _ _ x654 h655 => quintetref14_Prune_l12 A l.length c i a K0 (d + 1) x651 (IntKind.i64.wrap (x654 + 1)) h655) (fun h5 e5 => by
          have := ih (k + 1) h5 (by omega) (e14.trans e5)
          rw [wrapN (by omega)]
          have hs' : midTo l s (k + 1) = midTo l s k + cntD (held l s) x.dst := by
            unfold midTo
            rw [hu, List.map_append, List.map_singleton, List.sum_append, List.sum_singleton]
          rw [hs', ← Nat.add_assoc] at this
          exact this) l.length 0 h4 (by omega) (Ext.refl _)
        simpa using this
theorem prune_l8 {K0 : Int → Hp → Prop} (H : ∀ h', Ext h0 h' → K0 (pruneN l : Nat) h') :
    ∀ d i h, i + d = l.length → Ext h0 h → quintetref14_Prune_l8 A l.length c K0 (d + 1) (pruneTo l i : Nat) (i : Int) h := by
  have hlen := listE_len ok
  intro d
  induction d with
  | zero =>
    intro i h hi e
    unfold quintetref14_Prune_l8
    refine br_f (by simp; omega) ?_
    unfold pruneTo
    rw [List.take_of_length_le (by omega)]
    exact H h e
  | succ d ih =>
    intro i h hi e
    unfold quintetref14_Prune_l8
    have hx : l[i]? = some (l[i]'(by omega)) := List.getElem?_eq_getElem (by omega)
    generalize l[i]'(by omega) = x at hx
    have hw := hwf x (List.mem_of_getElem? hx)
    obtain ⟨b, hix, hcl⟩ := ixRu (c := c) (r.ext e) hx
    refine br_t (by simp; omega) ⟨_, hix, _, _, ldS (Rul.cl_src hcl) (by kernel_rfl), ?_⟩
    refine pfbox x.src fun h2 a e2 ca => ⟨_, _, ldS (vs := x.src.enc) ca (by kernel_rfl), ?_⟩
    refine refFirst_s (c := c) r (by omega) hwf (e.trans e2) hx x.src hw.s false fun h3 e3 => ⟨_, rfl, ?_⟩
    rw [first_src r hwf ok hx]
    have e03 := e.trans (e2.trans e3)
    have hu := uq_take hx Rul.src
    refine br_i (fun u => ?_) (fun u => ?_)
    · have u : x.src ∈ uq ((l.take i).map Rul.src) := by simpa using u
      rw [if_pos u] at hu
      have := ih (i + 1) h3 (by omega) e03
      unfold pruneTo at this ⊢
      rw [hu] at this
      rw [wrapN (by omega)]
      exact this
    · have u : ¬ x.src ∈ uq ((l.take i).map Rul.src) := by simpa using u
      rw [if_neg u] at hu
      have hb := pruneTo_le r hwf ok i
      refine ⟨l.length + 1, ?_⟩
      have := prune_l12 (c := c) r hwf ok hw.s e03 (ca.ext e3) (pruneTo l i) hb (i : Int) (K0 := fun _ _ _ x85 x86 h87 => quintetref14_Prune_l8 A l.length c K0 (d + 1) x85 (IntKind.i64.wrap (x86 + 1)) h87) (fun h4 e4 => by
        have := ih (i + 1) h4 (by omega) (e03.trans e4)
        rw [wrapN (by omega)]
        have hs : pruneTo l (i + 1) = pruneTo l i + pruneS l x.src := by
          unfold pruneTo
          rw [hu, List.map_append, List.map_singleton, List.sum_append, List.sum_singleton]
        rw [hs] at this
        exact this) l.length 0 h3 (by omega) (Ext.refl _)
      simpa [midTo, held, uq] using this
theorem refPrune_ok {K : Value → Hp → Prop} (H : ∀ h', Ext h0 h' → K (.tuple #[.int .i64 (pruneN l : Nat), .int .i64 0]) h') : CallsH Tryz.prog 7 #[.slice A l.length c] h0 K := by
  have hlen := listE_len ok
  refine quintetref14_Prune_ok _ _ _ ?_
  unfold quintetref14_Prune
  refine refList_s (c := c) r (by omega) hwf fun h1 e1 => ⟨_, rfl, br_f (by rw [ok]; rfl) ⟨l.length + 1, ?_⟩⟩
  have := prune_l8 (c := c) (K0 := fun x h => K (.tuple #[.int .i64 x, .int .i64 0]) h) (r.ext e1) hwf ok (fun h2 e2 => H h2 (e1.trans e2)) l.length 0 h1 (by omega) (Ext.refl _)
  exact this
end
theorem refGrid_s {h0 : Hp} {A : Option Addr} {c : Nat} {l : List Rul} (r : RSl h0 A l.length 12 (l.flatMap Rul.enc)) (hl : l.length ≤ 1000000000) (hwf : ∀ x, x ∈ l → x.wf) {K : Value → Hp → Prop} (H : ∀ h', Ext h0 h' → K (.tuple #[.int .i64 (if listE l = 0 then (gridN l : Nat) else 0 : Int), .int .i64 (listE l)]) h') : CallsH Tryz.prog 9 #[.slice A l.length c] h0 K := by
  by_cases ok : listE l = 0
  · rw [if_pos ok, ok] at H
    exact refGrid_ok r hwf ok H
  · rw [if_neg ok] at H
    refine quintetref14_Grid_ok _ _ _ ?_
    unfold quintetref14_Grid
    exact refList_s (c := c) r hl hwf fun h1 e1 => ⟨_, rfl, br_t (by simpa using ok) (H h1 e1)⟩
theorem refPrune_s {h0 : Hp} {A : Option Addr} {c : Nat} {l : List Rul} (r : RSl h0 A l.length 12 (l.flatMap Rul.enc)) (hl : l.length ≤ 1000000000) (hwf : ∀ x, x ∈ l → x.wf) {K : Value → Hp → Prop} (H : ∀ h', Ext h0 h' → K (.tuple #[.int .i64 (if listE l = 0 then (pruneN l : Nat) else 0 : Int), .int .i64 (listE l)]) h') : CallsH Tryz.prog 7 #[.slice A l.length c] h0 K := by
  by_cases ok : listE l = 0
  · rw [if_pos ok, ok] at H
    exact refPrune_ok r hwf ok H
  · rw [if_neg ok] at H
    refine quintetref14_Prune_ok _ _ _ ?_
    unfold quintetref14_Prune
    exact refList_s (c := c) r hl hwf fun h1 e1 => ⟨_, rfl, br_t (by simpa using ok) (H h1 e1)⟩
end Go.Proofs.YtgahbkbmolfpnaaGreat.Fs
