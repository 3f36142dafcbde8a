/- The document's levels: levels, Levels, Depth, Find; the laws' helpers. -/
import Derived.Test.YtmgbbedbilefaaaNeRef
namespace Go.Proofs.Ytmgbbedbilefaaa.Fs
open Go Go.RowKit Go.Sort Go.Proofs.Ytmgbbedbilefaaa.Sx Go.Proofs.Ytmgbbedbilefaaa.Sp Go.Proofs.Ytmgbbedbilefaaa.Ne
set_option linter.unusedVariables false
set_option linter.unusedSimpArgs false
set_option maxRecDepth 10000
theorem app_iF {h0 h : Hp} {A : Option Addr} {c cx : Nat} {ax : Addr} {l : List Int} {x : Int} {K : Value → Hp → Prop} (e : Ext h0 h) (r : RowI h A c l) (hF : Fresh h0 A) (hx : Cl h ax (encI x)) (hl : l.length ≤ 1000000000)
    (H : ∀ h' A' c', Ext h0 h' → RowI h' A' c' (l ++ [x]) → Fresh h0 A' → Fr (blk A) h h' → K (.slice A' (l ++ [x]).length c') h') :
    HW Try.prog (Builtin.append_ #[25, 25] 25 #[.slice A l.length c, .slice (some ax) 1 cx]) h K := by
  obtain ⟨i, z, hi, hs, hb, hz, hc⟩ := info_int
  exact appF (z := z) encI_len encI_flat und_ints hi hz (by rw [hc]; rfl) hs (by omega) (by omega) e r hF hx hl H
theorem RowI.nil (h : Hp) : RowI h none 0 [] := RowC.nil
theorem ixIR {h : Hp} {A : Option Addr} {c : Nat} {l : List Int} (r : RSl h A l.length 1 (l.flatMap encI)) {i : Nat} {x : Int} (hi : l[i]? = some x) : ∃ a, PV Try.prog (Instr.indexAt 25 (.slice A l.length c) (.int .i64 (i : Int))) (.pointer (some a)) ∧ HV Try.prog (Instr.loadAt 3 (.pointer (some a))) h (.int .i64 x) := by
  obtain ⟨a, _, _, hix, hcl⟩ := ixR (P := Try.prog) (T := 25) (E := 3) (c := c) (k := .i64) encI_len r rfl und_ints size_int hi
  exact ⟨a, hix, ld hcl.head (by kernel_rfl)⟩
theorem ixS {h : Hp} {A : Option Addr} {c : Nat} {l : List Sp} (r : RSl h A l.length 2 (l.flatMap Sp.enc)) {i : Nat} {x : Sp} (hi : l[i]? = some x) : ∃ a, PV Try.prog (Instr.indexAt 22 (.slice A l.length c) (.int .i64 (i : Int))) (.pointer (some a)) ∧ Cl h a (Sp.enc x) := by
  obtain ⟨a, _, _, hix, hcl⟩ := ixR (P := Try.prog) (T := 22) (E := 38) (c := c) (k := .i64) Sp.len r rfl und_sps size_sp hi
  exact ⟨a, hix, hcl⟩
abbrev lvs (D : Lv) : List Int := D.map fun x => ((x.2 : Nat) : Int)
theorem lvs_get {D : Lv} {j : Nat} {x : Sp × Nat} (h : D[j]? = some x) : (lvs D)[j]? = some ((x.2 : Nat) : Int) := by rw [List.getElem?_map, h]; rfl
theorem keys_get {D : Lv} {j : Nat} {x : Sp × Nat} (h : D[j]? = some x) : (keys D)[j]? = some x.1 := by rw [keys, List.getElem?_map, h]; rfl
section
variable {h0 : Hp} {A : Option Addr} {c : Nat} {l : List Sp}
theorem levels_l3 {hb : Hp} {U : List Sp} {B : Option Addr} {d i : Nat} {s : Sp} {D : Lv} (rU : RSl hb A U.length 2 (U.flatMap Sp.enc)) (hU : U.length ≤ 1000000000) (hs : U[i]? = some s) (rB : RowI hb B d (lvs D)) (hD : keys D = U.take i) (ht : top D ≤ i)
    {K0 : (Option Addr) → Nat → Nat → (Option Addr) → Nat → Nat → Int → Int → Hp → Prop} (H : ∀ h', Ext hb h' → K0 A U.length c B D.length d (i : Int) (least D s : Int) h') :
    ∀ (m lv : Nat), least D s - lv < m → lv ≤ least D s → ∀ (n j : Nat), i - j < n → j ≤ i → (∀ q x, q < j → D[q]? = some x → ¬ (x.2 = lv ∧ meetB x.1 s = true)) →
      ∃ k, ∀ h, Ext hb h → quintetref14_levels_l3 A U.length c B D.length d (i : Int) K0 k (lv : Int) (j : Int) h := by
  have hil := (List.getElem?_eq_some_iff.1 hs).1
  have hlen : D.length = i := by
    have := congrArg List.length hD
    rw [keys, List.length_map, List.length_take] at this
    omega
  have hlt := least_top D s
  intro m
  induction m with
  | zero => intro lv hm; omega
  | succ m ihm =>
    intro lv hm hlv n
    induction n with
    | zero => intro j hn; omega
    | succ n ihn =>
      intro j hn hj hd
      rcases Nat.eq_or_lt_of_le hj with ej | ej
      · subst ej
        refine ⟨1, fun h e => ?_⟩
        unfold quintetref14_levels_l3
        refine br_f (by simp) ?_
        have hf : freeB D s lv = true := freeB_iff.2 fun x hx he hmm => by
          obtain ⟨q, hq, rfl⟩ := List.mem_iff_getElem.1 hx
          exact hd q _ (by omega) (List.getElem?_eq_getElem hq) ⟨he, hmm⟩
        have : lv = least D s := by
          rcases Nat.eq_or_lt_of_le hlv with e' | e'
          · exact e'
          · have := least_min D s e'
            rw [hf] at this
            cases this
        have := H h e
        rw [← ‹lv = least D s›] at this
        exact this
      · have hx : D[j]? = some D[j] := List.getElem?_eq_getElem (by omega)
        generalize D[j] = x at hx
        have hk : U[j]? = some x.1 := by
          have := keys_get hx
          rw [hD, List.getElem?_take, if_pos ej] at this
          exact this
        by_cases c1 : x.2 = lv
        · by_cases c2 : meetB x.1 s = true
          · have hf : freeB D s lv = false := freeB_not.2 ⟨x, List.mem_of_getElem? hx, c1, c2⟩
            have hne : lv ≠ least D s := fun e => by rw [e, least_free] at hf; cases hf
            obtain ⟨k, hk2⟩ := ihm (lv + 1) (by omega) (by omega) (i + 1) 0 (by omega) (by omega) (by omega)
            refine ⟨k + 1, fun h e => ?_⟩
            unfold quintetref14_levels_l3
            refine br_t (by simpa using ej) ?_
            obtain ⟨a, hix, hld⟩ := ixIR (c := d) (rB.ext e).read (lvs_get hx)
            rw [List.length_map] at hix
            obtain ⟨a2, hix2, hc2⟩ := ixS (c := c) (rU.ext e) hk
            obtain ⟨a3, hix3, hc3⟩ := ixS (c := c) (rU.ext e) hs
            refine ⟨_, hix, _, hld, br_t (beq_iff_eq.2 (by omega)) ⟨_, hix2, _, _, ldS hc2 (by kernel_rfl), _, hix3, _, _, ldS hc3 (by kernel_rfl), meet_s x.1 s fun h1 e1 => ⟨_, rfl, br_t c2 ?_⟩⟩⟩
            rw [wrapN (by omega)]
            exact hk2 h1 (e.trans e1)
          · obtain ⟨k, hk2⟩ := ihn (j + 1) (by omega) (by omega) (fun q y hq hy => by
              rcases Nat.lt_or_ge q j with cq | cq
              · exact hd q y cq hy
              · have : q = j := by omega
                subst this
                rw [hx] at hy; cases hy
                exact fun h => c2 h.2)
            refine ⟨k + 1, fun h e => ?_⟩
            unfold quintetref14_levels_l3
            refine br_t (by simpa using ej) ?_
            obtain ⟨a, hix, hld⟩ := ixIR (c := d) (rB.ext e).read (lvs_get hx)
            rw [List.length_map] at hix
            obtain ⟨a2, hix2, hc2⟩ := ixS (c := c) (rU.ext e) hk
            obtain ⟨a3, hix3, hc3⟩ := ixS (c := c) (rU.ext e) hs
            refine ⟨_, hix, _, hld, br_t (beq_iff_eq.2 (by omega)) ⟨_, hix2, _, _, ldS hc2 (by kernel_rfl), _, hix3, _, _, ldS hc3 (by kernel_rfl), meet_s x.1 s fun h1 e1 => ⟨_, rfl, br_f (by simpa using c2) ?_⟩⟩⟩
            rw [wrapN (by omega)]
            exact hk2 h1 (e.trans e1)
        · obtain ⟨k, hk2⟩ := ihn (j + 1) (by omega) (by omega) (fun q y hq hy => by
            rcases Nat.lt_or_ge q j with cq | cq
            · exact hd q y cq hy
            · have : q = j := by omega
              subst this
              rw [hx] at hy; cases hy
              exact fun h => c1 h.1)
          refine ⟨k + 1, fun h e => ?_⟩
          unfold quintetref14_levels_l3
          refine br_t (by simpa using ej) ?_
          obtain ⟨a, hix, hld⟩ := ixIR (c := d) (rB.ext e).read (lvs_get hx)
          rw [List.length_map] at hix
          refine ⟨_, hix, _, hld, br_f ?_ ?_⟩
          · have : ¬ ((x.2 : Nat) : Int) = ((lv : Nat) : Int) := by omega
            simpa using this
          · rw [wrapN (by omega)]
            exact hk2 h e
theorem fold_app_take {U : List Sp} {i : Nat} {s : Sp} (hs : U[i]? = some s) : (U.take (i + 1)).foldl app [] = app ((U.take i).foldl app []) s := by rw [take1 hs, List.foldl_append]; rfl
theorem levels_l2 {U : List Sp} (rU : RSl h0 A U.length 2 (U.flatMap Sp.enc)) (hU : U.length ≤ 100000000) {K0 : (Option Addr) → Nat → Nat → Hp → Prop} (H : ∀ h' B d, Ext h0 h' → RowI h' B d (lvs (U.foldl app [])) → K0 B (U.foldl app []).length d h') :
    ∀ (k i : Nat) (h : Hp) (B : Option Addr) (d : Nat), U.length - i < k → i ≤ U.length → Ext h0 h → RowI h B d (lvs ((U.take i).foldl app [])) → Fresh h0 B →
      quintetref14_levels_l2 A U.length c K0 k B ((U.take i).foldl app []).length d (i : Int) h := by
  intro k
  induction k with
  | zero => intro i h B d hk; omega
  | succ k ih =>
    intro i h B d hk hi e rB hF
    unfold quintetref14_levels_l2
    refine br_i (fun p => ?_) (fun p => ?_)
    · have hlt : i < U.length := by simpa using p
      have hs := List.getElem?_eq_getElem hlt
      generalize U[i] = s at hs
      have hstep := fold_app_take hs
      have hD : keys ((U.take i).foldl app []) = U.take i := by rw [keys_app]; rfl
      have ht : top ((U.take i).foldl app []) ≤ i := by
        have := top_fold (U.take i) []
        simp [top] at this
        omega
      have hlenD : ((U.take i).foldl app []).length = i := by
        have := congrArg List.length hD
        rw [keys, List.length_map, List.length_take] at this
        omega
      have ih' := fun h B d => ih (i + 1) h B d (by omega) (by omega)
      rw [hstep] at ih'
      generalize (U.take i).foldl app [] = D at rB hD ht hlenD ih'
      have key := levels_l3 (c := c) (hb := h) (rU.ext e) (by omega) hs rB hD ht (K0 := fun A79 l79 c79 A80 l80 c80 x81 x82 h83 =>
        newC h83 (.cells #[(.int .i64 x82)] 3 (0, 0)) fun a85 h84 =>
        HW Try.prog (Builtin.append_ #[25, 25] 25 #[(.slice A80 l80 c80), (.slice (some a85) 1 1)]) h84 fun r87 h86 =>
        ∃ A88 : Option Addr, ∃ l88 : Nat, ∃ c88 : Nat, r87 = (.slice A88 l88 c88) ∧
        quintetref14_levels_l2 A U.length c K0 k A88 l88 c88 (IntKind.i64.wrap (x81 + 1)) h86) (fun h1 e1 => by
          refine newC_i fun h2 e2 c2 b2 z2 => ?_
          have hl' : (lvs D).length = D.length := by rw [List.length_map]
          rw [← hl']
          refine app_iF ((e.trans e1).trans e2) ((rB.ext e1).ext e2) hF c2 (by rw [hl']; omega) fun h3 B' d' e3 r3 hF3 f3 => ⟨_, _, _, rfl, ?_⟩
          rw [wrapN (by omega)]
          have hh : lvs (app D s) = lvs D ++ [(least D s : Int)] := by unfold app; simp
          have := ih' h3 B' d' e3 (by rw [hh]; exact r3) hF3
          have hl2 : (lvs D ++ [(least D s : Int)]).length = (app D s).length := by rw [← hh, List.length_map]
          rw [hl2]
          exact this) (least D s + 1) 0 (by omega) (by omega) (i + 1) 0 (by omega) (by omega) (by omega)
      obtain ⟨k2, hk2⟩ := key
      exact ⟨k2, hk2 h (Ext.refl _)⟩
    · have : i = U.length := by simp at p; omega
      subst this
      rw [List.take_length] at rB ⊢
      exact H h B d e rB
theorem levels_s {U : List Sp} (rU : RSl h0 A U.length 2 (U.flatMap Sp.enc)) (hU : U.length ≤ 100000000) {K : Value → Hp → Prop} (H : ∀ h' B d, Ext h0 h' → RowI h' B d (lvs (U.foldl app [])) → K (.slice B (U.foldl app []).length d) h') : CallsH Try.prog 29 #[.slice A U.length c] h0 K := by
  refine quintetref14_levels_ok _ _ _ ?_
  unfold quintetref14_levels
  exact ⟨U.length + 1, levels_l2 rU hU (fun h' B d e r => H h' B d e r) (U.length + 1) 0 h0 none 0 (by omega) (by omega) (Ext.refl _) (RowI.nil _) (Fresh.none _)⟩
/-! ### Levels -/
def pick (D : Lv) (s : Sp) : List Int := lvs (D.filter fun x => x.1 == s)
theorem pick_one {D : Lv} {s : Sp} (hk : (keys D).Pairwise (fun a b => aheadB a b = true)) (h : s ∈ keys D) : pick D s = [(lk D s : Int)] := by
  induction D with
  | nil => cases h
  | cons y D ih =>
    unfold keys at hk h
    rw [List.map_cons, List.pairwise_cons] at hk
    rw [List.map_cons, List.mem_cons] at h
    unfold pick lk
    rw [List.filter_cons, List.find?_cons]
    by_cases c : y.1 = s
    · have hb : (y.1 == s) = true := by simpa using c
      rw [hb]
      simp only [if_true]
      have : D.filter (fun x => x.1 == s) = [] := by
        rw [List.filter_eq_nil_iff]
        intro z hz hzs
        have e : z.1 = s := by simpa using hzs
        have := hk.1 z.1 (List.mem_map.2 ⟨z, hz, rfl⟩)
        rw [c, e, ahead_ir] at this
        cases this
      rw [this]
      rfl
    · have hb : (y.1 == s) = false := by simpa using c
      rw [hb]
      simp only [Bool.false_eq_true, if_false]
      have := ih hk.2 (h.elim (fun e => absurd e.symm c) id)
      unfold pick lk at this
      exact this
theorem RLevels_l3 {U : List Sp} {D : Lv} {B C : Option Addr} {d cc i : Nat} {s : Sp} (r : RSl h0 A l.length 2 (l.flatMap Sp.enc)) (hs : l[i]? = some s) (hil : i < 1000000000) (rU : RSl h0 B U.length 2 (U.flatMap Sp.enc)) (hU : U.length ≤ 100000000) (hD : keys D = U) (rN : RSl h0 C (lvs D).length 1 ((lvs D).flatMap encI)) {O : List Int} (hO : O.length ≤ 100000000)
    {K0 : (Option Addr) → Nat → Nat → (Option Addr) → Nat → Nat → (Option Addr) → Nat → Nat → (Option Addr) → Nat → Nat → Int → Hp → Prop}
    (H : ∀ h' Q q, Ext h0 h' → RowI h' Q q (O ++ pick D s) → Fresh h0 Q → K0 A l.length c B U.length d C (lvs D).length cc Q (O ++ pick D s).length q (i : Int) h') :
    ∀ (k j : Nat) (h : Hp) (Q : Option Addr) (q : Nat), U.length - j < k → j ≤ U.length → Ext h0 h → RowI h Q q (O ++ pick (D.take j) s) → Fresh h0 Q →
      quintetref14_Levels_l3 A l.length c B U.length d C (lvs D).length cc (i : Int) K0 k Q (O ++ pick (D.take j) s).length q (j : Int) h := by
  have hlenD : D.length = U.length := by rw [← hD, keys, List.length_map]
  intro k
  induction k with
  | zero => intro j h Q q hk; omega
  | succ k ih =>
    intro j h Q q hk hj e rQ hF
    unfold quintetref14_Levels_l3
    refine br_i (fun p => ?_) (fun p => ?_)
    · have hlt : j < U.length := by simpa using p
      have hx : D[j]? = some D[j] := List.getElem?_eq_getElem (by omega)
      generalize D[j] = x at hx
      have hk1 : U[j]? = some x.1 := by rw [← hD]; exact keys_get hx
      obtain ⟨a, hix, hcl⟩ := ixS (c := d) (rU.ext e) hk1
      obtain ⟨a2, hix2, hcl2⟩ := ixS (c := c) (r.ext e) hs
      have hstep : pick (D.take (j + 1)) s = pick (D.take j) s ++ (if x.1 = s then [((x.2 : Nat) : Int)] else []) := by
        obtain ⟨h1, h2⟩ := List.getElem?_eq_some_iff.1 hx
        rw [List.take_succ_eq_append_getElem h1, h2]
        unfold pick
        rw [List.filter_append]
        show List.map _ (_ ++ _) = _
        rw [List.map_append]
        congr 1
        by_cases ce : x.1 = s <;> simp [ce]
      have hpl : (pick (D.take j) s).length ≤ j := by
        unfold pick
        rw [List.length_map]
        have := List.length_filter_le (fun x => x.1 == s) (D.take j)
        rw [List.length_take] at this
        omega
      refine ⟨_, hix, _, _, ldS hcl (by kernel_rfl), _, hix2, _, _, ldS hcl2 (by kernel_rfl), _, eq_sp _ _, br_i (fun u => ?_) (fun u => ?_)⟩
      · have u : x.1 = s := by simpa using u
        rw [if_pos u] at hstep
        obtain ⟨a3, hix3, hld3⟩ := ixIR (c := cc) (rN.ext e) (lvs_get hx)
        refine ⟨_, hix3, _, hld3, newC_i fun h1 e1 c1 b1 z1 => app_iF (e.trans e1) (rQ.ext e1) hF c1 (by rw [List.length_append]; omega) fun h2 Q' q' e2 r2 hF2 f2 => ⟨_, _, _, rfl, ?_⟩⟩
        rw [wrapN (by omega), List.append_assoc, ← hstep]
        rw [List.append_assoc, ← hstep] at r2
        exact ih (j + 1) h2 Q' q' (by omega) (by omega) e2 r2 hF2
      · have u : ¬ x.1 = s := by simpa using u
        rw [if_neg u, List.append_nil] at hstep
        rw [wrapN (by omega), ← hstep]
        exact ih (j + 1) h Q q (by omega) (by omega) e (by rw [hstep]; exact rQ) hF
    · have : j = U.length := by simp at p; omega
      subst this
      have et : D.take U.length = D := by rw [← hlenD, List.take_length]
      rw [et] at rQ ⊢
      exact H h Q q e rQ hF
theorem RLevels_l2 {B C : Option Addr} {d cc : Nat} (r : RSl h0 A l.length 2 (l.flatMap Sp.enc)) (hl : l.length ≤ 100000000) (rU : RSl h0 B (unl l).length 2 ((unl l).flatMap Sp.enc)) (rN : RSl h0 C (lvs (DL l)).length 1 ((lvs (DL l)).flatMap encI))
    {K0 : (Option Addr) → Nat → Nat → Hp → Prop} (H : ∀ h' Q q, Ext h0 h' → RowI h' Q q (levs l) → Fresh h0 Q → K0 Q (levs l).length q h') :
    ∀ (k i : Nat) (h : Hp) (Q : Option Addr) (q : Nat), l.length - i < k → i ≤ l.length → Ext h0 h → RowI h Q q ((levs l).take i) → Fresh h0 Q →
      quintetref14_Levels_l2 A l.length c B (unl l).length d C (lvs (DL l)).length cc K0 k Q ((levs l).take i).length q (i : Int) h := by
  have hlev : (levs l).length = l.length := by simp [levs]
  intro k
  induction k with
  | zero => intro i h Q q hk; omega
  | succ k ih =>
    intro i h Q q hk hi e rQ hF
    unfold quintetref14_Levels_l2
    refine br_i (fun p => ?_) (fun p => ?_)
    · have hlt : i < l.length := by simpa using p
      have hs := List.getElem?_eq_getElem hlt
      generalize l[i] = s at hs
      have hlv : (levs l)[i]? = some (lk (DL l) s : Int) := by unfold levs; rw [List.getElem?_map, hs]; rfl
      have hpk : pick (DL l) s = [(lk (DL l) s : Int)] := pick_one (by rw [keys_DL]; exact unl_strict l) (by rw [keys_DL]; exact (unl_mem l s).2 (List.mem_of_getElem? hs))
      have hst : (levs l).take (i + 1) = (levs l).take i ++ pick (DL l) s := by
        obtain ⟨h1, h2⟩ := List.getElem?_eq_some_iff.1 hlv
        rw [List.take_succ_eq_append_getElem h1, h2, hpk]
      have hul := unl_len l
      have h00 : (levs l).take i = (levs l).take i ++ pick ((DL l).take 0) s := by simp [pick]
      have hO : ((levs l).take i).length ≤ 100000000 := by rw [List.length_take]; omega
      have rQ' := rQ
      rw [h00] at rQ' ⊢
      refine ⟨(unl l).length + 1, RLevels_l3 (h0 := h0) r hs (by omega) rU (by omega) (keys_DL l) rN hO (fun h1 Q1 q1 e1 r1 hF1 => ?_) ((unl l).length + 1) 0 h Q q (by omega) (by omega) e rQ' hF⟩
      rw [wrapN (by omega), ← hst]
      rw [← hst] at r1
      exact ih (i + 1) h1 Q1 q1 (by omega) (by omega) e1 r1 hF1
    · have : i = l.length := by simp at p; omega
      subst this
      rw [← hlev, List.take_length] at rQ ⊢
      exact H h Q q e rQ hF
theorem RLevels_s (r : RSl h0 A l.length 2 (l.flatMap Sp.enc)) (hl : l.length ≤ 100000000) {K : Value → Hp → Prop}
    (H0 : wrongB l = true → K (.tuple #[.slice none 0 0, .int .i64 30]) h0)
    (H1 : wrongB l = false → ∀ h' Q q, Ext h0 h' → Fresh h0 Q → RowI h' Q q (levs l) → K (.tuple #[.slice Q (levs l).length q, .int .i64 0]) h') : CallsH Try.prog 12 #[.slice A l.length c] h0 K := by
  refine quintetref14_Levels_ok _ _ _ ?_
  unfold quintetref14_Levels
  refine Wrong_s r (by omega) ⟨_, rfl, ?_⟩
  cases hw : wrongB l
  · refine br_f rfl (unlike_s r hl fun h1 B d e1 r1 => ⟨_, _, _, rfl, ?_⟩)
    have hul := unl_len l
    refine levels_s r1.read (by omega) fun h2 C cc e2 r2 => ⟨_, _, _, rfl, l.length + 1, ?_⟩
    have hl2 : ((unl l).foldl app []).length = (lvs (DL l)).length := by rw [List.length_map]; rfl
    rw [hl2]
    exact RLevels_l2 (h0 := h2) (r.ext (e1.trans e2)) hl (r1.ext e2).read r2.read (fun h3 Q q e3 r3 hF3 => H1 hw h3 Q q ((e1.trans e2).trans e3) (hF3.sub (e1.trans e2)) r3) (l.length + 1) 0 h2 none 0 (by omega) (by omega) (Ext.refl _) (RowI.nil _) (Fresh.none _)
  · exact br_t rfl (H0 hw)
/-! ### Depth -/
theorem max64 (x y : Int) : PV Try.prog (Builtin.max_ #[3, 3] 3 #[.int .i64 x, .int .i64 y]) (.int .i64 (if y > x then y else x)) := by
  intro w
  rfl
theorem top_le : ∀ {D : Lv} {n : Nat}, (∀ x ∈ D, x.2 < n) → top D ≤ n
  | [], n, _ => by simp [top]
  | x :: D, n, h => by
    have h1 := h x (by simp)
    have h2 := top_le (D := D) fun y hy => h y (List.mem_cons_of_mem _ hy)
    simp only [top]
    omega
theorem RDepth_l1 (hl : l.length ≤ 100000000) {Q : Option Addr} {q : Nat} {x7 : Int} (rQ : RSl h0 Q (levs l).length 1 ((levs l).flatMap encI)) {K0 : Int → Int → Hp → Prop} (H : K0 x7 (dep l : Int) h0) :
    ∀ (k i d : Nat), l.length - i < k → i ≤ l.length → d ≤ dep l → (∀ s ∈ l.take i, lk (DL l) s < d) → quintetref14_Depth_l1 Q (levs l).length q x7 K0 k (d : Int) (i : Int) h0 := by
  have hlev : (levs l).length = l.length := by simp [levs]
  have hdl := dep_le l
  intro k
  induction k with
  | zero => intro i d hk; omega
  | succ k ih =>
    intro i d hk hi hd hal
    unfold quintetref14_Depth_l1
    refine br_i (fun p => ?_) (fun p => ?_)
    · have hlt : i < l.length := by rw [hlev] at p; simpa using p
      have hs := List.getElem?_eq_getElem hlt
      generalize l[i] = s at hs
      have hlv : (levs l)[i]? = some (lk (DL l) s : Int) := by unfold levs; rw [List.getElem?_map, hs]; rfl
      have hlt2 := lk_lt (List.mem_of_getElem? hs)
      obtain ⟨a, hix, hld⟩ := ixIR (c := q) rQ hlv
      refine ⟨_, hix, _, hld, ?_⟩
      rw [wrapN (by omega)]
      refine ⟨_, max64 _ _, ?_⟩
      have hm : (if ((lk (DL l) s + 1 : Nat) : Int) > (d : Int) then ((lk (DL l) s + 1 : Nat) : Int) else (d : Int)) = ((max d (lk (DL l) s + 1) : Nat) : Int) := by split <;> omega
      rw [hm, wrapN (by omega)]
      refine ih (i + 1) _ (by omega) (by omega) (by omega) fun s' hs' => ?_
      rw [take1 hs, List.mem_append, List.mem_singleton] at hs'
      rcases hs' with hs' | rfl
      · have := hal s' hs'; omega
      · omega
    · have : i = l.length := by rw [hlev] at p; simp at p; omega
      subst this
      rw [List.take_length] at hal
      have : dep l ≤ d := top_le fun x hx => by
        have hk : x.1 ∈ l := by
          have : x.1 ∈ keys (DL l) := List.mem_map.2 ⟨x, hx, rfl⟩
          rw [keys_DL] at this
          exact (unl_mem l _).1 this
        have := hal x.1 hk
        rwa [lk_mem (by rw [keys_DL]; exact unl_strict l) (s := x.1) (v := x.2) hx] at this
      have e : d = dep l := by omega
      rw [e]
      exact H
theorem RDepth_s (r : RSl h0 A l.length 2 (l.flatMap Sp.enc)) (hl : l.length ≤ 100000000) {K : Value → Hp → Prop}
    (H0 : wrongB l = true → K (.tuple #[.int .i64 0, .int .i64 30]) h0)
    (H1 : wrongB l = false → ∀ h', Ext h0 h' → K (.tuple #[.int .i64 (dep l : Int), .int .i64 0]) h') : CallsH Try.prog 15 #[.slice A l.length c] h0 K := by
  refine quintetref14_Depth_ok _ _ _ ?_
  unfold quintetref14_Depth
  refine RLevels_s r hl (fun hw => ⟨_, _, _, _, rfl, 1, ?_⟩) (fun hw h1 Q q e1 hF r1 => ⟨_, _, _, _, rfl, l.length + 1, ?_⟩)
  · unfold quintetref14_Depth_l1
    exact br_f (by simp) (H0 hw)
  · exact RDepth_l1 (h0 := h1) hl r1.read (H1 hw h1 e1) (l.length + 1) 0 0 (by omega) (by omega) (by omega) (by simp)
/-! ### Find -/
theorem RFind_l3 (r : RSl h0 A l.length 2 (l.flatMap Sp.enc)) (hl : l.length ≤ 100000000) {Q : Option Addr} {q : Nat} {p x67 x68 : Int} {A9 : Option Addr} {l9 c9 lv : Nat} (rQ : RSl h0 Q (levs l).length 1 ((levs l).flatMap encI))
    {K0 : (Option Addr) → Nat → Nat → Int → (Option Addr) → Nat → Nat → Int → Int → (Option Addr) → Nat → Nat → Int → Int → Hp → Prop} (H : K0 A l.length c p Q (levs l).length q x67 x68 A9 l9 c9 (lv : Int) (idxI l (fP l p lv)) h0) :
    ∀ (k i : Nat), l.length - i < k → i ≤ l.length → quintetref14_Find_l3 A l.length c p Q (levs l).length q x67 x68 A9 l9 c9 (lv : Int) K0 k (idxI (l.take i) (fP l p lv)) (i : Int) h0 := by
  intro k
  induction k with
  | zero => intro i hk; omega
  | succ k ih =>
    intro i hk hi
    unfold quintetref14_Find_l3
    refine br_i (fun u => ?_) (fun u => ?_)
    · have hlt : i < l.length := by simpa using u
      have hs := List.getElem?_eq_getElem hlt
      generalize l[i] = s at hs
      have hlv : (levs l)[i]? = some (lk (DL l) s : Int) := by unfold levs; rw [List.getElem?_map, hs]; rfl
      have step : idxI (l.take (i + 1)) (fP l p lv) = if idxI (l.take i) (fP l p lv) < 0 ∧ fP l p lv s = true then (i : Int) else idxI (l.take i) (fP l p lv) := by
        rw [take1 hs, idxI_snoc]
        simp only [List.length_take, Nat.min_eq_left hi]
      have ih' := ih (i + 1) (by omega) (by omega)
      rw [step] at ih'
      rw [wrapN (by omega)]
      obtain ⟨a, hix, hcl⟩ := ixS (c := c) r hs
      refine br_i (fun u1 => ?_) (fun u1 => ?_)
      · have u1 : idxI (l.take i) (fP l p lv) < 0 := by simpa using u1
        obtain ⟨a2, hix2, hld2⟩ := ixIR (c := q) rQ hlv
        refine ⟨_, hix2, _, hld2, br_i (fun u2 => ?_) (fun u2 => ?_)⟩
        · have u2 : lk (DL l) s = lv := by simp at u2; omega
          refine ⟨_, hix, _, ld hcl.head (by kernel_rfl), br_i (fun u3 => ⟨_, hix, _, ld (hcl.at_ 1 _ rfl) (by kernel_rfl), br_i (fun u4 => ?_) (fun u4 => ?_)⟩) (fun u3 => ?_)⟩
          · rw [if_pos ⟨u1, by unfold fP hasS; simp at u3 u4; simp [u2, u3, u4]⟩] at ih'
            exact ih'
          · rw [if_neg (by rintro ⟨_, hf⟩; unfold fP hasS at hf; simp at u4 hf; omega)] at ih'
            exact ih'
          · rw [if_neg (by rintro ⟨_, hf⟩; unfold fP hasS at hf; simp at u3 hf; omega)] at ih'
            exact ih'
        · have u2 : ¬ lk (DL l) s = lv := by simp at u2; omega
          rw [if_neg (by rintro ⟨_, hf⟩; unfold fP at hf; simp at hf; omega)] at ih'
          exact ih'
      · have u1 : ¬ idxI (l.take i) (fP l p lv) < 0 := by simpa using u1
        rw [if_neg (fun h => u1 h.1)] at ih'
        exact ih'
    · have : i = l.length := by simp at u; omega
      subst this
      rw [List.take_length]
      exact H
theorem RFind_l2 {h1 : Hp} (r : RSl h1 A l.length 2 (l.flatMap Sp.enc)) (hl : l.length ≤ 100000000) {Q : Option Addr} {q : Nat} {p x67 : Int} (rQ : RSl h1 Q (levs l).length 1 ((levs l).flatMap encI)) {K0 : Int → (Option Addr) → Nat → Nat → Hp → Prop}
    (H : ∀ h' B d, Ext h1 h' → RowI h' B d (finds l p) → Fresh h1 B → K0 x67 B (finds l p).length d h') :
    ∀ (k i : Nat) (h : Hp) (B : Option Addr) (d : Nat), dep l - i < k → i ≤ dep l → Ext h1 h → RowI h B d ((finds l p).take i) → Fresh h1 B → quintetref14_Find_l2 A l.length c p Q (levs l).length q x67 (dep l : Int) K0 k B ((finds l p).take i).length d (i : Int) h := by
  have hfl : (finds l p).length = dep l := by simp [finds]
  have hdl := dep_le l
  intro k
  induction k with
  | zero => intro i h B d hk; omega
  | succ k ih =>
    intro i h B d hk hi e rB hF
    unfold quintetref14_Find_l2
    refine br_i (fun u => ?_) (fun u => ?_)
    · have hlt : i < dep l := by simpa using u
      have hfi : (finds l p)[i]? = some (idxI l (fP l p i)) := by simp [finds, hlt]
      have hst : (finds l p).take (i + 1) = (finds l p).take i ++ [idxI l (fP l p i)] := by
        obtain ⟨h1, h2⟩ := List.getElem?_eq_some_iff.1 hfi
        rw [List.take_succ_eq_append_getElem h1, h2]
      have key := RFind_l3 (h0 := h) (c := c) (q := q) (p := p) (x67 := x67) (x68 := (dep l : Int)) (A9 := B) (l9 := ((finds l p).take i).length) (c9 := d) (lv := i) (r.ext e) hl (rQ.ext e) (K0 := fun A93 l93 c93 x94 A95 l95 c95 x96 x97 A98 l98 c98 x99 x100 h101 =>
        newC h101 (.cells #[(.int .i64 x100)] 3 (0, 0)) fun a103 h102 =>
        HW Try.prog (Builtin.append_ #[25, 25] 25 #[(.slice A98 l98 c98), (.slice (some a103) 1 1)]) h102 fun r105 h104 =>
        ∃ A106 : Option Addr, ∃ l106 : Nat, ∃ c106 : Nat, r105 = (.slice A106 l106 c106) ∧
        quintetref14_Find_l2 A l.length c p Q (levs l).length q x67 (dep l : Int) K0 k A106 l106 c106 (IntKind.i64.wrap (x99 + 1)) h104) (by
          refine newC_i fun h2 e2 c2 b2 z2 => ?_
          refine app_iF (e.trans e2) (rB.ext e2) hF c2 (by rw [List.length_take]; omega) fun h3 B' d' e3 r3 hF3 f3 => ⟨_, _, _, rfl, ?_⟩
          rw [wrapN (by omega), ← hst]
          rw [← hst] at r3
          exact ih (i + 1) h3 B' d' (by omega) (by omega) e3 r3 hF3) (l.length + 1) 0 (by omega) (by omega)
      rw [List.take_zero, idxI_nil] at key
      exact ⟨_, key⟩
    · have : i = dep l := by simp at u; omega
      subst this
      rw [← hfl, List.take_length] at rB ⊢
      have := H h B d e rB hF
      exact this
theorem RFind_s {p : Int} (r : RSl h0 A l.length 2 (l.flatMap Sp.enc)) (hl : l.length ≤ 100000000) {K : Value → Hp → Prop}
    (H0 : wrongB l = true → K (.tuple #[.slice none 0 0, .int .i64 30]) h0)
    (H1 : wrongB l = false → ∀ h' B d, Ext h0 h' → RowI h' B d (finds l p) → Fresh h0 B → K (.tuple #[.slice B (finds l p).length d, .int .i64 0]) h') : CallsH Try.prog 18 #[.slice A l.length c, .int .u16 p] h0 K := by
  refine quintetref14_Find_ok _ _ _ _ ?_
  unfold quintetref14_Find
  refine RLevels_s r hl (fun hw => ⟨_, _, _, _, rfl, ?_⟩) (fun hw h1 Q q e1 hF r1 => ⟨_, _, _, _, rfl, ?_⟩)
  · refine RDepth_s r hl (fun _ => ⟨_, _, rfl, 1, ?_⟩) (fun hw' => by rw [hw] at hw'; cases hw')
    unfold quintetref14_Find_l2
    exact br_f (by simp) (H0 hw)
  · refine RDepth_s (r.ext e1) hl (fun hw' => by rw [hw] at hw'; cases hw') (fun _ h2 e2 => ⟨_, _, rfl, dep l + 1, ?_⟩)
    exact RFind_l2 (h1 := h2) (r.ext (e1.trans e2)) hl (r1.ext e2).read (fun h3 B d e3 r3 hF3 => H1 hw h3 B d ((e1.trans e2).trans e3) r3 (hF3.sub (e1.trans e2))) (dep l + 1) 0 h2 none 0 (by omega) (by omega) (Ext.refl _) (RowI.nil _) (Fresh.none _)
end
end Go.Proofs.Ytmgbbedbilefaaa.Fs
