/- The document's levels. -/
import Derived.Test.YtmgbbedbilefaaaNeSpec2
import Derived.Test.YtmgbbedbilefaaaFsB
namespace Go.Proofs.Ytmgbbedbilefaaa.Fs
open Go Go.RowKit Go.Sort Go.Proofs.Ytmgbbedbilefaaa.Sx Go.Proofs.Ytmgbbedbilefaaa.Sp Go.Proofs.Ytmgbbedbilefaaa.Ne
set_option linter.unusedVariables false
set_option linter.unusedSimpArgs false
set_option maxRecDepth 10000
theorem ahead_s (a b : Sp) {h : Hp} {K : Value → Hp → Prop} (H : ∀ h', Ext h h' → K (.bool (aheadB a b)) h') : CallsH Try.prog 51 #[a.val, b.val] h K := by
  refine quintetref14_ahead_ok _ _ _ _ ?_
  unfold quintetref14_ahead
  refine newC_i fun h1 e1 c1 b1 z1 => newC_i fun h2 e2 c2 b2 z2 => ?_
  have c1' := c1.ext e2
  have := H h2 (e1.trans e2)
  refine ⟨_, ld c1'.head (by kernel_rfl), _, ld c2.head (by kernel_rfl), br_i (fun p => ?_) (fun p => ⟨_, ld c1'.head (by kernel_rfl), _, ld c2.head (by kernel_rfl), br_i (fun q => ⟨_, ld (c1'.at_ 1 _ rfl) (by kernel_rfl), _, ld (c2.at_ 1 _ rfl) (by kernel_rfl), ?_⟩) (fun q => ?_)⟩)⟩
  · have p : a.lo < b.lo := by simpa using p
    have e : aheadB a b = true := by simp [aheadB, p]
    rw [e] at this; exact this
  · have p : ¬ a.lo < b.lo := by simpa using p
    have q : a.lo = b.lo := by simpa using q
    have e : aheadB a b = decide (a.hi > b.hi) := by unfold aheadB; rw [decide_eq_decide]; omega
    rw [e] at this; exact this
  · have p : ¬ a.lo < b.lo := by simpa using p
    have q : ¬ a.lo = b.lo := by simpa using q
    have e : aheadB a b = false := by unfold aheadB; rw [decide_eq_false_iff_not]; omega
    rw [e] at this; exact this
theorem meet_s (a b : Sp) {h : Hp} {K : Value → Hp → Prop} (H : ∀ h', Ext h h' → K (.bool (meetB a b)) h') : CallsH Try.prog 52 #[a.val, b.val] h K := by
  refine quintetref14_meet_ok _ _ _ _ ?_
  unfold quintetref14_meet
  refine newC_i fun h1 e1 c1 b1 z1 => newC_i fun h2 e2 c2 b2 z2 => ?_
  have c1' := c1.ext e2
  have := H h2 (e1.trans e2)
  refine ⟨_, ld c1'.head (by kernel_rfl), _, ld (c2.at_ 1 _ rfl) (by kernel_rfl), br_i (fun p => ⟨_, ld c2.head (by kernel_rfl), _, ld (c1'.at_ 1 _ rfl) (by kernel_rfl), ?_⟩) (fun p => ?_)⟩
  · have p : a.lo ≤ b.hi := by simpa using p
    have e : meetB a b = decide (b.lo ≤ a.hi) := by unfold meetB; rw [decide_eq_decide]; omega
    rw [e] at this; exact this
  · have p : ¬ a.lo ≤ b.hi := by simpa using p
    have e : meetB a b = false := by unfold meetB; rw [decide_eq_false_iff_not]; omega
    rw [e] at this; exact this
theorem st_sp {h : Hp} {g c : Nat} {xs : List Sp} {j : Nat} (x : Sp) {K : Hp → Prop} (r : RowP h (some ⟨g, 0, none⟩) c xs) (hj : j < xs.length) (H : ∀ h', RowP h' (some ⟨g, 0, none⟩) c (xs.set j x) → Fr (fun k => k = g) h h' → h'.size = h.size → K h') :
    HU Try.prog (Instr.storeAt 38 (.pointer (some ⟨g, j * 2, none⟩)) (.agg #[.int .u16 x.lo, .int .u16 x.hi])) h K :=
  HU_elem (x := x) Sp.len Sp.flat r.row hj rfl size_sp fun h' r' f z => H h' ⟨r', r.cap⟩ f z
theorem wrapM {i : Nat} (h : i < 9223372036854775807) : IntKind.i64.wrap ((i : Int) + 1) = ((i + 1 : Nat) : Int) := by rw [wrap_in (by omega) (by omega)]; omega
section
variable {h0 : Hp} {A : Option Addr} {c : Nat} {l : List Sp}
theorem wrong_l1 (r : RSl h0 A l.length 2 (l.flatMap Sp.enc)) (hl : l.length ≤ 9223372036854775807) {K0 : Bool → Hp → Prop} {K1 : Hp → Prop} (H0 : wrongB l = true → K0 true h0) (H1 : wrongB l = false → K1 h0) :
    ∀ (k i : Nat), l.length - i < k → i ≤ l.length → (∀ s ∈ l.take i, s.lo ≤ s.hi) → quintetref14_Wrong_l1 A l.length c K0 K1 k (i : Int) h0 := by
  intro k
  induction k with
  | zero => intro i hk; omega
  | succ k ih =>
    intro i hk hi hd
    unfold quintetref14_Wrong_l1
    refine br_i (fun p => ?_) (fun p => ?_)
    · have hlt : i < l.length := by simpa using p
      have hx := List.getElem?_eq_getElem hlt
      generalize l[i] = s at hx
      obtain ⟨a, _, _, hix, hcl⟩ := ixR (P := Try.prog) (T := 22) (E := 38) (c := c) (k := .i64) Sp.len r rfl und_sps size_sp hx
      refine ⟨_, hix, _, ld hcl.head (by kernel_rfl), _, hix, _, ld (hcl.at_ 1 _ rfl) (by kernel_rfl), br_i (fun q => ?_) (fun q => ?_)⟩
      · refine H0 ?_
        unfold wrongB
        rw [List.any_eq_true]
        exact ⟨s, List.mem_of_getElem? hx, by simpa using q⟩
      · rw [wrapM (by omega)]
        refine ih (i + 1) (by omega) (by omega) fun s' hs' => ?_
        rw [take1 hx, List.mem_append, List.mem_singleton] at hs'
        rcases hs' with hs' | rfl
        · exact hd s' hs'
        · simpa using q
    · have : i = l.length := by simp at p; omega
      subst this
      rw [List.take_length] at hd
      exact H1 (wrong_ok hd)
theorem Wrong_s (r : RSl h0 A l.length 2 (l.flatMap Sp.enc)) (hl : l.length ≤ 9223372036854775807) {K : Value → Hp → Prop} (H : K (.bool (wrongB l)) h0) : CallsH Try.prog 19 #[.slice A l.length c] h0 K := by
  refine quintetref14_Wrong_ok _ _ _ ?_
  unfold quintetref14_Wrong
  refine ⟨l.length + 1, wrong_l1 r hl (fun hw => ?_) (fun hw => ?_) (l.length + 1) 0 (by omega) (by omega) (by simp)⟩
  · rw [hw] at H; exact H
  · rw [hw] at H; exact H
/-! ### unlike -/
theorem cutK_le (U : List Sp) (s : Sp) : cutK U s ≤ U.length := List.findIdx_le_length
theorem unlike_l19 {B : Option Addr} {d i : Nat} {U : List Sp} {s : Sp} (r : RSl h0 A l.length 2 (l.flatMap Sp.enc)) (hs : l[i]? = some s) (hl : l.length ≤ 1000000000) (hU : U.length ≤ 1000000000) (rU : RowP h0 B d U)
    {K0 : (Option Addr) → Nat → Nat → (Option Addr) → Nat → Nat → Int → Int → Hp → Prop} (H : ∀ h', Ext h0 h' → K0 A l.length c B U.length d (i : Int) (cutK U s : Int) h') :
    ∀ (k j : Nat) (h : Hp), U.length - j < k → j ≤ U.length → Ext h0 h → (∀ q, q < j → ∀ x, U[q]? = some x → aheadB x s = true) → quintetref14_unlike_l19 A l.length c B U.length d (i : Int) K0 k (j : Int) h := by
  intro k
  induction k with
  | zero => intro j h hk; omega
  | succ k ih =>
    intro j h hk hj e hd
    unfold quintetref14_unlike_l19
    refine br_i (fun p => ?_) (fun p => ?_)
    · have hlt : j < U.length := by simpa using p
      have hx := List.getElem?_eq_getElem hlt
      obtain ⟨a, _, _, hix, hcl⟩ := ixR (P := Try.prog) (T := 22) (E := 38) (c := d) (k := .i64) Sp.len (rU.read.ext e) rfl und_sps size_sp hx
      obtain ⟨b, _, _, hix2, hcl2⟩ := ixR (P := Try.prog) (T := 22) (E := 38) (c := c) (k := .i64) Sp.len (r.ext e) rfl und_sps size_sp hs
      refine ⟨_, hix, _, _, ldS hcl (by kernel_rfl), _, hix2, _, _, ldS hcl2 (by kernel_rfl), ahead_s U[j] s fun h1 e1 => ⟨_, rfl, ?_⟩⟩
      cases ha : aheadB U[j] s
      · refine br_f rfl ?_
        have e' : cutK U s = j := by
          unfold cutK
          rw [List.findIdx_eq hlt]
          refine ⟨by simp [ha], fun q hq => ?_⟩
          have := hd q hq _ (List.getElem?_eq_getElem (by omega))
          simp [this]
        have := H h1 (e.trans e1)
        rw [e'] at this
        exact this
      · refine br_t rfl ?_
        rw [wrapN (by omega)]
        refine ih (j + 1) h1 (by omega) (by omega) (e.trans e1) fun q hq x hqx => ?_
        rcases Nat.lt_or_ge q j with cj | cj
        · exact hd q cj x hqx
        · have : q = j := by omega
          subst this
          rw [hx] at hqx
          cases hqx
          exact ha
    · have : j = U.length := by simp at p; omega
      subst this
      have e' : cutK U s = U.length := by
        unfold cutK
        rw [List.findIdx_eq_length]
        intro x hx
        obtain ⟨q, hq, rfl⟩ := List.mem_iff_getElem.1 hx
        have := hd q hq _ (List.getElem?_eq_getElem hq)
        simp [this]
      have := H h e
      rw [e'] at this
      exact this
theorem unlike_l18 {g d : Nat} {n k0 : Nat} {x8 : Int} {hb : Hp} {U : List Sp} (hn : n ≤ 1000000000) (hU : U.length = n) (hk0 : k0 ≤ n) {K0 : (Option Addr) → Nat → Nat → (Option Addr) → Nat → Nat → Int → Int → Hp → Prop}
    (H : ∀ h' xs, Fr (fun k => k = g) hb h' → RowP h' (some ⟨g, 0, none⟩) d xs → xs.length = n + 1 → (∀ p, p < k0 → xs[p]? = U[p]?) → (∀ p, k0 ≤ p → p < n → xs[p + 1]? = U[p]?) → K0 A l.length c (some ⟨g, 0, none⟩) (n + 1) d x8 (k0 : Int) h') :
    ∀ (k j : Nat) (h : Hp) (xs : List Sp), j < k → k0 ≤ j → j ≤ n → Fr (fun k => k = g) hb h → RowP h (some ⟨g, 0, none⟩) d xs → xs.length = n + 1 → (∀ p, p < j → xs[p]? = U[p]?) → (∀ p, j ≤ p → p < n → xs[p + 1]? = U[p]?) →
      quintetref14_unlike_l18 A l.length c (some ⟨g, 0, none⟩) (n + 1) d x8 (k0 : Int) K0 k (j : Int) h := by
  intro k
  induction k with
  | zero => intro j h xs hk; omega
  | succ k ih =>
    intro j h xs hk hj hjn f rx hx h1 h2
    unfold quintetref14_unlike_l18
    refine br_i (fun p => ?_) (fun p => ?_)
    · have hlt : k0 < j := by simpa using p
      have hw : IntKind.i64.wrap ((j : Int) - 1) = ((j - 1 : Nat) : Int) := by rw [wrap_in (by omega) (by omega)]; omega
      rw [hw]
      have hy : xs[j - 1]? = some xs[j - 1] := List.getElem?_eq_getElem (by omega)
      generalize xs[j - 1] = y at hy
      refine ⟨_, ix0 (sz := 2) (by omega) und_sps size_sp, y.lo, y.hi, ldS (rx.elem0 Sp.len hy) (by kernel_rfl), _, ix0 (sz := 2) (by omega) und_sps size_sp, st_sp y rx (by omega) fun h3 r3 f3 z3 => ?_⟩
      refine ih (j - 1) h3 _ (by omega) (by omega) (by omega) (f.trans f3) r3 (by simpa using hx) (fun q hq => ?_) (fun q hq hqn => ?_)
      · rw [List.getElem?_set_ne (by omega)]; exact h1 q (by omega)
      · rcases Nat.eq_or_lt_of_le hq with e | e
        · rw [← e, show j - 1 + 1 = j by omega, List.getElem?_set_self (by omega), ← hy]
          exact h1 (j - 1) (by omega)
        · rw [List.getElem?_set_ne (by omega)]
          exact h2 q (by omega) hqn
    · have : j = k0 := by simp at p; omega
      subst this
      exact H h xs f rx hx h1 h2
theorem insK {U xs : List Sp} {s : Sp} {k0 : Nat} (hk : k0 ≤ U.length) (hx : xs.length = U.length + 1) (h1 : ∀ p, p < k0 → xs[p]? = U[p]?) (h2 : ∀ p, k0 ≤ p → p < U.length → xs[p + 1]? = U[p]?) : xs.set k0 s = U.take k0 ++ s :: U.drop k0 := by
  refine List.ext_getElem? fun p => ?_
  rcases Nat.lt_trichotomy p k0 with c | c | c
  · rw [List.getElem?_set_ne (by omega), h1 p c, List.getElem?_append_left (by simp; omega), List.getElem?_take, if_pos c]
  · subst c
    rw [List.getElem?_set_self (by omega), List.getElem?_append_right (by rw [List.length_take]; omega), List.length_take, Nat.min_eq_left hk, Nat.sub_self]
    rfl
  · rw [List.getElem?_set_ne (by omega), List.getElem?_append_right (by simp; omega), List.length_take, Nat.min_eq_left hk]
    obtain ⟨q, rfl⟩ : ∃ q, p = q + 1 := ⟨p - 1, by omega⟩
    rw [show q + 1 - k0 = (q - k0) + 1 by omega, List.getElem?_cons_succ, List.getElem?_drop, show k0 + (q - k0) = q by omega]
    rcases Nat.lt_or_ge q U.length with cq | cq
    · exact h2 q (by omega) cq
    · rw [List.getElem?_eq_none (by omega), List.getElem?_eq_none (by omega)]
theorem unlike_j17 {B : Option Addr} {d i : Nat} {U : List Sp} {s : Sp} {h : Hp} (r : RSl h0 A l.length 2 (l.flatMap Sp.enc)) (hs : l[i]? = some s) (hU : U.length ≤ 100000000) (e : Ext h0 h) (rU : RowP h B d U) (hF : Fresh h0 B)
    {K0 : (Option Addr) → Nat → Nat → (Option Addr) → Nat → Nat → Int → Hp → Prop} (H : ∀ h' B' d', Ext h0 h' → RowP h' B' d' (U.take (cutK U s) ++ s :: U.drop (cutK U s)) → Fresh h0 B' → K0 A l.length c B' (U.length + 1) d' (i : Int) h') :
    quintetref14_unlike_j17 K0 A l.length c B U.length d (i : Int) (cutK U s : Int) h := by
  unfold quintetref14_unlike_j17
  refine newC_i fun h1 e1 c1 b1 z1 => app_spF (x := ⟨0, 0⟩) (e.trans e1) (rU.ext e1) hF c1 (by omega) fun h2 B' d' e2 r2 hF2 f2 => ⟨_, _, _, rfl, U.length + 1, ?_⟩
  obtain ⟨g, rfl⟩ := r2.blk0 Sp.len (by simp)
  rw [show (U ++ [(⟨0, 0⟩ : Sp)]).length = U.length + 1 by simp]
  have hw : IntKind.i64.wrap (((U.length + 1 : Nat) : Int) - 1) = ((U.length : Nat) : Int) := by rw [wrap_in (by omega) (by omega)]; omega
  rw [hw]
  have hk := cutK_le U s
  refine unlike_l18 (hb := h2) (U := U) (by omega) rfl hk (fun h3 xs f3 r3 hx q1 q2 => ?_) (U.length + 1) U.length h2 _ (by omega) hk (Nat.le_refl _) (Fr.refl _ _) r2 (by simp) (fun p hp => by rw [List.getElem?_append_left hp]) (fun p h1 h2 => by omega)
  have e3 : Ext h0 h3 := extOwn e2 f3 (by rintro k rfl; exact hF2 _ ⟨_, rfl, rfl⟩)
  obtain ⟨b, _, _, hix2, hcl2⟩ := ixR (P := Try.prog) (T := 22) (E := 38) (c := c) (k := .i64) Sp.len (r.ext e3) rfl und_sps size_sp hs
  refine ⟨_, hix2, s.lo, s.hi, ldS hcl2 (by kernel_rfl), _, ix0 (sz := 2) (by omega) und_sps size_sp, st_sp s r3 (by omega) fun h4 r4 f4 z4 => ?_⟩
  rw [insK hk hx q1 q2] at r4
  exact H h4 _ _ (extOwn e3 f4 (by rintro k rfl; exact hF2 _ ⟨_, rfl, rfl⟩)) r4 hF2
theorem unlike_l10 (r : RSl h0 A l.length 2 (l.flatMap Sp.enc)) (hl : l.length ≤ 100000000) {K0 : (Option Addr) → Nat → Nat → Hp → Prop} (H : ∀ h' B d, Ext h0 h' → RowP h' B d (unl l) → Fresh h0 B → K0 B (unl l).length d h') :
    ∀ (k i : Nat) (h : Hp) (B : Option Addr) (d : Nat), l.length - i < k → i ≤ l.length → Ext h0 h → RowP h B d (unl (l.take i)) → Fresh h0 B → quintetref14_unlike_l10 A l.length c K0 k B (unl (l.take i)).length d (i : Int) h := by
  intro k
  induction k with
  | zero => intro i h B d hk; omega
  | succ k ih =>
    intro i h B d hk hi e rB hF
    unfold quintetref14_unlike_l10
    refine br_i (fun p => ?_) (fun p => ?_)
    · have hlt : i < l.length := by simpa using p
      have hs := List.getElem?_eq_getElem hlt
      generalize l[i] = s at hs
      have hstep : unl (l.take (i + 1)) = insU (unl (l.take i)) s := by
        rw [take1 hs]; unfold unl; rw [List.foldl_append]; rfl
      have hUl : (unl (l.take i)).length ≤ 100000000 := by have := unl_len (l.take i); rw [List.length_take] at this; omega
      rw [insU_eq] at hstep
      generalize unl (l.take i) = U at rB hstep hUl
      refine ⟨U.length + 1, unlike_l19 (r.ext e) hs (by omega) (by omega) rB (fun h1 e1 => ?_) (U.length + 1) 0 h (by omega) (by omega) (Ext.refl _) (by omega)⟩
      unfold quintetref14_unlike_j15
      have e1' := e.trans e1
      have ins : U[cutK U s]? ≠ some s → quintetref14_unlike_j17 (fun A561 l561 c561 A562 l562 c562 x563 h564 => quintetref14_unlike_l10 A l.length c K0 k A562 l562 c562 (IntKind.i64.wrap (x563 + 1)) h564) A l.length c B U.length d (i : Int) (cutK U s : Int) h1 := fun hne => by
        rw [if_neg hne] at hstep
        refine unlike_j17 r hs hUl e1' (rB.ext e1) hF fun h2 B' d' e2 r2 hF2 => ?_
        rw [wrapN (by omega)]
        rw [← hstep] at r2
        have := ih (i + 1) h2 B' d' (by omega) (by omega) e2 r2 hF2
        have hlen : (unl (l.take (i + 1))).length = U.length + 1 := by
          rw [hstep]; have := cutK_le U s; simp; omega
        rw [hlen] at this
        exact this
      refine br_i (fun q => ?_) (fun q => ?_)
      · have hkl : cutK U s < U.length := by simpa using q
        have hx := List.getElem?_eq_getElem hkl
        obtain ⟨a, _, _, hix, hcl⟩ := ixR (P := Try.prog) (T := 22) (E := 38) (c := d) (k := .i64) Sp.len (rB.ext e1).read rfl und_sps size_sp hx
        obtain ⟨b, _, _, hix2, hcl2⟩ := ixR (P := Try.prog) (T := 22) (E := 38) (c := c) (k := .i64) Sp.len (r.ext e1') rfl und_sps size_sp hs
        refine ⟨_, hix, _, _, ldS hcl (by kernel_rfl), _, hix2, _, _, ldS hcl2 (by kernel_rfl), _, eq_sp _ _, br_i (fun u => ?_) (fun u => ?_)⟩
        · have u : U[cutK U s] = s := by simpa using u
          rw [if_pos (by rw [hx, u])] at hstep
          show quintetref14_unlike_l10 A l.length c K0 k B U.length d (IntKind.i64.wrap ((i : Int) + 1)) h1
          rw [wrapN (by omega)]
          have := ih (i + 1) h1 B d (by omega) (by omega) e1' (by rw [hstep]; exact rB.ext e1) hF
          rw [hstep] at this
          exact this
        · have u : ¬ U[cutK U s] = s := by simpa using u
          exact ins (by rw [hx]; simpa using u)
      · have hkl : ¬ cutK U s < U.length := by simpa using q
        exact ins (by rw [List.getElem?_eq_none (by omega)]; simp)
    · have : i = l.length := by simp at p; omega
      subst this
      rw [List.take_length] at rB ⊢
      exact H h B d e rB hF
theorem unlike_s (r : RSl h0 A l.length 2 (l.flatMap Sp.enc)) (hl : l.length ≤ 100000000) {K : Value → Hp → Prop} (H : ∀ h' B d, Ext h0 h' → RowP h' B d (unl l) → K (.slice B (unl l).length d) h') : CallsH Try.prog 28 #[.slice A l.length c] h0 K := by
  refine quintetref14_unlike_ok _ _ _ ?_
  unfold quintetref14_unlike
  exact ⟨l.length + 1, unlike_l10 r hl (fun h' B d e rB hF => H h' B d e rB) (l.length + 1) 0 h0 none 0 (by omega) (by omega) (Ext.refl _) (RowP.nil _) (Fresh.none _)⟩
end
end Go.Proofs.Ytmgbbedbilefaaa.Fs
