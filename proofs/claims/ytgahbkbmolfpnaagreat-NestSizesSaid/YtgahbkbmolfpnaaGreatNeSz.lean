/- nest.Pairs, Prune, Grid, Tuple. -/
import Derived.Test.YtgahbkbmolfpnaaGreatNeCnt
import Derived.Test.YtgahbkbmolfpnaaGreatNeRul2
namespace Go.Proofs.YtgahbkbmolfpnaaGreat.Fs
open Go Go.RowKit Go.Sort Go.Proofs.YtgahbkbmolfpnaaGreat.Sx Go.Proofs.YtgahbkbmolfpnaaGreat.Sp Go.Proofs.YtgahbkbmolfpnaaGreat.Uq
set_option linter.unusedVariables false
set_option linter.unusedSimpArgs false
set_option maxRecDepth 10000
theorem tk1 {α : Type} {l : List α} {i : Nat} {x : α} (h : l[i]? = some x) : l.take (i + 1) = l.take i ++ [x] := by
  obtain ⟨h1, h2⟩ := List.getElem?_eq_some_iff.1 h
  rw [List.take_succ_eq_append_getElem h1, h2]
/-! ### Pairs -/
def pairB (g : Hdr) (r : Rul) : Bool := (r.check.1 == 0) && prefixHas r.sA r.sL g.src && prefixHas r.dA r.dL g.dst
def pairsN (l : List Rul) (g : Hdr) : Nat := (l.filter (pairB g)).length
theorem filt1 {α : Type} {l : List α} {i : Nat} {x : α} (h : l[i]? = some x) (p : α → Bool) : ((l.take (i + 1)).filter p).length = ((l.take i).filter p).length + (if p x = true then 1 else 0) := by
  rw [tk1 h, List.filter_append, List.length_append]
  congr 1
  cases hp : p x <;> simp [hp]
theorem filtle {α : Type} (l : List α) (i : Nat) (p : α → Bool) : ((l.take i).filter p).length ≤ i := by
  have := List.length_filter_le p (l.take i)
  rw [List.length_take] at this
  omega
theorem Pairs_s {h0 : Hp} {A : Option Addr} {c : Nat} {l : List Rul} (g : Hdr) (r : RSl h0 A l.length 12 (l.flatMap Rul.enc)) (hl : l.length ≤ 1000000000) {K : Value → Hp → Prop} (H : ∀ h', Ext h0 h' → K (.int .i64 (pairsN l g : Int)) h') : CallsH Tryz.prog 12 #[.slice A l.length c, g.val] h0 K := by
  refine nest_Pairs_ok _ _ _ _ _ _ _ _ ?_
  unfold nest_Pairs
  refine newC_i (cs := g.enc) fun hb eb cb bb zb => ?_
  have key : ∀ (k i : Nat) (h : Hp), l.length - i < k → i ≤ l.length → Ext hb h → nest_Pairs_l1 ⟨h0.size, 0, none⟩ A l.length c (l.length : Int) (fun x103 h104 => K (.int .i64 x103) h104) k (((l.take i).filter (pairB g)).length : Int) (i : Int) h := by
    intro k
    induction k with
    | zero => intro i h hk; omega
    | succ k ih =>
      intro i h hk hi e
      unfold nest_Pairs_l1
      refine br_i (fun q => ?_) (fun q => ?_)
      · have hlt : i < l.length := by simpa using q
        have hx := List.getElem?_eq_getElem hlt
        generalize l[i] = x at hx
        have hst := filt1 hx (pairB g)
        have hle := filtle l i (pairB g)
        have ih' := fun h2 e2 => ih (i + 1) h2 (by omega) (by omega) e2
        rw [hst] at ih'
        rw [wrapN (i := i) (by omega), wrapN (by omega)]
        have no : pairB g x = false → ∀ h2, Ext hb h2 → nest_Pairs_l1 ⟨h0.size, 0, none⟩ A l.length c (l.length : Int) (fun x103 h104 => K (.int .i64 x103) h104) k (((l.take i).filter (pairB g)).length : Int) ((i + 1 : Nat) : Int) h2 := fun hp h2 e2 => by
          have := ih' h2 e2
          rw [if_neg (by rw [hp]; decide), Nat.add_zero] at this
          exact this
        obtain ⟨a, hix, hcl⟩ := ixRu (c := c) (r.ext (eb.trans e)) hx
        refine ⟨_, hix, _, _, _, _, _, _, _, _, _, _, _, _, ldS (vs := x.enc) hcl (by kernel_rfl), newV (us := x.enc) rfl rfl size_ru rfl fun h1 e1 c1 b1 z1 => ⟨_, _, _, _, _, _, _, _, _, _, _, _, ldS (vs := x.enc) c1 (by kernel_rfl), rule_Check_s x fun er ix h2 e2 hec => ⟨_, _, rfl, ?_⟩⟩⟩
        have he : er = x.check.1 := by rw [← hec]
        subst he
        have e02 := (e.trans e1).trans e2
        refine br_i (fun u => ⟨_, _, ldS (Rul.cl_src (c1.ext e2)) (by kernel_rfl), _, ld (cb.ext e02).head (by kernel_rfl), prefix_Has_s _ _ _ fun v h3 e3 hv => ⟨_, rfl, br_i (fun u2 => ⟨_, _, ldS (Rul.cl_dst ((c1.ext e2).ext e3)) (by kernel_rfl), _, ld ((cb.ext e02).ext e3 |>.at_ 1 _ rfl) (by kernel_rfl), prefix_Has_s _ _ _ fun v2 h4 e4 hv2 => ⟨_, rfl, br_i (fun u3 => ?_) (fun u3 => ?_)⟩⟩) (fun u2 => ?_)⟩⟩) (fun u => ?_)
        · subst hv hv2
          have hp : pairB g x = true := by unfold pairB; rw [u]; simp only [Bool.true_and]; exact Bool.and_eq_true_iff.2 ⟨u2, u3⟩
          have := ih' h4 ((e02.trans e3).trans e4)
          rw [if_pos hp] at this
          exact this
        · subst hv hv2
          refine no ?_ h4 ((e02.trans e3).trans e4)
          have u3' : prefixHas x.dA x.dL g.dst = false := u3
          unfold pairB; rw [u3']; simp
        · subst hv
          refine no ?_ h3 (e02.trans e3)
          have u2' : prefixHas x.sA x.sL g.src = false := u2
          unfold pairB; rw [u2']; simp
        · refine no ?_ h2 e02
          unfold pairB; rw [u]; simp
      · have hi' : i = l.length := by simp at q; omega
        subst hi'
        rw [List.take_length]
        exact H h (eb.trans e)
  exact ⟨l.length + 1, key _ 0 hb (by omega) (by omega) (Ext.refl _)⟩
/-! ### lists that may be -/
theorem lsE_ok : ∀ (rest done : List Rul), done.length ≤ 64 → lsE done rest = 0 → done.length + rest.length ≤ 64 ∧ (∀ r ∈ rest, r.check.1 = 0) ∧ (∀ r ∈ rest, ∀ x ∈ done, x.id ≠ r.id) ∧ rest.Pairwise (fun x y => x.id ≠ y.id)
  | [], done, hd, _ => ⟨by simpa using hd, by simp, by simp, List.Pairwise.nil⟩
  | r :: rest, done, hd, h => by
    unfold lsE at h
    split at h
    · rename_i hc; exact absurd h hc
    · rename_i hc
      split at h
      · cases h
      · rename_i ha
        split at h
        · cases h
        · rename_i h64
          have hc : r.check.1 = 0 := by simpa using hc
          have ha : ∀ x ∈ done, x.id ≠ r.id := by simpa using ha
          obtain ⟨h1, h2, h3, h4⟩ := lsE_ok rest (done ++ [r]) (by simp; omega) h
          rw [List.length_append, List.length_singleton] at h1
          refine ⟨by rw [List.length_cons]; omega, fun x hx => ?_, fun x hx y hy => ?_, List.pairwise_cons.2 ⟨fun x hx => h3 x hx r (by simp), h4⟩⟩
          · rcases List.mem_cons.1 hx with rfl | hx
            · exact hc
            · exact h2 x hx
          · rcases List.mem_cons.1 hx with rfl | hx
            · exact ha y hy
            · exact h3 x hx y (List.mem_append_left _ hy)
theorem listE_len {l : List Rul} (h : listE l = 0) : l.length ≤ 64 := by have := (lsE_ok l [] (by simp) h).1; simpa using this
theorem listE_chk {l : List Rul} (h : listE l = 0) : ∀ r ∈ l, r.check.1 = 0 := (lsE_ok l [] (by simp) h).2.1
/-! ### Grid -/
def gridN (l : List Rul) : Nat := ((uq (l.map Rul.src)).map fun s => (held l s).length).sum
theorem held_le (l : List Rul) (s : Pf) : (held l s).length ≤ l.length := List.length_filter_le _ _
theorem sum1 {α : Type} {l : List α} {i : Nat} {x : α} (h : l[i]? = some x) (f : α → Nat) : ((l.take (i + 1)).map f).sum = ((l.take i).map f).sum + f x := by
  rw [tk1 h, List.map_append, List.sum_append]; simp
theorem sum_bd {α : Type} (f : α → Nat) (B : Nat) : ∀ (l : List α), (∀ x ∈ l, f x ≤ B) → (l.map f).sum ≤ l.length * B
  | [], _ => by simp
  | x :: l, h => by
    have h1 := h x (by simp)
    have h2 := sum_bd f B l fun y hy => h y (List.mem_cons_of_mem _ hy)
    rw [List.map_cons, List.sum_cons, List.length_cons, Nat.add_mul, Nat.one_mul]
    omega
theorem wrapS {a b : Nat} (h : a + b < 2 ^ 62) : IntKind.i64.wrap ((a : Int) + (b : Int)) = ((a + b : Nat) : Int) := by rw [wrap_in (by omega) (by omega)]; omega
section
variable {h0 : Hp} {A : Option Addr} {c : Nat} {l : List Rul}
theorem Grid_l1 {h1 : Hp} {U : List Pf} {B : Option Addr} {d : Nat} (r : RSl h1 A l.length 12 (l.flatMap Rul.enc)) (hl : l.length ≤ 64) (rU : RSl h1 B U.length 2 (U.flatMap Pf.enc)) (hU : U.length ≤ 64) {K0 : Int → Hp → Prop}
    (H : ∀ h', Ext h1 h' → K0 (((U.map fun s => (held l s).length).sum : Nat) : Int) h') :
    ∀ (k i : Nat) (h : Hp), U.length - i < k → i ≤ U.length → Ext h1 h → nest_Grid_l1 A l.length c B U.length d (U.length : Int) K0 k ((((U.take i).map fun s => (held l s).length).sum : Nat) : Int) (i : Int) h := by
  intro k
  induction k with
  | zero => intro i h hk; omega
  | succ k ih =>
    intro i h hk hi e
    unfold nest_Grid_l1
    refine br_i (fun q => ?_) (fun q => ?_)
    · have hlt : i < U.length := by simpa using q
      have hx := List.getElem?_eq_getElem hlt
      generalize U[i] = s at hx
      have hst := sum1 hx fun s => (held l s).length
      have hb := sum_bd (fun s => (held l s).length) 64 (U.take i) fun s _ => Nat.le_trans (held_le l s) hl
      have hh := held_le l s
      have htl : (U.take i).length ≤ 64 := by rw [List.length_take]; omega
      have hb2 : (U.take i).length * 64 ≤ 64 * 64 := Nat.mul_le_mul_right _ htl
      obtain ⟨a, hix, hcl⟩ := ixPf (c := d) (rU.ext e) hx
      refine ⟨_, hix, _, _, ldS hcl (by kernel_rfl), newV (us := s.enc) rfl rfl size_pf rfl fun h2 e2 c2 b2 z2 => ⟨_, _, ldS c2 (by kernel_rfl), holders_s s (r.ext (e.trans e2)) (by omega) fun h3 Q q e3 r3 hF3 => ⟨_, _, _, rfl, ?_⟩⟩⟩
      rw [wrapS (by omega), wrapN (by omega), ← hst]
      exact ih (i + 1) h3 (by omega) (by omega) ((e.trans e2).trans e3)
    · have hi' : i = U.length := by simp at q; omega
      subst hi'
      rw [List.take_length]
      exact H h e
theorem Grid_s (r : RSl h0 A l.length 12 (l.flatMap Rul.enc)) (hl : l.length ≤ 1000000000) (hc : l.length ≤ c) {K : Value → Hp → Prop}
    (H : ∀ h', Ext h0 h' → K (.tuple #[.int .i64 (if listE l = 0 then (gridN l : Int) else 0), .int .i64 (listE l)]) h') : CallsH Tryz.prog 8 #[.slice A l.length c] h0 K := by
  refine nest_Grid_ok _ _ _ ?_
  unfold nest_Grid
  refine list_s r hl hc fun h1 e1 => ⟨_, rfl, br_i (fun u => ?_) (fun u => ?_)⟩
  · have u : listE l ≠ 0 := by simpa using u
    have := H h1 e1
    rw [if_neg u] at this
    exact this
  · have u : listE l = 0 := by simpa using u
    have h64 := listE_len u
    refine unlikeR_s (of := Rul.src) (r.ext e1) hl (by kernel_rfl) (fun x h K HK => src_s x HK) fun h2 B d us e2 hn hm hul r2 hF2 => ⟨_, _, _, rfl, us.length + 1, ?_⟩
    refine Grid_l1 (h1 := h2) (r.ext (e1.trans e2)) h64 r2.read (by omega) (fun h3 e3 => ?_) (us.length + 1) 0 h2 (by omega) (by omega) (Ext.refl _)
    have := H h3 ((e1.trans e2).trans e3)
    rw [if_pos u, u] at this
    unfold gridN at this
    rw [sum_uq hn hm]
    exact this
/-! ### Prune -/
def cntD (L : List Rul) (d : Pf) : Nat := (L.filter fun r => withinB d r.dst).length
def pruneS (l : List Rul) (s : Pf) : Nat := ((uq ((held l s).map Rul.dst)).map (cntD (held l s))).sum
def pruneN (l : List Rul) : Nat := ((uq (l.map Rul.src)).map (pruneS l)).sum
theorem cntD_le (L : List Rul) (d : Pf) : cntD L d ≤ L.length := List.length_filter_le _ _
theorem pruneS_le {l : List Rul} (hl : l.length ≤ 64) (s : Pf) : pruneS l s ≤ 64 * 64 := by
  have h1 := sum_bd (cntD (held l s)) 64 (uq ((held l s).map Rul.dst)) fun d _ => Nat.le_trans (cntD_le _ d) (Nat.le_trans (held_le l s) hl)
  have h2 := uq_len ((held l s).map Rul.dst)
  rw [List.length_map] at h2
  have h3 := held_le l s
  have h4 : (uq ((held l s).map Rul.dst)).length * 64 ≤ 64 * 64 := Nat.mul_le_mul_right _ (by omega)
  unfold pruneS
  omega
theorem Prune_l7 {h1 : Hp} {A8 : Option Addr} {l8 c8 : Nat} {L : List Rul} {B : Option Addr} {e' : Nat} {ad : Addr} {d : Pf} {A9 A10 : Option Addr} {l9 c9 l10 c10 : Nat} {x43 x44 x46 x47 : Int} (rL : RSl h1 B L.length 12 (L.flatMap Rul.enc)) (hL : L.length ≤ 64) (cd : Cl h1 ad d.enc) {n0 : Nat} (hn0 : n0 ≤ 1000000)
    {K0 : (Option Addr) → Nat → Nat → Int → (Option Addr) → Nat → Nat → (Option Addr) → Nat → Nat → Int → Int → (Option Addr) → Nat → Nat → Int → Int → Hp → Prop}
    (H : ∀ h', Ext h1 h' → K0 A8 l8 c8 ((n0 + cntD L d : Nat) : Int) B L.length e' A9 l9 c9 x43 x44 A10 l10 c10 x46 x47 h') :
    ∀ (k j : Nat) (h : Hp), L.length - j < k → j ≤ L.length → Ext h1 h → nest_Prune_l7 A8 l8 c8 B L.length e' ad A9 l9 c9 x43 x44 A10 l10 c10 x46 x47 B L.length e' (L.length : Int) K0 k ((n0 + ((L.take j).filter fun r => withinB d r.dst).length : Nat) : Int) (j : Int) h := by
  intro k
  induction k with
  | zero => intro j h hk; omega
  | succ k ih =>
    intro j h hk hj e
    unfold nest_Prune_l7
    refine br_i (fun q => ?_) (fun q => ?_)
    · have hlt : j < L.length := by simpa using q
      have hx := List.getElem?_eq_getElem hlt
      generalize L[j] = x at hx
      have hst := filt1 hx fun r => withinB d r.dst
      have hle := filtle L j fun r => withinB d r.dst
      have ih' := fun h2 e2 => ih (j + 1) h2 (by omega) (by omega) e2
      rw [hst] at ih'
      obtain ⟨a, hix, hcl⟩ := ixRu (c := e') (rL.ext e) hx
      refine ⟨_, hix, _, _, _, _, _, _, _, _, _, _, _, _, ldS (vs := x.enc) hcl (by kernel_rfl), newV (us := x.enc) rfl rfl size_ru rfl fun h2 e2 c2 b2 z2 => ⟨_, _, ldS ((cd.ext e).ext e2) (by kernel_rfl), _, _, ldS (Rul.cl_dst c2) (by kernel_rfl), Within_s d x.dst fun h3 e3 => ⟨_, rfl, ?_⟩⟩⟩
      rw [wrapN (i := j) (by omega), wrapN (by omega)]
      have := ih' h3 ((e.trans e2).trans e3)
      cases hw : withinB d x.dst
      · rw [if_neg (by rw [hw]; decide), Nat.add_zero] at this
        exact br_f rfl this
      · rw [if_pos hw, ← Nat.add_assoc] at this
        exact br_t rfl this
    · have hi' : j = L.length := by simp at q; omega
      subst hi'
      rw [List.take_length]
      exact H h e
theorem Prune_l6 {h1 : Hp} {A8 : Option Addr} {l8 c8 : Nat} {L : List Rul} {B : Option Addr} {e' : Nat} {U : List Pf} {Q : Option Addr} {q' : Nat} {A9 : Option Addr} {l9 c9 : Nat} {x43 x44 : Int} (rL : RSl h1 B L.length 12 (L.flatMap Rul.enc)) (hL : L.length ≤ 64) (rU : RSl h1 Q U.length 2 (U.flatMap Pf.enc)) (hU : U.length ≤ 64) {n0 : Nat} (hn0 : n0 ≤ 500000)
    {K0 : (Option Addr) → Nat → Nat → Int → (Option Addr) → Nat → Nat → Int → Int → Hp → Prop} (H : ∀ h', Ext h1 h' → K0 A8 l8 c8 ((n0 + (U.map (cntD L)).sum : Nat) : Int) A9 l9 c9 x43 x44 h') :
    ∀ (k j : Nat) (h : Hp), U.length - j < k → j ≤ U.length → Ext h1 h → nest_Prune_l6 A8 l8 c8 B L.length e' A9 l9 c9 x43 x44 Q U.length q' (U.length : Int) K0 k ((n0 + ((U.take j).map (cntD L)).sum : Nat) : Int) (j : Int) h := by
  intro k
  induction k with
  | zero => intro j h hk; omega
  | succ k ih =>
    intro j h hk hj e
    unfold nest_Prune_l6
    refine br_i (fun q => ?_) (fun q => ?_)
    · have hlt : j < U.length := by simpa using q
      have hx := List.getElem?_eq_getElem hlt
      generalize U[j] = d at hx
      have hst := sum1 hx (cntD L)
      have hb := sum_bd (cntD L) 64 (U.take j) fun d _ => Nat.le_trans (cntD_le L d) hL
      have htl : (U.take j).length ≤ 64 := by rw [List.length_take]; omega
      have hb2 : (U.take j).length * 64 ≤ 64 * 64 := Nat.mul_le_mul_right _ htl
      obtain ⟨a, hix, hcl⟩ := ixPf (c := q') (rU.ext e) hx
      refine ⟨_, hix, _, _, ldS hcl (by kernel_rfl), newV (us := d.enc) rfl rfl size_pf rfl fun h2 e2 c2 b2 z2 => ⟨L.length + 1, ?_⟩⟩
      have := Prune_l7 (h1 := h2) (A8 := A8) (l8 := l8) (c8 := c8) (e' := e') (A9 := A9) (l9 := l9) (c9 := c9) (x43 := x43) (x44 := x44) (A10 := Q) (l10 := U.length) (c10 := q') (x46 := (U.length : Int)) (x47 := (j : Int)) (rL.ext (e.trans e2)) hL c2 (n0 := n0 + ((U.take j).map (cntD L)).sum) (by omega)
        (K0 := fun A406 l406 c406 x407 A408 l408 c408 A409 l409 c409 x410 x411 A412 l412 c412 x413 x414 h415 => nest_Prune_l6 A8 l8 c8 B L.length e' A9 l9 c9 x43 x44 Q U.length q' (U.length : Int) K0 k x407 (IntKind.i64.wrap (x414 + 1)) h415) (fun h3 e3 => by
          rw [wrapN (by omega), Nat.add_assoc, ← hst]
          exact ih (j + 1) h3 (by omega) (by omega) ((e.trans e2).trans e3)) (L.length + 1) 0 h2 (by omega) (by omega) (Ext.refl _)
      exact this
    · have hi' : j = U.length := by simp at q; omega
      subst hi'
      rw [List.take_length]
      exact H h e
theorem Prune_l4 {h1 : Hp} {U : List Pf} {B : Option Addr} {d : Nat} (r : RSl h1 A l.length 12 (l.flatMap Rul.enc)) (hl : l.length ≤ 64) (rU : RSl h1 B U.length 2 (U.flatMap Pf.enc)) (hU : U.length ≤ 64) {K0 : Int → Hp → Prop}
    (H : ∀ h', Ext h1 h' → K0 (((U.map (pruneS l)).sum : Nat) : Int) h') :
    ∀ (k i : Nat) (h : Hp), U.length - i < k → i ≤ U.length → Ext h1 h → nest_Prune_l4 A l.length c B U.length d (U.length : Int) K0 k ((((U.take i).map (pruneS l)).sum : Nat) : Int) (i : Int) h := by
  intro k
  induction k with
  | zero => intro i h hk; omega
  | succ k ih =>
    intro i h hk hi e
    unfold nest_Prune_l4
    refine br_i (fun q => ?_) (fun q => ?_)
    · have hlt : i < U.length := by simpa using q
      have hx := List.getElem?_eq_getElem hlt
      generalize U[i] = s at hx
      have hst := sum1 hx (pruneS l)
      have hb := sum_bd (pruneS l) (64 * 64) (U.take i) fun s _ => pruneS_le hl s
      have htl : (U.take i).length ≤ 64 := by rw [List.length_take]; omega
      have hb2 : (U.take i).length * (64 * 64) ≤ 64 * (64 * 64) := Nat.mul_le_mul_right _ htl
      obtain ⟨a, hix, hcl⟩ := ixPf (c := d) (rU.ext e) hx
      refine ⟨_, hix, _, _, ldS hcl (by kernel_rfl), newV (us := s.enc) rfl rfl size_pf rfl fun h2 e2 c2 b2 z2 => ⟨_, _, ldS c2 (by kernel_rfl), holders_s s (r.ext (e.trans e2)) (by omega) fun h3 Q q e3 r3 hF3 => ⟨_, _, _, rfl, ?_⟩⟩⟩
      have hh := held_le l s
      refine unlikeR_s (of := Rul.dst) r3.read (by omega) (by kernel_rfl) (fun x h K HK => dst_s x HK) fun h4 V v vs e4 hn hm hvl r4 hF4 => ⟨_, _, _, rfl, vs.length + 1, ?_⟩
      have e24 := ((e.trans e2).trans e3).trans e4
      have := Prune_l6 (h1 := h4) (A8 := A) (l8 := l.length) (c8 := c) (e' := q) (q' := v) (A9 := B) (l9 := U.length) (c9 := d) (x43 := (U.length : Int)) (x44 := (i : Int)) (r3.ext e4).read (by omega) r4.read (by omega) (n0 := ((U.take i).map (pruneS l)).sum) (by omega)
        (K0 := fun A417 l417 c417 x418 A419 l419 c419 x420 x421 h422 => nest_Prune_l4 A l.length c B U.length d (U.length : Int) K0 k x418 (IntKind.i64.wrap (x421 + 1)) h422) (fun h5 e5 => by
          rw [sum_uq hn hm]
          show nest_Prune_l4 A l.length c B U.length d (U.length : Int) K0 k ((((U.take i).map (pruneS l)).sum + pruneS l s : Nat) : Int) (IntKind.i64.wrap ((i : Int) + 1)) h5
          rw [wrapN (by omega), ← hst]
          exact ih (i + 1) h5 (by omega) (by omega) (e24.trans e5)) (vs.length + 1) 0 h4 (by omega) (by omega) (Ext.refl _)
      exact this
    · have hi' : i = U.length := by simp at q; omega
      subst hi'
      rw [List.take_length]
      exact H h e
theorem Prune_s (r : RSl h0 A l.length 12 (l.flatMap Rul.enc)) (hl : l.length ≤ 1000000000) (hc : l.length ≤ c) {K : Value → Hp → Prop}
    (H : ∀ h', Ext h0 h' → K (.tuple #[.int .i64 (if listE l = 0 then (pruneN l : Int) else 0), .int .i64 (listE l)]) h') : CallsH Tryz.prog 6 #[.slice A l.length c] h0 K := by
  refine nest_Prune_ok _ _ _ ?_
  unfold nest_Prune
  refine list_s r hl hc fun h1 e1 => ⟨_, rfl, br_i (fun u => ?_) (fun u => ?_)⟩
  · have u : listE l ≠ 0 := by simpa using u
    have := H h1 e1
    rw [if_neg u] at this
    exact this
  · have u : listE l = 0 := by simpa using u
    have h64 := listE_len u
    refine unlikeR_s (of := Rul.src) (r.ext e1) hl (by kernel_rfl) (fun x h K HK => src_s x HK) fun h2 B d us e2 hn hm hul r2 hF2 => ⟨_, _, _, rfl, us.length + 1, ?_⟩
    refine Prune_l4 (h1 := h2) (r.ext (e1.trans e2)) h64 r2.read (by omega) (fun h3 e3 => ?_) (us.length + 1) 0 h2 (by omega) (by omega) (Ext.refl _)
    have := H h3 ((e1.trans e2).trans e3)
    rw [if_pos u, u] at this
    unfold pruneN at this
    rw [sum_uq hn hm]
    exact this
/-! ### Tuple -/
def Rul.sp (r : Rul) : Sp := ⟨r.s0, r.s1⟩
def Rul.dp (r : Rul) : Sp := ⟨r.d0, r.d1⟩
def Rul.okP (r : Rul) : Prop := Ok r.sp ∧ Ok r.dp
def cells1 (r : Rul) : Nat := (ofS r.sp).length * (ofS r.dp).length
def tupleN (l : List Rul) : Nat := (l.map cells1).sum
theorem Rul.cl_sp {h : Hp} {a : Addr} {r : Rul} (c : Cl h a r.enc) : Cl h (a.add 5) r.sp.enc := c.sub 5 fun j v hj => by
  match j, hj with
  | 0, hj => exact hj
  | 1, hj => exact hj
theorem Rul.cl_dp {h : Hp} {a : Addr} {r : Rul} (c : Cl h a r.enc) : Cl h (a.add 7) r.dp.enc := c.sub 7 fun j v hj => by
  match j, hj with
  | 0, hj => exact hj
  | 1, hj => exact hj
theorem firstBad_no : ∀ (es : List Int) (i : Int), firstBad es i = none → ∀ e ∈ es, e = 0
  | [], _, _, e, he => by cases he
  | x :: es, i, h, e, he => by
    rw [firstBad] at h
    split at h
    · cases h
    · rename_i hx
      rcases List.mem_cons.1 he with rfl | he
      · simpa using hx
      · exact firstBad_no es _ h e he
theorem firstBad_yes : ∀ (es : List Int) (i : Int) (e j : Int), firstBad es i = some (e, j) → e ≠ 0
  | [], _, _, _, h => by cases h
  | x :: es, i, e, j, h => by
    rw [firstBad] at h
    split at h
    · rename_i hx; injection h with h; injection h with h1 h2; rw [← h1]; exact hx
    · exact firstBad_yes es _ e j h
theorem check_parts {r : Rul} (h : r.check.1 = 0) : ∀ e ∈ r.parts, e = 0 := by
  rw [Rul.check] at h
  split at h
  · cases h
  · rw [Rul.check2] at h
    cases hb : firstBad r.parts 0 with
    | some x =>
      obtain ⟨e, i⟩ := x
      rw [hb] at h
      exact absurd h (firstBad_yes _ _ e i hb)
    | none => exact firstBad_no _ _ hb
theorem check_sp {r : Rul} (h : r.check.1 = 0) : r.s0 ≤ r.s1 ∧ r.d0 ≤ r.d1 := by
  have h1 := check_parts h (spanCheck r.s0 r.s1) (by simp [Rul.parts])
  have h2 := check_parts h (spanCheck r.d0 r.d1) (by simp [Rul.parts])
  unfold spanCheck at h1 h2
  constructor
  · refine Classical.byContradiction fun hn => ?_
    rw [if_pos (by omega)] at h1
    cases h1
  · refine Classical.byContradiction fun hn => ?_
    rw [if_pos (by omega)] at h2
    cases h2
theorem cells1_le {r : Rul} (ok : r.okP) : cells1 r ≤ 30 * 30 := Nat.mul_le_mul (ofS_len _ ok.1) (ofS_len _ ok.2)
theorem Tuple_l1 {h1 : Hp} (r : RSl h1 A l.length 12 (l.flatMap Rul.enc)) (hl : l.length ≤ 64) (hk0 : ∀ x ∈ l, x.check.1 = 0) (ok : ∀ x ∈ l, x.okP) {K0 : Int → Hp → Prop} (H : ∀ h', Ext h1 h' → K0 ((tupleN l : Nat) : Int) h') :
    ∀ (k i : Nat) (h : Hp), l.length - i < k → i ≤ l.length → Ext h1 h → nest_Tuple_l1 A l.length c (l.length : Int) K0 k ((((l.take i).map cells1).sum : Nat) : Int) (i : Int) h := by
  intro k
  induction k with
  | zero => intro i h hk; omega
  | succ k ih =>
    intro i h hk hi e
    unfold nest_Tuple_l1
    refine br_i (fun q => ?_) (fun q => ?_)
    · have hlt : i < l.length := by simpa using q
      have hx := List.getElem?_eq_getElem hlt
      generalize l[i] = x at hx
      have hxm := List.mem_of_getElem? hx
      have hst := sum1 hx cells1
      have hb := sum_bd cells1 (30 * 30) (l.take i) fun y hy => cells1_le (ok y (List.mem_of_mem_take hy))
      have htl : (l.take i).length ≤ 64 := by rw [List.length_take]; omega
      have hb2 : (l.take i).length * (30 * 30) ≤ 64 * (30 * 30) := Nat.mul_le_mul_right _ htl
      have hcx := cells1_le (ok x hxm)
      obtain ⟨hs1, hs2⟩ := check_sp (hk0 x hxm)
      obtain ⟨a, hix, hcl⟩ := ixRu (c := c) (r.ext e) hx
      refine ⟨_, hix, _, _, _, _, _, _, _, _, _, _, _, _, ldS (vs := x.enc) hcl (by kernel_rfl), newV (us := x.enc) rfl rfl size_ru rfl fun h2 e2 c2 b2 z2 => ⟨_, _, ldS (Rul.cl_sp c2) (by kernel_rfl), Count_s x.sp (ok x hxm).1 fun h3 e3 => ⟨_, _, rfl, _, _, ldS (Rul.cl_dp (c2.ext e3)) (by kernel_rfl), Count_s x.dp (ok x hxm).2 fun h4 e4 => ⟨_, _, rfl, ?_⟩⟩⟩⟩
      have g1 : (cntT x.sp).1 = ((ofS x.sp).length : Int) := by rw [cntT, if_pos (show x.sp.lo ≤ x.sp.hi from hs1)]
      have g2 : (cntT x.dp).1 = ((ofS x.dp).length : Int) := by rw [cntT, if_pos (show x.dp.lo ≤ x.dp.hi from hs2)]
      rw [g1, g2]
      have g3 : ((ofS x.sp).length : Int) * ((ofS x.dp).length : Int) = ((cells1 x : Nat) : Int) := by unfold cells1; simp
      rw [g3, wrap_in (n := ((cells1 x : Nat) : Int)) (by omega) (by omega), wrapS (by omega), wrapN (by omega), ← hst]
      exact ih (i + 1) h4 (by omega) (by omega) (((e.trans e2).trans e3).trans e4)
    · have hi' : i = l.length := by simp at q; omega
      subst hi'
      rw [List.take_length]
      exact H h e
theorem Tuple_s (r : RSl h0 A l.length 12 (l.flatMap Rul.enc)) (hl : l.length ≤ 1000000000) (hc : l.length ≤ c) (ok : ∀ x ∈ l, x.okP) {K : Value → Hp → Prop}
    (H : ∀ h', Ext h0 h' → K (.tuple #[.int .i64 (if listE l = 0 then (tupleN l : Int) else 0), .int .i64 (listE l)]) h') : CallsH Tryz.prog 10 #[.slice A l.length c] h0 K := by
  refine nest_Tuple_ok _ _ _ ?_
  unfold nest_Tuple
  refine list_s r hl hc fun h1 e1 => ⟨_, rfl, br_i (fun u => ?_) (fun u => ?_)⟩
  · have u : listE l ≠ 0 := by simpa using u
    have := H h1 e1
    rw [if_neg u] at this
    exact this
  · have u : listE l = 0 := by simpa using u
    refine ⟨l.length + 1, Tuple_l1 (h1 := h1) (r.ext e1) (listE_len u) (listE_chk u) ok (fun h3 e3 => ?_) (l.length + 1) 0 h1 (by omega) (by omega) (Ext.refl _)⟩
    have := H h3 (e1.trans e3)
    rw [if_pos u, u] at this
    exact this
end
end Go.Proofs.YtgahbkbmolfpnaaGreat.Fs
