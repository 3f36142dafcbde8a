/- NestShrinks. -/
import Derived.Test.YtmgbbedbilefaaaNeAwake
import Derived.Test.YtmgbbedbilefaaaNeShr
namespace Go.Proofs.Ytmgbbedbilefaaa.Fs
open Go Go.RowKit Go.Sort Go.Proofs.Ytmgbbedbilefaaa.Sx Go.Proofs.Ytmgbbedbilefaaa.Sp Go.Proofs.Ytmgbbedbilefaaa.Uq
set_option linter.unusedVariables false
set_option linter.unusedSimpArgs false
set_option maxRecDepth 10000
section
variable {h0 : Hp} {A : Option Addr} {c : Nat} {l : List Rul}
theorem RList_l3 {h : Hp} (r : RSl h A l.length 12 (l.flatMap Rul.enc)) {i : Nat} {x : Rul} (hx : l[i]? = some x) (hi : i ≤ 64) {K0 : Int → Hp → Prop} {K1 : (Option Addr) → Nat → Nat → Int → Hp → Prop}
    (H0 : ((l.take i).any fun y => y.id == x.id) = true → K0 111 h) (H1 : ((l.take i).any fun y => y.id == x.id) = false → K1 A l.length c (i : Int) h) :
    ∀ (k j : Nat), i - j < k → j ≤ i → ((l.take j).any fun y => y.id == x.id) = false → quintetref14_List_l3 A l.length c (i : Int) K0 K1 k (j : Int) h := by
  have hil := (List.getElem?_eq_some_iff.1 hx).1
  intro k
  induction k with
  | zero => intro j hk; omega
  | succ k ih =>
    intro j hk hj hn
    unfold quintetref14_List_l3
    refine br_i (fun q => ?_) (fun q => ?_)
    · have hlt : j < i := by simpa using q
      have hy : l[j]? = some l[j] := List.getElem?_eq_getElem (by omega)
      generalize l[j] = y at hy
      obtain ⟨a, hix, hcl⟩ := ixRu (c := c) r hy
      obtain ⟨b, hix2, hcl2⟩ := ixRu (c := c) r hx
      refine ⟨_, hix, _, ld hcl.head (by kernel_rfl), _, hix2, _, ld hcl2.head (by kernel_rfl), br_i (fun u => ?_) (fun u => ?_)⟩
      · refine H0 ?_
        rw [List.any_eq_true]
        refine ⟨y, List.mem_of_getElem? (i := j) ?_, u⟩
        rw [List.getElem?_take, if_pos hlt, hy]
      · rw [wrapN (by omega)]
        refine ih (j + 1) (by omega) (by omega) ?_
        rw [tk1 hy, List.any_append, hn]
        simpa using u
    · have : j = i := by simp at q; omega
      subst this
      exact H1 hn
theorem RList_s (r : RSl h0 A l.length 12 (l.flatMap Rul.enc)) (hw : ∀ x ∈ l, x.wf) {K : Value → Hp → Prop} (H : ∀ h', Ext h0 h' → K (.int .i64 (listE l)) h') : CallsH Try.prog 20 #[.slice A l.length c] h0 K := by
  refine quintetref14_List_ok _ _ _ ?_
  unfold quintetref14_List
  have key : ∀ (k i : Nat) (h : Hp), 65 - i < k → i ≤ 64 → i ≤ l.length → Ext h0 h → lsE (l.take i) (l.drop i) = listE l → quintetref14_List_l2 A l.length c (fun (x79 : Int) (h80 : Hp) => K (.int .i64 x79) h80) (fun h81 => K (.int .i64 0) h81) k i h := by
    intro k
    induction k with
    | zero => intro i h hk; omega
    | succ k ih =>
      intro i h hk h64 hi e hn
      unfold quintetref14_List_l2
      refine br_i (fun q => ?_) (fun q => ?_)
      · have hlt : i < l.length := by simpa using q
        have hx := List.getElem?_eq_getElem hlt
        generalize l[i] = x at hx
        rw [listE_at hx] at hn
        obtain ⟨a, hix, hcl⟩ := ixRu (c := c) (r.ext e) hx
        refine ⟨_, hix, _, _, _, _, _, _, _, _, _, _, _, _, ldS (vs := x.enc) hcl (by kernel_rfl), ref08_Check_s x (hw x (List.mem_of_getElem? hx)) fun h2 e2 => ⟨_, _, rfl, br_i (fun u => ?_) (fun u => ⟨i + 1, RList_l3 (r.ext (e.trans e2)) hx h64 (fun ha => ?_) (fun ha => br_i (fun u3 => ?_) (fun u3 => ?_)) (i + 1) 0 (by omega) (by omega) (by simp)⟩)⟩⟩
        · rw [if_pos (by simpa using u)] at hn
          have := H h2 (e.trans e2)
          rw [← hn] at this
          exact this
        · rw [if_neg (by simpa using u), if_pos ha] at hn
          have := H h2 (e.trans e2)
          rw [← hn] at this
          exact this
        · rw [if_neg (by simpa using u), if_neg (by rw [ha]; decide), if_pos (by simp at u3; omega)] at hn
          have := H h2 (e.trans e2)
          rw [← hn] at this
          exact this
        · rw [if_neg (by simpa using u), if_neg (by rw [ha]; decide), if_neg (by simp at u3; omega)] at hn
          have h64' : i ≠ 64 := by simp at u3; omega
          rw [wrapN (by omega)]
          exact ih (i + 1) h2 (by omega) (by omega) (by omega) (e.trans e2) hn
      · have hi' : i = l.length := by simp at q; omega
        subst hi'
        rw [List.take_length, List.drop_length] at hn
        have := H h e
        rw [← hn] at this
        exact this
  exact ⟨66, key _ 0 h0 (by omega) (by omega) (by omega) (Ext.refl _) (by simp [listE])⟩
end
/-! ### less, back -/
def bk (n : Nat) (r : Rul) : Rul := { r with id := (n : Int) + 1, act := 4 }
def bkF : Nat → List Rul → List Rul
  | _, [] => []
  | n, r :: L => bk n r :: bkF (n + 1) L
theorem bkF_snoc : ∀ (L : List Rul) (n : Nat) (x : Rul), bkF n (L ++ [x]) = bkF n L ++ [bk (n + L.length) x]
  | [], n, x => by simp [bkF]
  | r :: L, n, x => by
    rw [List.cons_append]
    unfold bkF
    rw [bkF_snoc L (n + 1) x, List.length_cons, List.cons_append]
    congr 4
    omega
theorem bkF_len : ∀ (L : List Rul) (n : Nat), (bkF n L).length = L.length
  | [], n => rfl
  | r :: L, n => by unfold bkF; rw [List.length_cons, List.length_cons, bkF_len L]
theorem bkF_map {β : Type} (f : Rul → β) (hf : ∀ n r, f (bk n r) = f r) : ∀ (L : List Rul) (n : Nat), (bkF n L).map f = L.map f
  | [], n => rfl
  | r :: L, n => by unfold bkF; rw [List.map_cons, List.map_cons, hf, bkF_map f hf L]
theorem bkF_mem : ∀ (L : List Rul) (n : Nat) (x : Rul), x ∈ bkF n L → ∃ m r, n ≤ m ∧ m < n + L.length ∧ r ∈ L ∧ x = bk m r
  | [], n, x, h => by cases h
  | r :: L, n, x, h => by
    unfold bkF at h
    rcases List.mem_cons.1 h with rfl | h
    · exact ⟨n, r, Nat.le_refl _, by simp, by simp, rfl⟩
    · obtain ⟨m, r', h1, h2, h3, h4⟩ := bkF_mem L (n + 1) x h
      exact ⟨m, r', by omega, by rw [List.length_cons]; omega, List.mem_cons_of_mem _ h3, h4⟩
theorem bkF_ids : ∀ (L : List Rul) (n : Nat), (bkF n L).Pairwise (fun x y => x.id ≠ y.id)
  | [], n => List.Pairwise.nil
  | r :: L, n => by
    unfold bkF
    rw [List.pairwise_cons]
    refine ⟨fun y hy => ?_, bkF_ids L (n + 1)⟩
    obtain ⟨m, r', h1, h2, h3, h4⟩ := bkF_mem L (n + 1) y hy
    subst h4
    unfold bk
    dsimp only
    omega
section
variable {h0 : Hp} {A : Option Addr} {c : Nat} {l : List Rul}
theorem Shr_j18 {h : Hp} (r : RSl h A l.length 12 (l.flatMap Rul.enc)) (hl : l.length ≤ 64) {i : Nat} {x : Rul} (hi : i < l.length) (hx : l[l.length - 1 - i]? = some x) {x7 : Int} {A8 : Option Addr} {l8 c8 : Nat} {B : Option Addr} {d : Nat} {L : List Rul} (hL : L.length ≤ 64) (e : Ext h0 h) (rB : RowR h B d L) (hF : Fresh h0 B)
    {K0 : (Option Addr) → Nat → Nat → Int → (Option Addr) → Nat → Nat → (Option Addr) → Nat → Nat → Int → Hp → Prop}
    (H : ∀ h' B' d', Ext h0 h' → Fr (fun k => h.size ≤ k ∨ blk B k) h h' → RowR h' B' d' (L ++ [bk i x]) → Fresh h0 B' → (∀ k, blk B' k → blk B k ∨ h.size ≤ k) → K0 A l.length c x7 A8 l8 c8 B' (L.length + 1) d' (i : Int) h') :
    quintetlaw14_NestShrinks_j18 K0 A l.length c x7 A8 l8 c8 B L.length d (i : Int) h := by
  unfold quintetlaw14_NestShrinks_j18
  have w1 : IntKind.i64.wrap ((IntKind.i64.wrap ((l.length : Int) - 1)) - (i : Int)) = ((l.length - 1 - i : Nat) : Int) := by
    rw [wrap_in (n := (l.length : Int) - 1) (by omega) (by omega), wrap_in (by omega) (by omega)]; omega
  rw [w1]
  obtain ⟨a, hix, hcl⟩ := ixRu (c := c) r hx
  refine ⟨_, hix, _, _, _, _, _, _, _, _, _, _, _, _, ldS (vs := x.enc) hcl (by kernel_rfl), newV (us := x.enc) rfl rfl size_ru rfl fun h2 e2 c2 b2 z2 => ?_⟩
  rw [wrapN (by omega)]
  refine HU_stC (us := [.int .i64 ((i + 1 : Nat) : Int)]) (new := .int .i64 ((i + 1 : Nat) : Int) :: x.enc.drop 1) b2 rfl (by kernel_rfl) (by simp [Rul.enc]) rfl rfl fun h3 b3 f3 z3 => ?_
  refine HU_stC (o := 11) (us := [.int .i64 4]) (new := (bk i x).enc) b3 rfl (by kernel_rfl) (by simp [Rul.enc]) rfl (by simp [Rul.enc, bk]) fun h4 b4 f4 z4 => ?_
  have c4 : Cl h4 ⟨h.size, 0, none⟩ (bk i x).enc := Cl.of_block b4 fun j v hj => by rw [Nat.zero_add]; exact hj
  have f24 := f3.trans f4
  have e4 : Ext h h4 := extOwn e2 f24 (by rintro k rfl; exact Nat.le_refl _)
  refine ⟨_, _, _, _, _, _, _, _, _, _, _, _, ldS (vs := (bk i x).enc) c4 (by kernel_rfl), newC_i (cs := (bk i x).enc) fun h5 e5 c5 b5 z5 => ?_⟩
  have r5 := (rB.ext e4).ext e5
  obtain ⟨inf, z, hi', hs, hb, hz, hc⟩ := info_ru
  refine HW_append1C (z := z) Rul.enc_len Rul.flat und_rus hi' hz (by rw [hc]; rfl) hs (by omega) r5.row c5 (by rw [hb]; omega) fun h6 g d' r6 hg f6 hcc => ⟨_, _, _, rfl, ?_⟩
  have e45 := e4.trans e5
  refine H h6 (some ⟨g, 0, none⟩) d' (extOwn (e.trans e45) f6 hF) ((e45.fr _).trans (f6.mono fun k hk => .inr hk)) ⟨r6, hcc.elim (fun e => e ▸ rB.cap) id⟩ ?_ ?_
  · refine Fresh.some ?_
    rcases hg with hg | hg
    · exact hF g hg
    · have := (e.trans e45).size; omega
  · rintro k ⟨b, hb', rfl⟩
    cases hb'
    rcases hg with hg | hg
    · exact .inl hg
    · exact .inr (by have := e45.size; show h.size ≤ g; omega)
theorem erase_step {i at_ : Nat} {x : Rul} (hx : l[i]? = some x) : (l.take (i + 1)).eraseIdx at_ = if i = at_ then (l.take i).eraseIdx at_ else (l.take i).eraseIdx at_ ++ [x] := by
  have hil := (List.getElem?_eq_some_iff.1 hx).1
  have ht : (l.take i).length = i := by rw [List.length_take]; omega
  rw [tk1 hx]
  rcases Nat.lt_trichotomy i at_ with c | c | c
  · rw [if_neg (by omega), List.eraseIdx_append_of_length_le (by omega), List.eraseIdx_of_length_le (l := l.take i) (by omega), List.eraseIdx_of_length_le (by simp; omega)]
  · rw [if_pos c, List.eraseIdx_append_of_length_le (by omega), List.eraseIdx_of_length_le (l := l.take i) (by omega)]
    subst c
    rw [ht, Nat.sub_self]
    simp
  · rw [if_neg (by omega), List.eraseIdx_append_of_lt_length (by omega)]
theorem Shr_l17 (r : RSl h0 A l.length 12 (l.flatMap Rul.enc)) (hl : l.length ≤ 64) {at_ : Nat} {K0 : (Option Addr) → Nat → Nat → (Option Addr) → Nat → Nat → (Option Addr) → Nat → Nat → Hp → Prop}
    (H : ∀ h' P p Q q, Ext h0 h' → RowR h' P p (l.eraseIdx at_) → RowR h' Q q (bkF 0 l.reverse) → K0 A l.length c P (l.eraseIdx at_).length p Q (bkF 0 l.reverse).length q h') :
    ∀ (k i : Nat) (h : Hp) (P : Option Addr) (p : Nat) (Q : Option Addr) (q : Nat), l.length - i < k → i ≤ l.length → Ext h0 h → RowR h P p ((l.take i).eraseIdx at_) → RowR h Q q (bkF 0 (l.reverse.take i)) → Fresh h0 P → Fresh h0 Q → (∀ k, blk P k → ¬ blk Q k) →
      quintetlaw14_NestShrinks_l17 A l.length c (at_ : Int) K0 k P ((l.take i).eraseIdx at_).length p Q (bkF 0 (l.reverse.take i)).length q (i : Int) h := by
  intro k
  induction k with
  | zero => intro i h P p Q q hk; omega
  | succ k ih =>
    intro i h P p Q q hk hi e rP rQ hP hQ hd
    unfold quintetlaw14_NestShrinks_l17
    refine br_i (fun u => ?_) (fun u => ?_)
    · have hlt : i < l.length := by simpa using u
      have hx := List.getElem?_eq_getElem hlt
      generalize l[i] = x at hx
      have hst := erase_step (at_ := at_) hx
      have hy : l[l.length - 1 - i]? = some l[l.length - 1 - i] := List.getElem?_eq_getElem (by omega)
      generalize l[l.length - 1 - i] = y at hy
      have hyr : l.reverse[i]? = some y := by rw [List.getElem?_reverse hlt]; exact hy
      have hbk : bkF 0 (l.reverse.take (i + 1)) = bkF 0 (l.reverse.take i) ++ [bk i y] := by
        rw [tk1 hyr, bkF_snoc, List.length_take, List.length_reverse, Nat.min_eq_left (by omega), Nat.zero_add]
      have hbl : (bkF 0 (l.reverse.take i)).length ≤ 64 := by rw [bkF_len, List.length_take, List.length_reverse]; omega
      have hel : ((l.take i).eraseIdx at_).length ≤ 64 := by
        have := List.length_eraseIdx_le (l.take i) at_
        rw [List.length_take] at this
        omega
      have hb1 : (bkF 0 (l.reverse.take i)).length + 1 = (bkF 0 (l.reverse.take (i + 1))).length := by rw [hbk]; simp
      have fin : ∀ (h1 : Hp) (P' : Option Addr) (p' : Nat), Ext h0 h1 → RowR h1 P' p' ((l.take (i + 1)).eraseIdx at_) → RowR h1 Q q (bkF 0 (l.reverse.take i)) → Fresh h0 P' → (∀ k, blk P' k → ¬ blk Q k) →
          quintetlaw14_NestShrinks_j18 (fun A1310 l1310 c1310 x1311 A1312 l1312 c1312 A1313 l1313 c1313 x1314 h1315 => quintetlaw14_NestShrinks_l17 A l.length c (at_ : Int) K0 k A1312 l1312 c1312 A1313 l1313 c1313 (IntKind.i64.wrap (x1314 + 1)) h1315) A l.length c (at_ : Int) P' ((l.take (i + 1)).eraseIdx at_).length p' Q (bkF 0 (l.reverse.take i)).length q (i : Int) h1 := fun h1 P' p' e1 rP' rQ' hP' hd' => by
        refine Shr_j18 (r.ext e1) hl hlt hy hbl e1 rQ' hQ fun h2 B' d' e2 f2 r2 hF2 hB2 => ?_
        rw [wrapN (by omega), hb1]
        rw [← hbk] at r2
        refine ih (i + 1) h2 P' p' B' d' (by omega) (by omega) e2 (rP'.keep f2 fun k hk hb => ?_) r2 hP' hF2 (fun k hk hb => ?_)
        · have := rP'.old k hk
          rcases hb with hb | hb
          · omega
          · exact hd' k hk hb
        · have := rP'.old k hk
          rcases hB2 k hb with hb | hb
          · exact hd' k hk hb
          · omega
      refine br_i (fun v => ?_) (fun v => ?_)
      · have v : ¬ i = at_ := by simp at v; omega
        rw [if_neg v] at hst
        obtain ⟨a, hix, hcl⟩ := ixRu (c := c) (r.ext e) hx
        refine ⟨_, hix, _, _, _, _, _, _, _, _, _, _, _, _, ldS (vs := x.enc) hcl (by kernel_rfl), newC_i (cs := x.enc) fun h1 e1 c1 b1 z1 => ?_⟩
        obtain ⟨inf, z, hi', hs, hb, hz, hc⟩ := info_ru
        refine HW_append1C (z := z) Rul.enc_len Rul.flat und_rus hi' hz (by rw [hc]; rfl) hs (by omega) (rP.ext e1).row c1 (by rw [hb]; omega) fun h2 g d' r2 hg f2 hcc => ⟨_, _, _, rfl, ?_⟩
        have hl1 : ((l.take i).eraseIdx at_).length + 1 = ((l.take (i + 1)).eraseIdx at_).length := by rw [hst]; simp
        rw [hl1]
        rw [← hst] at r2
        refine fin h2 (some ⟨g, 0, none⟩) d' (extOwn (e.trans e1) f2 hP) ⟨r2, hcc.elim (fun e => e ▸ rP.cap) id⟩ ((rQ.ext e1).keep f2 fun k hk hb => hd k hb hk) ?_ ?_
        · refine Fresh.some ?_
          rcases hg with hg | hg
          · exact hP g hg
          · have := (e.trans e1).size; omega
        · rintro k ⟨b, hb', rfl⟩ hk
          cases hb'
          rcases hg with hg | hg
          · exact hd _ hg hk
          · have h1' := rQ.old _ hk
            have h2' := e1.size
            simp only at h1'
            omega
      · have v : i = at_ := by simp at v; omega
        rw [if_pos v] at hst
        have := fin h P p e (by rw [hst]; exact rP) rQ hP hd
        rw [hst] at this
        exact this
    · have hi' : i = l.length := by simp at u; omega
      subst hi'
      rw [List.take_length] at rP ⊢
      have hr : l.reverse.take l.length = l.reverse := List.take_of_length_le (by simp)
      rw [hr] at rQ ⊢
      exact H h P p Q q e rP rQ
end
end Go.Proofs.Ytmgbbedbilefaaa.Fs
