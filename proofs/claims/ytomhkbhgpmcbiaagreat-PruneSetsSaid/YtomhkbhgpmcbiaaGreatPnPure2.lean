/- The arena as a forest of tries: where each node stands; down, seek. Plain. -/
import Derived.Test.YtomhkbhgpmcbiaaGreatPnPure1
namespace Go.Proofs.YtomhkbhgpmcbiaaGreat.Fs
open Go Go.RowKit Go.Proofs.YtomhkbhgpmcbiaaGreat.Sx Go.Proofs.YtomhkbhgpmcbiaaGreat.Uq
set_option linter.unusedVariables false
set_option linter.unusedSimpArgs false
set_option maxRecDepth 10000
abbrev Ads := List (Nat × List Bool)
structure Rep (ar : List Nd) (ad : Ads) : Prop where
  len : ad.length = ar.length
  inj : ∀ (i j : Nat) a, ad[i]? = some a → ad[j]? = some a → i = j
  zero : ad[0]? = some (0, [])
  zz : ndAt ar 0 = zNd
  pos : ∀ (j : Nat) r p, 0 < j → ad[j]? = some (r, p) → 0 < r
  top : ∀ (j : Nat) r p, ad[j]? = some (r, p) → r < ar.length
  kid : ∀ (j : Nat) r p b, 0 < j → ad[j]? = some (r, p) → (ndAt ar j).kid b ≠ 0 → ad[(ndAt ar j).kid b]? = some (r, p ++ [b])
  no : ∀ (j : Nat) r p b, 0 < j → ad[j]? = some (r, p) → (ndAt ar j).kid b = 0 → ∀ k : Nat, ad[k]? ≠ some (r, p ++ [b])
  up : ∀ (k : Nat) r p b, ad[k]? = some (r, p ++ [b]) → ∃ j : Nat, ad[j]? = some (r, p)
theorem Rep.lt {ar : List Nd} {ad : Ads} (R : Rep ar ad) {i : Nat} {a : Nat × List Bool} (h : ad[i]? = some a) : i < ar.length := by
  have := (List.getElem?_eq_some_iff.1 h).1
  rw [R.len] at this
  exact this
theorem Rep.upTo {ar : List Nd} {ad : Ads} (R : Rep ar ad) {r : Nat} : ∀ (q p : List Bool) (k : Nat), ad[k]? = some (r, p ++ q) → ∃ j : Nat, ad[j]? = some (r, p) := by
  intro q
  induction q using snoc_ind with
  | h0 => intro p k h; exact ⟨k, by simpa using h⟩
  | h1 q b ih =>
    intro p k h
    rw [← List.append_assoc] at h
    obtain ⟨j, hj⟩ := R.up k r _ b h
    exact ih p j hj
/-- What hangs at a node, and its list. -/
def Nd.inf (n : Nd) : Nat × Bool × List Nat := (n.hang, n.whole, n.list)
theorem inf_setKid (n : Nd) (b : Bool) (v : Nat) : (n.setKid b v).inf = n.inf := by cases b <;> rfl
theorem kid_setKid (n : Nd) (b c : Bool) (v : Nat) : (n.setKid b v).kid c = if c = b then v else n.kid c := by cases b <;> cases c <;> rfl
theorem ndAt_app {ar : List Nd} {k : Nat} (hk : k < ar.length) (x : Nd) : ndAt (ar ++ [x]) k = ndAt ar k := by
  unfold ndAt
  rw [List.getD_eq_getElem?_getD, List.getElem?_append_left hk, List.getD_eq_getElem?_getD]
theorem ndAt_end (ar : List Nd) (x : Nd) : ndAt (ar ++ [x]) ar.length = x := by
  unfold ndAt
  rw [List.getD_eq_getElem?_getD, List.getElem?_append_right (Nat.le_refl _)]
  simp
theorem ndAt_out {ar : List Nd} {k : Nat} (hk : ar.length ≤ k) : ndAt ar k = zNd := by
  unfold ndAt
  rw [List.getD_eq_getElem?_getD, List.getElem?_eq_none hk]; rfl
theorem ndAt_set_ne {ar : List Nd} {i k : Nat} (h : k ≠ i) (n : Nd) : ndAt (ar.set i n) k = ndAt ar k := by
  unfold ndAt
  rw [List.getD_eq_getElem?_getD, List.getElem?_set_ne (fun e => h e.symm), List.getD_eq_getElem?_getD]
theorem app_get {α : Type} {l : List α} {x y : α} {k : Nat} (h : (l ++ [x])[k]? = some y) : (l[k]? = some y) ∨ (k = l.length ∧ y = x) := by
  by_cases hk : k < l.length
  · rw [List.getElem?_append_left hk] at h; exact .inl h
  · rw [List.getElem?_append_right (by omega)] at h
    by_cases he : k = l.length
    · subst he; simp at h; exact .inr ⟨rfl, h.symm⟩
    · rw [List.getElem?_eq_none (by rw [List.length_singleton]; omega)] at h; cases h
theorem app_old {α : Type} {l : List α} {x y : α} {k : Nat} (h : l[k]? = some y) : (l ++ [x])[k]? = some y := by
  rw [List.getElem?_append_left (List.getElem?_eq_some_iff.1 h).1]; exact h
theorem app_new {α : Type} (l : List α) (x : α) : (l ++ [x])[l.length]? = some x := by simp
/-- A node's own part changes; its kids stay. -/
theorem Rep.same {ar : List Nd} {ad : Ads} (R : Rep ar ad) {i : Nat} (h0 : 0 < i) (hi : i < ar.length) {n : Nd} (hn : ∀ b, n.kid b = (ndAt ar i).kid b) : Rep (ar.set i n) ad := by
  have key : ∀ j b, (ndAt (ar.set i n) j).kid b = (ndAt ar j).kid b := fun j b => by
    by_cases hj : j = i
    · subst hj; rw [ndAt_set hi, hn]
    · rw [ndAt_set_ne hj]
  exact ⟨by rw [List.length_set]; exact R.len, R.inj, R.zero, by rw [ndAt_set_ne (by omega)]; exact R.zz, R.pos, by rw [List.length_set]; exact R.top, fun j r p b => by rw [key]; exact R.kid j r p b, fun j r p b => by rw [key]; exact R.no j r p b, R.up⟩
/-- A root is made. -/
theorem Rep.root {ar : List Nd} {ad : Ads} (R : Rep ar ad) (h0 : 0 < ar.length) : Rep (ar ++ [zNd]) (ad ++ [(ar.length, [])]) := by
  have hlen := R.len
  have old : ∀ (j : Nat) r p, (ad ++ [(ar.length, [])])[j]? = some (r, p) → ad[j]? = some (r, p) ∨ (j = ar.length ∧ r = ar.length ∧ p = []) := fun j r p h => by
    rcases app_get h with h | ⟨h1, h2⟩
    · exact .inl h
    · injection h2 with h2 h3; exact .inr ⟨by omega, h2, h3⟩
  refine ⟨by simp [R.len], fun i j a hi hj => ?_, app_old R.zero, by rw [ndAt_app h0]; exact R.zz, fun j r p hj h => ?_, fun j r p h => ?_, fun j r p b hj h hk => ?_, fun j r p b hj h hk k hc => ?_, fun k r p b h => ?_⟩
  · obtain ⟨r, p⟩ := a
    rcases old i r p hi with h | ⟨h1, h2, h3⟩ <;> rcases old j r p hj with g | ⟨g1, g2, g3⟩
    · exact R.inj i j _ h g
    · have := R.top _ _ _ h; omega
    · have := R.top _ _ _ g; omega
    · omega
  · rcases old j r p h with h | ⟨h1, h2, h3⟩
    · exact R.pos j r p hj h
    · omega
  · rw [List.length_append, List.length_singleton]
    rcases old j r p h with h | ⟨h1, h2, h3⟩
    · have := R.top _ _ _ h; omega
    · omega
  · rcases old j r p h with h | ⟨h1, h2, h3⟩
    · rw [ndAt_app (R.lt h)] at hk ⊢
      exact app_old (R.kid j r p b hj h hk)
    · subst h1
      rw [ndAt_end] at hk
      exact absurd (by cases b <;> rfl) hk
  · rcases old k r _ hc with g | ⟨g1, g2, g3⟩
    · rcases old j r p h with h | ⟨h1, h2, h3⟩
      · rw [ndAt_app (R.lt h)] at hk
        exact R.no j r p b hj h hk k g
      · have := R.top _ _ _ g; omega
    · simp at g3
  · rcases old k r _ h with h | ⟨h1, h2, h3⟩
    · obtain ⟨j, hj⟩ := R.up k r p b h
      exact ⟨j, app_old hj⟩
    · simp at h3
/-- A kid is made. -/
theorem Rep.grow {ar : List Nd} {ad : Ads} (R : Rep ar ad) {i r : Nat} {p : List Bool} {b : Bool} (h0 : 0 < i) (hi : ad[i]? = some (r, p)) (hk : (ndAt ar i).kid b = 0) : Rep ((ar ++ [zNd]).set i ((ndAt ar i).setKid b ar.length)) (ad ++ [(r, p ++ [b])]) := by
  have hlen := R.len
  have hil := R.lt hi
  have old : ∀ (j : Nat) r' p', (ad ++ [(r, p ++ [b])])[j]? = some (r', p') → ad[j]? = some (r', p') ∨ (j = ar.length ∧ r' = r ∧ p' = p ++ [b]) := fun j r' p' h => by
    rcases app_get h with h | ⟨h1, h2⟩
    · exact .inl h
    · injection h2 with h2 h3; exact .inr ⟨by omega, h2, h3⟩
  have fresh : ∀ k : Nat, ad[k]? ≠ some (r, p ++ [b]) := R.no i r p b h0 hi hk
  have hnew : (ad ++ [(r, p ++ [b])])[ar.length]? = some (r, p ++ [b]) := by rw [← hlen]; exact app_new _ _
  have nd : ∀ j, j ≠ i → j < ar.length → ndAt ((ar ++ [zNd]).set i ((ndAt ar i).setKid b ar.length)) j = ndAt ar j := fun j h1 h2 => by rw [ndAt_set_ne h1, ndAt_app h2]
  have ndi : ndAt ((ar ++ [zNd]).set i ((ndAt ar i).setKid b ar.length)) i = (ndAt ar i).setKid b ar.length := ndAt_set (by rw [List.length_append]; omega) _
  have ndn : ndAt ((ar ++ [zNd]).set i ((ndAt ar i).setKid b ar.length)) ar.length = zNd := by rw [ndAt_set_ne (by omega), ndAt_end]
  refine ⟨by simp [R.len], fun i' j a hi' hj => ?_, app_old R.zero, by rw [nd 0 (by omega) (by omega)]; exact R.zz, fun j r' p' hj h => ?_, fun j r' p' h => ?_, fun j r' p' b' hj h hk' => ?_, fun j r' p' b' hj h hk' k hc => ?_, fun k r' p' b' h => ?_⟩
  · obtain ⟨r', p'⟩ := a
    rcases old i' r' p' hi' with h | ⟨h1, h2, h3⟩ <;> rcases old j r' p' hj with g | ⟨g1, g2, g3⟩
    · exact R.inj i' j _ h g
    · subst g2; subst g3; exact absurd h (fresh _)
    · subst h2; subst h3; exact absurd g (fresh _)
    · omega
  · rcases old j r' p' h with ho | ⟨h1, h2, h3⟩
    · exact R.pos j r' p' hj ho
    · rw [h2]; exact R.pos i r p h0 hi
  · rw [List.length_set, List.length_append, List.length_singleton]
    rcases old j r' p' h with ho | ⟨h1, h2, h3⟩
    · have := R.top _ _ _ ho; omega
    · rw [h2]; have := R.top _ _ _ hi; omega
  · rcases old j r' p' h with ho | ⟨h1, h2, h3⟩
    · by_cases hji : j = i
      · subst hji
        rw [ho] at hi
        injection hi with hi
        injection hi with e1 e2
        subst e1; subst e2
        rw [ndi, kid_setKid] at hk' ⊢
        by_cases hb : b' = b
        · rw [if_pos hb]; subst hb; exact hnew
        · rw [if_neg hb] at hk' ⊢
          exact app_old (R.kid j _ _ b' hj ho hk')
      · rw [nd j hji (R.lt ho)] at hk' ⊢
        exact app_old (R.kid j r' p' b' hj ho hk')
    · subst h1
      rw [ndn] at hk'
      exact absurd (by cases b' <;> rfl) hk'
  · rcases old j r' p' h with ho | ⟨h1, h2, h3⟩
    · by_cases hji : j = i
      · subst hji
        rw [ho] at hi
        injection hi with hi
        injection hi with e1 e2
        subst e1; subst e2
        rw [ndi, kid_setKid] at hk'
        by_cases hb : b' = b
        · rw [if_pos hb] at hk'
          omega
        · rw [if_neg hb] at hk'
          rcases old k _ _ hc with g | ⟨g1, g2, g3⟩
          · exact R.no j _ _ b' hj ho hk' k g
          · have := List.append_cancel_left g3
            simp at this
            exact hb this
      · rw [nd j hji (R.lt ho)] at hk'
        rcases old k _ _ hc with g | ⟨g1, g2, g3⟩
        · exact R.no j r' p' b' hj ho hk' k g
        · have e := List.append_inj' g3 rfl
          have e1 := e.1
          subst g2; subst e1
          exact hji (R.inj j i _ ho hi)
    · subst h2; subst h3
      rcases old k _ _ hc with g | ⟨g1, g2, g3⟩
      · obtain ⟨j2, hj2⟩ := R.up k _ _ b' g
        exact fresh _ hj2
      · simp at g3
  · rcases old k r' _ h with h | ⟨h1, h2, h3⟩
    · obtain ⟨j, hj⟩ := R.up k r' p' b' h
      exact ⟨j, app_old hj⟩
    · have e := List.append_inj' h3 rfl
      have e1 := e.1
      subst h2; subst e1
      exact ⟨i, app_old hi⟩
/-- What changed stands below the root r, and is new and empty. -/
structure Gro (r : Nat) (ar : List Nd) (ad : Ads) (ar' : List Nd) (ad' : Ads) : Prop where
  old : ∀ (k : Nat) a, ad[k]? = some a → ad'[k]? = some a
  inf : ∀ k, (ndAt ar' k).inf = (ndAt ar k).inf
  new : ∀ (k : Nat) a, ad'[k]? = some a → a.1 = r ∨ ad[k]? = some a
theorem Gro.refl (r : Nat) (ar : List Nd) (ad : Ads) : Gro r ar ad ar ad := ⟨fun _ _ h => h, fun _ => rfl, fun _ _ h => .inr h⟩
theorem Gro.trans {r : Nat} {ar ar1 ar2 : List Nd} {ad ad1 ad2 : Ads} (g : Gro r ar ad ar1 ad1) (f : Gro r ar1 ad1 ar2 ad2) : Gro r ar ad ar2 ad2 :=
  ⟨fun k a h => f.old k a (g.old k a h), fun k => (f.inf k).trans (g.inf k), fun k a h => (f.new k a h).elim .inl (g.new k a)⟩
theorem down_rep (r : Nat) : ∀ (bs : List Bool) (ar : List Nd) (ad : Ads) (i : Nat) (p : List Bool), Rep ar ad → 0 < i → ad[i]? = some (r, p) → ∃ ad', Rep (downI ar i bs).1 ad' ∧ Gro r ar ad (downI ar i bs).1 ad' ∧ ad'[(downI ar i bs).2]? = some (r, p ++ bs) ∧ 0 < (downI ar i bs).2
  | [], ar, ad, i, p, R, h0, hi => ⟨ad, R, Gro.refl r ar ad, by rw [List.append_nil]; exact hi, h0⟩
  | b :: bs, ar, ad, i, p, R, h0, hi => by
    rw [downI]
    have hil := R.lt hi
    split
    · rename_i hk
      have R1 := R.grow h0 hi hk
      have hnew : (ad ++ [(r, p ++ [b])])[ar.length]? = some (r, p ++ [b]) := by rw [← R.len]; exact app_new _ _
      obtain ⟨ad', R', g', hj, hp⟩ := down_rep r bs _ _ ar.length (p ++ [b]) R1 (by omega) hnew
      have g1 : Gro r ar ad ((ar ++ [zNd]).set i ((ndAt ar i).setKid b ar.length)) (ad ++ [(r, p ++ [b])]) := by
        refine ⟨fun k a h => app_old h, fun k => ?_, fun k a h => ?_⟩
        · by_cases hki : k = i
          · subst hki
            rw [ndAt_set (by rw [List.length_append]; omega), inf_setKid]
          · rw [ndAt_set_ne hki]
            by_cases hk : k < ar.length
            · rw [ndAt_app hk]
            · rw [ndAt_out (ar := ar) (by omega)]
              by_cases he : k = ar.length
              · rw [he, ndAt_end]
              · rw [ndAt_out (by rw [List.length_append, List.length_singleton]; omega)]
        · rcases app_get h with h | ⟨h1, h2⟩
          · exact .inr h
          · exact .inl (by rw [h2])
      exact ⟨ad', R', g1.trans g', by rw [hj]; simp, hp⟩
    · rename_i hk
      have hkid := R.kid i r p b h0 hi hk
      obtain ⟨ad', R', g', hj, hp⟩ := down_rep r bs ar ad _ (p ++ [b]) R (by omega) hkid
      exact ⟨ad', R', g', by rw [hj]; simp, hp⟩
/-! ### seek -/
/-- f is the deepest node along B, of those above the m-th bit, that is wanted; 0: there is none. -/
def Best (ar : List Nd) (ad : Ads) (r : Nat) (w : Nd → Bool) (B : List Bool) (i f : Nat) : Prop :=
  (f = 0 ∧ ∀ m, m < i → ∀ k : Nat, ad[k]? = some (r, B.take m) → w (ndAt ar k) = false) ∨
  (∃ m, m < i ∧ 0 < f ∧ ad[f]? = some (r, B.take m) ∧ w (ndAt ar f) = true ∧ ∀ m', m < m' → m' < i → ∀ k : Nat, ad[k]? = some (r, B.take m') → w (ndAt ar k) = false)
theorem Best.skip {ar : List Nd} {ad : Ads} {r : Nat} {w : Nd → Bool} {B : List Bool} {i f : Nat} (b : Best ar ad r w B i f) (h : ∀ k : Nat, ad[k]? = some (r, B.take i) → w (ndAt ar k) = false) : Best ar ad r w B (i + 1) f := by
  rcases b with ⟨rfl, hb⟩ | ⟨m, h1, h2, h3, h4, h5⟩
  · refine .inl ⟨rfl, fun m hm k hk => ?_⟩
    by_cases hmi : m = i
    · subst hmi; exact h k hk
    · exact hb m (by omega) k hk
  · refine .inr ⟨m, by omega, h2, h3, h4, fun m' h6 h7 k hk => ?_⟩
    by_cases hmi : m' = i
    · subst hmi; exact h k hk
    · exact h5 m' h6 (by omega) k hk
theorem Best.rest {ar : List Nd} {ad : Ads} {r : Nat} {w : Nd → Bool} {B : List Bool} {i f : Nat} (b : Best ar ad r w B i f) (h : ∀ m, i ≤ m → ∀ k : Nat, ad[k]? ≠ some (r, B.take m)) (n : Nat) (hn : i ≤ n) : Best ar ad r w B n f := by
  rcases b with ⟨rfl, hb⟩ | ⟨m, h1, h2, h3, h4, h5⟩
  · refine .inl ⟨rfl, fun m hm k hk => ?_⟩
    by_cases hmi : m < i
    · exact hb m hmi k hk
    · exact absurd hk (h m (by omega) k)
  · refine .inr ⟨m, by omega, h2, h3, h4, fun m' h6 h7 k hk => ?_⟩
    by_cases hmi : m' < i
    · exact h5 m' h6 hmi k hk
    · exact absurd hk (h m' (by omega) k)
theorem seek_rep {ar : List Nd} {ad : Ads} (R : Rep ar ad) (w : Nd → Bool) (a : Int) (r : Nat) : ∀ (k at_ f n i : Nat), i ≤ 32 → 34 ≤ k + i → (at_ ≠ 0 → ad[at_]? = some (r, (bitsOf a 32).take i)) → (at_ = 0 → ∀ j : Nat, ad[j]? ≠ some (r, (bitsOf a 32).take i)) → Best ar ad r w (bitsOf a 32) i f →
    Best ar ad r w (bitsOf a 32) 33 (seekI ar w a k at_ f n i).1
  | 0, at_, f, n, i, hi, hk, _, _, _ => by omega
  | k + 1, at_, f, n, i, hi, hk, hat, hno, hb => by
    rw [seekI]
    split
    · rename_i h0
      refine hb.rest (fun m hm j hj => ?_) 33 (by omega)
      have e : (bitsOf a 32).take m = (bitsOf a 32).take i ++ ((bitsOf a 32).take m).drop i := by
        have := List.take_append_drop i ((bitsOf a 32).take m)
        rw [List.take_take, Nat.min_eq_left hm] at this
        exact this.symm
      rw [e] at hj
      obtain ⟨j', hj'⟩ := R.upTo _ _ _ hj
      exact hno h0 j' hj'
    · rename_i h0
      have hme := hat h0
      have next : Best ar ad r w (bitsOf a 32) (i + 1) (if w (ndAt ar at_) then at_ else f) := by
        split
        · rename_i hw
          exact .inr ⟨i, by omega, by omega, hme, hw, fun m' h1 h2 => by omega⟩
        · rename_i hw
          refine hb.skip fun j hj => ?_
          rw [R.inj j at_ _ hj hme]
          simpa using hw
      split
      · rename_i h32
        subst h32
        exact next
      · rename_i h32
        have hi31 : i < 32 := by omega
        have et : (bitsOf a 32).take (i + 1) = (bitsOf a 32).take i ++ [bitP a i] := by
          rw [List.take_add_one, bits_get hi31]; rfl
        refine seek_rep R w a r k _ _ (n + 1) (i + 1) (by omega) (by omega) (fun hk0 => ?_) (fun hk0 j => ?_) next
        · rw [et]; exact R.kid at_ r _ _ (by omega) hme hk0
        · rw [et]; exact R.no at_ r _ _ (by omega) hme hk0 j
end Go.Proofs.YtomhkbhgpmcbiaaGreat.Fs
