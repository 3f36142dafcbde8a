/- nest.levelled: the whole. -/
import Derived.Test.YtgahbkbmolfpnaaGreatNeLev2
namespace Go.Proofs.YtgahbkbmolfpnaaGreat.Fs
open Go Go.RowKit Go.Sort Go.Proofs.YtgahbkbmolfpnaaGreat.Sx Go.Proofs.YtgahbkbmolfpnaaGreat.Sp Go.Proofs.YtgahbkbmolfpnaaGreat.Ne
set_option linter.unusedVariables false
set_option linter.unusedSimpArgs false
set_option maxRecDepth 10000
theorem nodup_inj {os : List Nat} (h : os.Nodup) {i j x : Nat} (hi : os[i]? = some x) (hj : os[j]? = some x) : i = j := by
  obtain ⟨h1, e1⟩ := List.getElem?_eq_some_iff.1 hi
  obtain ⟨h2, e2⟩ := List.getElem?_eq_some_iff.1 hj
  have hp := List.pairwise_iff_getElem.1 h
  rcases Nat.lt_trichotomy i j with c | c | c
  · exact absurd (e1.trans e2.symm) (hp i j h1 h2 c)
  · exact c
  · exact absurd (e2.trans e1.symm) (hp j i h2 h1 c)
section
variable {h1 hB : Hp} {a3 : Addr} {A0 : Option Addr} {c0 : Nat} {l : List Sp} {g1 g2 : Nat} {os : List Nat} {ss : List Sp}
theorem lev_l5 (cb : cell h1 a3 = some (.slice A0 l.length c0)) (r : RSl h1 A0 l.length 2 (l.flatMap Sp.enc)) (hg1 : h1.size ≤ g1) (hg2 : h1.size ≤ g2) (hB1 : g1 < hB.size) (hB2 : g2 < hB.size) (h12 : g1 ≠ g2) (h1B : h1.size ≤ hB.size) (hl : l.length ≤ 1000000000)
    (hok : ∀ s ∈ l, s.lo ≤ s.hi) (hss : ss.length = l.length) (hos : os.length = l.length) (hix : ∀ (m i : Nat), os[m]? = some i → ss[m]? = l[i]?) (hin : ∀ i ∈ os, i < l.length) (hnd : os.Nodup) (ho : Orde ss)
    {K0 : (Option Addr) → Nat → Nat → (Option Addr) → Nat → Nat → Hp → Prop}
    (H : ∀ h' outs A c D ends, Ext h1 h' → LInv ss l.length D ends → outs.length = l.length → (∀ j, j < l.length → ∀ (i : Nat) s, os[j]? = some i → ss[j]? = some s → outs[i]? = some (lk D s : Int)) → RowI h' (some ⟨g2, 0, none⟩) l.length outs → K0 (some ⟨g2, 0, none⟩) l.length l.length A ends.length c h') :
    ∀ (k m : Nat) (h : Hp) (A : Option Addr) (c : Nat) (D : Lv) (ends outs : List Int), l.length - m < k → m ≤ l.length → LInv ss m D ends → outs.length = l.length → (∀ j, j < m → ∀ (i : Nat) s, os[j]? = some i → ss[j]? = some s → outs[i]? = some (lk D s : Int)) → ends.length ≤ m → LSt h1 hB h g1 g2 l.length os outs A c ends →
      nest_levelled_l5 a3 (some ⟨g1, 0, none⟩) l.length l.length (some ⟨g2, 0, none⟩) l.length l.length (some ⟨g1, 0, none⟩) l.length l.length (l.length : Int) K0 k A ends.length c (m : Int) h := by
  intro k
  induction k with
  | zero => intro m h A c D ends outs hk; omega
  | succ k ih =>
    intro m h A c D ends outs hk hm q hol hdone hem st
    unfold nest_levelled_l5
    refine br_i (fun p => ?_) (fun p => ?_)
    rotate_left
    · have : m = l.length := by simp at p; omega
      subst this
      exact H h outs A c D ends st.e1 q hol (fun j hj => hdone j hj) st.ru
    have hml : m < l.length := by simpa using p
    have hmi : os[m]? = some os[m] := List.getElem?_eq_getElem (by omega)
    generalize os[m] = i at hmi
    have hil : i < l.length := hin i (List.mem_of_getElem? hmi)
    have hms := hix m i hmi
    rw [List.getElem?_eq_getElem hil] at hms
    generalize hsd : l[i] = s at hms
    have hsl : l[i]? = some s := by rw [List.getElem?_eq_getElem hil, hsd]
    have hsm : s ∈ l := hsd ▸ List.getElem_mem hil
    have hoi : (ints os)[m]? = some (i : Int) := by rw [List.getElem?_map, hmi]; rfl
    refine ⟨_, ixI hml, _, ld_i st.ro hoi, ?_⟩
    refine newC_i fun h2 e2 c2 b2 z2 => HU_box b2 (us := [.int .i64 (i : Int)]) rfl rfl size_int rfl fun h3 c3 b3 f3 z3 => ?_
    have e3 : Ext h h3 := extOwn e2 f3 (by rintro k rfl; exact Nat.le_refl _)
    have st3 := st.ext e3
    have hsz := st.sz
    have key : ∀ (hne : ∀ y, (ss.take m).getLast? = some y → y ≠ s) (K0' : Addr → (Option Addr) → Nat → Nat → (Option Addr) → Nat → Nat → (Option Addr) → Nat → Nat → (Option Addr) → Nat → Nat → Int → Int → Hp → Prop),
        (∀ a1 A2 l2 c2 A3 l3 c3 A4 l4 c4 A5 l5 c5 x6 x7 h8, nest_levelled_l5 a3 (some ⟨g1, 0, none⟩) l.length l.length (some ⟨g2, 0, none⟩) l.length l.length (some ⟨g1, 0, none⟩) l.length l.length (l.length : Int) K0 k A4 l4 c4 (IntKind.i64.wrap (x7 + 1)) h8 → K0' a1 A2 l2 c2 A3 l3 c3 A4 l4 c4 A5 l5 c5 x6 x7 h8) →
        nest_levelled_j7 K0' a3 (some ⟨g1, 0, none⟩) l.length l.length (some ⟨g2, 0, none⟩) l.length l.length A ends.length c ⟨h.size, 0, none⟩ (some ⟨g1, 0, none⟩) l.length l.length (l.length : Int) (m : Int) h3 := fun hne K0' hK => by
      obtain ⟨qn, hnk, hlg, hgl⟩ := q.new ho hms (hok s hsm) hne
      refine lev_j7 cb r hg1 hg2 hB1 hB2 h12 h1B st3 hsl c3.head ⟨by show h.size ≠ g1; omega, by show h.size ≠ g2; omega, fun b hb => ?_⟩ (by omega) hol fun h' A' c' st' => hK _ _ _ _ _ _ _ _ _ _ _ _ _ _ _ _ ?_
      · have := st.re.old b.block ⟨b, hb, rfl⟩
        show h.size ≠ b.block
        omega
      · rw [wrapN (by omega)]
        refine ih (m + 1) h' A' c' _ _ _ (by omega) (by omega) qn (by simpa using hol) (fun j hj i' s' hji hjs => ?_) ?_ st'
        · rcases Nat.eq_or_lt_of_le (Nat.le_of_lt_succ hj) with e | e
          · subst e
            rw [hmi] at hji
            cases hji
            rw [hms] at hjs
            cases hjs
            rw [List.getElem?_set_self (by omega)]
            unfold app
            rw [lk_new hnk, hlg]
          · have hii : i ≠ i' := fun e' => by
              subst e'
              exact absurd (nodup_inj hnd hji hmi) (by omega)
            rw [List.getElem?_set_ne hii, hdone j e i' s' hji hjs]
            unfold app
            rw [lk_app]
            rw [q.key]
            refine List.mem_of_getElem? (i := j) ?_
            rw [List.getElem?_take, if_pos e, hjs]
        · unfold setE
          split
          · rw [List.length_set]; omega
          · rw [List.length_append, List.length_singleton]; omega
    refine br_i (fun hm0 => ?_) (fun hm0 => ?_)
    rotate_left
    · refine key (fun y hy => ?_) _ fun _ _ _ _ _ _ _ _ _ _ _ _ _ _ _ _ h => h
      have : m = 0 := by simp at hm0; omega
      subst this
      simp at hy
    have hm0 : 0 < m := by simp at hm0; omega
    have hw : IntKind.i64.wrap ((m : Int) - 1) = ((m - 1 : Nat) : Int) := by rw [wrap_in (by omega) (by omega)]; omega
    rw [hw]
    have hpi : os[m - 1]? = some os[m - 1] := List.getElem?_eq_getElem (by omega)
    generalize os[m - 1] = j at hpi
    have hjl : j < l.length := hin j (List.mem_of_getElem? hpi)
    have hps := hix (m - 1) j hpi
    rw [List.getElem?_eq_getElem hjl] at hps
    generalize htd : l[j] = t at hps
    have htl : l[j]? = some t := by rw [List.getElem?_eq_getElem hjl, htd]
    have hoj : (ints os)[m - 1]? = some (j : Int) := by rw [List.getElem?_map, hpi]; rfl
    obtain ⟨at1, _, _, ix1, ct⟩ := ixR (P := Tryz.prog) (T := 37) (E := 36) (c := c0) (k := .i64) Sp.len (r.ext st3.e1) rfl und_sps size_sp htl
    obtain ⟨as1, _, _, ix2, cs⟩ := ixR (P := Tryz.prog) (T := 37) (E := 36) (c := c0) (k := .i64) Sp.len (r.ext st3.e1) rfl und_sps size_sp hsl
    refine ⟨_, _, _, ld (st3.e1.cell cb) (by kernel_rfl), _, ixI (by omega), _, ld_i st3.ro hoj, _, ix1, t.lo, t.hi, ldS ct (by kernel_rfl), _, _, _, ld (st3.e1.cell cb) (by kernel_rfl), _, ld c3.head (by kernel_rfl), _, ix2, s.lo, s.hi, ldS cs (by kernel_rfl), _, eq_sp t s, br_i (fun e => ?_) (fun e => ?_)⟩
    · have e : t = s := by simpa using e
      subst e
      have hv := hdone (m - 1) (by omega) j t hpi hps
      refine ⟨_, ld c3.head (by kernel_rfl), _, ixI (by omega), _, ld_i st3.ro hoj, _, ixI hjl, _, ld_i st3.ru hv, _, ixI hil, st_i _ st3.ru (by omega) fun h4 ru4 f4 z4 => ?_⟩
      have q' := q.same hm0 hms hps
      rw [wrapN (by omega)]
      refine ih (m + 1) h4 A c D ends _ (by omega) (by omega) q' (by simpa using hol) (fun j' hj' i' s' hji hjs => ?_) (by omega) ⟨extOwn st3.e1 f4 (by rintro k rfl; exact hg2), by have := f4.size; have := st3.sz; omega, st3.ro.keep f4 (by rintro k ⟨b, hb, rfl⟩ hk; cases hb; exact h12 hk), ru4, st3.re.keep f4 (fun k hk e => by have := st3.fe k hk; omega), st3.fe⟩
      rcases Nat.eq_or_lt_of_le (Nat.le_of_lt_succ hj') with e | e
      · subst e
        rw [hmi] at hji
        cases hji
        rw [hms] at hjs
        cases hjs
        rw [List.getElem?_set_self (by omega)]
      · have hii : i ≠ i' := fun e' => by
          subst e'
          exact absurd (nodup_inj hnd hji hmi) (by omega)
        rw [List.getElem?_set_ne hii]
        exact hdone j' e i' s' hji hjs
    · have e : t ≠ s := by simpa using e
      refine key (fun y hy hys => ?_) _ fun _ _ _ _ _ _ _ _ _ _ _ _ _ _ _ _ h => h
      rw [takeL hm0 hps] at hy
      cases hy
      exact e hys
end
theorem lev_l1 {a3 : Addr} {g n : Nat} {K0 : Addr → (Option Addr) → Nat → Nat → Hp → Prop} (hn : n < 2 ^ 62) {hB : Hp} (H : ∀ h', Fr (fun k => k = g) hB h' → RowI h' (some ⟨g, 0, none⟩) n (ints (List.range n)) → K0 a3 (some ⟨g, 0, none⟩) n n h') :
    ∀ (k m : Nat) (h : Hp) (xs : List Int), n - m < k → m ≤ n → xs.length = n → (∀ j, j < m → xs[j]? = some (j : Int)) → RowI h (some ⟨g, 0, none⟩) n xs → Fr (fun k => k = g) hB h →
      nest_levelled_l1 a3 (some ⟨g, 0, none⟩) n n (n : Int) K0 k (m : Int) h := by
  intro k
  induction k with
  | zero => intro m h xs hk; omega
  | succ k ih =>
    intro m h xs hk hm hx hd r f
    unfold nest_levelled_l1
    refine br_i (fun p => ?_) (fun p => ?_)
    · have hml : m < n := by simpa using p
      refine ⟨_, ixI hml, st_i _ r (by omega) fun h' r' f' z' => ?_⟩
      rw [wrapN (by omega)]
      refine ih (m + 1) h' _ (by omega) (by omega) (by simpa using hx) (fun j hj => ?_) r' (f.trans f')
      rcases Nat.eq_or_lt_of_le (Nat.le_of_lt_succ hj) with e | e
      · subst e; rw [List.getElem?_set_self (by omega)]
      · rw [List.getElem?_set_ne (by omega)]; exact hd j e
    · have : m = n := by simp at p; omega
      subst this
      have e : xs = ints (List.range m) := List.ext_getElem? fun j => by
        rcases Nat.lt_or_ge j m with c | c
        · rw [hd j c]; simp [c]
        · rw [List.getElem?_eq_none (by omega), List.getElem?_eq_none (by simp; omega)]
      rw [e] at r
      exact H h f r
/-- What Levels tells. -/
def levs (l : List Sp) : List Int := l.map fun s => (lk (DL l) s : Int)
def dep (l : List Sp) : Nat := top (DL l)
theorem levelled_s {h : Hp} {A : Option Addr} {c : Nat} {l : List Sp} (r : RSl h A l.length 2 (l.flatMap Sp.enc)) (hl : l.length ≤ 1000000000) (hok : ∀ s ∈ l, s.lo ≤ s.hi) {K : Value → Hp → Prop}
    (H : ∀ h' g, Ext h h' → h.size ≤ g → RowI h' (some ⟨g, 0, none⟩) l.length (levs l) → K (.tuple #[.slice (some ⟨g, 0, none⟩) l.length l.length, .int .i64 (dep l : Int)]) h') : CallsH Tryz.prog 37 #[.slice A l.length c] h K := by
  refine nest_levelled_ok _ _ _ ?_
  unfold nest_levelled
  refine newC_i fun h1 e1 c1 b1 z1 => ⟨_, _, _, ld c1.head (by kernel_rfl), make_i hl fun h2 e2 r2 => ⟨_, _, _, rfl, l.length + 1, ?_⟩⟩
  refine lev_l1 (hB := h2) (by omega) (fun h3 f3 r3 => ?_) (l.length + 1) 0 h2 _ (by omega) (by omega) (by simp) (by omega) r2 (Fr.refl _ _)
  have e3 : Ext h1 h3 := extOwn e2 f3 (by rintro k rfl; exact Nat.le_refl _)
  have c1' : cell h1 ⟨h.size, 0, none⟩ = some (.slice A l.length c) := c1.head
  have hA : ∀ a, A = some a → 0 < l.length → a.block < h1.size := fun a ha h0 => by
    obtain ⟨a', ha', cl⟩ := (r.ext e1).some h0
    rw [ha] at ha'
    cases ha'
    have h0' : 0 < (l.flatMap Sp.enc).length := by rw [flat_len Sp.len]; omega
    have := cell_lt (cl.at_ 0 _ (List.getElem?_eq_getElem h0'))
    exact this
  have hr : RSl h3 A l.length 2 (l.flatMap Sp.enc) := r.ext (e1.trans e3)
  refine sort_ix r3 (e3.cell c1') hr (by show h.size ≠ h1.size; omega) (fun h0 a ha => by have := hA a ha h0; omega) (by omega) fun h4 os ss hp hsl hix ho r4 f4 => ⟨rfl, ?_⟩
  have e4 : Ext h1 h4 := extOwn e3 f4 (by rintro k rfl; exact Nat.le_refl _)
  refine ⟨_, _, _, ld (e4.cell c1') (by kernel_rfl), make_i hl fun h5 e5 r5 => ⟨_, _, _, rfl, l.length + 1, ?_⟩⟩
  have hlen : os.length = l.length := by rw [hp.length_eq, List.length_range]
  have g1 := r4.old h1.size ⟨_, rfl, rfl⟩
  have := lev_l5 (h1 := h1) (hB := h5) (a3 := ⟨h.size, 0, none⟩) (A0 := A) (c0 := c) (l := l) (g1 := h1.size) (g2 := h4.size) (os := os) (ss := ss) c1' (r.ext e1) (Nat.le_refl _) (by omega) (by have := e5.size; omega) (r5.old _ ⟨_, rfl, rfl⟩) (by omega) (by have := e5.size; omega) hl hok hsl hlen hix
    (fun i hi => List.mem_range.1 (hp.mem_iff.1 hi)) (hp.nodup_iff.2 List.nodup_range) ho (K0 := fun A436 l436 c436 A437 l437 c437 h438 => K (.tuple #[(.slice A436 l436 c436), (.int .i64 (l437 : Int))]) h438) (fun h6 outs A6 c6 D ends e6 q hol hd ru => ?_)
    (l.length + 1) 0 h5 none 0 [] [] (List.replicate l.length 0) (by omega) (by omega) (LInv.zero ss) (by simp) (by omega) (by simp) ⟨e4.trans e5, Nat.le_refl _, r4.ext e5, r5, RowC.nil, Fresh.none _⟩
  · exact this
  · have hmem : ∀ x, x ∈ ss ↔ x ∈ l := fun x => by
      constructor
      · intro hx
        obtain ⟨m, hm, rfl⟩ := List.mem_iff_getElem.1 hx
        have := hix m _ (List.getElem?_eq_getElem (by omega))
        rw [List.getElem?_eq_getElem hm] at this
        exact List.mem_of_getElem? this.symm
      · intro hx
        obtain ⟨i, hi, rfl⟩ := List.mem_iff_getElem.1 hx
        have : i ∈ os := hp.mem_iff.2 (List.mem_range.2 hi)
        obtain ⟨m, hm, rfl⟩ := List.mem_iff_getElem.1 this
        have := hix m _ (List.getElem?_eq_getElem hm)
        rw [List.getElem?_eq_getElem hi] at this
        exact List.mem_of_getElem? this
    have hq : LInv ss ss.length D ends := by rw [hsl]; exact q
    have hD := hq.done ho hmem
    have hlenE := hq.len
    have hout : outs = levs l := List.ext_getElem? fun i => by
      rcases Nat.lt_or_ge i l.length with ci | ci
      · have : i ∈ os := hp.mem_iff.2 (List.mem_range.2 ci)
        obtain ⟨m, hm, hmi⟩ := List.mem_iff_getElem.1 this
        have hmi' : os[m]? = some i := by rw [List.getElem?_eq_getElem hm, hmi]
        have hs := hix m i hmi'
        rw [List.getElem?_eq_getElem ci] at hs
        rw [hd m (by omega) i _ hmi' hs, hD]
        simp [levs, ci]
      · rw [List.getElem?_eq_none (by omega), List.getElem?_eq_none (by simp [levs]; omega)]
    rw [hout] at ru
    rw [hD] at hlenE
    show K (.tuple #[_, .int .i64 (ends.length : Int)]) h6
    rw [hlenE]
    exact H h6 h4.size (e1.trans e6) (by have := e1.size; have := e4.size; omega) ru
end Go.Proofs.YtgahbkbmolfpnaaGreat.Fs
