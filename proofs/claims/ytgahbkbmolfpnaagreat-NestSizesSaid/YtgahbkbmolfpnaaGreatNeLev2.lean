/- nest.levelled: the loops. -/
import Derived.Test.YtgahbkbmolfpnaaGreatNeLev
namespace Go.Proofs.YtgahbkbmolfpnaaGreat.Fs
open Go Go.RowKit Go.Sort Go.Proofs.YtgahbkbmolfpnaaGreat.Sx Go.Proofs.YtgahbkbmolfpnaaGreat.Sp Go.Proofs.YtgahbkbmolfpnaaGreat.Ne
set_option linter.unusedVariables false
set_option linter.unusedSimpArgs false
set_option maxRecDepth 10000
theorem app_uG {h : Hp} {A : Option Addr} {c cx : Nat} {ax : Addr} {l : List Int} {x : Int} {K : Value → Hp → Prop} (r : RowU h A c l) (hx : Cl h ax (encU x)) (hl : l.length ≤ 1000000000)
    (H : ∀ h' g c', RowU h' (some ⟨g, 0, none⟩) c' (l ++ [x]) → (blk A g ∨ h.size ≤ g) → Fr (blk A) h h' → K (.slice (some ⟨g, 0, none⟩) (l.length + 1) c') h') :
    HW Tryz.prog (Builtin.append_ #[86, 86] 86 #[.slice A l.length c, .slice (some ax) 1 cx]) h K := by
  obtain ⟨i, z, hi, hs, hb, hz, hc⟩ := info_u16
  exact HW_append1C (z := z) encU_len encU_flat und_u16s hi hz (by rw [hc]; rfl) hs (by omega) r.row hx (by rw [hb]; omega) fun h' g c' r' hg f hcc => H h' g c' ⟨r', hcc.elim (fun e => e ▸ r.cap) id⟩ hg f
theorem ixU {g l c i : Nat} (h1 : i < l) : PV Tryz.prog (Instr.indexAt 86 (.slice (some ⟨g, 0, none⟩) l c) (.int .i64 (i : Int))) (.pointer (some ⟨g, i * 1, none⟩)) := ix0 h1 und_u16s size_u16
theorem st_u {h : Hp} {g c : Nat} {xs : List Int} {j : Nat} (x : Int) {K : Hp → Prop} (r : RowU h (some ⟨g, 0, none⟩) c xs) (hj : j < xs.length) (H : ∀ h', RowU h' (some ⟨g, 0, none⟩) c (xs.set j x) → Fr (fun k => k = g) h h' → h'.size = h.size → K h') : HU Tryz.prog (Instr.storeAt 24 (.pointer (some ⟨g, j * 1, none⟩)) (.int .u16 x)) h K :=
  HU_elem (x := x) encU_len encU_flat r.row hj rfl size_u16 fun h' r' f z => H h' ⟨r', r.cap⟩ f z
/-- What stands while the spans are gone through. -/
structure LSt (h1 hB h : Hp) (g1 g2 n : Nat) (os : List Nat) (outs : List Int) (A : Option Addr) (c : Nat) (ends : List Int) : Prop where
  e1 : Ext h1 h
  sz : hB.size ≤ h.size
  ro : RowI h (some ⟨g1, 0, none⟩) n (ints os)
  ru : RowI h (some ⟨g2, 0, none⟩) n outs
  re : RowU h A c ends
  fe : Fresh hB A
theorem LSt.ext {h1 hB h h' : Hp} {g1 g2 n : Nat} {os : List Nat} {outs : List Int} {A : Option Addr} {c : Nat} {ends : List Int} (q : LSt h1 hB h g1 g2 n os outs A c ends) (e : Ext h h') : LSt h1 hB h' g1 g2 n os outs A c ends :=
  ⟨q.e1.trans e, Nat.le_trans q.sz e.size, q.ro.ext e, q.ru.ext e, q.re.ext e, q.fe⟩
section
variable {h1 hB : Hp} {a3 : Addr} {A0 : Option Addr} {c0 : Nat} {l : List Sp} {g1 g2 : Nat} {os : List Nat}
theorem lev_j8 (cb : cell h1 a3 = some (.slice A0 l.length c0)) (r : RSl h1 A0 l.length 2 (l.flatMap Sp.enc)) (hg1 : h1.size ≤ g1) (hg2 : h1.size ≤ g2) (hB1 : g1 < hB.size) (hB2 : g2 < hB.size) (h12 : g1 ≠ g2)
    {K0 : Addr → (Option Addr) → Nat → Nat → (Option Addr) → Nat → Nat → (Option Addr) → Nat → Nat → (Option Addr) → Nat → Nat → Int → Int → Hp → Prop} {h : Hp} {outs ends : List Int} {A : Option Addr} {c : Nat} {a9 : Addr} {i lv : Nat} {s : Sp} {x y : Int}
    (q : LSt h1 hB h g1 g2 l.length os outs A c ends) (hs : l[i]? = some s) (hi : cell h a9 = some (.int .i64 (i : Int))) (ha9 : a9.block ≠ g1 ∧ a9.block ≠ g2 ∧ (∀ b, A = some b → a9.block ≠ b.block)) (hlv : lv < ends.length) (ho : outs.length = l.length)
    (H : ∀ h', LSt h1 hB h' g1 g2 l.length os (outs.set i (lv : Int)) A c (ends.set lv s.hi) → K0 a3 (some ⟨g1, 0, none⟩) l.length l.length (some ⟨g2, 0, none⟩) l.length l.length A ends.length c (some ⟨g1, 0, none⟩) l.length l.length x y h') :
    nest_levelled_j8 K0 a3 (some ⟨g1, 0, none⟩) l.length l.length (some ⟨g2, 0, none⟩) l.length l.length A ends.length c a9 (lv : Int) (some ⟨g1, 0, none⟩) l.length l.length x y h := by
  have hil : i < l.length := (List.getElem?_eq_some_iff.1 hs).1
  unfold nest_levelled_j8
  obtain ⟨asx, _, _, ixs, cs⟩ := ixR (P := Tryz.prog) (T := 37) (E := 36) (c := c0) (k := .i64) Sp.len (r.ext q.e1) rfl und_sps size_sp hs
  obtain ⟨g3, rfl⟩ := q.re.blk0 encU_len (Nat.lt_of_le_of_lt (Nat.zero_le _) hlv)
  have hg3 : hB.size ≤ g3 := q.fe g3 ⟨_, rfl, rfl⟩
  refine ⟨_, _, _, ld (q.e1.cell cb) (by kernel_rfl), _, ld hi (by kernel_rfl), _, ixs, _, ld (cs.at_ 1 _ rfl) (by kernel_rfl), _, ixU hlv, ?_⟩
  refine st_u _ q.re hlv fun h2 re2 f2 z2 => ?_
  have hi2 : cell h2 a9 = some (.int .i64 (i : Int)) := by
    rw [cell_same (f2.keep a9.block (cell_lt hi) (ha9.2.2 _ rfl))]; exact hi
  refine ⟨_, ld hi2 (by kernel_rfl), _, ixI hil, ?_⟩
  have ru2 : RowI h2 (some ⟨g2, 0, none⟩) l.length outs := q.ru.keep f2 (by rintro k ⟨b, hb, hk⟩ e; cases hb; simp at hk; omega)
  refine st_i _ ru2 (by omega) fun h3 ru3 f3 z3 => H h3 ⟨?_, ?_, ?_, ru3, ?_, q.fe⟩
  · exact extOwn (extOwn q.e1 f2 (by rintro k rfl; have := q.e1; omega)) f3 (by rintro k rfl; exact hg2)
  · have := q.sz; omega
  · refine (q.ro.keep f2 ?_).keep f3 ?_
    · rintro k ⟨b, hb, hk⟩ e; cases hb; simp at hk; omega
    · rintro k ⟨b, hb, hk⟩ e; cases hb; simp at hk; omega
  · refine re2.keep f3 ?_
    rintro k ⟨b, hb, hk⟩ e; cases hb; simp at hk; omega
theorem lev_j7 (cb : cell h1 a3 = some (.slice A0 l.length c0)) (r : RSl h1 A0 l.length 2 (l.flatMap Sp.enc)) (hg1 : h1.size ≤ g1) (hg2 : h1.size ≤ g2) (hB1 : g1 < hB.size) (hB2 : g2 < hB.size) (h12 : g1 ≠ g2) (h1B : h1.size ≤ hB.size)
    {K0 : Addr → (Option Addr) → Nat → Nat → (Option Addr) → Nat → Nat → (Option Addr) → Nat → Nat → (Option Addr) → Nat → Nat → Int → Int → Hp → Prop} {h : Hp} {outs ends : List Int} {A : Option Addr} {c : Nat} {a9 : Addr} {i : Nat} {s : Sp} {x y : Int}
    (q : LSt h1 hB h g1 g2 l.length os outs A c ends) (hs : l[i]? = some s) (hi : cell h a9 = some (.int .i64 (i : Int))) (ha9 : a9.block ≠ g1 ∧ a9.block ≠ g2 ∧ (∀ b, A = some b → a9.block ≠ b.block)) (he : ends.length ≤ 1000000000) (ho : outs.length = l.length)
    (H : ∀ h' A' c', LSt h1 hB h' g1 g2 l.length os (outs.set i (gLevel ends s : Int)) A' c' (setE ends (gLevel ends s) s.hi) → K0 a3 (some ⟨g1, 0, none⟩) l.length l.length (some ⟨g2, 0, none⟩) l.length l.length A' (setE ends (gLevel ends s) s.hi).length c' (some ⟨g1, 0, none⟩) l.length l.length x y h') :
    nest_levelled_j7 K0 a3 (some ⟨g1, 0, none⟩) l.length l.length (some ⟨g2, 0, none⟩) l.length l.length A ends.length c a9 (some ⟨g1, 0, none⟩) l.length l.length x y h := by
  unfold nest_levelled_j7
  refine idxU_s (p := fun e => decide (e < s.lo)) q.re.read he (by kernel_rfl) (fun e _ K HK => ?_) ⟨_, rfl, ?_⟩
  · refine nest_levelled_2_ok _ _ _ ?_
    unfold nest_levelled_2
    obtain ⟨asx, _, _, ixs, cs⟩ := ixR (P := Tryz.prog) (T := 37) (E := 36) (c := c0) (k := .i64) Sp.len (r.ext q.e1) rfl und_sps size_sp hs
    exact ⟨_, _, _, ld (q.e1.cell cb) (by kernel_rfl), _, ld hi (by kernel_rfl), _, ixs, _, ld cs.head (by kernel_rfl), HK⟩
  · have hidx : idxI ends (fun e => decide (e < s.lo)) = if gLevel ends s < ends.length then (gLevel ends s : Int) else -1 := rfl
    rw [hidx]
    by_cases cl : gLevel ends s < ends.length
    · rw [if_pos cl]
      refine br_f (by simp) ?_
      have hse : setE ends (gLevel ends s) s.hi = ends.set (gLevel ends s) s.hi := by unfold setE; rw [if_pos cl]
      rw [hse] at H
      refine lev_j8 cb r hg1 hg2 hB1 hB2 h12 q hs hi ha9 cl ho fun h' q' => ?_
      have := H _ _ _ q'
      rw [List.length_set] at this
      exact this
    · rw [if_neg cl]
      refine br_t (by decide) ?_
      have hge : gLevel ends s = ends.length := by
        have : gLevel ends s ≤ ends.length := List.findIdx_le_length
        omega
      have hse : setE ends (gLevel ends s) s.hi = (ends ++ [0]).set ends.length s.hi := by
        unfold setE
        rw [if_neg cl, List.set_append_right _ _ (Nat.le_refl _)]
        simp
      rw [hse, hge] at H
      refine newC_i fun h2 e2 c2 b2 z2 => ?_
      have q2 := q.ext e2
      refine app_uG (x := 0) q2.re c2 he fun h3 g3 c' r' hg f => ⟨_, _, _, rfl, ?_⟩
      have hs2 := q2.sz
      have hg3 : hB.size ≤ g3 := hg.elim (fun hk => q.fe g3 hk) (fun hk => by omega)
      have fe' : Fresh hB (some ⟨g3, 0, none⟩) := Fresh.some hg3
      have q3 : LSt h1 hB h3 g1 g2 l.length os outs (some ⟨g3, 0, none⟩) c' (ends ++ [0]) := ⟨extOwn q2.e1 f (fun k hk => by have := q.fe k hk; omega), by have := f.size; omega,
        q2.ro.keep f (by rintro k ⟨b, hb, rfl⟩ hk; cases hb; have := q.fe _ hk; simp at this; omega), q2.ru.keep f (by rintro k ⟨b, hb, rfl⟩ hk; cases hb; have := q.fe _ hk; simp at this; omega), r', fe'⟩
      have hi2 : cell h2 a9 = some (.int .i64 (i : Int)) := e2.cell hi
      have hi3 : cell h3 a9 = some (.int .i64 (i : Int)) := by
        rw [cell_same (f.keep a9.block (cell_lt hi2) (by rintro ⟨b, hb, hk⟩; exact ha9.2.2 b hb hk.symm))]; exact hi2
      have ha9' : a9.block ≠ g3 := by
        rcases hg with ⟨b, hb, hk⟩ | hk
        · intro e; exact ha9.2.2 b hb (e.trans hk.symm)
        · intro e; have := cell_lt hi2; omega
      have := lev_j8 (x := x) (y := y) cb r hg1 hg2 hB1 hB2 h12 (lv := ends.length) q3 hs hi3 ⟨ha9.1, ha9.2.1, by rintro b hb; cases hb; exact ha9'⟩ (by simp) ho fun h' q' => by
        have := H _ _ _ q'
        rw [List.length_set] at this
        exact this
      rw [List.length_append, List.length_singleton] at this
      exact this
end
end Go.Proofs.YtgahbkbmolfpnaaGreat.Fs
