/- nest.Find. -/
import Derived.Test.YtgahbkbmolfpnaaGreatNeSpec1
namespace Go.Proofs.YtgahbkbmolfpnaaGreat.Fs
open Go Go.RowKit Go.Sort Go.Proofs.YtgahbkbmolfpnaaGreat.Sx Go.Proofs.YtgahbkbmolfpnaaGreat.Sp Go.Proofs.YtgahbkbmolfpnaaGreat.Ne
set_option linter.unusedVariables false
set_option linter.unusedSimpArgs false
set_option maxRecDepth 10000
theorem idxI_nil {α : Type} (p : α → Bool) : idxI [] p = -1 := by simp [idxI]
theorem idxI_neg {α : Type} (l : List α) (p : α → Bool) : idxI l p < 0 ↔ ∀ x ∈ l, p x = false := by
  unfold idxI
  constructor
  · intro h x hx
    split at h
    · omega
    · rename_i hn
      cases hp : p x
      · rfl
      · exact absurd (List.findIdx_lt_length_of_exists ⟨x, hx, hp⟩) hn
  · intro h
    rw [if_neg]
    · decide
    · intro hlt
      have := List.findIdx_getElem (w := hlt)
      rw [h _ (List.getElem_mem hlt)] at this
      cases this
theorem idxI_snoc {α : Type} (l : List α) (s : α) (p : α → Bool) : idxI (l ++ [s]) p = if idxI l p < 0 ∧ p s = true then (l.length : Int) else idxI l p := by
  have hn := idxI_neg l p
  by_cases c : ∀ x ∈ l, p x = false
  · have hlt := hn.2 c
    have hfi : l.findIdx p = l.length := List.findIdx_eq_length.2 (fun x hx => by simpa using c x hx)
    have e1 : idxI l p = -1 := by unfold idxI; rw [if_neg (by omega)]
    rw [e1]
    unfold idxI
    rw [List.findIdx_append, hfi]
    simp only [Nat.lt_irrefl, if_false, List.findIdx_cons, List.findIdx_nil]
    cases hs : p s
    · simp
      omega
    · simp
  · have hlt : ¬ idxI l p < 0 := fun h => c (hn.1 h)
    have : l.findIdx p < l.length := by
      refine Classical.byContradiction fun h => hlt ?_
      unfold idxI; rw [if_neg h]; decide
    rw [if_neg (fun h => hlt h.1)]
    unfold idxI
    rw [List.findIdx_append, if_pos this, if_pos this, if_pos (by simp; omega)]
theorem top_app (D : Lv) (s : Sp) : top (app D s) ≤ top D + 1 := by
  unfold app
  rw [top_append]
  have := least_top D s
  simp only [top]
  omega
theorem top_fold : ∀ (U : List Sp) (D : Lv), top (U.foldl app D) ≤ top D + U.length
  | [], D => by simp
  | u :: U, D => by
    rw [List.foldl_cons, List.length_cons]
    have := top_fold U (app D u)
    have := top_app D u
    omega
theorem insU_len : ∀ (U : List Sp) (s : Sp), (insU U s).length ≤ U.length + 1
  | [], s => by simp [insU]
  | x :: U, s => by
    unfold insU
    split
    · have := insU_len U s; simp; omega
    · split <;> simp
theorem fold_ins_len : ∀ (l U : List Sp), (l.foldl insU U).length ≤ U.length + l.length
  | [], U => by simp
  | s :: l, U => by
    rw [List.foldl_cons, List.length_cons]
    have := fold_ins_len l (insU U s)
    have := insU_len U s
    omega
theorem unl_len (l : List Sp) : (unl l).length ≤ l.length := by have := fold_ins_len l []; unfold unl; simpa using this
theorem dep_le (l : List Sp) : dep l ≤ l.length := by
  have := top_fold (unl l) []
  have := unl_len l
  unfold dep DL
  simp [top] at *
  omega
/-- A span of the list is in the levels, at its level. -/
theorem lk_in {l : List Sp} {s : Sp} (h : s ∈ l) : (s, lk (DL l) s) ∈ DL l := by
  have hk : s ∈ keys (DL l) := by rw [keys_DL]; exact (unl_mem l s).2 h
  obtain ⟨y, hy, rfl⟩ := List.mem_map.1 hk
  have := lk_mem (by rw [keys_DL]; exact unl_strict l) (s := y.1) (v := y.2) hy
  rw [this]
  exact hy
theorem lk_lt {l : List Sp} {s : Sp} (h : s ∈ l) : lk (DL l) s < dep l := lt_top (lk_in h)
def fP (l : List Sp) (p : Int) (lv : Nat) (s : Sp) : Bool := lk (DL l) s == lv && hasS s p
/-- What Find tells. -/
def finds (l : List Sp) (p : Int) : List Int := (List.range (dep l)).map fun lv => idxI l (fP l p lv)
section
variable {h0 : Hp} {A : Option Addr} {c : Nat} {l : List Sp}
theorem find_l1 {p : Int} {g g2 : Nat} (r : RSl h0 A l.length 2 (l.flatMap Sp.enc)) (hl : l.length ≤ 1000000000) (rl : RowI h0 (some ⟨g, 0, none⟩) l.length (levs l)) (h2 : h0.size ≤ g2) {K0 : (Option Addr) → Nat → Nat → Hp → Prop}
    (H : ∀ h', Ext h0 h' → RowI h' (some ⟨g2, 0, none⟩) (dep l) (finds l p) → K0 (some ⟨g2, 0, none⟩) (dep l) (dep l) h') :
    ∀ (k i : Nat) (h : Hp) (xs : List Int), l.length - i < k → i ≤ l.length → Ext h0 h → RowI h (some ⟨g2, 0, none⟩) (dep l) xs → xs.length = dep l → (∀ lv, lv < dep l → xs[lv]? = some (idxI (l.take i) (fP l p lv))) →
      nest_Find_l1 p (some ⟨g, 0, none⟩) l.length l.length (some ⟨g2, 0, none⟩) (dep l) (dep l) A l.length c (l.length : Int) K0 k (i : Int) h := by
  intro k
  induction k with
  | zero => intro i h xs hk; omega
  | succ k ih =>
    intro i h xs hk hi e rx hx hd
    unfold nest_Find_l1
    refine br_i (fun q => ?_) (fun q => ?_)
    · have hlt : i < l.length := by simpa using q
      have hs := List.getElem?_eq_getElem hlt
      generalize l[i] = s at hs
      have hsm : s ∈ l := List.mem_of_getElem? hs
      have hlv := lk_lt hsm
      obtain ⟨a, _, _, hix, hcl⟩ := ixR (P := Tryz.prog) (T := 37) (E := 36) (c := c) (k := .i64) Sp.len (r.ext e) rfl und_sps size_sp hs
      have hli : (levs l)[i]? = some (lk (DL l) s : Int) := by unfold levs; rw [List.getElem?_map, hs]; rfl
      refine ⟨_, hix, s.lo, s.hi, ldS hcl (by kernel_rfl), newV (us := Sp.enc s) rfl rfl size_sp rfl fun h1 e1 c1 b1 z1 => ⟨_, ixI hlt, _, ld_i (rl.ext (e.trans e1)) hli, _, ixI hlv, _, ld_i (rx.ext e1) (hd _ hlv), ?_⟩⟩
      rw [wrapN (by omega)]
      have step : ∀ lv, idxI (l.take (i + 1)) (fP l p lv) = if idxI (l.take i) (fP l p lv) < 0 ∧ fP l p lv s = true then (i : Int) else idxI (l.take i) (fP l p lv) := fun lv => by
        rw [take1 hs, idxI_snoc]
        simp only [List.length_take, Nat.min_eq_left hi]
      have same : (¬ (idxI (l.take i) (fP l p (lk (DL l) s)) < 0 ∧ hasS s p = true)) → ∀ lv, lv < dep l → xs[lv]? = some (idxI (l.take (i + 1)) (fP l p lv)) := fun hn lv hlt' => by
        rw [hd lv hlt', step, if_neg]
        rintro ⟨h3, h4⟩
        unfold fP at h4
        simp only [Bool.and_eq_true, beq_iff_eq] at h4
        rw [← h4.1] at h3
        exact hn ⟨h3, h4.2⟩
      refine br_i (fun q2 => ?_) (fun q2 => ?_)
      · have q2' : idxI (l.take i) (fP l p (lk (DL l) s)) < 0 := by simpa using q2
        refine ⟨s.lo, s.hi, ldS c1 (by kernel_rfl), span_Has_s s p fun h3 e3 => ⟨_, rfl, ?_⟩⟩
        cases hh : hasS s p
        · refine br_f rfl (ih (i + 1) h3 xs (by omega) (by omega) ((e.trans e1).trans e3) ((rx.ext e1).ext e3) hx (same (by rw [hh]; simp)))
        · refine br_t rfl ⟨_, ixI hlv, st_i _ ((rx.ext e1).ext e3) (by omega) fun h4 r4 f4 z4 => ?_⟩
          refine ih (i + 1) h4 _ (by omega) (by omega) (extOwn ((e.trans e1).trans e3) f4 (by rintro k rfl; exact h2)) r4 (by simpa using hx) fun lv hlt' => ?_
          rw [step]
          by_cases ce : lv = lk (DL l) s
          · subst ce
            rw [List.getElem?_set_self (by omega), if_pos ⟨q2', by unfold fP; simp [hh]⟩]
          · rw [List.getElem?_set_ne (fun h => ce h.symm), hd lv hlt', if_neg]
            rintro ⟨h3, h4⟩
            unfold fP at h4
            simp only [Bool.and_eq_true, beq_iff_eq] at h4
            exact ce h4.1.symm
      · have q2' : ¬ idxI (l.take i) (fP l p (lk (DL l) s)) < 0 := by simpa using q2
        exact ih (i + 1) h1 xs (by omega) (by omega) (e.trans e1) (rx.ext e1) hx (same (fun h => q2' h.1))
    · have : i = l.length := by simp at q; omega
      subst this
      rw [List.take_length] at hd
      have ex : xs = finds l p := List.ext_getElem? fun lv => by
        rcases Nat.lt_or_ge lv (dep l) with ce | ce
        · rw [hd lv ce]; simp [finds, ce]
        · rw [List.getElem?_eq_none (by omega), List.getElem?_eq_none (by simp [finds]; omega)]
      rw [ex] at rx
      exact H h e rx
theorem Find_s {p : Int} (r : RSl h0 A l.length 2 (l.flatMap Sp.enc)) (hl : l.length ≤ 1000000000) {K : Value → Hp → Prop}
    (H0 : wrongB l = true → ∀ h', Ext h0 h' → K (.tuple #[.slice none 0 0, .int .i64 30]) h')
    (H1 : wrongB l = false → ∀ h' g, Ext h0 h' → h0.size ≤ g → RowI h' (some ⟨g, 0, none⟩) (dep l) (finds l p) → K (.tuple #[.slice (some ⟨g, 0, none⟩) (dep l) (dep l), .int .i64 0]) h') : CallsH Tryz.prog 17 #[.slice A l.length c, .int .u16 p] h0 K := by
  refine nest_Find_ok _ _ _ _ ?_
  unfold nest_Find
  refine nest_check_s r hl fun h1 e1 => ⟨_, rfl, ?_⟩
  unfold chkS
  cases hw : wrongB l
  · refine br_f rfl (levelled_s (r.ext e1) hl (wrong_no hw) fun h2 g e2 hg r2 => ⟨_, _, _, _, rfl, newC_i fun h3 e3 c3 b3 z3 => ?_⟩)
    refine repeat_s (v := -1) (by have := dep_le l; omega) c3 fun h4 g2 e4 hg2 r4 => ⟨_, _, _, rfl, l.length + 1, ?_⟩
    have E3 : Ext h0 h3 := (e1.trans e2).trans e3
    have hne : g ≠ g2 := by have := r2.old g ⟨_, rfl, rfl⟩; have := e3.size; omega
    refine find_l1 (h0 := h3) (r.ext E3) hl (r2.ext e3) hg2 (fun h5 e5 r5 => ?_) (l.length + 1) 0 h4 _ (by omega) (by omega) e4 r4 (by simp) (fun lv hlv => ?_)
    · exact H1 hw h5 g2 (E3.trans e5) (Nat.le_trans E3.size hg2) r5
    · rw [List.take_zero, idxI_nil, List.getElem?_replicate, if_pos hlv]
  · exact br_t rfl (H0 hw h1 e1)
end
end Go.Proofs.YtgahbkbmolfpnaaGreat.Fs
