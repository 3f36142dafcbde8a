/- TrieRuns: Cut of the document's trie; a step. -/
import Derived.Test.YtofjbbfnkefoaaaTrRef5
namespace Go.Proofs.Ytofjbbfnkefoaaa.Fs
open Go Go.RowKit Go.Proofs.Ytofjbbfnkefoaaa.Sx Go.Proofs.Ytofjbbfnkefoaaa.Tp
set_option linter.unusedVariables false
set_option linter.unusedSimpArgs false
set_option maxRecDepth 10000
theorem rcut_l1 {g0 : Hp} {m w : Nat} {most : Int} {ar : Nat} {A : Option Addr} {c : Nat} {T : Tr} (q : RfV g0 m w most ar A c (T.ents [])) (hD : T.Dp w) (hbd : (T.ents []).length ≤ 1048576) {at_ : Nat} {e0 : Ent} (hat : (T.ents [])[at_]? = some e0) {K0 : Option Addr → Option Addr → Nat → Nat → Hp → Prop}
    (H : ∀ h' A' c', Ext g0 h' → RowE h' A' c' (((T.ents []).filter fun e => decide (e.1 ≠ e0.1)).map (enW w)) → (∀ k, blk A' k → g0.size ≤ k) → K0 (some ⟨m, 0, none⟩) A' (((T.ents []).filter fun e => decide (e.1 ≠ e0.1)).map (enW w)).length c' h') :
    ∀ (d i f : Nat) (h : Hp) (A' : Option Addr) (c' : Nat) (acc : List En), i + d = (T.ents []).length → d < f → acc = (((T.ents []).take i).filter fun e => decide (e.1 ≠ e0.1)).map (enW w) → Ext g0 h → RowE h A' c' acc → (∀ k, blk A' k → g0.size ≤ k) →
      quintetref12_Trie_Cut_l1 (some ⟨m, 0, none⟩) (at_ : Nat) K0 f A' acc.length c' i h := by
  have hap := List.pairwise_iff_getElem.1 (ents_apart hD)
  obtain ⟨hatl, hate⟩ := List.getElem?_eq_some_iff.1 hat
  intro d
  induction d with
  | zero =>
    intro i f h A' c' acc hi hf hacc e1 r1 hb1
    obtain ⟨f, rfl⟩ : ∃ f', f = f' + 1 := ⟨f - 1, by omega⟩
    unfold quintetref12_Trie_Cut_l1
    rw [List.take_of_length_le (by omega)] at hacc
    subst hacc
    exact ⟨_, _, _, ld ((q.ext e1).1.at_ 3 _ rfl) (by kernel_rfl), br_f (by simp; omega) (H h A' c' e1 r1 hb1)⟩
  | succ d ih =>
    intro i f h A' c' acc hi hf hacc e1 r1 hb1
    obtain ⟨f, rfl⟩ : ∃ f', f = f' + 1 := ⟨f - 1, by omega⟩
    unfold quintetref12_Trie_Cut_l1
    have q1 := q.ext e1
    have hlt : i < (T.ents []).length := by omega
    have ho : (T.ents [])[i]? = some (T.ents [])[i] := List.getElem?_eq_getElem hlt
    have hcast : (i : Int) + 1 = ((i + 1 : Nat) : Int) := by omega
    have hfs := filter_snoc (fun e => decide (e.1 ≠ e0.1)) (T.ents []) ho
    have hal : acc.length ≤ 1100000 := by
      rw [hacc, List.length_map]
      refine Nat.le_trans (List.length_filter_le _ _) ?_
      rw [List.length_take]
      omega
    refine ⟨_, _, _, ld (q1.1.at_ 3 _ rfl) (by kernel_rfl), br_t (by simp; omega) (br_i (fun hne => ?_) (fun hne => ?_))⟩
    · have hne' : i ≠ at_ := by intro e; subst e; simp at hne
      have hpe : ((T.ents [])[i]).1 ≠ e0.1 := by
        rw [← hate]
        rcases Nat.lt_or_gt_of_ne hne' with hh | hh
        · exact hap i at_ hlt hatl hh
        · exact fun x => hap at_ i hatl hlt hh x.symm
      obtain ⟨a, hp, hcl⟩ := q1.rd ho
      refine ⟨_, _, _, ld (q1.1.at_ 3 _ rfl) (by kernel_rfl), _, hp, _, _, _, ldS hcl (by kernel_rfl), ?_⟩
      refine app_e (e := enW w (T.ents [])[i]) r1 hb1 e1 hal fun h2 A2 c2 e2 r2 hb2 => ?_
      rw [wrap_in (by omega) (by omega), hcast]
      refine ih (i + 1) f h2 A2 c2 _ (by omega) (by omega) ?_ e2 r2 hb2
      rw [hfs, List.map_append, hacc]
      congr 1
      rw [if_pos (by simpa using hpe)]
      rfl
    · have hne' : i = at_ := by simp at hne; exact_mod_cast hne
      rw [wrap_in (by omega) (by omega), hcast]
      refine ih (i + 1) f h A' c' acc (by omega) (by omega) ?_ e1 r1 hb1
      rw [hfs, List.map_append, hacc]
      have hpe : ((T.ents [])[i]).1 = e0.1 := by subst hne'; rw [hate]
      rw [if_neg (by simpa using hpe)]
      simp
theorem rcut_s {h : Hp} {m : Nat} {M : Nat → Prop} {w : Nat} {most : Int} {s : Ab} (q : RfAt h m M w most s) (R : Rok w most s) {k : Nat} (hk : k < 4294967296) (n : Int) {K : Value → Hp → Prop}
    (H : ∀ h' M', RfAt h' m M' w most (cutA w s k n).2 → (∀ j, M' j → M j ∨ h.size ≤ j) → Fr M h h' → K (.int .i64 (cutA w s k n).1) h') :
    CallsH Try.prog 59 #[.pointer (some ⟨m, 0, none⟩), .int .u32 (k : Int), .int .i64 n] h K := by
  refine quintetref12_Trie_Cut_ok _ _ _ ?_
  unfold quintetref12_Trie_Cut
  have q0 := q
  obtain ⟨hm, hM, A, c, hb, hr, hA, hne⟩ := q
  have vw := rf_view hb hr
  have hlen := R.len
  have hwl := R.w3.le
  refine rmay_s vw R.w3 hk n ⟨_, rfl, ?_⟩
  unfold cutA at H
  by_cases hmay : mayT w k n = true
  · rw [if_pos hmay] at H
    obtain ⟨n, rfl, hnw⟩ := mayT_nat hmay
    rw [Int.toNat_natCast] at H
    obtain ⟨_, hpk⟩ := may_path R.w3 hk hmay
    have hpl : (pa w k n).length = n := pa_len _ _ _
    refine br_f (by rw [hmay]; rfl) ?_
    refine at_s vw (by omega) _ _ (fun j e hj hje => ⟨_, rfl, ?_⟩) (fun hno => ⟨_, rfl, ?_⟩)
    · have hem := List.mem_of_getElem? hj
      obtain ⟨hel, heg⟩ := ent_in R.dp hem
      have hep : e.1 = pa w k n := ent_is hel (by omega) (by omega) (by omega)
      have hg : s.T.get (pa w k n) ≠ none := by rw [← hep, heg]; simp
      rw [if_neg hg] at H
      refine br_f (by rw [decide_eq_false_iff_not]; omega) ⟨(s.T.ents []).length + 1, ?_⟩
      refine rcut_l1 vw R.dp hlen hj (fun h1 A1 c1 e1 r1 hb1 => ?_) (s.T.ents []).length 0 _ h none 0 [] (by omega) (by omega) (by simp) (Ext.refl _) (.inl ⟨rfl, rfl, rfl, rfl⟩) (by rintro k ⟨a, ha, _⟩; cases ha)
      rw [hep, ← ents_cut R.dp] at r1 ⊢
      rw [List.length_map]
      have hb1' := (e1.fr (fun _ => False)).get hb (fun h => h)
      have hml := lt_of_get hb
      have s1 := e1.size
      refine HU_stA (o := 3) (us := [.slice A1 ((s.T.cut (pa w k n)).ents []).length c1]) hb1' rfl (by kernel_rfl) (by simp [rfC]) rfl ?_
      have e3 : (rfC w most s A c).take 3 ++ [.slice A1 ((s.T.cut (pa w k n)).ents []).length c1] ++ (rfC w most s A c).drop (3 + [Value.slice A1 ((s.T.cut (pa w k n)).ents []).length c1].length) = rfC w most ⟨s.T.cut (pa w k n), s.ar⟩ A1 c1 := rfl
      rw [e3]
      have hb2 := setB_get (h := h1) (cs := rfC w most ⟨s.T.cut (pa w k n), s.ar⟩ A1 c1) (T := 81) (lt_of_get hb1')
      have f2 := setB_fr (h := h1) (S := fun j => j = m) (b := m) (cs := rfC w most ⟨s.T.cut (pa w k n), s.ar⟩ A1 c1) (T := 81) rfl
      revert hb2 f2
      generalize setB h1 m (rfC w most ⟨s.T.cut (pa w k n), s.ar⟩ A1 c1) 81 = h2
      intro hb2 f2
      have hbm : ¬ blk A1 m := fun hh => by have := hb1 m hh; omega
      have r3 := r1.keep f2 (fun j hj e => hbm (e ▸ hj))
      have s2 := f2.size
      refine H h2 (fun j => M j ∨ blk A1 j) ⟨.inl hm, ?_, A1, c1, hb2, r3, fun j hj => .inr hj, hbm⟩ ?_ ?_
      · rintro j (hj | hj)
        · have := hM j hj; omega
        · exact lt_of_row r3 hj
      · rintro j (hj | hj)
        · exact .inl hj
        · exact .inr (hb1 j hj)
      · exact (e1.fr M).trans (f2.mono fun j hj => hj ▸ hm)
    · have hg : s.T.get (pa w k n) = none := by
        cases hg : s.T.get (pa w k n) with
        | none => rfl
        | some u =>
          have hmem : (pa w k n, u) ∈ s.T.ents [] := mem0.2 hg
          exact absurd ⟨by show ((kv w (pa w k n) : Nat) : Int) = k; omega, by show (((pa w k n).length : Nat) : Int) = n; omega⟩ (hno _ hmem)
      rw [if_pos hg] at H
      exact br_t rfl (H h M q0 (fun j hj => .inl hj) (Fr.refl _ _))
  · rw [if_neg hmay] at H
    exact br_t (by simpa using hmay) (H h M q0 (fun j hj => .inl hj) (Fr.refl _ _))
theorem TrG.keep {h h' : Hp} {b : Nat} {S S' : Nat → Prop} {w : Nat} {most : Int} {s : Ab} (q : TrG h b S w most s) (f : Fr S' h h') (hn : ∀ k, S k → ¬ S' k) : TrG h' b S w most s := by
  obtain ⟨t, q, G⟩ := q
  exact ⟨t, q.keep f hn, G⟩
theorem TrG.rok {h : Hp} {b : Nat} {S : Nat → Prop} {w : Nat} {most : Int} {s : Ab} (q : TrG h b S w most s) : Rok w most s ∧ ∀ k, S k → k < h.size := by
  obtain ⟨t, q, G⟩ := q
  exact ⟨G.rok, q.2.1⟩
/-- A trie and the document's beside it. -/
structure Both (h : Hp) (b : Nat) (S : Nat → Prop) (m : Nat) (M : Nat → Prop) (w : Nat) (most : Int) (s : Ab) : Prop where
  t : TrG h b S w most s
  r : RfAt h m M w most s
  off : ∀ k, S k → ¬ M k
theorem Both.ext {h h' : Hp} {b : Nat} {S : Nat → Prop} {m : Nat} {M : Nat → Prop} {w : Nat} {most : Int} {s : Ab} (q : Both h b S m M w most s) (e : Ext h h') : Both h' b S m M w most s := ⟨q.t.ext e, q.r.ext e, q.off⟩
theorem Both.keep {h h' : Hp} {b : Nat} {S S' : Nat → Prop} {m : Nat} {M : Nat → Prop} {w : Nat} {most : Int} {s : Ab} (q : Both h b S m M w most s) (f : Fr S' h h') (h1 : ∀ k, S k → ¬ S' k) (h2 : ∀ k, M k → ¬ S' k) : Both h' b S m M w most s := ⟨q.t.keep f h1, q.r.keep f h2, q.off⟩
def stepA (w : Nat) (most : Int) (s : Ab) (o : OpR) : Ab := if o.kind = 0 then (putA w most s o.key o.n o.v).2 else if o.kind = 1 then (cutA w s o.key o.n).2 else s
theorem step_s {h : Hp} {b : Nat} {S : Nat → Prop} {m : Nat} {M : Nat → Prop} {w : Nat} {most : Int} {s : Ab} (q : Both h b S m M w most s) (o : OpR) (hk : o.key < 4294967296) (hv0 : -9223372036854775808 ≤ o.v) (hv1 : o.v ≤ 9223372036854775807) {K : Value → Hp → Prop}
    (H : ∀ h' S' M', Both h' b S' m M' w most (stepA w most s o) → (∀ k, S' k → S k ∨ h.size ≤ k) → (∀ k, M' k → M k ∨ h.size ≤ k) → Fr (fun k => S k ∨ M k) h h' → K (.bool true) h') :
    CallsH Try.prog 39 #[.pointer (some ⟨b, 0, none⟩), .pointer (some ⟨m, 0, none⟩), .agg #[.int .i64 o.kind, .bool o.second, .int .u32 (o.key : Int), .int .i64 o.n, .int .i64 o.v]] h K := by
  refine quintetlaw12_step_ok _ _ _ _ _ _ _ ?_
  unfold quintetlaw12_step
  refine newC_i (cs := OpR.enc o) fun h1 e1 c1 b1 z1 => ?_
  obtain ⟨R, hSl⟩ := q.t.rok
  have hMl := q.r.2.1
  have q1 := q.ext e1
  have s1 := e1.size
  have nS : ¬ S h.size := fun hh => Nat.lt_irrefl _ (hSl _ hh)
  have hSl1 : ∀ k, S k → k < h1.size := fun k hk => by have := hSl k hk; omega
  have hMl1 : ∀ k, M k → k < h1.size := fun k hk => by have := hMl k hk; omega
  have same_ : ∀ h', Ext h h' → o.kind ≠ 0 → o.kind ≠ 1 → K (.bool true) h' := fun h' e h0 h1' => by
    refine H h' S M ?_ (fun k hk => .inl hk) (fun k hk => .inl hk) (e.fr _)
    rw [stepA, if_neg h0, if_neg h1']
    exact q.ext e
  refine ⟨_, ld (c1.at_ 0 _ rfl) (by kernel_rfl), br_i (fun h0 => ?_) (fun h0 => ?_)⟩
  · -- Put
    have h0' : o.kind = 0 := by simpa using h0
    refine ⟨_, ld (c1.at_ 2 _ rfl) (by kernel_rfl), _, ld (c1.at_ 3 _ rfl) (by kernel_rfl), _, ld (c1.at_ 4 _ rfl) (by kernel_rfl), ?_⟩
    refine tput_a q1.t hk _ _ fun h2 S2 t2 s2 f2 => ⟨_, rfl, ?_⟩
    have c2 := f2.cl c1 (by exact nS)
    refine ⟨_, ld (c2.at_ 2 _ rfl) (by kernel_rfl), ld (c1.at_ 2 _ rfl) (by kernel_rfl), _, ld (c2.at_ 3 _ rfl) (by kernel_rfl), ld (c1.at_ 3 _ rfl) (by kernel_rfl), _, ld (c2.at_ 4 _ rfl) (by kernel_rfl), ld (c1.at_ 4 _ rfl) (by kernel_rfl), ?_⟩
    have r2 := q1.r.keep f2 (fun k hk hs => q.off k hs hk)
    refine rput_s r2 R hk _ _ fun h3 M3 r3 s3 f3 => ⟨_, rfl, ?_⟩
    have off2 : ∀ k, S2 k → ¬ M k := fun k hk2 hm => by
      rcases s2 k hk2 with h | h
      · exact q.off k h hm
      · have := hMl1 k hm; omega
    have t3 := t2.keep f3 off2
    have t2l := t2.rok.2
    have hb : ((putA w most s o.key o.n o.v).1 == (putA w most s o.key o.n o.v).1) = true := by simp
    rw [hb]
    have f2s := f2.size
    refine H h3 S2 M3 ⟨?_, ?_, ?_⟩ ?_ ?_ ?_
    · rw [stepA, if_pos h0']; exact t3
    · rw [stepA, if_pos h0']; exact r3
    · intro k hk2 hm
      rcases s3 k hm with h | h
      · exact off2 k hk2 h
      · have := t2l k hk2; omega
    · intro k hk2
      rcases s2 k hk2 with h | h
      · exact .inl h
      · exact .inr (by omega)
    · intro k hm
      rcases s3 k hm with h | h
      · exact .inl h
      · exact .inr (by omega)
    · exact ((e1.fr _).trans (f2.mono fun k hk => .inl hk)).trans (f3.mono fun k hk => .inr hk)
  refine br_i (fun h0' => ?_) (fun h0' => ?_)
  · -- Cut
    have hc : o.kind = 1 := by simpa using h0'
    have h0n : o.kind ≠ 0 := by omega
    refine ⟨_, ld (c1.at_ 2 _ rfl) (by kernel_rfl), _, ld (c1.at_ 3 _ rfl) (by kernel_rfl), ?_⟩
    refine tcut_a q1.t hk _ fun h2 t2 f2 => ⟨_, rfl, ?_⟩
    have c2 := f2.cl c1 (by exact nS)
    refine ⟨_, ld (c2.at_ 2 _ rfl) (by kernel_rfl), ld (c1.at_ 2 _ rfl) (by kernel_rfl), _, ld (c2.at_ 3 _ rfl) (by kernel_rfl), ld (c1.at_ 3 _ rfl) (by kernel_rfl), ?_⟩
    have r2 := q1.r.keep f2 (fun k hk hs => q.off k hs hk)
    refine rcut_s r2 R hk _ fun h3 M3 r3 s3 f3 => ⟨_, rfl, ?_⟩
    have t3 := t2.keep f3 q.off
    have t2l := t2.rok.2
    have hb : ((cutA w s o.key o.n).1 == (cutA w s o.key o.n).1) = true := by simp
    rw [hb]
    have f2s := f2.size
    refine H h3 S M3 ⟨?_, ?_, ?_⟩ (fun k hk => .inl hk) ?_ ?_
    · rw [stepA, if_neg h0n, if_pos hc]; exact t3
    · rw [stepA, if_neg h0n, if_pos hc]; exact r3
    · intro k hk2 hm
      rcases s3 k hm with h | h
      · exact q.off k hk2 h
      · have := t2l k hk2; omega
    · intro k hm
      rcases s3 k hm with h | h
      · exact .inl h
      · exact .inr (by omega)
    · exact ((e1.fr _).trans (f2.mono fun k hk => .inl hk)).trans (f3.mono fun k hk => .inr hk)
  have k0 : o.kind ≠ 0 := by intro e; rw [e] at h0; simp at h0
  have k1 : o.kind ≠ 1 := by intro e; rw [e] at h0'; simp at h0'
  obtain ⟨A, c, vw⟩ := q1.r.view
  have hlen := R.len
  refine br_i (fun _ => ?_) (fun _ => ?_)
  · -- Get
    refine ⟨_, ld (c1.at_ 2 _ rfl) (by kernel_rfl), _, ld (c1.at_ 3 _ rfl) (by kernel_rfl), ?_⟩
    refine tget_a q1.t hk _ ⟨_, _, rfl, ?_⟩
    refine ⟨_, ld (c1.at_ 2 _ rfl) (by kernel_rfl), _, ld (c1.at_ 3 _ rfl) (by kernel_rfl), ?_⟩
    refine rget_s vw R.dp R.w3 hlen hk _ ⟨_, _, rfl, br_t (by simp) ?_⟩
    have hb : ((getA w s o.key o.n).2 == (getA w s o.key o.n).2) = true := by simp
    rw [hb]
    exact same_ h1 e1 k0 k1
  refine br_i (fun _ => ?_) (fun _ => ?_)
  · -- Longest
    refine ⟨_, ld (c1.at_ 2 _ rfl) (by kernel_rfl), ?_⟩
    refine tlongest_a q1.t hk fun h2 e2 => ⟨_, _, _, _, rfl, ?_⟩
    refine newV (us := (lastE (abovL s.T w o.key w)).enc) rfl rfl size39 rfl fun h3 e3 c3 b3 z3 => ?_
    refine ⟨_, ld (((c1.ext e2).ext e3).at_ 2 _ rfl) (by kernel_rfl), ?_⟩
    refine rlongest_s ((vw.ext e2).ext e3) R.dp R.w3 hlen (abovL_len q1.t _ _) hk fun h4 e4 => ⟨_, _, _, _, rfl, ?_⟩
    refine newV (us := (lastE (abovL s.T w o.key w)).enc) rfl rfl size39 rfl fun h5 e5 c5 b5 z5 => ?_
    refine ⟨_, _, _, ldS ((c3.ext e4).ext e5) (by kernel_rfl), _, _, _, ldS c5 (by kernel_rfl), _, eq39 _ _ _ _ _ _, br_t (by simp) ?_⟩
    have hb : ((!(abovL s.T w o.key w).isEmpty) == (!(abovL s.T w o.key w).isEmpty)) = true := by simp
    rw [hb]
    exact same_ h5 ((((e1.trans e2).trans e3).trans e4).trans e5) k0 k1
  refine br_i (fun _ => ?_) (fun _ => ?_)
  · -- Above
    refine ⟨_, ld (c1.at_ 2 _ rfl) (by kernel_rfl), _, ld (c1.at_ 3 _ rfl) (by kernel_rfl), ?_⟩
    refine tabove_a q1.t hk _ fun h2 lb e2 sq => ⟨_, rfl, ?_⟩
    refine ⟨_, ld ((c1.ext e2).at_ 2 _ rfl) (by kernel_rfl), ld (c1.at_ 2 _ rfl) (by kernel_rfl), _, ld ((c1.ext e2).at_ 3 _ rfl) (by kernel_rfl), ld (c1.at_ 3 _ rfl) (by kernel_rfl), ?_⟩
    refine rabove_s (vw.ext e2) R.dp R.w3 hlen hk _ fun h3 A3 c3 e3 r3 => ⟨_, _, _, rfl, ?_⟩
    refine ⟨_, ld (((c1.ext e2).ext e3).at_ 4 _ rfl) (by kernel_rfl), ld ((c1.ext e2).at_ 4 _ rfl) (by kernel_rfl), ld (c1.at_ 4 _ rfl) (by kernel_rfl), ?_⟩
    have hl := abovL_len q1.t o.key o.n
    exact same_s (sq.ext e3) r3.read (by omega) o.v hv0 hv1 fun h4 e4 => ⟨_, rfl, same_ h4 (((e1.trans e2).trans e3).trans e4) k0 k1⟩
  refine br_i (fun _ => ?_) (fun _ => ?_)
  · -- Walk
    refine twalk_a q1.t fun h2 lb e2 sq => ⟨_, rfl, ?_⟩
    have vw2 := vw.ext e2
    refine ⟨_, _, _, ld (vw2.1.at_ 3 _ rfl) (by kernel_rfl), ld (vw.1.at_ 3 _ rfl) (by kernel_rfl), _, ld ((c1.ext e2).at_ 4 _ rfl) (by kernel_rfl), ld (c1.at_ 4 _ rfl) (by kernel_rfl), ?_⟩
    have hl := ents_len q1.t
    have hlm : (s.T.ents []).length = ((s.T.ents []).map (enW w)).length := by simp
    have r2 := vw2.2
    rw [hlm] at r2 ⊢
    exact same_s sq r2 (by omega) o.v hv0 hv1 fun h3 e3 => ⟨_, rfl, same_ h3 ((e1.trans e2).trans e3) k0 k1⟩
  refine br_i (fun _ => ?_) (fun _ => same_ h1 e1 k0 k1)
  -- Nodes, Arena
  refine tnodes_a q1.t ⟨_, rfl, ?_⟩
  refine rnodes_s q1.r R ⟨_, rfl, br_t (by simp) ?_⟩
  refine tarena_a q1.t ⟨_, rfl, ?_⟩
  refine ⟨_, ld (vw.1.at_ 2 _ rfl) (by kernel_rfl), ld (vw.1.at_ 2 _ rfl) (by kernel_rfl), ?_⟩
  have hb : (((s.ar : Nat) : Int) == ((s.ar : Nat) : Int)) = true := by simp
  rw [hb]
  exact same_ h1 e1 k0 k1
end Go.Proofs.Ytofjbbfnkefoaaa.Fs
