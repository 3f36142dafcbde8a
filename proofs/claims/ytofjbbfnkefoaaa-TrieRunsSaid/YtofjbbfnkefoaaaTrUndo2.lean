/- TrieUndone, the law. -/
import Derived.Test.YtofjbbfnkefoaaaTrUndo
namespace Go.Proofs.Ytofjbbfnkefoaaa.Fs
open Go Go.RowKit Go.Proofs.Ytofjbbfnkefoaaa.Sx Go.Proofs.Ytofjbbfnkefoaaa.Tp
set_option linter.unusedVariables false
set_option linter.unusedSimpArgs false
set_option maxRecDepth 10000
theorem max64 {t : TypeId} (x y : Nat) : PV Try.prog (Builtin.max_ #[t, t] t #[(.int .i64 (x : Int)), (.int .i64 (y : Int))]) (.int .i64 ((max x y : Nat) : Int)) := by
  intro w
  by_cases h : x < y
  · have : max x y = y := by omega
    rw [this]
    simp [Builtin.max_, Builtin.max2, go_sem, h]
    try omega
  · have : max x y = x := by omega
    rw [this]
    simp [Builtin.max_, Builtin.max2, go_sem, h]
    try omega
theorem undo_j18 {w : Nat} (hw : W3 w) {h0 : Hp} {A : Option Addr} {c : Nat} {os : List OpR} (r : RSl h0 A os.length 5 (os.flatMap OpR.enc)) (hlen : os.length ≤ 16777216) (hk : ∀ o, o ∈ os → o.key < 4294967296) {k : Nat} (hkk : k < 4294967296) (n : Int) {K0 : Bool → Hp → Prop} (H : ∀ h', Ext h0 h' → K0 true h') : quintetlaw12_TrieUndone_j18 K0 w A os.length c k n h0 := by
  unfold quintetlaw12_TrieUndone_j18
  refine played_s hw r rfl hlen hk fun h1 b S e1 q hS => ⟨_, rfl, _, eqNil eq32, br_f rfl ?_⟩
  generalize os.foldl (playA w 1048576) ⟨.nil, 0⟩ = s at q
  obtain ⟨t0, qt0, G⟩ := id q
  have hGle := G.le
  have hGsz := G.size
  refine twalk_a q fun h2 lb e2 sq => ⟨_, rfl, ?_⟩
  have hl1 := ents_len q
  refine told_s' sq (by omega) fun h3 A3 c3 e3 r3 hA => ⟨_, _, _, rfl, ?_⟩
  rw [List.length_map] at hl1 ⊢
  have q3 := (q.ext e2).ext e3
  have E3 := (e1.trans e2).trans e3
  refine tnodes_a q3 ⟨_, rfl, ?_⟩
  refine tarena_a q3 ⟨_, rfl, ?_⟩
  refine tget_a q3 hkk n ⟨_, _, rfl, ?_⟩
  refine tput_a q3 hkk n 7 fun h4 S4 q4 s4 f4 => ⟨_, rfl, ?_⟩
  have hS4 : ∀ m, S4 m → h0.size ≤ m := fun m hm => by
    rcases s4 m hm with h | h
    · exact hS m h
    · have := E3.size; omega
  have E4 : Ext h0 h4 := ⟨Nat.le_trans E3.size f4.size, fun m hm => by rw [f4.keep m (Nat.lt_of_lt_of_le hm E3.size) (fun hs => by have := hS m hs; omega), E3.old m hm]⟩
  have r3' : RSl h3 A3 (s.T.ents []).length 3 (((s.T.ents []).map (enW w)).flatMap En.enc) := by
    have := r3.read
    rw [List.length_map] at this
    exact this
  have r4 : RSl h4 A3 (s.T.ents []).length 3 (((s.T.ents []).map (enW w)).flatMap En.enc) := by
    refine ⟨r3'.1, ?_⟩
    rcases r3'.2 with h1 | ⟨a, ha, hcl⟩
    · exact .inl h1
    · exact .inr ⟨a, ha, f4.cl hcl (fun hs => by
        have := hA _ ⟨a, ha, rfl⟩
        have := qt0.2.1 _ hs
        have := e2.size
        omega)⟩
  refine tnodes_a q4 ⟨_, rfl, ?_⟩
  have j33 : ∀ (s' : Ab) (S' : Nat → Prop) (h' : Hp), TrG h' b S' w 1048576 s' → Ext h0 h' → (∀ m, S' m → h0.size ≤ m) → quintetlaw12_TrieUndone_j33 K0 (some ⟨b, 0, none⟩) h' := fun s' S' h' q' e' hs' => undo_j33 hw q' e' hs' H
  -- the three answers of Put
  by_cases hm : mayT w k n = true
  · obtain ⟨m, rfl, hmw⟩ := mayT_nat hm
    have hput := Tr.size_le_put 7 (pa w k m) s.T
    have hsz := Tr.size_put 7 (pa w k m) s.T
    rw [pa_len] at hsz
    have hhad : getA w s k m = outG (s.T.get (pa w k m)) := by unfold getA; rw [if_pos hm, Int.toNat_natCast]
    by_cases hc : (1048576 : Int) < (((s.T.put 7 (pa w k m)).size : Nat) : Int)
    · have hpA : putA w 1048576 s k m 7 = (122, s) := by unfold putA; rw [if_pos hm, Int.toNat_natCast, if_pos hc]
      have hg : s.T.get (pa w k m) = none := by
        cases hg : s.T.get (pa w k m) with
        | none => rfl
        | some v =>
          have := Tr.put_had 7 (pa w k m) s.T (by rw [hg]; simp)
          omega
      rw [hhad, hg]
      rw [hpA] at q4 ⊢
      refine br_f rfl ?_
      unfold quintetlaw12_TrieUndone_j35
      refine br_f rfl ?_
      unfold quintetlaw12_TrieUndone_j27
      refine br_f rfl ?_
      unfold quintetlaw12_TrieUndone_j31
      refine br_t rfl (br_t rfl (br_f rfl (br_f rfl (br_f (by simp) ?_))))
      exact j33 s S4 h4 q4 E4 hS4
    · have hpA : putA w 1048576 s k m 7 = (0, ⟨s.T.put 7 (pa w k m), max s.ar (s.T.put 7 (pa w k m)).size⟩) := by unfold putA; rw [if_pos hm, Int.toNat_natCast, if_neg hc]
      rw [hpA] at q4 ⊢
      refine br_t rfl ?_
      unfold quintetlaw12_TrieUndone_j35
      cases hg : s.T.get (pa w k m) with
      | none =>
        rw [hhad, hg]
        refine br_t rfl ?_
        have hcut : cutA w ⟨s.T.put 7 (pa w k m), max s.ar (s.T.put 7 (pa w k m)).size⟩ k m = (0, ⟨s.T, max s.ar (s.T.put 7 (pa w k m)).size⟩) := by
          unfold cutA
          rw [if_pos hm, Int.toNat_natCast, if_neg (by show Tr.get _ (Tr.put 7 _ s.T) ≠ none; rw [Tr.get_put, if_pos rfl]; simp)]
          show ((0 : Int), (⟨Tr.cut _ (Tr.put 7 _ s.T), _⟩ : Ab)) = _
          rw [Tr.cut_put _ _ _ G.ok hg]
        refine tcut_a q4 hkk m ?_
        rw [hcut]
        intro h5 q5 f5
        refine ⟨_, rfl, br_f rfl ?_⟩
        have E5 : Ext h0 h5 := ⟨Nat.le_trans E4.size f5.size, fun x hx => by rw [f5.keep x (Nat.lt_of_lt_of_le hx E4.size) (fun hs => by have := hS4 x hs; omega), E4.old x hx]⟩
        have r5 : RSl h5 A3 (s.T.ents []).length 3 (((s.T.ents []).map (enW w)).flatMap En.enc) := by
          refine ⟨r4.1, ?_⟩
          rcases r4.2 with h1 | ⟨a, ha, hcl⟩
          · exact .inl h1
          · exact .inr ⟨a, ha, f5.cl hcl (fun hs => by
              have h1 := hA _ ⟨a, ha, rfl⟩
              have h3l : a.block < h3.size := by
                rcases r3'.2 with hz | ⟨a', ha', hcl'⟩
                · by_cases hz' : 0 < (s.T.ents []).length
                  · omega
                  · have hnil : (s.T.ents []) = [] := List.eq_nil_of_length_eq_zero (by omega)
                    rcases r3 with ⟨hA3, _⟩ | ⟨g, rest, hA3, hg, _⟩
                    · rw [hA3] at ha; cases ha
                    · rw [hA3] at ha
                      injection ha with ha
                      rw [← ha]
                      exact lt_of_get hg
                · rcases r3 with ⟨hA3, _⟩ | ⟨g, rest, hA3, hg, _⟩
                  · rw [hA3] at ha; cases ha
                  · rw [hA3] at ha
                    injection ha with ha
                    rw [← ha]
                    exact lt_of_get hg
              rcases s4 _ hs with h | h
              · have := qt0.2.1 _ h
                have := e2.size
                omega
              · omega)⟩
        refine tnodes_a q5 ⟨_, rfl, br_f (by simp) ?_⟩
        refine twalk_a q5 fun h6 lb6 e6 sq6 => ⟨_, rfl, ?_⟩
        have hlm : (s.T.ents []).length = ((s.T.ents []).map (enW w)).length := by simp
        have r6 := r5.ext e6
        rw [hlm] at r6 ⊢
        refine same_s sq6 r6 (show ((s.T.ents []).map (enW w)).length ≤ 1100000 by rw [List.length_map]; omega) 0 (by decide) (by decide) fun h7 e7 => ⟨_, rfl, br_f rfl ?_⟩
        have q7 := (q5.ext e6).ext e7
        have E7 := (E5.trans e6).trans e7
        refine tarena_a q7 ⟨_, rfl, ?_⟩
        refine ⟨_, max64 _ _, br_f (by simp) (br_f ?_ (br_f ?_ ?_))⟩
        · rw [decide_eq_false_iff_not]
          show ¬ (((s.T.put 7 (pa w k m)).size : Nat) : Int) < ((s.T.size : Nat) : Int)
          omega
        · rw [decide_eq_false_iff_not]
          show ¬ (((s.T.put 7 (pa w k m)).size : Nat) : Int) > IntKind.i64.wrap (IntKind.i64.wrap (((s.T.size : Nat) : Int) + (m : Nat)) + 1)
          have := hw.le
          rw [wrap_in (n := ((s.T.size : Nat) : Int) + (m : Nat)) (by omega) (by omega), wrap_in (by omega) (by omega)]
          omega
        show quintetlaw12_TrieUndone_j27 _ (some ⟨b, 0, none⟩) _ _ false 0 _ h7
        unfold quintetlaw12_TrieUndone_j27
        refine br_t rfl (br_f rfl ?_)
        unfold quintetlaw12_TrieUndone_j31
        refine br_f rfl ?_
        exact j33 _ S4 h7 q7 E7 hS4
      | some v =>
        rw [hhad, hg]
        refine br_f rfl ?_
        have hsame := Tr.put_had 7 (pa w k m) s.T (by rw [hg]; simp)
        show quintetlaw12_TrieUndone_j27 _ (some ⟨b, 0, none⟩) _ _ true 0 _ h4
        unfold quintetlaw12_TrieUndone_j27
        refine br_t rfl (br_t rfl (br_f ?_ ?_))
        · show ((((s.T.put 7 (pa w k m)).size : Nat) : Int) != ((s.T.size : Nat) : Int)) = false
          rw [hsame]; simp
        refine tarena_a q4 ⟨_, rfl, br_f ?_ ?_⟩
        · show (((max s.ar (s.T.put 7 (pa w k m)).size : Nat) : Int) != ((s.ar : Nat) : Int)) = false
          rw [hsame, Nat.max_eq_left hGsz]; simp
        unfold quintetlaw12_TrieUndone_j31
        refine br_f rfl ?_
        exact j33 _ S4 h4 q4 E4 hS4
  · have hpA : putA w 1048576 s k n 7 = (120, s) := by unfold putA; rw [if_neg hm]
    have hgA : getA w s k n = (0, false) := by unfold getA; rw [if_neg hm]
    rw [hgA]
    rw [hpA] at q4 ⊢
    refine br_f rfl ?_
    unfold quintetlaw12_TrieUndone_j35
    refine br_f rfl ?_
    unfold quintetlaw12_TrieUndone_j27
    refine br_f rfl ?_
    unfold quintetlaw12_TrieUndone_j31
    refine br_t rfl (br_f rfl (br_f rfl (br_f (by simp) ?_)))
    exact j33 s S4 h4 q4 E4 hS4
theorem TrieUndone_s (w : Int) (A : Option Addr) (c : Nat) (os : List OpR) (hk : ∀ o, o ∈ os → o.key < 4294967296) (k : Nat) (hkk : k < 4294967296) (n : Int) {h : Hp} (r : RSl h A os.length 5 (os.flatMap OpR.enc)) {K : Value → Hp → Prop} (H : ∀ h', Ext h h' → K (.bool true) h') :
    CallsH Try.prog 11 #[.int .i64 w, .slice A os.length c, .int .u32 (k : Int), .int .i64 n] h K := by
  refine quintetlaw12_TrieUndone_ok _ _ _ _ _ _ ?_
  unfold quintetlaw12_TrieUndone
  have aw : CallsH Try.prog 38 #[] h fun r1021 h1020 => ∃ b1022 : Bool, r1021 = (.bool b1022) ∧ K (.bool b1022) h1020 := awake_s fun h1 e1 => ⟨_, rfl, H h1 e1⟩
  have go : (w = 8 ∨ w = 16 ∨ w = 32) → br (decide ((os.length : Int) > 16777216)) (CallsH Try.prog 38 #[] h fun r1021 h1020 => ∃ b1022 : Bool, r1021 = (.bool b1022) ∧ K (.bool b1022) h1020) (quintetlaw12_TrieUndone_j18 (fun (b1026 : Bool) (h1027 : Hp) => K (.bool b1026) h1027) w A os.length c k n h) := by
    intro hw3
    refine br_i (fun _ => aw) (fun hlen => ?_)
    have hlen' : os.length ≤ 16777216 := by simp at hlen; omega
    obtain ⟨w, rfl⟩ := Int.eq_ofNat_of_zero_le (a := w) (by omega)
    have hw : W3 w := by unfold W3; omega
    exact undo_j18 hw r hlen' hk hkk n fun h' e => H h' e
  refine br_i (fun h0 => br_i (fun h1 => br_i (fun h2 => aw) (fun h2 => go (by simp at h2; omega))) (fun h1 => go (by simp at h1; omega))) (fun h0 => go (by simp at h0; omega))
end Go.Proofs.Ytofjbbfnkefoaaa.Fs
