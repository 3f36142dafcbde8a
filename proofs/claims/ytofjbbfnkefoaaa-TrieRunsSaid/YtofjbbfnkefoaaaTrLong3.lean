/- TrieLongest: the loops and the law. -/
import Derived.Test.YtofjbbfnkefoaaaTrLong2
namespace Go.Proofs.Ytofjbbfnkefoaaa.Fs
open Go Go.RowKit Go.Proofs.Ytofjbbfnkefoaaa.Sx Go.Proofs.Ytofjbbfnkefoaaa.Tp
set_option linter.unusedVariables false
set_option linter.unusedSimpArgs false
set_option maxRecDepth 10000
theorem filter_snoc {α : Type} (p : α → Bool) (l : List α) {i : Nat} {e : α} (hi : l[i]? = some e) : (l.take (i + 1)).filter p = (l.take i).filter p ++ if p e = true then [e] else [] := by
  have : l.take (i + 1) = l.take i ++ [e] := by rw [List.take_add_one, hi]; rfl
  rw [this, List.filter_append]
  congr 1
  cases h : p e <;> simp [h]
theorem long_l11 {w k : Nat} {most : Int} (hw : W3 w) (hk : k < 4294967296) {s : Ab} {g0 : Hp} {b : Nat} {S : Nat → Prop} (q : TrG g0 b S w most s) {A A2 : Option Addr} {l c l2 c2 : Nat} {ab : Addr} {ob : Bool} (r : RSl g0 A l 3 (((s.T.ents []).map (enW w)).flatMap En.enc)) (hl : (s.T.ents []).length = l) (hbd : l ≤ 1048576)
    {K0 : Bool → Hp → Prop} {K1 : (Option Addr) → (Option Addr) → Nat → Nat → (Option Addr) → Nat → Nat → Addr → Bool → (Option Addr) → Nat → Nat → Hp → Prop}
    (H : ∀ h' A' c', Ext g0 h' → RowE h' A' c' (abovL s.T w k w) → K1 (some ⟨b, 0, none⟩) A l c A2 l2 c2 ab ob A' (abovL s.T w k w).length c' h') :
    ∀ (d i f : Nat) (h : Hp) (A' : Option Addr) (c' : Nat) (want : List En), i + d = l → d < f → want = (((s.T.ents []).take i).filter (cE w k)).map (enW w) → Ext g0 h → RowE h A' c' want → (∀ k, blk A' k → g0.size ≤ k) →
      quintetlaw12_TrieLongest_l11 w k (some ⟨b, 0, none⟩) A l c A2 l2 c2 ab ob K0 K1 f A' want.length c' i h := by
  have hwl := hw.le
  have hpw := pow_lt32 hwl.2
  obtain ⟨t0, q0, G⟩ := id q
  have hD := G.dp
  intro d
  induction d with
  | zero =>
    intro i f h A' c' want hi hf hwt e rw_ hbl
    obtain ⟨f, rfl⟩ : ∃ f', f = f' + 1 := ⟨f - 1, by omega⟩
    unfold quintetlaw12_TrieLongest_l11
    rw [List.take_of_length_le (by omega), ← abovL_filter hw hk] at hwt
    subst hwt
    exact br_f (by simp; omega) (H h A' c' e rw_)
  | succ d ih =>
    intro i f h A' c' want hi hf hwt e rw_ hbl
    obtain ⟨f, rfl⟩ : ∃ f', f = f' + 1 := ⟨f - 1, by omega⟩
    unfold quintetlaw12_TrieLongest_l11
    have hlt : i < (s.T.ents []).length := by omega
    have ho : (s.T.ents [])[i]? = some (s.T.ents [])[i] := List.getElem?_eq_getElem hlt
    revert ho
    generalize (s.T.ents [])[i] = en
    intro ho
    have hmem : en ∈ s.T.ents [] := List.mem_of_getElem? ho
    obtain ⟨hlen, hget⟩ := ent_in hD hmem
    have hin : ((s.T.ents []).map (enW w))[i]? = some (enW w en) := by rw [List.getElem?_map, ho]; rfl
    obtain ⟨a, hp, hcl⟩ := rd_e (c := c) (r.ext e) (by rw [List.length_map, hl]) hin
    have hkl := kv_lt w en.1 hlen
    have hwl2 : want.length ≤ 1048576 := by
      rw [hwt, List.length_map]
      have := List.length_filter_le (cE w k) ((s.T.ents []).take i)
      rw [List.length_take] at this
      omega
    have j12 : quintetlaw12_TrieLongest_j12 (fun (x771 : Int) (x772 : Int) (p773 : Option Addr) (A774 : Option Addr) (l774 : Nat) (c774 : Nat) (A775 : Option Addr) (l775 : Nat) (c775 : Nat) (a776 : Addr) (b777 : Bool) (A778 : Option Addr) (l778 : Nat) (c778 : Nat) (x779 : Int) (h780 : Hp) =>
    quintetlaw12_TrieLongest_l11 w k (some ⟨b, 0, none⟩) A l c A2 l2 c2 ab ob K0 K1 f A778 l778 c778 (IntKind.i64.wrap (x779 + 1)) h780) w k (some ⟨b, 0, none⟩) A l c A2 l2 c2 ab ob A' want.length c' i h := by
      refine longJ hw hk hlen (r.ext e) hl ho hbd hwl2 rw_ e hbl fun h' A1 c1 e1 r1 b1 => ?_
      show quintetlaw12_TrieLongest_l11 w k (some ⟨b, 0, none⟩) A l c A2 l2 c2 ab ob K0 K1 f A1 _ c1 (IntKind.i64.wrap ((i : Int) + 1)) h'
      rw [wrap_in (by omega) (by omega)]
      have hcast : (i : Int) + 1 = ((i + 1 : Nat) : Int) := by omega
      rw [hcast]
      refine ih (i + 1) f h' A1 c1 _ (by omega) (by omega) ?_ e1 r1 b1
      rw [filter_snoc (cE w k) _ ho, List.map_append, hwt]
      congr 1
      cases cE w k en <;> rfl
    refine br_t (by simp; omega) ⟨_, hp, _, ld (hcl.at_ 0 _ rfl) (by kernel_rfl), _, hp, _, ld (hcl.at_ 1 _ rfl) (by kernel_rfl), ?_⟩
    have hge := get_ent hw hD hmem
    refine tget_a (q.ext e) (k := kv w en.1) (by omega) (en.1.length : Nat) ?_
    rw [hge]
    refine ⟨_, _, rfl, br_f rfl ⟨_, hp, _, ld (hcl.at_ 2 _ rfl) (by kernel_rfl), br_f (by simp [enW]) ?_⟩⟩
    refine br_i (fun hpos => ?_) (fun _ => j12)
    obtain ⟨i', rfl⟩ : ∃ i', i = i' + 1 := ⟨i - 1, by simp at hpos; omega⟩
    have hlt' : i' < (s.T.ents []).length := by omega
    have ho' : (s.T.ents [])[i']? = some (s.T.ents [])[i'] := List.getElem?_eq_getElem hlt'
    revert ho'
    generalize (s.T.ents [])[i'] = ep
    intro ho'
    have hbf := sorted_get hD ho' ho
    have hin' : ((s.T.ents []).map (enW w))[i']? = some (enW w ep) := by rw [List.getElem?_map, ho']; rfl
    obtain ⟨a', hp', hcl'⟩ := rd_e (c := c) (r.ext e) (by rw [List.length_map, hl]) hin'
    have hsub : IntKind.i64.wrap (((i' + 1 : Nat) : Int) - 1) = (i' : Int) := by rw [wrap_in (by omega) (by omega)]; omega
    rw [hsub]
    refine ⟨_, hp', _, ld (hcl'.at_ 0 _ rfl) (by kernel_rfl), _, hp, _, ld (hcl.at_ 0 _ rfl) (by kernel_rfl), br_f (?_) ⟨_, hp', _, ld (hcl'.at_ 0 _ rfl) (by kernel_rfl), _, hp, _, ld (hcl.at_ 0 _ rfl) (by kernel_rfl), br_i (fun heq => ?_) (fun _ => j12)⟩⟩
    · show decide (((kv w ep.1 : Nat) : Int) > ((kv w en.1 : Nat) : Int)) = false
      rw [decide_eq_false_iff_not]
      rcases hbf with h | h <;> omega
    · refine ⟨_, hp', _, ld (hcl'.at_ 1 _ rfl) (by kernel_rfl), _, hp, _, ld (hcl.at_ 1 _ rfl) (by kernel_rfl), br_f (?_) j12⟩
      show decide (((ep.1.length : Nat) : Int) ≥ ((en.1.length : Nat) : Int)) = false
      have heq' : ((kv w ep.1 : Nat) : Int) = ((kv w en.1 : Nat) : Int) := by
        have : (((kv w ep.1 : Nat) : Int) == ((kv w en.1 : Nat) : Int)) = true := heq
        exact beq_iff_eq.1 this
      rw [decide_eq_false_iff_not]
      rcases hbf with h | h <;> omega
theorem long_l16 {es : List En} {p : Option Addr} {A1 A A' : Option Addr} {l1 c1 l c c' : Nat} {ab : Addr} {ob : Bool} {h : Hp} (r : RSl h A l 3 (es.flatMap En.enc)) (hl : es.length = l) (r' : RSl h A' l 3 (es.flatMap En.enc)) (hbd : l ≤ 1048576) {K0 : Bool → Hp → Prop} {K1 : (Option Addr) → (Option Addr) → Nat → Nat → Addr → Bool → (Option Addr) → Nat → Nat → Hp → Prop} (H : K1 p A1 l1 c1 ab ob A' l c' h) :
    ∀ (d i f : Nat), i + d = l → d < f → quintetlaw12_TrieLongest_l16 p A1 l1 c1 A l c ab ob A' l c' K0 K1 f i h := by
  intro d
  induction d with
  | zero =>
    intro i f hi hf
    obtain ⟨f, rfl⟩ : ∃ f', f = f' + 1 := ⟨f - 1, by omega⟩
    unfold quintetlaw12_TrieLongest_l16
    exact br_f (by simp; omega) H
  | succ d ih =>
    intro i f hi hf
    obtain ⟨f, rfl⟩ : ∃ f', f = f' + 1 := ⟨f - 1, by omega⟩
    unfold quintetlaw12_TrieLongest_l16
    have ho : es[i]? = some es[i] := List.getElem?_eq_getElem (by omega)
    obtain ⟨a, hp, hcl⟩ := rd_e (c := c) r hl ho
    obtain ⟨a', hp', hcl'⟩ := rd_e (c := c') r' hl ho
    refine br_t (by simp; omega) ⟨_, hp, _, _, _, ldS hcl (by kernel_rfl), _, hp', _, _, _, ldS hcl' (by kernel_rfl), _, neE _ _ _ _ _ _, br_f (by simp) ?_⟩
    rw [wrap_in (by omega) (by omega)]
    have hcast : (i : Int) + 1 = ((i + 1 : Nat) : Int) := by omega
    rw [hcast]
    exact ih (i + 1) f (by omega) (by omega)
theorem long_j17 {w : Nat} {most : Int} {s : Ab} {h : Hp} {b : Nat} {S : Nat → Prop} (q : TrG h b S w most s) {A : Option Addr} {l c : Nat} (hl : l = (s.T.ents []).length) {a a' : Addr} {e : En} (c1 : Cl h a e.enc) (c2 : Cl h a' e.enc) {K0 : Bool → Hp → Prop} (H : ∀ h', Ext h h' → K0 true h') : quintetlaw12_TrieLongest_j17 K0 (some ⟨b, 0, none⟩) A l c a a' h := by
  unfold quintetlaw12_TrieLongest_j17
  refine awake_s fun h1 e1 => ⟨_, rfl, br_t rfl ⟨_, _, _, ldS (c1.ext e1) (by kernel_rfl), _, _, _, ldS (c2.ext e1) (by kernel_rfl), _, eq39 _ _ _ _ _ _, br_t (by simp) ?_⟩⟩
  refine tnodes_a (q.ext e1) ⟨_, rfl, br_t ?_ ?_⟩
  · have := Tr.len_ents s.T []
    simp; omega
  refine tnodes_a (q.ext e1) ⟨_, rfl, ?_⟩
  refine tarena_a (q.ext e1) ⟨_, rfl, ?_⟩
  obtain ⟨t, _, G⟩ := q
  have := G.size
  have hd : decide (((s.T.size : Nat) : Int) ≤ ((s.ar : Nat) : Int)) = true := by rw [decide_eq_true_eq]; omega
  rw [hd]
  exact H h1 e1
theorem getLast_ix {es : List En} (hne : es ≠ []) : es[es.length - 1]? = some (lastE es) := by
  unfold lastE
  rw [List.getLastD_eq_getLast?, List.getLast?_eq_getElem?]
  have : es.length - 1 < es.length := by have := List.length_pos_iff.2 hne; omega
  rw [List.getElem?_eq_getElem this]; rfl
theorem TrieLongest_s (w : Int) (A : Option Addr) (c : Nat) (os : List OpR) (hk : ∀ o, o ∈ os → o.key < 4294967296) (k : Nat) (hkk : k < 4294967296) {h : Hp} (r : RSl h A os.length 5 (os.flatMap OpR.enc)) {K : Value → Hp → Prop} (H : ∀ h', Ext h h' → K (.bool true) h') :
    CallsH Try.prog 9 #[.int .i64 w, .slice A os.length c, .int .u32 (k : Int)] h K := by
  refine quintetlaw12_TrieLongest_ok _ _ _ _ _ ?_
  unfold quintetlaw12_TrieLongest
  have aw : CallsH Try.prog 38 #[] h fun r1021 h1020 => ∃ b1022 : Bool, r1021 = (.bool b1022) ∧ K (.bool b1022) h1020 := awake_s fun h1 e1 => ⟨_, rfl, H h1 e1⟩
  have go : (w = 8 ∨ w = 16 ∨ w = 32) → br (decide ((os.length : Int) > 16777216)) (CallsH Try.prog 38 #[] h fun r1021 h1020 => ∃ b1022 : Bool, r1021 = (.bool b1022) ∧ K (.bool b1022) h1020) (quintetlaw12_TrieLongest_j9 (fun (b1026 : Bool) (h1027 : Hp) => K (.bool b1026) h1027) w A os.length c k h) := by
    intro hw3
    refine br_i (fun _ => aw) (fun hlen => ?_)
    have hlen' : os.length ≤ 16777216 := by simp at hlen; omega
    obtain ⟨w, rfl⟩ := Int.eq_ofNat_of_zero_le (a := w) (by omega)
    have hw : W3 w := by unfold W3; omega
    unfold quintetlaw12_TrieLongest_j9
    refine played_s hw r rfl hlen' hk fun h1 b S e1 q hS => ⟨_, rfl, _, eqNil eq32, br_f rfl ?_⟩
    generalize os.foldl (playA w 1048576) ⟨.nil, 0⟩ = s at q
    refine twalk_a q fun h2 lb e2 sq => ⟨_, rfl, ?_⟩
    have q2 := q.ext e2
    refine told_s sq (by have := ents_len q; omega) fun h3 A3 c3 e3 r3 => ⟨_, _, _, rfl, ?_⟩
    have q3 := q2.ext e3
    refine tabove_a q3 hkk w fun h4 lb4 e4 sq4 => ⟨_, rfl, ?_⟩
    refine told_s sq4 (by have := abovL_len q k w; omega) fun h5 A5 c5 e5 r5 => ⟨_, _, _, rfl, ?_⟩
    have q5 := (q3.ext e4).ext e5
    refine tlongest_a q5 hkk fun h6 e6 => ⟨_, _, _, _, rfl, ?_⟩
    have q6 := q5.ext e6
    refine newV (us := (lastE (abovL s.T w k w)).enc) rfl rfl size39 rfl fun h7 e7 c7 b7 z7 => ?_
    have q7 := q6.ext e7
    have e37 := ((e4.trans e5).trans e6).trans e7
    have e57 := e6.trans e7
    have e17 := (e2.trans e3).trans e37
    have hl1 := ents_len q
    rw [List.length_map] at hl1 ⊢
    have hla := abovL_len q k w
    have r37 : RSl h7 A3 (s.T.ents []).length 3 (((s.T.ents []).map (enW w)).flatMap En.enc) := by
      have := r3.read.ext e37
      rw [List.length_map] at this
      exact this
    refine ⟨(s.T.ents []).length + 1, ?_⟩
    refine long_l11 hw hkk q7 r37 rfl hl1 (fun h8 A8 c8 e8 r8 => ?_) (s.T.ents []).length 0 _ h7 none 0 [] (by omega) (by omega) (by simp) (Ext.refl _) (.inl ⟨rfl, rfl, rfl, rfl⟩) (by rintro k ⟨a, ha, _⟩; cases ha)
    refine br_f (by simp) (br_f ?_ ?_)
    · cases abovL s.T w k w <;> simp
    unfold quintetlaw12_TrieLongest_j15
    refine ⟨(abovL s.T w k w).length + 1, ?_⟩
    refine long_l16 (es := abovL s.T w k w) (r5.read.ext (e57.trans e8)) rfl r8.read hla ?_ (abovL s.T w k w).length 0 _ (by omega) (by omega)
    refine newV (cs := (lastE []).enc) (us := (lastE []).enc) rfl rfl size39 rfl fun h9 e9 c9 b9 z9 => ?_
    have q9 := (q7.ext e8).ext e9
    have cx := (c7.ext e8).ext e9
    have eH := ((e1.trans e17).trans e8).trans e9
    refine br_i (fun hne => ?_) (fun hne => ?_)
    · have hne' : abovL s.T w k w ≠ [] := by
        intro h; rw [h] at hne; simp at hne
      have hpos := List.length_pos_iff.2 hne'
      have hsub : IntKind.i64.wrap (((abovL s.T w k w).length : Int) - 1) = (((abovL s.T w k w).length - 1 : Nat) : Int) := by rw [wrap_in (by omega) (by omega)]; omega
      rw [hsub]
      obtain ⟨a, hp, hcl⟩ := rd_e (c := c8) (r8.read.ext e9) rfl (getLast_ix hne')
      refine ⟨_, hp, _, _, _, ldS hcl (by kernel_rfl), ?_⟩
      refine HU_box (us := (lastE (abovL s.T w k w)).enc) (cs := (lastE []).enc) b9 rfl rfl size39 rfl fun h10 c10 b10 f10 z10 => ?_
      have e8_10 : Ext h8 h10 := boxExt e9 (Nat.le_refl _) f10
      have eH10 := ((e1.trans e17).trans e8).trans e8_10
      exact long_j17 ((q7.ext e8).ext e8_10) rfl ((c7.ext e8).ext e8_10) c10 fun h11 e11 => H h11 (eH10.trans e11)
    · have hne' : abovL s.T w k w = [] := by
        cases hx : abovL s.T w k w with
        | nil => rfl
        | cons x xs => rw [hx] at hne; simp at hne
      rw [hne'] at cx
      exact long_j17 q9 rfl cx c9 fun h11 e11 => H h11 (eH.trans e11)
  refine br_i (fun h0 => br_i (fun h1 => br_i (fun h2 => aw) (fun h2 => go (by simp at h2; omega))) (fun h1 => go (by simp at h1; omega))) (fun h0 => go (by simp at h0; omega))
end Go.Proofs.Ytofjbbfnkefoaaa.Fs
