/- TrieUndone. -/
import Derived.Test.YtofjbbfnkefoaaaTrSame2
namespace Go.Proofs.Ytofjbbfnkefoaaa.Fs
open Go Go.RowKit Go.Proofs.Ytofjbbfnkefoaaa.Sx Go.Proofs.Ytofjbbfnkefoaaa.Tp
set_option linter.unusedVariables false
set_option linter.unusedSimpArgs false
set_option maxRecDepth 10000
theorem ents_apart {w : Nat} {T : Tr} (hD : T.Dp w) : (T.ents []).Pairwise fun a b => a.1 ≠ b.1 := by
  refine (ents_sorted (w := w) T w [] hD (by simp)).imp fun {a b} h e => ?_
  rcases h with h | h
  · rw [e] at h; omega
  · rw [e] at h; omega
/-- What is left of a tree when the first i of its entries are cut. -/
def Left (T0 : Tr) (i : Nat) (T : Tr) : Prop := ∀ q v, T.get q = some v ↔ (q, v) ∈ (T0.ents []).drop i
theorem Left.zero (T : Tr) : Left T 0 T := by
  intro q v
  rw [List.drop_zero, Tr.mem_ents]
  simp
theorem Left.step {w : Nat} {T0 T : Tr} (hD : T0.Dp w) {i : Nat} (h : Left T0 i T) {e : List Bool × Int} (he : (T0.ents [])[i]? = some e) : T.get e.1 = some e.2 ∧ Left T0 (i + 1) (T.cut e.1) := by
  have hlt := (List.getElem?_eq_some_iff.1 he).1
  have hdrop : (T0.ents []).drop i = e :: (T0.ents []).drop (i + 1) := by
    rw [List.drop_eq_getElem_cons hlt, (List.getElem?_eq_some_iff.1 he).2]
  have hap := (ents_apart hD).drop (i := i)
  rw [hdrop, List.pairwise_cons] at hap
  refine ⟨(h e.1 e.2).2 (by rw [hdrop]; simp), fun q v => ?_⟩
  rw [Tr.get_cut]
  by_cases hq : q = e.1
  · rw [if_pos hq]
    constructor
    · intro h; cases h
    · intro hm
      exact absurd hq.symm (hap.1 _ hm)
  · rw [if_neg hq, h q v, hdrop, List.mem_cons]
    constructor
    · rintro (h1 | h1)
      · exact absurd (congrArg Prod.fst h1) hq
      · exact h1
    · exact .inr
theorem Left.all {T0 T : Tr} (h : Left T0 (T0.ents []).length T) (o : T.Ok) : T = .nil := by
  cases hT : T with
  | nil => rfl
  | node x l r =>
    obtain ⟨p, v, hp⟩ := Tr.ok_some T o (by rw [hT]; simp)
    have := (h p v).1 hp
    rw [List.drop_length] at this
    cases this
theorem undo_l34 {w : Nat} {most : Int} {T0 : Tr} (hD : T0.Dp w) (hw : W3 w) {g0 : Hp} {b : Nat} {S : Nat → Prop} {A : Option Addr} {l c : Nat} (r : RSl g0 A l 3 (((T0.ents []).map (enW w)).flatMap En.enc)) (hl : (T0.ents []).length = l) (hbd : l ≤ 1048576) (hS : ∀ m, 0 < l → ∀ a, A = some a → a.block = m → ¬ S m)
    {K0 : Bool → Hp → Prop} {K1 : Option Addr → Hp → Prop} (H : ∀ h' s, Fr S g0 h' → TrG h' b S w most s → s.T = .nil → K1 (some ⟨b, 0, none⟩) h') :
    ∀ (d i f : Nat) (h : Hp) (s : Ab), i + d = l → d < f → Fr S g0 h → TrG h b S w most s → Left T0 i s.T → quintetlaw12_TrieUndone_l34 (some ⟨b, 0, none⟩) A l c K0 K1 f i h := by
  have hpw := pow_lt32 hw.le.2
  intro d
  induction d with
  | zero =>
    intro i f h s hi hf fr q hL
    obtain ⟨f, rfl⟩ : ∃ f', f = f' + 1 := ⟨f - 1, by omega⟩
    unfold quintetlaw12_TrieUndone_l34
    obtain ⟨t, qt, G⟩ := id q
    have : i = (T0.ents []).length := by omega
    subst this
    exact br_f (by simp; omega) (H h s fr q (hL.all G.ok))
  | succ d ih =>
    intro i f h s hi hf fr q hL
    obtain ⟨f, rfl⟩ : ∃ f', f = f' + 1 := ⟨f - 1, by omega⟩
    unfold quintetlaw12_TrieUndone_l34
    have hlt : i < (T0.ents []).length := by omega
    have ho : (T0.ents [])[i]? = some (T0.ents [])[i] := List.getElem?_eq_getElem hlt
    revert ho
    generalize (T0.ents [])[i] = en
    intro ho
    have hmem : en ∈ T0.ents [] := List.mem_of_getElem? ho
    obtain ⟨hlen, _⟩ := ent_in hD hmem
    obtain ⟨hget, hL'⟩ := hL.step hD ho
    have hin : ((T0.ents []).map (enW w))[i]? = some (enW w en) := by rw [List.getElem?_map, ho]; rfl
    have rk : RSl h A l 3 (((T0.ents []).map (enW w)).flatMap En.enc) := by
      refine ⟨r.1, ?_⟩
      rcases r.2 with h1 | ⟨a, ha, hcl⟩
      · exact .inl h1
      · exact .inr ⟨a, ha, fr.cl hcl (hS _ (by omega) a ha rfl)⟩
    obtain ⟨a, hp, hcl⟩ := rd_e (c := c) rk (by rw [List.length_map, hl]) hin
    have hkl := kv_lt w en.1 hlen
    refine br_t (by simp; omega) ⟨_, hp, _, ld (hcl.at_ 0 _ rfl) (by kernel_rfl), _, hp, _, ld (hcl.at_ 1 _ rfl) (by kernel_rfl), ?_⟩
    have hcut : cutA w s (kv w en.1) (en.1.length : Nat) = (0, ⟨s.T.cut en.1, s.ar⟩) := by
      unfold cutA
      rw [if_pos (may_kv hw hlen), Int.toNat_natCast, pa_kv _ _ hlen, if_neg (by rw [hget]; simp)]
    refine tcut_a q (k := kv w en.1) (by omega) (en.1.length : Nat) ?_
    rw [hcut]
    intro h2 q2 f2
    refine ⟨_, rfl, br_f rfl ?_⟩
    rw [wrap_in (by omega) (by omega)]
    have hcast : (i : Int) + 1 = ((i + 1 : Nat) : Int) := by omega
    rw [hcast]
    exact ih (i + 1) f h2 _ (by omega) (by omega) (fr.trans f2) q2 hL'
theorem undo_j33 {w : Nat} {most : Int} (hw : W3 w) {s : Ab} {h0 h : Hp} {b : Nat} {S : Nat → Prop} (q : TrG h b S w most s) (e0 : Ext h0 h) (hS : ∀ k, S k → h0.size ≤ k) {K0 : Bool → Hp → Prop} (H : ∀ h', Ext h0 h' → K0 true h') : quintetlaw12_TrieUndone_j33 K0 (some ⟨b, 0, none⟩) h := by
  obtain ⟨t, qt, G⟩ := id q
  have hSl := qt.2.1
  unfold quintetlaw12_TrieUndone_j33
  refine twalk_a q fun h2 lb e2 sq => ⟨_, rfl, ?_⟩
  have hl1 := ents_len q
  -- the row is laid beside the trie
  refine told_s' sq (by omega) fun h3 A3 c3 e3 r3 hA => ⟨_, _, _, rfl, ?_⟩
  rw [List.length_map] at hl1 ⊢
  have q3 := (q.ext e2).ext e3
  refine ⟨(s.T.ents []).length + 1, ?_⟩
  have r3' := r3.read
  rw [List.length_map] at r3'
  have E3 := (e0.trans e2).trans e3
  refine undo_l34 (most := most) G.dp hw r3' rfl hl1 (fun m _ a ha hm hs => ?_) (fun h4 s4 f4 q4 hn => ?_) (s.T.ents []).length 0 _ h3 s (by omega) (by omega) (Fr.refl _ _) q3 (Left.zero _)
  · have h1 := hA m ⟨a, ha, hm⟩
    have h2 := hSl m hs
    have := e2.size
    omega
  · have E4 : Ext h0 h4 := ⟨Nat.le_trans E3.size f4.size, fun k hk => by rw [f4.keep k (Nat.lt_of_lt_of_le hk E3.size) (fun hs => by have := hS k hs; omega), E3.old k hk]⟩
    refine awake_s fun h5 e5 => ⟨_, rfl, br_t rfl ?_⟩
    refine tnodes_a (q4.ext e5) ⟨_, rfl, br_t (by rw [hn]; rfl) ?_⟩
    refine twalk_a (q4.ext e5) fun h6 lb6 e6 sq6 => ⟨_, rfl, ?_⟩
    rw [hn] at sq6
    have sq6' : SeqAt h6 56 lb6 ([] : List En) := sq6
    exact same_s (L := []) sq6' (A := none) (c := 0) ⟨by simp, .inl rfl⟩ (by simp) 0 (by decide) (by decide) fun h7 e7 => ⟨_, rfl, H h7 (((E4.trans e5).trans e6).trans e7)⟩
end Go.Proofs.Ytofjbbfnkefoaaa.Fs
