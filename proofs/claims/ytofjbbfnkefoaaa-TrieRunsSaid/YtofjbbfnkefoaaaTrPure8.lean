/- What is held, as a list in the keys' order: insertion, deletion, how many nodes it takes. -/
import Derived.Test.YtofjbbfnkefoaaaTrPure2
namespace Go.Proofs.Ytofjbbfnkefoaaa.Tp
set_option linter.unusedVariables false
set_option linter.unusedSimpArgs false
abbrev Ent := List Bool × Int
theorem sorted_ext {α : Type} {R : α → α → Prop} (hR : ∀ a b, R a b → ¬ R b a) : ∀ (l1 l2 : List α), l1.Pairwise R → l2.Pairwise R → (∀ x, x ∈ l1 ↔ x ∈ l2) → l1 = l2
  | [], [], _, _, _ => rfl
  | [], b :: l2, _, _, h => by have := (h b).2 (by simp); cases this
  | a :: l1, [], _, _, h => by have := (h a).1 (by simp); cases this
  | a :: l1, b :: l2, h1, h2, h => by
    rw [List.pairwise_cons] at h1 h2
    have e : a = b := by
      rcases List.mem_cons.1 ((h a).1 (by simp)) with e | ha
      · exact e
      · rcases List.mem_cons.1 ((h b).2 (by simp)) with e | hb
        · exact e.symm
        · exact absurd (h2.1 a ha) (hR _ _ (h1.1 b hb))
    subst e
    congr 1
    refine sorted_ext hR l1 l2 h1.2 h2.2 fun x => ⟨fun hx => ?_, fun hx => ?_⟩
    · rcases List.mem_cons.1 ((h x).1 (by simp [hx])) with e | hx'
      · subst e; exact absurd (h1.1 x hx) (fun hh => hR _ _ hh hh)
      · exact hx'
    · rcases List.mem_cons.1 ((h x).2 (by simp [hx])) with e | hx'
      · subst e; exact absurd (h2.1 x hx) (fun hh => hR _ _ hh hh)
      · exact hx'
theorem Bf.asymm {w : Nat} (a b : Ent) : Bf w a b → ¬ Bf w b a := by
  rintro (h | ⟨h1, h2⟩) (h' | ⟨h3, h4⟩) <;> omega
def ltE (w : Nat) (a b : Ent) : Bool := decide (kv w a.1 < kv w b.1) || (decide (kv w a.1 = kv w b.1) && decide (a.1.length < b.1.length))
theorem ltE_iff {w : Nat} {a b : Ent} : ltE w a b = true ↔ Bf w a b := by simp [ltE, Bf]
def insE (w : Nat) (e : Ent) : List Ent → List Ent
  | [] => [e]
  | x :: l => if ltE w e x = true then e :: x :: l else x :: insE w e l
theorem mem_ins {w : Nat} {e : Ent} : ∀ (l : List Ent) (y : Ent), y ∈ insE w e l ↔ y = e ∨ y ∈ l
  | [], y => by simp [insE]
  | x :: l, y => by
    rw [insE]
    split
    · simp
    · rw [List.mem_cons, mem_ins l y, List.mem_cons]
      constructor
      · rintro (h | h | h)
        · exact .inr (.inl h)
        · exact .inl h
        · exact .inr (.inr h)
      · rintro (h | h | h)
        · exact .inr (.inl h)
        · exact .inl h
        · exact .inr (.inr h)
theorem Bf.trans {w : Nat} {a b c : Ent} (h1 : Bf w a b) (h2 : Bf w b c) : Bf w a c := by
  rcases h1 with h | ⟨h, h'⟩ <;> rcases h2 with k | ⟨k, k'⟩
  · exact .inl (by omega)
  · exact .inl (by omega)
  · exact .inl (by omega)
  · exact .inr ⟨by omega, by omega⟩
theorem ins_sorted {w : Nat} {e : Ent} : ∀ (l : List Ent), l.Pairwise (Bf w) → (∀ x, x ∈ l → Bf w e x ∨ Bf w x e) → (insE w e l).Pairwise (Bf w)
  | [], _, _ => by simp [insE]
  | x :: l, h, hc => by
    rw [insE]
    have h' := List.pairwise_cons.1 h
    split
    · rename_i hlt
      rw [ltE_iff] at hlt
      refine List.pairwise_cons.2 ⟨fun y hy => ?_, h⟩
      rcases List.mem_cons.1 hy with rfl | hy
      · exact hlt
      · exact hlt.trans (h'.1 y hy)
    · rename_i hlt
      rw [ltE_iff] at hlt
      refine List.pairwise_cons.2 ⟨fun y hy => ?_, ins_sorted l h'.2 fun z hz => hc z (by simp [hz])⟩
      rcases (mem_ins l y).1 hy with rfl | hy
      · rcases hc x (by simp) with hh | hh
        · exact absurd hh hlt
        · exact hh
      · exact h'.1 y hy
theorem Bf.total {w : Nat} {a b : Ent} (ha : a.1.length ≤ w) (hb : b.1.length ≤ w) (hne : a.1 ≠ b.1) : Bf w a b ∨ Bf w b a := by
  by_cases h : kv w a.1 = kv w b.1
  · by_cases h2 : a.1.length = b.1.length
    · exact absurd (kv_inj ha hb h2 h) hne
    · by_cases h3 : a.1.length < b.1.length
      · exact .inl (.inr ⟨h, h3⟩)
      · exact .inr (.inr ⟨h.symm, by omega⟩)
  · by_cases h3 : kv w a.1 < kv w b.1
    · exact .inl (.inl h3)
    · exact .inr (.inl (by omega))
theorem mem0 {T : Tr} {p : List Bool} {v : Int} : (p, v) ∈ T.ents [] ↔ T.get p = some v := by
  rw [Tr.mem_ents]; simp
theorem sorted0 {w : Nat} {T : Tr} (d : T.Dp w) : (T.ents []).Pairwise (Bf w) := ents_sorted T w [] d (by simp)
theorem ents_put_new {w : Nat} {T : Tr} (d : T.Dp w) {p : List Bool} (hp : p.length ≤ w) (v : Int) (hg : T.get p = none) : (T.put v p).ents [] = insE w (p, v) (T.ents []) := by
  refine sorted_ext Bf.asymm _ _ (sorted0 (Tr.Dp.put v w p T d hp)) (ins_sorted _ (sorted0 d) fun x hx => ?_) fun ⟨q, u⟩ => ?_
  · obtain ⟨q, u⟩ := x
    have hq := mem0.1 hx
    refine Bf.total hp (d.get w T q (by rw [hq]; simp)) fun e => ?_
    have e' : p = q := e
    rw [e'] at hg
    rw [hg] at hq
    cases hq
  · rw [mem_ins, mem0, mem0, Tr.get_put]
    by_cases h : q = p
    · subst h
      simp [hg]
      exact ⟨fun h => h.symm, fun h => h.symm⟩
    · simp [h]
def setE (p : List Bool) (v : Int) (e : Ent) : Ent := if e.1 = p then (p, v) else e
theorem setE_1 (p : List Bool) (v : Int) (e : Ent) : (setE p v e).1 = e.1 := by
  unfold setE
  split
  · rename_i h; exact h.symm
  · rfl
theorem ents_put_old {w : Nat} {T : Tr} (d : T.Dp w) {p : List Bool} (hp : p.length ≤ w) (v : Int) (hg : T.get p ≠ none) : (T.put v p).ents [] = (T.ents []).map (setE p v) := by
  refine sorted_ext Bf.asymm _ _ (sorted0 (Tr.Dp.put v w p T d hp)) ?_ fun ⟨q, u⟩ => ?_
  · rw [List.pairwise_map]
    refine (sorted0 d).imp fun {a b} h => ?_
    unfold Bf at h ⊢
    rw [setE_1, setE_1]
    exact h
  · rw [mem0, Tr.get_put, List.mem_map]
    constructor
    · intro h
      by_cases hq : q = p
      · rw [if_pos hq] at h
        obtain ⟨v0, hv0⟩ := Option.ne_none_iff_exists'.1 hg
        refine ⟨(p, v0), mem0.2 hv0, ?_⟩
        unfold setE
        rw [if_pos rfl, hq]
        injection h with h
        rw [h]
      · rw [if_neg hq] at h
        exact ⟨(q, u), mem0.2 h, by unfold setE; rw [if_neg hq]⟩
    · rintro ⟨⟨q', u'⟩, h1, h2⟩
      have hq := congrArg Prod.fst h2
      rw [setE_1] at hq
      have hq' : q' = q := hq
      subst hq'
      unfold setE at h2
      split at h2
      · rename_i hqp
        have hqp' : q' = p := hqp
        rw [if_pos hqp']
        injection h2 with _ h2
        rw [h2]
      · rename_i hqp
        rw [if_neg hqp]
        injection h2 with _ h2
        rw [← h2]
        exact mem0.1 h1
theorem ents_cut {w : Nat} {T : Tr} (d : T.Dp w) (p : List Bool) : (T.cut p).ents [] = (T.ents []).filter fun e => decide (e.1 ≠ p) := by
  refine sorted_ext Bf.asymm _ _ (sorted0 (Tr.Dp.cut w p T d)) ((sorted0 d).filter _) fun ⟨q, u⟩ => ?_
  rw [mem0, Tr.get_cut, List.mem_filter, mem0]
  by_cases h : q = p <;> simp [h]
/-! ### How many nodes -/
def lcp : List Bool → List Bool → Nat
  | a :: p, b :: q => if a = b then lcp p q + 1 else 0
  | _, _ => 0
/-- How many of an entry's beginnings are known from the one before it. -/
def c1 : Option (List Bool) → List Bool → Nat
  | none, _ => 0
  | some a, q => lcp a q + 1
def cnt : Option (List Bool) → List (List Bool) → Nat
  | _, [] => 0
  | o, p :: l => (p.length + 1 - c1 o p) + cnt (some p) l
def lastO : Option (List Bool) → List (List Bool) → Option (List Bool)
  | o, [] => o
  | _, p :: l => lastO (some p) l
theorem cnt_app : ∀ (l1 l2 : List (List Bool)) (o : Option (List Bool)), cnt o (l1 ++ l2) = cnt o l1 + cnt (lastO o l1) l2
  | [], l2, o => by simp [cnt, lastO]
  | p :: l1, l2, o => by simp [cnt, lastO, cnt_app l1 l2]; omega
theorem lcp_le : ∀ (a q : List Bool), lcp a q ≤ q.length
  | [], q => by simp [lcp]
  | a :: p, [] => by simp [lcp]
  | a :: p, b :: q => by
    rw [lcp]
    split
    · have := lcp_le p q; simp; omega
    · simp
theorem lcp_app : ∀ (a q s : List Bool), lcp a q < q.length → lcp a (q ++ s) = lcp a q
  | [], q, s, h => by cases q <;> simp [lcp] <;> cases s <;> rfl
  | a :: p, [], s, h => by simp at h
  | a :: p, b :: q, s, h => by
    rw [List.cons_append, lcp, lcp]
    by_cases e : a = b
    · rw [if_pos e, if_pos e, lcp_app p q s (by rw [lcp, if_pos e] at h; simp at h; omega)]
    · rw [if_neg e, if_neg e]
theorem lcp_self_app : ∀ (q s : List Bool), lcp q (q ++ s) = q.length
  | [], s => by cases s <;> rfl
  | b :: q, s => by rw [List.cons_append, lcp, if_pos rfl, lcp_self_app q s]; rfl
theorem lcp_turn : ∀ (q s s' : List Bool), lcp (q ++ false :: s) (q ++ true :: s') = q.length
  | [], s, s' => by simp [lcp]
  | b :: q, s, s' => by rw [List.cons_append, List.cons_append, lcp, if_pos rfl, lcp_turn q s s']; rfl
theorem c1_app {o : Option (List Bool)} {q : List Bool} (h : c1 o q ≤ q.length) (s : List Bool) : c1 o (q ++ s) = c1 o q := by
  cases o with
  | none => rfl
  | some a => rw [c1, c1, lcp_app a q s (by rw [c1] at h; omega)]
theorem lastO_in : ∀ (l : List (List Bool)) (o : Option (List Bool)), l ≠ [] → ∃ p, p ∈ l ∧ lastO o l = some p
  | [], o, h => absurd rfl h
  | [p], o, _ => ⟨p, by simp, rfl⟩
  | p :: q :: l, o, _ => by
    obtain ⟨r, h1, h2⟩ := lastO_in (q :: l) (some p) (by simp)
    exact ⟨r, by simp [List.mem_cons.1 h1], h2⟩
def pths (T : Tr) (q : List Bool) : List (List Bool) := (T.ents q).map (·.1)
theorem pths_node (x : Option Int) (l r : Tr) (q : List Bool) : pths (.node x l r) q = (Tr.hdE x q).map (·.1) ++ (pths l (q ++ [false]) ++ pths r (q ++ [true])) := by
  unfold pths
  rw [Tr.ents, List.map_append, List.map_append]
theorem pths_ne {T : Tr} (o : T.Ok) (h : T ≠ .nil) (q : List Bool) : pths T q ≠ [] := by
  obtain ⟨p, v, hp⟩ := Tr.ok_some T o h
  have : (q ++ p, v) ∈ T.ents q := (Tr.mem_ents T q _ v).2 ⟨p, rfl, hp⟩
  intro e
  have : q ++ p ∈ pths T q := List.mem_map.2 ⟨_, this, rfl⟩
  rw [e] at this
  cases this
theorem pths_pre {T : Tr} {q p : List Bool} (h : p ∈ pths T q) : ∃ s, p = q ++ s := by
  obtain ⟨⟨p', v⟩, h1, rfl⟩ := List.mem_map.1 h
  obtain ⟨s, hs, _⟩ := (Tr.mem_ents T q p' v).1 h1
  exact ⟨s, hs⟩
theorem cnt_tree : ∀ (T : Tr) (q : List Bool) (o : Option (List Bool)), T.Ok → T ≠ .nil → c1 o q ≤ q.length → cnt o (pths T q) + c1 o q = T.size + q.length
  | .nil, _, _, _, h, _ => absurd rfl h
  | .node x l r, q, o, hok, _, hc => by
    rw [pths_node, cnt_app]
    -- behind the node itself
    have sub : ∀ (o' : Option (List Bool)) (hd : Nat), c1 o' q ≤ q.length + 1 → (c1 o' q ≤ q.length ∨ o' = some q) → (l ≠ .nil ∨ r ≠ .nil ∨ c1 o' q = q.length + 1) → cnt o' (pths l (q ++ [false]) ++ pths r (q ++ [true])) + c1 o' q = l.size + r.size + q.length + 1 := by
      intro o' hd h1 h2 h3
      have hs : ∀ b : Bool, c1 o' (q ++ [b]) = c1 o' q := by
        intro b
        rcases h2 with h2 | h2
        · exact c1_app h2 [b]
        · subst h2
          rw [c1, c1, lcp_self_app]
          have := lcp_self_app q []
          rw [List.append_nil] at this
          rw [this]
      have hsl : ∀ b : Bool, c1 o' (q ++ [b]) ≤ (q ++ [b]).length := fun b => by rw [hs b, List.length_append, List.length_singleton]; exact h1
      rw [cnt_app]
      by_cases hl : l = .nil
      · have hpl : pths l (q ++ [false]) = [] := by rw [hl]; rfl
        rw [hpl]
        simp only [cnt, lastO]
        by_cases hr : r = .nil
        · have hpr : pths r (q ++ [true]) = [] := by rw [hr]; rfl
          rw [hpr, hl, hr]
          rcases h3 with h3 | h3 | h3
          · exact absurd hl h3
          · exact absurd hr h3
          · simp only [cnt, Tr.size]; omega
        · have ih := cnt_tree r (q ++ [true]) o' hok.2.1 hr (hsl true)
          rw [hs true, List.length_append, List.length_singleton] at ih
          rw [hl]
          simp only [Tr.size]
          omega
      · have ih := cnt_tree l (q ++ [false]) o' hok.1 hl (hsl false)
        rw [hs false, List.length_append, List.length_singleton] at ih
        obtain ⟨p, hp, hlast⟩ := lastO_in (pths l (q ++ [false])) o' (pths_ne hok.1 hl _)
        rw [hlast]
        by_cases hr : r = .nil
        · have hpr : pths r (q ++ [true]) = [] := by rw [hr]; rfl
          rw [hpr, hr]
          simp only [cnt, Tr.size]
          omega
        · obtain ⟨s, rfl⟩ := pths_pre hp
          have hk : c1 (some (q ++ [false] ++ s)) (q ++ [true]) = q.length + 1 := by
            rw [c1, List.append_assoc, List.singleton_append]
            have := lcp_turn q s []
            rw [this]
          have ih2 := cnt_tree r (q ++ [true]) (some (q ++ [false] ++ s)) hok.2.1 hr (by rw [hk]; simp)
          rw [hk, List.length_append, List.length_singleton] at ih2
          omega
    cases x with
    | none =>
      simp only [Tr.hdE, List.map_nil, cnt, lastO]
      have := sub o 0 (by omega) (.inl hc) (by
        rcases hok.2.2 with h | h | h
        · exact absurd rfl h
        · exact .inl h
        · exact .inr (.inl h))
      simp only [Tr.size]
      omega
    | some y =>
      simp only [Tr.hdE, List.map_cons, List.map_nil, cnt, lastO]
      have hself : c1 (some q) q = q.length + 1 := by
        have := lcp_self_app q []
        rw [List.append_nil] at this
        rw [c1, this]
      have := sub (some q) 0 (by omega) (.inr rfl) (.inr (.inr hself))
      rw [hself] at this
      simp only [Tr.size]
      omega
theorem cnt_size {T : Tr} (o : T.Ok) : cnt none (pths T []) = T.size := by
  cases hT : T with
  | nil => rfl
  | node x l r =>
    have := cnt_tree T [] none o (by rw [hT]; simp) (by simp [c1])
    rw [← hT]
    simpa [c1] using this
end Go.Proofs.Ytofjbbfnkefoaaa.Tp
