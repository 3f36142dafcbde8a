/- Arguments laid open: slices of structs that hold slices of flat structs. -/
import Derived.Test.YtomhkbhgpmcbiaaGreatSxOpen2
namespace Go.Proofs.YtomhkbhgpmcbiaaGreat.Sx
open Go Go.RowKit Go.ChangeShapes Go.WideShapes Go.Deep
set_option linter.unusedVariables false
/-- Cells by their kinds: a whole number of a kind, or a slice of rows of numbers. -/
inductive Fits2 (h : Hp) : List (IntKind ⊕ List IntKind) → List Value → Prop where
  | nil : Fits2 h [] []
  | int (k : IntKind) (n : Int) {ks : List (IntKind ⊕ List IntKind)} {cs : List Value} (w : (Lit.int k n).wf = true) (r : Fits2 h ks cs) : Fits2 h (.inl k :: ks) (.int k n :: cs)
  | sl (A : Option Addr) (rows : List (List Int)) (c : Nat) {qs : List IntKind} {ks : List (IntKind ⊕ List IntKind)} {cs : List Value} (hr : RSl h A rows.length qs.length (rows.flatMap (List.zipWith Value.int qs))) (hc : rows.length ≤ c)
      (wf : ∀ ns ∈ rows, ns.length = qs.length ∧ ∀ p ∈ qs.zip ns, (Lit.int p.1 p.2).wf = true) (r : Fits2 h ks cs) : Fits2 h (.inr qs :: ks) (.slice A rows.length c :: cs)
theorem Fits2.append {h : Hp} : ∀ {ks : List (IntKind ⊕ List IntKind)} {cs : List Value} {ks' : List (IntKind ⊕ List IntKind)} {cs' : List Value}, Fits2 h ks cs → Fits2 h ks' cs' → Fits2 h (ks ++ ks') (cs ++ cs')
  | _, _, _, _, .nil, h' => h'
  | _, _, _, _, .int k n w r, h' => .int k n w (r.append h')
  | _, _, _, _, .sl A l c hr hc wf r, h' => .sl A l c hr hc wf (r.append h')
theorem Fits2.len {h : Hp} : ∀ {ks : List (IntKind ⊕ List IntKind)} {cs : List Value}, Fits2 h ks cs → cs.length = ks.length
  | _, _, .nil => rfl
  | _, _, .int k n w r => by simp [r.len]
  | _, _, .sl A l c hr hc wf r => by simp [r.len]
def mix2Fields (P : Program) (g : TypeId → Option (List (IntKind ⊕ List IntKind))) : List Field → Nat → Option (List (IntKind ⊕ List IntKind))
  | [], _ => some []
  | f :: r, off => match g f.type with
    | some ks => if f.offset = off ∧ P.cellsOf f.type = ks.length then (mix2Fields P g r (off + ks.length)).map (ks ++ ·) else none
    | none => none
def mix2Kinds (P : Program) : Nat → TypeId → Option (List (IntKind ⊕ List IntKind))
  | 0, _ => none
  | n + 1, t => match P.underlying t with
    | some (.int k) => some [.inl k]
    | some (.slice e) => match flatKinds P n e with
      | some qs => if P.cellsOf e = qs.length ∧ 0 < qs.length then some [.inr qs] else none
      | none => none
    | some (.struct fs) => match mix2Fields P (mix2Kinds P n) fs.toList 0 with
      | some ks => if P.cellsOf t = ks.length then some ks else none
      | none => none
    | _ => none
section
variable {H : Type} {enc : TypeId × Value → H} {P : Program} {w : World} {base : Nat} {spare : Nat → Bool} {held : Bool}
/-- Rows of elements that are each laid open by a function of their own: as the heap tells them. -/
theorem rows_gen {a : Addr} {len C : Nat} {α : Type} {f : α → List Value} (hf : ∀ x, (f x).length = C) (l : List α) (hl : l.length = len) (h0 : 0 < len) (h0C : 0 < C)
    (hat : ∀ i x, l[i]? = some x → ∀ j u, (f x)[j]? = some u → w.cell? (a.add (i * C + j)) = some u) : RSl w.heap (some a) len C (l.flatMap f) := by
  subst hl
  refine ⟨flat_len hf l, .inr ⟨a, rfl, ?_, fun j u hj => ?_⟩⟩
  · have hx : l[0]? = some (l[0]'h0) := List.getElem?_eq_getElem _
    have hg : (f (l[0]'h0))[0]? = some ((f (l[0]'h0))[0]'(by rw [hf]; exact h0C)) := List.getElem?_eq_getElem _
    have hc := hat 0 _ hx 0 _ hg
    rw [Nat.zero_mul, Nat.zero_add] at hc
    have hc' : w.cell? a = _ := hc
    unfold World.cell? at hc'
    split at hc'
    · cases hsp : a.spot with
      | none => rfl
      | some s => rw [hsp] at hc'; cases hc'
    · cases hc'
  · have hjl : j < l.length * C := by rw [← flat_len hf l]; exact (List.getElem?_eq_some_iff.1 hj).1
    have hi : j / C < l.length := by rw [Nat.div_lt_iff_lt_mul h0C]; exact hjl
    have hm : j % C < C := Nat.mod_lt _ h0C
    have hx : l[j / C]? = some (l[j / C]'hi) := List.getElem?_eq_getElem _
    have e := flat_get hf l (j / C) (j % C) _ hx hm
    have hd : j / C * C + j % C = j := Nat.div_add_mod' j C
    rw [hd] at e
    rw [e] at hj
    have := hat _ _ hx _ _ hj
    rw [hd] at this
    exact this
theorem rows_open {t e : TypeId} {fuel : Nat} {cs : List Value} {x : DataW H × List MemPlace} (n : Nat) (ks : List IntKind) (hs : P.underlying t = some (.slice e)) (hk : flatKinds P n e = some ks) (hC : P.cellsOf e = ks.length) (h0 : 0 < ks.length) (hf : DataW.trod enc P w base spare held fuel t cs = some x) :
    ∃ (A : Option Addr) (l : List (List Int)) (cap : Nat), cs = [.slice A l.length cap] ∧ RSl w.heap A l.length ks.length (l.flatMap (List.zipWith Value.int ks)) ∧ l.length ≤ cap ∧ ∀ ns ∈ l, ns.length = ks.length ∧ ∀ p ∈ ks.zip ns, (Lit.int p.1 p.2).wf = true := by
  rcases open_slice hs hf with ⟨hcs, _⟩ | ⟨a, len, cap, m, q, D, Pl, hcs, hb, hl, hm, hmm, hx, hi⟩
  · exact ⟨none, [], 0, hcs, ⟨by simp, .inl rfl⟩, Nat.le_refl _, by simp⟩
  · have hml : len ≤ m := by rw [hmm]; split <;> omega
    have hel : ∀ i, i < len → ∃ ns : List Int, ns.length = ks.length ∧ (∀ p ∈ ks.zip ns, (Lit.int p.1 p.2).wf = true) ∧ ∀ j u, (List.zipWith Value.int ks ns)[j]? = some u → w.cell? (a.add (i * ks.length + j)) = some u := by
      intro i hil
      obtain ⟨cs', hc, ht⟩ := hi i (by omega)
      obtain ⟨ns, l, e', w'⟩ := flat_open n e ks q _ _ hk ht
      refine ⟨ns, l, w', fun j u hj => ?_⟩
      obtain ⟨_, hcl, hat⟩ := World.cells?_some hc
      rw [hC] at hat hcl
      rw [← e'] at hj
      have hjl : j < ks.length := by
        have := (List.getElem?_eq_some_iff.1 hj).1
        omega
      have := hat j hjl
      rw [← Go.Deep.add_add, this]
      exact hj
    obtain ⟨f, hf⟩ : ∃ f : Nat → List Int, ∀ i, i < len → (f i).length = ks.length ∧ (∀ p ∈ ks.zip (f i), (Lit.int p.1 p.2).wf = true) ∧ ∀ j u, (List.zipWith Value.int ks (f i))[j]? = some u → w.cell? (a.add (i * ks.length + j)) = some u :=
      ⟨fun i => if h : i < len then Classical.choose (hel i h) else [], fun i h => by simp only [dif_pos h]; exact Classical.choose_spec (hel i h)⟩
    have hlen : ((List.range len).map f).length = len := by simp
    have hmem : ∀ i x, ((List.range len).map f)[i]? = some x → i < len ∧ x = f i := fun i x hx => by
      have := List.getElem?_eq_some_iff.1 hx
      simp at this
      exact ⟨this.1, this.2.symm⟩
    refine ⟨some a, (List.range len).map f, cap, by rw [hlen]; exact hcs, ?_, by rw [hlen]; exact hl, fun x hx => ?_⟩
    · rw [hlen]
      rcases Nat.eq_zero_or_pos len with hz | hz
      · subst hz; exact ⟨by simp, .inl rfl⟩
      · -- the rows' lengths are told for those that are there
        let g : {ns : List Int // ns.length = ks.length} → List Value := fun ns => List.zipWith Value.int ks ns.1
        let F : List {ns : List Int // ns.length = ks.length} := (List.range len).pmap (fun i hi => ⟨f i, (hf i hi).1⟩) (fun i hi => List.mem_range.1 hi)
        have hF : F.flatMap g = ((List.range len).map f).flatMap (List.zipWith Value.int ks) := by
          rw [← List.flatMap_map (f := Subtype.val)]
          congr 1
          rw [List.map_pmap, List.pmap_eq_map]
        rw [← hF]
        refine rows_gen (f := g) (fun x => by simp [g, x.2]) F (by simp [F]) hz h0 (fun i x hx j u hj => ?_)
        have hx' := List.getElem?_eq_some_iff.1 hx
        obtain ⟨h1, h2⟩ := hx'
        simp only [F, List.length_pmap, List.length_range] at h1
        simp only [F, List.getElem_pmap, List.getElem_range] at h2
        subst h2
        exact (hf i h1).2.2 j u hj
    · obtain ⟨i, hi', rfl⟩ := List.mem_map.1 hx
      exact ⟨(hf i (List.mem_range.1 hi')).1, (hf i (List.mem_range.1 hi')).2.1⟩
theorem mix2_fields {g : TypeId → Option (List (IntKind ⊕ List IntKind))} {cs : List Value} {n : Nat}
    (hg : ∀ t ks cs x, g t = some ks → DataW.trod enc P w base spare held n t cs = some x → Fits2 w.heap ks cs) :
    ∀ (L : List Field) (off : Nat) (ks : List (IntKind ⊕ List IntKind)), mix2Fields P g L off = some ks → (∀ f ∈ L, ∃ y, DataW.trod enc P w base spare held n f.type ((cs.drop f.offset).take (P.cellsOf f.type)) = some y) →
      Fits2 w.heap ks ((cs.drop off).take ks.length)
  | [], off, ks, h, _ => by
    simp only [mix2Fields, Option.some.injEq] at h
    subst h
    simpa using Fits2.nil
  | f :: r, off, ks, h, hf => by
    unfold mix2Fields at h
    cases hk : g f.type with
    | none => rw [hk] at h; cases h
    | some k0 =>
      rw [hk] at h
      simp only at h
      split at h
      · rename_i hc
        obtain ⟨h1, h2⟩ := hc
        obtain ⟨k1, hk1, rfl⟩ := Option.map_eq_some_iff.1 h
        obtain ⟨y, hy⟩ := hf f List.mem_cons_self
        have e0 := hg _ _ _ _ hk hy
        have e1 := mix2_fields hg r _ k1 hk1 (fun f' hf' => hf f' (List.mem_cons_of_mem _ hf'))
        rw [h1, h2] at e0
        rw [List.length_append, List.take_add, List.drop_drop]
        exact e0.append e1
      · cases h
theorem mix2_open : ∀ (n : Nat) (t : TypeId) (ks : List (IntKind ⊕ List IntKind)) (fuel : Nat) (cs : List Value) (x : DataW H × List MemPlace), mix2Kinds P n t = some ks → DataW.trod enc P w base spare held fuel t cs = some x → Fits2 w.heap ks cs
  | 0, _, _, _, _, _, h, _ => by cases h
  | n + 1, t, ks, fuel, cs, x, h, hx => by
    unfold mix2Kinds at h
    split at h
    · rename_i k hu
      simp only [Option.some.injEq] at h
      subst h
      obtain ⟨m, rfl, _, hw⟩ := DataW.trod_int hu hx
      exact .int k m hw .nil
    · rename_i e hu
      split at h
      · rename_i qs hqs
        split at h
        · rename_i hc
          simp only [Option.some.injEq] at h
          subst h
          obtain ⟨A, l, cap, rfl, hr, hcap, wf⟩ := rows_open n qs hu hqs hc.1 hc.2 hx
          exact .sl A l cap hr hcap wf .nil
        · cases h
      · cases h
    · rename_i fs hu
      split at h
      · rename_i k0 hk0
        split at h
        · rename_i hc
          simp only [Option.some.injEq] at h
          subst h
          obtain ⟨xs, m, rfl, _, hlen, hxl, hf⟩ := DataW.trod_struct hu hx
          have e := mix2_fields (cs := cs) (n := m) (fun t' ks' cs' x' h' hx' => mix2_open n t' ks' m cs' x' h' hx') fs.toList 0 k0 hk0 (fun f hf' => by
            obtain ⟨i, hi, rfl⟩ := List.mem_iff_getElem.1 hf'
            have hi' : i < xs.length := by rw [hxl]; simpa using hi
            refine ⟨xs[i], ?_⟩
            rw [hf i _ (by simp at hi ⊢)]
            exact List.getElem?_eq_getElem hi')
          rw [List.drop_zero, List.take_of_length_le (Nat.le_of_eq (hlen.trans hc))] at e
          exact e
        · cases h
      · cases h
    · cases h
/-- A slice of such structs as an argument. -/
theorem open_rows2 {r : Reach} {b0 : Nat} {t e : TypeId} {v : Value} {dd : DataW H} {p : List MemPlace} (n : Nat) (ks : List (IntKind ⊕ List IntKind)) (hs : P.underlying t = some (.slice e)) (hk : mix2Kinds P n e = some ks) (hC : P.cellsOf e = ks.length) (h0 : 0 < ks.length)
    (hv : Value.okWide P w r b0 t v) (h : DataW.Trod enc P w base spare held t v dd p) :
    ∃ (A : Option Addr) (l : List {cs : List Value // Fits2 w.heap ks cs}) (cap : Nat), v = .slice A l.length cap ∧ RSl w.heap A l.length ks.length (l.flatMap (·.1)) := by
  obtain ⟨a0, len0, cap0, rfl⟩ := okWide_slice hs hv
  obtain ⟨fuel, hf⟩ := h
  rcases open_slice hs hf with ⟨hcs, _⟩ | ⟨a, len', cap', m, q, D, Pl, hcs, hb, hl, hm, hmm, hx, hi⟩
  · simp [Value.cells] at hcs
    obtain ⟨rfl, rfl, rfl⟩ := hcs
    exact ⟨none, [], 0, rfl, ⟨by simp, .inl rfl⟩⟩
  · simp [Value.cells] at hcs
    obtain ⟨rfl, rfl, rfl⟩ := hcs
    have hml : len0 ≤ m := by rw [hmm]; split <;> omega
    have hel : ∀ i, i < len0 → ∃ cs : List Value, Fits2 w.heap ks cs ∧ ∀ j u, cs[j]? = some u → w.cell? (a.add (i * ks.length + j)) = some u := by
      intro i hil
      obtain ⟨cs', hc, ht⟩ := hi i (by omega)
      have ft := mix2_open n e ks q _ _ hk ht
      refine ⟨_, ft, fun j u hj => ?_⟩
      obtain ⟨_, hcl, hat⟩ := World.cells?_some hc
      rw [hC] at hat hcl
      have hjl : j < ks.length := by
        have := (List.getElem?_eq_some_iff.1 hj).1
        have := ft.len
        omega
      have := hat j hjl
      rw [← Go.Deep.add_add, this]
      exact hj
    let F : List {cs : List Value // Fits2 w.heap ks cs} := (List.range len0).pmap (fun i hi => ⟨Classical.choose (hel i hi), (Classical.choose_spec (hel i hi)).1⟩) (fun i hi => List.mem_range.1 hi)
    have hFl : F.length = len0 := by simp [F]
    refine ⟨some a, F, cap0, by rw [hFl], ?_⟩
    rw [hFl]
    rcases Nat.eq_zero_or_pos len0 with hz | hz
    · have : F = [] := List.eq_nil_of_length_eq_zero (by omega)
      rw [this, hz]
      exact ⟨by simp, .inl rfl⟩
    · refine rows_gen (f := fun x => x.1) (fun x => x.2.len) F hFl hz h0 (fun i x hx j u hj => ?_)
      obtain ⟨h1, h2⟩ := List.getElem?_eq_some_iff.1 hx
      simp only [F, List.length_pmap, List.length_range] at h1
      simp only [F, List.getElem_pmap, List.getElem_range] at h2
      subst h2
      exact (Classical.choose_spec (hel i h1)).2 j u hj
end
theorem Fits2.int_inv {h : Hp} {k : IntKind} {ks : List (IntKind ⊕ List IntKind)} {cs : List Value} (q : Fits2 h (.inl k :: ks) cs) : ∃ n cs', cs = .int k n :: cs' ∧ (Lit.int k n).wf = true ∧ Fits2 h ks cs' := by
  cases q with
  | int k n w r => exact ⟨n, _, rfl, w, r⟩
theorem Fits2.sl_inv {h : Hp} {qs : List IntKind} {ks : List (IntKind ⊕ List IntKind)} {cs : List Value} (q : Fits2 h (.inr qs :: ks) cs) : ∃ A rows c cs', cs = .slice A (List.length rows) c :: cs' ∧ RSl h A rows.length qs.length (rows.flatMap (List.zipWith Value.int qs)) ∧ rows.length ≤ c ∧ (∀ ns ∈ rows, ns.length = qs.length ∧ ∀ p ∈ qs.zip ns, (Lit.int p.1 p.2).wf = true) ∧ Fits2 h ks cs' := by
  cases q with
  | sl A l c hr hc wf r => exact ⟨A, l, c, _, rfl, hr, hc, wf, r⟩
theorem Fits2.nil_inv {h : Hp} {cs : List Value} (q : Fits2 h [] cs) : cs = [] := by
  cases q; rfl
end Go.Proofs.YtomhkbhgpmcbiaaGreat.Sx
