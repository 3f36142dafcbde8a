/- Arguments laid open: slices of structs that hold numbers, bools, slices of flat structs. -/
import Derived.Test.YtofjbbfnkefoaaaSxOpen3
namespace Go.Proofs.Ytofjbbfnkefoaaa.Sx
open Go Go.RowKit Go.ChangeShapes Go.WideShapes Go.Deep
set_option linter.unusedVariables false
/-- Cells by their kinds: a whole number of a kind, or a slice of rows of numbers. -/
inductive Fits3 (h : Hp) : List (Option IntKind ⊕ List IntKind) → List Value → Prop where
  | nil : Fits3 h [] []
  | int (k : IntKind) (n : Int) {ks : List (Option IntKind ⊕ List IntKind)} {cs : List Value} (w : (Lit.int k n).wf = true) (r : Fits3 h ks cs) : Fits3 h (.inl (some k) :: ks) (.int k n :: cs)
  | bool (b : Bool) {ks : List (Option IntKind ⊕ List IntKind)} {cs : List Value} (r : Fits3 h ks cs) : Fits3 h (.inl none :: ks) (.bool b :: cs)
  | sl (A : Option Addr) (rows : List (List Int)) (c : Nat) {qs : List IntKind} {ks : List (Option IntKind ⊕ List IntKind)} {cs : List Value} (hr : RSl h A rows.length qs.length (rows.flatMap (List.zipWith Value.int qs))) (hc : rows.length ≤ c)
      (wf : ∀ ns ∈ rows, ns.length = qs.length ∧ ∀ p ∈ qs.zip ns, (Lit.int p.1 p.2).wf = true) (r : Fits3 h ks cs) : Fits3 h (.inr qs :: ks) (.slice A rows.length c :: cs)
theorem Fits3.append {h : Hp} : ∀ {ks : List (Option IntKind ⊕ List IntKind)} {cs : List Value} {ks' : List (Option IntKind ⊕ List IntKind)} {cs' : List Value}, Fits3 h ks cs → Fits3 h ks' cs' → Fits3 h (ks ++ ks') (cs ++ cs')
  | _, _, _, _, .nil, h' => h'
  | _, _, _, _, .int k n w r, h' => .int k n w (r.append h')
  | _, _, _, _, .bool b r, h' => .bool b (r.append h')
  | _, _, _, _, .sl A l c hr hc wf r, h' => .sl A l c hr hc wf (r.append h')
theorem Fits3.len {h : Hp} : ∀ {ks : List (Option IntKind ⊕ List IntKind)} {cs : List Value}, Fits3 h ks cs → cs.length = ks.length
  | _, _, .nil => rfl
  | _, _, .int k n w r => by simp [r.len]
  | _, _, .bool b r => by simp [r.len]
  | _, _, .sl A l c hr hc wf r => by simp [r.len]
def mix3Fields (P : Program) (g : TypeId → Option (List (Option IntKind ⊕ List IntKind))) : List Field → Nat → Option (List (Option IntKind ⊕ List IntKind))
  | [], _ => some []
  | f :: r, off => match g f.type with
    | some ks => if f.offset = off ∧ P.cellsOf f.type = ks.length then (mix3Fields P g r (off + ks.length)).map (ks ++ ·) else none
    | none => none
def mix3Kinds (P : Program) : Nat → TypeId → Option (List (Option IntKind ⊕ List IntKind))
  | 0, _ => none
  | n + 1, t => match P.underlying t with
    | some (.int k) => some [.inl (some k)]
    | some .bool => some [.inl none]
    | some (.slice e) => match flatKinds P n e with
      | some qs => if P.cellsOf e = qs.length ∧ 0 < qs.length then some [.inr qs] else none
      | none => none
    | some (.struct fs) => match mix3Fields P (mix3Kinds P n) fs.toList 0 with
      | some ks => if P.cellsOf t = ks.length then some ks else none
      | none => none
    | _ => none
section
variable {H : Type} {enc : TypeId × Value → H} {P : Program} {w : World} {base : Nat} {spare : Nat → Bool} {held : Bool}
theorem mix3_fields {g : TypeId → Option (List (Option IntKind ⊕ List IntKind))} {cs : List Value} {n : Nat}
    (hg : ∀ t ks cs x, g t = some ks → DataW.trod enc P w base spare held n t cs = some x → Fits3 w.heap ks cs) :
    ∀ (L : List Field) (off : Nat) (ks : List (Option IntKind ⊕ List IntKind)), mix3Fields P g L off = some ks → (∀ f ∈ L, ∃ y, DataW.trod enc P w base spare held n f.type ((cs.drop f.offset).take (P.cellsOf f.type)) = some y) →
      Fits3 w.heap ks ((cs.drop off).take ks.length)
  | [], off, ks, h, _ => by
    simp only [mix3Fields, Option.some.injEq] at h
    subst h
    simpa using Fits3.nil
  | f :: r, off, ks, h, hf => by
    unfold mix3Fields at h
    cases hk : g f.type with
    | none => rw [hk] at h; cases h
    | some k0 =>
      rw [hk] at h
      simp only at h
      split at h
      · rename_i hc
        obtain ⟨h1, h2⟩ := hc
        obtain ⟨k1, hk1, rfl⟩ := Option.map_eq_some_iff.1 h
        obtain ⟨y, hy⟩ := hf f List.mem_cons_self
        have e0 := hg _ _ _ _ hk hy
        have e1 := mix3_fields hg r _ k1 hk1 (fun f' hf' => hf f' (List.mem_cons_of_mem _ hf'))
        rw [h1, h2] at e0
        rw [List.length_append, List.take_add, List.drop_drop]
        exact e0.append e1
      · cases h
theorem mix3_open : ∀ (n : Nat) (t : TypeId) (ks : List (Option IntKind ⊕ List IntKind)) (fuel : Nat) (cs : List Value) (x : DataW H × List MemPlace), mix3Kinds P n t = some ks → DataW.trod enc P w base spare held fuel t cs = some x → Fits3 w.heap ks cs
  | 0, _, _, _, _, _, h, _ => by cases h
  | n + 1, t, ks, fuel, cs, x, h, hx => by
    unfold mix3Kinds at h
    split at h
    · rename_i k hu
      simp only [Option.some.injEq] at h
      subst h
      obtain ⟨m, rfl, _, hw⟩ := DataW.trod_int hu hx
      exact .int k m hw .nil
    · rename_i hu
      simp only [Option.some.injEq] at h
      subst h
      obtain ⟨b, rfl, _⟩ := DataW.trod_bool hu hx
      exact .bool b .nil
    · rename_i e hu
      split at h
      · rename_i qs hqs
        split at h
        · rename_i hc
          simp only [Option.some.injEq] at h
          subst h
          obtain ⟨A, l, cap, rfl, hr, hcap, wf⟩ := rows_open n qs hu hqs hc.1 hc.2 hx
          exact .sl A l cap hr hcap wf .nil
        · cases h
      · cases h
    · rename_i fs hu
      split at h
      · rename_i k0 hk0
        split at h
        · rename_i hc
          simp only [Option.some.injEq] at h
          subst h
          obtain ⟨xs, m, rfl, _, hlen, hxl, hf⟩ := DataW.trod_struct hu hx
          have e := mix3_fields (cs := cs) (n := m) (fun t' ks' cs' x' h' hx' => mix3_open n t' ks' m cs' x' h' hx') fs.toList 0 k0 hk0 (fun f hf' => by
            obtain ⟨i, hi, rfl⟩ := List.mem_iff_getElem.1 hf'
            have hi' : i < xs.length := by rw [hxl]; simpa using hi
            refine ⟨xs[i], ?_⟩
            rw [hf i _ (by simp at hi ⊢)]
            exact List.getElem?_eq_getElem hi')
          rw [List.drop_zero, List.take_of_length_le (Nat.le_of_eq (hlen.trans hc))] at e
          exact e
        · cases h
      · cases h
    · cases h
/-- A slice of such structs as an argument. -/
theorem open_rows3 {r : Reach} {b0 : Nat} {t e : TypeId} {v : Value} {dd : DataW H} {p : List MemPlace} (n : Nat) (ks : List (Option IntKind ⊕ List IntKind)) (hs : P.underlying t = some (.slice e)) (hk : mix3Kinds P n e = some ks) (hC : P.cellsOf e = ks.length) (h0 : 0 < ks.length)
    (hv : Value.okWide P w r b0 t v) (h : DataW.Trod enc P w base spare held t v dd p) :
    ∃ (A : Option Addr) (l : List {cs : List Value // Fits3 w.heap ks cs}) (cap : Nat), v = .slice A l.length cap ∧ RSl w.heap A l.length ks.length (l.flatMap (·.1)) := by
  obtain ⟨a0, len0, cap0, rfl⟩ := okWide_slice hs hv
  obtain ⟨fuel, hf⟩ := h
  rcases open_slice hs hf with ⟨hcs, _⟩ | ⟨a, len', cap', m, q, D, Pl, hcs, hb, hl, hm, hmm, hx, hi⟩
  · simp [Value.cells] at hcs
    obtain ⟨rfl, rfl, rfl⟩ := hcs
    exact ⟨none, [], 0, rfl, ⟨by simp, .inl rfl⟩⟩
  · simp [Value.cells] at hcs
    obtain ⟨rfl, rfl, rfl⟩ := hcs
    have hml : len0 ≤ m := by rw [hmm]; split <;> omega
    have hel : ∀ i, i < len0 → ∃ cs : List Value, Fits3 w.heap ks cs ∧ ∀ j u, cs[j]? = some u → w.cell? (a.add (i * ks.length + j)) = some u := by
      intro i hil
      obtain ⟨cs', hc, ht⟩ := hi i (by omega)
      have ft := mix3_open n e ks q _ _ hk ht
      refine ⟨_, ft, fun j u hj => ?_⟩
      obtain ⟨_, hcl, hat⟩ := World.cells?_some hc
      rw [hC] at hat hcl
      have hjl : j < ks.length := by
        have := (List.getElem?_eq_some_iff.1 hj).1
        have := ft.len
        omega
      have := hat j hjl
      rw [← Go.Deep.add_add, this]
      exact hj
    let F : List {cs : List Value // Fits3 w.heap ks cs} := (List.range len0).pmap (fun i hi => ⟨Classical.choose (hel i hi), (Classical.choose_spec (hel i hi)).1⟩) (fun i hi => List.mem_range.1 hi)
    have hFl : F.length = len0 := by simp [F]
    refine ⟨some a, F, cap0, by rw [hFl], ?_⟩
    rw [hFl]
    rcases Nat.eq_zero_or_pos len0 with hz | hz
    · have : F = [] := List.eq_nil_of_length_eq_zero (by omega)
      rw [this, hz]
      exact ⟨by simp, .inl rfl⟩
    · refine rows_gen (f := fun x => x.1) (fun x => x.2.len) F hFl hz h0 (fun i x hx j u hj => ?_)
      obtain ⟨h1, h2⟩ := List.getElem?_eq_some_iff.1 hx
      simp only [F, List.length_pmap, List.length_range] at h1
      simp only [F, List.getElem_pmap, List.getElem_range] at h2
      subst h2
      exact (Classical.choose_spec (hel i h1)).2 j u hj
end
theorem Fits3.int_inv {h : Hp} {k : IntKind} {ks : List (Option IntKind ⊕ List IntKind)} {cs : List Value} (q : Fits3 h (.inl (some k) :: ks) cs) : ∃ n cs', cs = .int k n :: cs' ∧ (Lit.int k n).wf = true ∧ Fits3 h ks cs' := by
  cases q with
  | int k n w r => exact ⟨n, _, rfl, w, r⟩
theorem Fits3.bool_inv {h : Hp} {ks : List (Option IntKind ⊕ List IntKind)} {cs : List Value} (q : Fits3 h (.inl none :: ks) cs) : ∃ b cs', cs = .bool b :: cs' ∧ Fits3 h ks cs' := by
  cases q with
  | bool b r => exact ⟨b, _, rfl, r⟩
theorem Fits3.sl_inv {h : Hp} {qs : List IntKind} {ks : List (Option IntKind ⊕ List IntKind)} {cs : List Value} (q : Fits3 h (.inr qs :: ks) cs) : ∃ A rows c cs', cs = .slice A (List.length rows) c :: cs' ∧ RSl h A rows.length qs.length (rows.flatMap (List.zipWith Value.int qs)) ∧ rows.length ≤ c ∧ (∀ ns ∈ rows, ns.length = qs.length ∧ ∀ p ∈ qs.zip ns, (Lit.int p.1 p.2).wf = true) ∧ Fits3 h ks cs' := by
  cases q with
  | sl A l c hr hc wf r => exact ⟨A, l, c, _, rfl, hr, hc, wf, r⟩
theorem Fits3.nil_inv {h : Hp} {cs : List Value} (q : Fits3 h [] cs) : cs = [] := by
  cases q; rfl
end Go.Proofs.Ytofjbbfnkefoaaa.Sx
