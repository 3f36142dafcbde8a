/- Arguments laid open: structs of whole numbers and slices (nested). -/
import Derived.Test.YtomhkbhgpmcbiaaGreatSxOpen
namespace Go.Proofs.YtomhkbhgpmcbiaaGreat.Sx
open Go Go.RowKit Go.ChangeShapes Go.WideShapes Go.Deep
set_option linter.unusedVariables false
/-- Cells by their kinds: a whole number of a kind, or a slice. -/
inductive Fits : List (Option IntKind) → List Value → Prop where
  | nil : Fits [] []
  | int (k : IntKind) (n : Int) {ks : List (Option IntKind)} {cs : List Value} (w : (Lit.int k n).wf = true) (r : Fits ks cs) : Fits (some k :: ks) (.int k n :: cs)
  | sl (A : Option Addr) (l c : Nat) {ks : List (Option IntKind)} {cs : List Value} (r : Fits ks cs) : Fits (none :: ks) (.slice A l c :: cs)
theorem Fits.append : ∀ {ks : List (Option IntKind)} {cs : List Value} {ks' : List (Option IntKind)} {cs' : List Value}, Fits ks cs → Fits ks' cs' → Fits (ks ++ ks') (cs ++ cs')
  | _, _, _, _, .nil, h' => h'
  | _, _, _, _, .int k n w r, h' => .int k n w (r.append h')
  | _, _, _, _, .sl A l c r, h' => .sl A l c (r.append h')
theorem Fits.len : ∀ {ks : List (Option IntKind)} {cs : List Value}, Fits ks cs → cs.length = ks.length
  | _, _, .nil => rfl
  | _, _, .int k n w r => by simp [r.len]
  | _, _, .sl A l c r => by simp [r.len]
def mixFields (P : Program) (g : TypeId → Option (List (Option IntKind))) : List Field → Nat → Option (List (Option IntKind))
  | [], _ => some []
  | f :: r, off => match g f.type with
    | some ks => if f.offset = off ∧ P.cellsOf f.type = ks.length then (mixFields P g r (off + ks.length)).map (ks ++ ·) else none
    | none => none
def mixKinds (P : Program) : Nat → TypeId → Option (List (Option IntKind))
  | 0, _ => none
  | n + 1, t => match P.underlying t with
    | some (.int k) => some [some k]
    | some (.slice _) => some [none]
    | some (.struct fs) => match mixFields P (mixKinds P n) fs.toList 0 with
      | some ks => if P.cellsOf t = ks.length then some ks else none
      | none => none
    | _ => none
section
variable {H : Type} {enc : TypeId × Value → H} {P : Program} {w : World} {base : Nat} {spare : Nat → Bool} {held : Bool}
theorem mix_fields {g : TypeId → Option (List (Option IntKind))} {cs : List Value} {n : Nat}
    (hg : ∀ t ks cs x, g t = some ks → DataW.trod enc P w base spare held n t cs = some x → Fits ks cs) :
    ∀ (L : List Field) (off : Nat) (ks : List (Option IntKind)), mixFields P g L off = some ks → (∀ f ∈ L, ∃ y, DataW.trod enc P w base spare held n f.type ((cs.drop f.offset).take (P.cellsOf f.type)) = some y) →
      Fits ks ((cs.drop off).take ks.length)
  | [], off, ks, h, _ => by
    simp only [mixFields, Option.some.injEq] at h
    subst h
    simpa using Fits.nil
  | f :: r, off, ks, h, hf => by
    unfold mixFields at h
    cases hk : g f.type with
    | none => rw [hk] at h; cases h
    | some k0 =>
      rw [hk] at h
      simp only at h
      split at h
      · rename_i hc
        obtain ⟨h1, h2⟩ := hc
        obtain ⟨k1, hk1, rfl⟩ := Option.map_eq_some_iff.1 h
        obtain ⟨y, hy⟩ := hf f List.mem_cons_self
        have e0 := hg _ _ _ _ hk hy
        have e1 := mix_fields hg r _ k1 hk1 (fun f' hf' => hf f' (List.mem_cons_of_mem _ hf'))
        rw [h1, h2] at e0
        rw [List.length_append, List.take_add, List.drop_drop]
        exact e0.append e1
      · cases h
theorem mix_open : ∀ (n : Nat) (t : TypeId) (ks : List (Option IntKind)) (fuel : Nat) (cs : List Value) (x : DataW H × List MemPlace), mixKinds P n t = some ks → DataW.trod enc P w base spare held fuel t cs = some x → Fits ks cs
  | 0, _, _, _, _, _, h, _ => by cases h
  | n + 1, t, ks, fuel, cs, x, h, hx => by
    unfold mixKinds at h
    split at h
    · rename_i k hu
      simp only [Option.some.injEq] at h
      subst h
      obtain ⟨m, rfl, _, hw⟩ := DataW.trod_int hu hx
      exact .int k m hw .nil
    · rename_i e hu
      simp only [Option.some.injEq] at h
      subst h
      rcases open_slice hu hx with ⟨hcs, _⟩ | ⟨a, len', cap', m, q, D, Pl, hcs, _⟩
      · rw [hcs]; exact .sl _ _ _ .nil
      · rw [hcs]; exact .sl _ _ _ .nil
    · rename_i fs hu
      split at h
      · rename_i k0 hk0
        split at h
        · rename_i hc
          simp only [Option.some.injEq] at h
          subst h
          obtain ⟨xs, m, rfl, _, hlen, hxl, hf⟩ := DataW.trod_struct hu hx
          have e := mix_fields (cs := cs) (n := m) (fun t' ks' cs' x' h' hx' => mix_open n t' ks' m cs' x' h' hx') fs.toList 0 k0 hk0 (fun f hf' => by
            obtain ⟨i, hi, rfl⟩ := List.mem_iff_getElem.1 hf'
            have hi' : i < xs.length := by rw [hxl]; simpa using hi
            refine ⟨xs[i], ?_⟩
            rw [hf i _ (by simp at hi ⊢)]
            exact List.getElem?_eq_getElem hi')
          rw [List.drop_zero, List.take_of_length_le (Nat.le_of_eq (hlen.trans hc))] at e
          exact e
        · cases h
      · cases h
    · cases h
/-- A struct with slices as an argument. -/
theorem open_mix {r : Reach} {b0 : Nat} {t : TypeId} {fs : Array Field} {v : Value} {d : DataW H} {p : List MemPlace} (n : Nat) (ks : List (Option IntKind)) (hs : P.underlying t = some (.struct fs)) (hk : mixKinds P n t = some ks)
    (hv : Value.okWide P w r b0 t v) (h : DataW.Trod enc P w base spare held t v d p) : ∃ cs : List Value, Fits ks cs ∧ v = .agg cs.toArray := by
  obtain ⟨cs, rfl, _⟩ := okWide_struct hs hv
  obtain ⟨fuel, hf⟩ := h
  have e := mix_open n t ks fuel _ _ hk hf
  exact ⟨_, e, by simp [Value.cells]⟩
end
theorem Fits.int_inv {k : IntKind} {ks : List (Option IntKind)} {cs : List Value} (h : Fits (some k :: ks) cs) : ∃ n cs', cs = .int k n :: cs' ∧ (Lit.int k n).wf = true ∧ Fits ks cs' := by
  cases h with
  | int k n w r => exact ⟨n, _, rfl, w, r⟩
theorem Fits.sl_inv {ks : List (Option IntKind)} {cs : List Value} (h : Fits (none :: ks) cs) : ∃ A l c cs', cs = .slice A l c :: cs' ∧ Fits ks cs' := by
  cases h with
  | sl A l c r => exact ⟨A, l, c, _, rfl, r⟩
theorem Fits.nil_inv {cs : List Value} (h : Fits [] cs) : cs = [] := by
  cases h; rfl
end Go.Proofs.YtomhkbhgpmcbiaaGreat.Sx
