/- Arguments laid open: flat structs of whole numbers (nested, any number of fields), and slices of them, as the heap alone tells them. -/
import Derived.Test.YtoheablfncdibaaDoorSxMem
import Derived.ProofKit
import Derived.OpenShut
import Derived.Deep.Slices
import Derived.SizedLaws
namespace Go.Proofs.YtoheablfncdibaaDoor.Sx
open Go Go.RowKit Go.ChangeShapes Go.WideShapes Go.Deep
set_option linter.unusedVariables false

def flatFields (P : Program) (g : TypeId → Option (List IntKind)) : List Field → Nat → Option (List IntKind)
  | [], _ => some []
  | f :: r, off => match g f.type with
    | some ks => if f.offset = off ∧ P.cellsOf f.type = ks.length then (flatFields P g r (off + ks.length)).map (ks ++ ·) else none
    | none => none
/-- The kinds of a type's cells, where all are whole numbers. -/
def flatKinds (P : Program) : Nat → TypeId → Option (List IntKind)
  | 0, _ => none
  | n + 1, t => match P.underlying t with
    | some (.int k) => some [k]
    | some (.struct fs) => match flatFields P (flatKinds P n) fs.toList 0 with
      | some ks => if P.cellsOf t = ks.length then some ks else none
      | none => none
    | _ => none
section
variable {H : Type} {enc : TypeId × Value → H} {P : Program} {w : World} {base : Nat} {spare : Nat → Bool} {held : Bool}
theorem flat_fields {g : TypeId → Option (List IntKind)} {cs : List Value} {n : Nat}
    (hg : ∀ t ks cs x, g t = some ks → DataW.trod enc P w base spare held n t cs = some x → ∃ ns : List Int, ns.length = ks.length ∧ cs = List.zipWith Value.int ks ns ∧ ∀ p ∈ ks.zip ns, (Lit.int p.1 p.2).wf = true) :
    ∀ (L : List Field) (off : Nat) (ks : List IntKind), flatFields P g L off = some ks → (∀ f ∈ L, ∃ y, DataW.trod enc P w base spare held n f.type ((cs.drop f.offset).take (P.cellsOf f.type)) = some y) →
      ∃ ns : List Int, ns.length = ks.length ∧ (cs.drop off).take ks.length = List.zipWith Value.int ks ns ∧ ∀ p ∈ ks.zip ns, (Lit.int p.1 p.2).wf = true
  | [], off, ks, h, _ => by
    simp only [flatFields, Option.some.injEq] at h
    subst h
    exact ⟨[], rfl, by simp, by simp⟩
  | f :: r, off, ks, h, hf => by
    unfold flatFields at h
    cases hk : g f.type with
    | none => rw [hk] at h; cases h
    | some k0 =>
      rw [hk] at h
      simp only at h
      split at h
      · rename_i hc
        obtain ⟨h1, h2⟩ := hc
        obtain ⟨k1, hk1, rfl⟩ := Option.map_eq_some_iff.1 h
        obtain ⟨y, hy⟩ := hf f List.mem_cons_self
        obtain ⟨ns0, l0, e0, w0⟩ := hg _ _ _ _ hk hy
        obtain ⟨ns1, l1, e1, w1⟩ := flat_fields hg r _ k1 hk1 (fun f' hf' => hf f' (List.mem_cons_of_mem _ hf'))
        refine ⟨ns0 ++ ns1, by simp [l0, l1], ?_, ?_⟩
        · rw [h1, h2] at e0
          rw [List.zipWith_append (by rw [l0]), ← e0, ← e1, List.length_append, List.take_add, List.drop_drop]
        · intro p hp
          rw [List.zip_append (by rw [l0])] at hp
          rcases List.mem_append.1 hp with hp | hp
          · exact w0 p hp
          · exact w1 p hp
      · cases h
theorem flat_open : ∀ (n : Nat) (t : TypeId) (ks : List IntKind) (fuel : Nat) (cs : List Value) (x : DataW H × List MemPlace), flatKinds P n t = some ks → DataW.trod enc P w base spare held fuel t cs = some x →
    ∃ ns : List Int, ns.length = ks.length ∧ cs = List.zipWith Value.int ks ns ∧ ∀ p ∈ ks.zip ns, (Lit.int p.1 p.2).wf = true
  | 0, _, _, _, _, _, h, _ => by cases h
  | n + 1, t, ks, fuel, cs, x, h, hx => by
    unfold flatKinds at h
    split at h
    · rename_i k hu
      simp only [Option.some.injEq] at h
      subst h
      obtain ⟨m, rfl, _, hw⟩ := DataW.trod_int hu hx
      exact ⟨[m], rfl, rfl, by simpa using hw⟩
    · rename_i fs hu
      split at h
      · rename_i k0 hk0
        split at h
        · rename_i hc
          simp only [Option.some.injEq] at h
          subst h
          obtain ⟨xs, m, rfl, _, hlen, hxl, hf⟩ := DataW.trod_struct hu hx
          obtain ⟨ns, l, e, w⟩ := flat_fields (cs := cs) (n := m) (fun t' ks' cs' x' h' hx' => flat_open n t' ks' m cs' x' h' hx') fs.toList 0 k0 hk0 (fun f hf' => by
            obtain ⟨i, hi, rfl⟩ := List.mem_iff_getElem.1 hf'
            have hi' : i < xs.length := by rw [hxl]; simpa using hi
            refine ⟨xs[i], ?_⟩
            rw [hf i _ (by simp at hi ⊢)]
            exact List.getElem?_eq_getElem hi')
          refine ⟨ns, l, ?_, w⟩
          rw [← e, List.drop_zero, List.take_of_length_le (Nat.le_of_eq (hlen.trans hc))]
        · cases h
      · cases h
    · cases h
/-- A flat struct as an argument. -/
theorem open_flat {r : Reach} {b0 : Nat} {t : TypeId} {fs : Array Field} {v : Value} {d : DataW H} {p : List MemPlace} (n : Nat) (ks : List IntKind) (hs : P.underlying t = some (.struct fs)) (hk : flatKinds P n t = some ks)
    (hv : Value.okWide P w r b0 t v) (h : DataW.Trod enc P w base spare held t v d p) :
    ∃ ns : List Int, ns.length = ks.length ∧ v = .agg (List.zipWith Value.int ks ns).toArray ∧ ∀ p ∈ ks.zip ns, (Lit.int p.1 p.2).wf = true := by
  obtain ⟨cs, rfl, _⟩ := okWide_struct hs hv
  obtain ⟨fuel, hf⟩ := h
  obtain ⟨ns, l, e, w⟩ := flat_open n t ks fuel _ _ hk hf
  refine ⟨ns, l, ?_, w⟩
  rw [← e]
  simp [Value.cells]
/-- A slice of flat structs as an argument: its rows of numbers. -/
theorem open_rows {r : Reach} {b0 : Nat} {t e : TypeId} {v : Value} {dd : DataW H} {p : List MemPlace} (n : Nat) (ks : List IntKind) (hs : P.underlying t = some (.slice e)) (hk : flatKinds P n e = some ks) (hC : P.cellsOf e = ks.length) (h0 : 0 < ks.length)
    (hv : Value.okWide P w r b0 t v) (h : DataW.Trod enc P w base spare held t v dd p) :
    ∃ (A : Option Addr) (l : List (List Int)) (cap : Nat), v = .slice A l.length cap ∧ RSl w.heap A l.length ks.length (l.flatMap (List.zipWith Value.int ks)) ∧ l.length ≤ cap ∧ cap ≤ maxLen ∧ ∀ ns ∈ l, ns.length = ks.length ∧ ∀ p ∈ ks.zip ns, (Lit.int p.1 p.2).wf = true := by
  obtain ⟨a0, len, cap, rfl⟩ := okWide_slice hs hv
  obtain ⟨fuel, hf⟩ := h
  rcases open_slice hs hf with ⟨hcs, _⟩ | ⟨a, len', cap', m, q, D, Pl, hcs, hb, hl, hm, hmm, hx, hi⟩
  · simp [Value.cells] at hcs
    obtain ⟨rfl, rfl, rfl⟩ := hcs
    exact ⟨none, [], 0, rfl, ⟨by simp, .inl rfl⟩, Nat.le_refl _, by simp, by simp⟩
  · simp [Value.cells] at hcs
    obtain ⟨rfl, rfl, rfl⟩ := hcs
    have hml : len ≤ m := by rw [hmm]; split <;> omega
    have hel : ∀ i, i < len → ∃ ns : List Int, ns.length = ks.length ∧ (∀ p ∈ ks.zip ns, (Lit.int p.1 p.2).wf = true) ∧ ∀ j u, (List.zipWith Value.int ks ns)[j]? = some u → w.cell? (a.add (i * ks.length + j)) = some u := by
      intro i hil
      obtain ⟨cs', hc, ht⟩ := hi i (by omega)
      obtain ⟨ns, l, e', w'⟩ := flat_open n e ks q _ _ hk ht
      refine ⟨ns, l, w', fun j u hj => ?_⟩
      obtain ⟨_, hcl, hat⟩ := World.cells?_some hc
      rw [hC] at hat hcl
      rw [← e'] at hj
      have hjl : j < ks.length := by
        have := (List.getElem?_eq_some_iff.1 hj).1
        omega
      have := hat j hjl
      rw [← Go.Deep.add_add, this]
      exact hj
    obtain ⟨f, hf⟩ : ∃ f : Nat → List Int, ∀ i, i < len → (f i).length = ks.length ∧ (∀ p ∈ ks.zip (f i), (Lit.int p.1 p.2).wf = true) ∧ ∀ j u, (List.zipWith Value.int ks (f i))[j]? = some u → w.cell? (a.add (i * ks.length + j)) = some u :=
      ⟨fun i => if h : i < len then Classical.choose (hel i h) else [], fun i h => by simp only [dif_pos h]; exact Classical.choose_spec (hel i h)⟩
    refine ⟨some a, (List.range len).map f, cap, by simp, ⟨?_, ?_⟩, by simpa using hl, hm, fun x hx => ?_⟩
    · have : ∀ L : List Nat, (∀ i ∈ L, i < len) → ((L.map f).flatMap (List.zipWith Value.int ks)).length = L.length * ks.length := by
        intro L
        induction L with
        | nil => intro _; simp
        | cons i L ih =>
          intro hL
          rw [List.map_cons, List.flatMap_cons, List.length_append, ih (fun j hj => hL j (List.mem_cons_of_mem _ hj)), List.length_zipWith, (hf i (hL i List.mem_cons_self)).1, List.length_cons, Nat.add_mul]
          simp; omega
      rw [this _ (fun i hi => List.mem_range.1 hi)]
      simp
    · rcases Nat.eq_zero_or_pos len with hz | hz
      · left; simpa using hz
      · right
        refine ⟨a, rfl, ?_, fun j u hj => ?_⟩
        · have hi0 := (hf 0 hz).2.2 0
          have hlen0 := (hf 0 hz).1
          have hg : (List.zipWith Value.int ks (f 0))[0]? = some ((List.zipWith Value.int ks (f 0))[0]'(by simp; omega)) := List.getElem?_eq_getElem _
          have hc := hi0 _ hg
          rw [Nat.zero_mul, Nat.zero_add] at hc
          show a.spot = none
          have hc' : w.cell? a = _ := hc
          unfold World.cell? at hc'
          split at hc'
          · cases hsp : a.spot with
            | none => rfl
            | some s => rw [hsp] at hc'; cases hc'
          · cases hc'
        · have key : ∀ (L : List Nat) (b j : Nat) (u : Value), (∀ q i, L[q]? = some i → i = b + q ∧ i < len) → ((L.map f).flatMap (List.zipWith Value.int ks))[j]? = some u → w.cell? (a.add (b * ks.length + j)) = some u := by
            intro L
            induction L with
            | nil => intro b j u _ hj; simp at hj
            | cons i L ih =>
              intro b j u hL hj
              obtain ⟨hib, hil⟩ := hL 0 i rfl
              rw [Nat.add_zero] at hib
              subst hib
              have hzl : (List.zipWith Value.int ks (f i)).length = ks.length := by rw [List.length_zipWith, (hf i hil).1]; simp
              rw [List.map_cons, List.flatMap_cons] at hj
              by_cases hjl : j < ks.length
              · rw [List.getElem?_append_left (by omega)] at hj
                exact (hf i hil).2.2 j u hj
              · rw [List.getElem?_append_right (by omega), hzl] at hj
                have := ih (i + 1) (j - ks.length) u (fun q i' hq => by
                  obtain ⟨h1, h2⟩ := hL (q + 1) i' (by simpa using hq)
                  exact ⟨by omega, h2⟩) hj
                rw [Nat.add_mul, Nat.one_mul] at this
                rw [← this]
                congr 2
                omega
          have := key (List.range len) 0 j u (fun q i hq => by
            have := List.getElem?_eq_some_iff.1 hq
            simp at this
            omega) hj
          rw [Nat.zero_mul, Nat.zero_add] at this
          exact this
    · obtain ⟨i, hi', rfl⟩ := List.mem_map.1 hx
      exact ⟨(hf i (List.mem_range.1 hi')).1, (hf i (List.mem_range.1 hi')).2.1⟩
end
theorem len_succ {l : List Int} {n : Nat} (h : l.length = n + 1) : ∃ a t, l = a :: t ∧ t.length = n := by
  cases l with
  | nil => cases h
  | cons a t => exact ⟨a, t, rfl, by simpa using h⟩
theorem len_zero {l : List Int} (h : l.length = 0) : l = [] := List.eq_nil_of_length_eq_zero h
theorem wf_u8 {x : Int} (h : (Lit.int .u8 x).wf = true) : 0 ≤ x ∧ x ≤ 255 := by simpa [Lit.wf, IntKind.min, IntKind.max, IntKind.signed, IntKind.bits] using h
theorem wf_u16 {x : Int} (h : (Lit.int .u16 x).wf = true) : 0 ≤ x ∧ x ≤ 65535 := by simpa [Lit.wf, IntKind.min, IntKind.max, IntKind.signed, IntKind.bits] using h
theorem wf_u32 {x : Int} (h : (Lit.int .u32 x).wf = true) : 0 ≤ x ∧ x ≤ 4294967295 := by simpa [Lit.wf, IntKind.min, IntKind.max, IntKind.signed, IntKind.bits] using h
theorem wf_i64 {x : Int} (h : (Lit.int .i64 x).wf = true) : -9223372036854775808 ≤ x ∧ x ≤ 9223372036854775807 := by simpa [Lit.wf, IntKind.min, IntKind.max, IntKind.signed, IntKind.bits] using h
/-- A call that comes back true, and leaves what was there: as the rows ask it. -/
theorem walk_of {P : Program} {f : FuncId} {args : Array Value} {W : World} (h : CallsH P f args W.heap (fun v h' => v = .bool true ∧ Ext W.heap h')) : Calls P f args W fun e w' => e = .returned (.bool true) ∧ Below W.heap.size W w' :=
  (h W rfl).mono fun e w' ⟨v, he, hs, hv, hx⟩ => ⟨by rw [he, hv], ⟨hs.os, hs.tape, hs.output, hx.size, fun k hk => hx.old k hk⟩⟩
end Go.Proofs.YtoheablfncdibaaDoor.Sx
