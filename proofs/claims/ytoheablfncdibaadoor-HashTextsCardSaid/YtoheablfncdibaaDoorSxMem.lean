/- Laws of memory over the heap alone: cells, boxes, slices that are read. -/
import Derived.Test.YtoheablfncdibaaDoorSxSel
namespace Go.Proofs.YtoheablfncdibaaDoor.Sx
open Go Go.RowKit
set_option linter.unusedVariables false
set_option linter.unusedSimpArgs false
def cell (h : Hp) (a : Addr) : Option Value := (W h).cell? a
theorem cell_of {h : Hp} {b o : Nat} {cs : List Value} {T : TypeId} {fz : Nat × Nat} (hb : h[b]? = some (.cells cs.toArray T fz)) : cell h ⟨b, o, none⟩ = cs[o]? := by
  show (match h[b]? with | some (.cells c _ _) => if (none : Option Nat).isSome then none else c[o]? | _ => none) = _
  rw [hb]
  simp
/-- What was there is there. -/
structure Ext (h h' : Hp) : Prop where
  size : h.size ≤ h'.size
  old : ∀ k, k < h.size → h'[k]? = h[k]?
theorem Ext.refl (h : Hp) : Ext h h := ⟨Nat.le_refl _, fun _ _ => rfl⟩
theorem Ext.trans {a b c : Hp} (h : Ext a b) (k : Ext b c) : Ext a c := ⟨Nat.le_trans h.size k.size, fun i hi => (k.old i (Nat.lt_of_lt_of_le hi h.size)).trans (h.old i hi)⟩
theorem Ext.push (h : Hp) (o : Obj) : Ext h (h.push o) := ⟨by simp, fun k hk => by rw [Array.getElem?_push]; rw [if_neg (by omega)]⟩
theorem lt_of_get {h : Hp} {b : Nat} {o : Obj} (hb : h[b]? = some o) : b < h.size := (Array.getElem?_eq_some_iff.1 hb).1
theorem cell_lt {h : Hp} {a : Addr} {v : Value} (hc : cell h a = some v) : a.block < h.size := by
  unfold cell World.cell? at hc
  split at hc
  · rename_i c e f hb; exact lt_of_get hb
  · cases hc
theorem cell_same {h h' : Hp} {a : Addr} (hb : h'[a.block]? = h[a.block]?) : cell h' a = cell h a := by
  unfold cell World.cell?
  show (match h'[a.block]? with | some (.cells c _ _) => if a.spot.isSome then none else c[a.off]? | _ => none) = (match h[a.block]? with | some (.cells c _ _) => if a.spot.isSome then none else c[a.off]? | _ => none)
  rw [hb]
theorem Ext.cell {h h' : Hp} (e : Ext h h') {a : Addr} {v : Value} (hc : cell h a = some v) : Sx.cell h' a = some v := by
  rw [cell_same (e.old _ (cell_lt hc))]; exact hc
/-- These cells stand from a on. -/
structure Cl (h : Hp) (a : Addr) (vs : List Value) : Prop where
  spot : a.spot = none
  at_ : ∀ j v, vs[j]? = some v → cell h (a.add j) = some v
theorem Cl.ext {h h' : Hp} {a : Addr} {vs : List Value} (c : Cl h a vs) (e : Ext h h') : Cl h' a vs := ⟨c.spot, fun j v hj => e.cell (c.at_ j v hj)⟩
theorem add_zero (a : Addr) : a.add 0 = a := rfl
theorem add_off {a : Addr} (hs : a.spot = none) (n : Nat) : a.add n = ⟨a.block, a.off + n, none⟩ := by
  obtain ⟨b, o, s⟩ := a
  simp only at hs
  subst hs
  unfold Addr.add
  split
  · rename_i h; subst h; rfl
  · rfl
theorem add_add {a : Addr} (hs : a.spot = none) (m n : Nat) : (a.add m).add n = a.add (m + n) := by
  rw [add_off hs, add_off rfl, add_off hs]; simp [Nat.add_assoc]
theorem Cl.head {h : Hp} {a : Addr} {v : Value} {vs : List Value} (c : Cl h a (v :: vs)) : cell h a = some v := c.at_ 0 v rfl
theorem Cl.of_block {h : Hp} {b o : Nat} {cs vs : List Value} {T : TypeId} {fz : Nat × Nat} (hb : h[b]? = some (.cells cs.toArray T fz)) (hv : ∀ j v, vs[j]? = some v → cs[o + j]? = some v) : Cl h ⟨b, o, none⟩ vs :=
  ⟨rfl, fun j v hj => by rw [add_off rfl]; show cell h ⟨b, o + j, none⟩ = _; rw [cell_of hb]; exact hv j v hj⟩
theorem Cl.sub {h : Hp} {a : Addr} {vs us : List Value} (c : Cl h a vs) (n : Nat) (hu : ∀ j v, us[j]? = some v → vs[n + j]? = some v) : Cl h (a.add n) us :=
  ⟨by rw [add_off c.spot], fun j v hj => by rw [add_add c.spot]; exact c.at_ _ v (hu j v hj)⟩
theorem newC_i {h : Hp} {cs : List Value} {T : TypeId} {K : Addr → Hp → Prop}
    (H : ∀ h', Ext h h' → Cl h' ⟨h.size, 0, none⟩ cs → h'[h.size]? = some (.cells cs.toArray T (0, 0)) → h'.size = h.size + 1 → K ⟨h.size, 0, none⟩ h') : newC h (.cells cs.toArray T (0, 0)) K := by
  have hb : (h.push (.cells cs.toArray T (0, 0)))[h.size]? = some (.cells cs.toArray T (0, 0)) := by simp
  exact H _ (Ext.push h _) (Cl.of_block hb fun j v hj => by rw [Nat.zero_add]; exact hj) hb (by simp)
def scB (P : Program) (t : TypeId) : Bool := match P.underlying t with
  | some (.struct _) => false
  | some (.array _ _) => false
  | some _ => true
  | none => false
def agB (P : Program) (t : TypeId) : Option Nat := match P.underlying t with
  | some (.struct _) => (P.info? t).map (·.size)
  | some (.array _ _) => (P.info? t).map (·.size)
  | _ => none
theorem ld {P : Program} {t : TypeId} {a : Addr} {h : Hp} {v : Value} (hc : cell h a = some v) (ht : scB P t = true) : HV P (Instr.loadAt t (.pointer (some a))) h v := by
  intro w hw
  subst hw
  have hc' : w.cell? a = some v := hc
  unfold scB at ht
  cases hu : P.underlying t with
  | none => rw [hu] at ht; cases ht
  | some d =>
    rw [hu] at ht
    have : (isAgg t).run P w = .ok false w := by
      unfold isAgg
      rw [Sem.run_bind, run_underlying hu]
      cases d <;> first | rfl | cases ht
    simp only [Instr.loadAt, Instr.sureAddr, loadVar, Sem.run_bind, Sem.run_pure, Result.andThen_ok, this]
    simp [load, Sem.run, hc']
theorem ldS {P : Program} {t : TypeId} {a : Addr} {h : Hp} {vs : List Value} (hc : Cl h a vs) (ht : agB P t = some vs.length) : HV P (Instr.loadAt t (.pointer (some a))) h (.agg vs.toArray) := by
  intro w hw
  subst hw
  have hl := run_loadCells_list (P := P) w a vs (fun j v hj => hc.at_ j v hj)
  unfold agB at ht
  have ha : (isAgg t).run P w = .ok true w ∧ (sizeOf t).run P w = .ok vs.length w := by
    cases hu : P.underlying t with
    | none => rw [hu] at ht; cases ht
    | some d =>
      rw [hu] at ht
      have hz : (P.info? t).map (·.size) = some vs.length := by cases d <;> first | exact ht | cases ht
      have h2 : (sizeOf t).run P w = .ok vs.length w := by
        cases hi : P.info? t with
        | none => rw [hi] at hz; cases hz
        | some i =>
          rw [hi] at hz
          simp only [Option.map_some, Option.some.injEq] at hz
          simp [sizeOf, typeInfo, hi, hz]
      refine ⟨?_, h2⟩
      unfold isAgg
      rw [Sem.run_bind, run_underlying hu]
      cases d <;> first | rfl | cases ht
  simp only [Instr.loadAt, Instr.sureAddr, loadVar, Sem.run_bind, Sem.run_pure, Result.andThen_ok, ha.1, ha.2, if_true, hl]
/-- An index into a slice. -/
theorem ix {P : Program} {T E : TypeId} {a : Addr} {l c sz : Nat} {k : IntKind} {i : Int} (h0 : 0 ≤ i) (h1 : i < l) (hu : P.underlying T = some (.slice E)) (hs : (P.info? E).map (·.size) = some sz) :
    PV P (Instr.indexAt T (.slice (some a) l c) (.int k i)) (.pointer (some (a.add (i.toNat * sz)))) := by
  intro w
  cases hi : P.info? E with
  | none => rw [hi] at hs; cases hs
  | some j =>
    rw [hi] at hs
    simp only [Option.map_some, Option.some.injEq] at hs
    simp [Instr.indexAt, asIntOf, run_underlying hu, h0, h1, sizeOf, typeInfo, hi, hs]
/-- A slice that is read: its elements' cells, one element behind the other. -/
def RSl (h : Hp) (A : Option Addr) (l : Nat) (sz : Nat) (cs : List Value) : Prop := cs.length = l * sz ∧ (l = 0 ∨ ∃ a, A = some a ∧ Cl h a cs)
theorem RSl.ext {h h' : Hp} {A : Option Addr} {l sz : Nat} {cs : List Value} (r : RSl h A l sz cs) (e : Ext h h') : RSl h' A l sz cs :=
  ⟨r.1, r.2.imp id fun ⟨a, ha, c⟩ => ⟨a, ha, c.ext e⟩⟩
/-! ### Element lists -/
theorem flat_len {α : Type} {enc : α → List Value} {sz : Nat} (he : ∀ x, (enc x).length = sz) : ∀ xs : List α, (xs.flatMap enc).length = xs.length * sz
  | [] => by simp
  | x :: xs => by rw [List.flatMap_cons, List.length_append, he, flat_len he xs, List.length_cons, Nat.add_mul]; omega
theorem flat_get {α : Type} {enc : α → List Value} {sz : Nat} (he : ∀ x, (enc x).length = sz) : ∀ (xs : List α) (i j : Nat) (x : α), xs[i]? = some x → j < sz → (xs.flatMap enc)[i * sz + j]? = (enc x)[j]?
  | [], i, j, x, h, _ => by simp at h
  | y :: xs, 0, j, x, h, hj => by
    simp at h
    subst h
    rw [List.flatMap_cons, Nat.zero_mul, Nat.zero_add, List.getElem?_append_left (by rw [he]; exact hj)]
  | y :: xs, i + 1, j, x, h, hj => by
    rw [List.flatMap_cons, List.getElem?_append_right (by rw [he, Nat.add_mul]; omega), he, ← flat_get he xs i j x (by simpa using h) hj]
    congr 1
    rw [Nat.add_mul]; omega
theorem RSl.elem {α : Type} {enc : α → List Value} {sz : Nat} (he : ∀ x, (enc x).length = sz) {h : Hp} {a : Addr} {l : Nat} {xs : List α} (r : RSl h (some a) l sz (xs.flatMap enc)) {i : Nat} {x : α} (hx : xs[i]? = some x) (hl : xs.length = l) : Cl h (a.add (i * sz)) (enc x) := by
  obtain ⟨_, r⟩ := r
  have hlt := (List.getElem?_eq_some_iff.1 hx).1
  rcases r with r | ⟨a', ha, c⟩
  · omega
  · injection ha with ha
    subst ha
    refine c.sub (i * sz) fun j v hj => ?_
    have hjl := (List.getElem?_eq_some_iff.1 hj).1
    rw [flat_get he xs i j x hx (by rw [he] at hjl; exact hjl)]
    exact hj
theorem RSl.some {h : Hp} {A : Option Addr} {l sz : Nat} {cs : List Value} (r : RSl h A l sz cs) (hl : 0 < l) : ∃ a, A = some a ∧ Cl h a cs := by
  rcases r.2 with h | h
  · omega
  · exact h
theorem Cl.ext2 {h h' : Hp} {a : Addr} {vs : List Value} (e : Ext h h') (c : Cl h a vs) : Cl h' a vs := c.ext e
theorem Ext.trans2 {a b c : Hp} (k : Ext b c) (h : Ext a b) : Ext a c := h.trans k
theorem Cl.sl {h : Hp} {a : Addr} {vs us : List Value} (c : Cl h a vs) {n : Nat} (hu : (vs.drop n).take us.length = us) : Cl h (a.add n) us :=
  c.sub n fun j v hj => by
    rw [← hu, List.getElem?_take] at hj
    split at hj
    · rw [List.getElem?_drop] at hj; exact hj
    · cases hj
/-! ### Branches -/
theorem br_i {b : Bool} {A B : Prop} (h1 : b = true → A) (h2 : b = false → B) : br b A B := by
  cases b
  · exact h2 rfl
  · exact h1 rfl
theorem br_t {b : Bool} {A B : Prop} (h : b = true) (h1 : A) : br b A B := by subst h; exact h1
theorem br_f {b : Bool} {A B : Prop} (h : b = false) (h1 : B) : br b A B := by subst h; exact h1
theorem wrap_in {n : Int} (h0 : -9223372036854775808 ≤ n) (h1 : n ≤ 9223372036854775807) : IntKind.i64.wrap n = n := IntWalk.i64_in n ⟨h0, h1⟩
/-! ### Pointers against nil -/
theorem eqNil {P : Program} {T : TypeId} {p : Option Addr} (hu : P.underlying T = some (.pointer (P.pointee T))) : PV P (binOp .eql T (.pointer p) (.pointer none)) (.bool p.isNone) := by
  intro w
  rw [run_eql_pointer_nil _ _ _ hu]
theorem neNil {P : Program} {T : TypeId} {p : Option Addr} (hu : P.underlying T = some (.pointer (P.pointee T))) : PV P (binOp .neq T (.pointer p) (.pointer none)) (.bool p.isSome) := by
  intro w
  rw [run_neq_pointer_nil _ _ _ hu]
  cases p <;> rfl
end Go.Proofs.YtoheablfncdibaaDoor.Sx
