/- Rows: a part of an element is stored; elements are read. -/
import Derived.Test.YtoheablfncdibaaDoorSxRow
namespace Go.Proofs.YtoheablfncdibaaDoor.Sx
open Go Go.RowKit
set_option linter.unusedVariables false
set_option linter.unusedSimpArgs false
set_option maxRecDepth 10000
theorem extOwn {h h1 h2 : Hp} {S : Nat → Prop} (e : Ext h h1) (f : Fr S h1 h2) (hS : ∀ k, S k → h.size ≤ k) : Ext h h2 :=
  ⟨Nat.le_trans e.size f.size, fun k hk => (f.keep k (Nat.lt_of_lt_of_le hk e.size) (fun hs => by have := hS k hs; omega)).trans (e.old k hk)⟩
def Fresh (h : Hp) (A : Option Addr) : Prop := ∀ k, blk A k → h.size ≤ k
theorem Fresh.none (h : Hp) : Fresh h none := by rintro k ⟨a, ha, _⟩; cases ha
theorem Fresh.some {h : Hp} {g o : Nat} {s : Option Nat} (hg : h.size ≤ g) : Fresh h (some ⟨g, o, s⟩) := by rintro k ⟨a, ha, hk⟩; cases ha; subst hk; exact hg
theorem Fresh.sub {h h1 : Hp} {A : Option Addr} (e : Ext h h1) (f : Fresh h1 A) : Fresh h A := fun k hk => Nat.le_trans e.size (f k hk)
theorem Ext.f0 {h h1 : Hp} (e : Ext h h1) : Fr (fun _ => False) h h1 := e.fr _
section
variable {α : Type} {enc : α → List Value} {sz : Nat}
theorem Row.ext {h h' : Hp} {E : Nat} {A : Option Addr} {c : Nat} {xs : List α} (r : Row h E enc sz A c xs) (e : Ext h h') : Row h' E enc sz A c xs := r.keep e.f0 (fun _ _ h => h)
theorem HU_part {P : Program} {t : TypeId} (he : ∀ x, (enc x).length = sz) {h : Hp} {E g c : Nat} {xs : List α} {j : Nat} {x x' : α} {v : Value} {us : List Value} {o : Nat} {K : Hp → Prop} (r : Row h E enc sz (some ⟨g, 0, none⟩) c xs) (hx : xs[j]? = some x)
    (hv : v.cells = us.toArray) (hsz : (P.info? t).map (·.size) = some us.length) (hf : us.all flatV = true) (ho : o + us.length ≤ sz) (hx' : enc x' = (enc x).take o ++ us ++ (enc x).drop (o + us.length))
    (H : ∀ h', Row h' E enc sz (some ⟨g, 0, none⟩) c (xs.set j x') → Fr (fun k => k = g) h h' → h'.size = h.size → K h') : HU P (Instr.storeAt t (.pointer (some ⟨g, j * sz + o, none⟩)) v) h K := by
  obtain ⟨hlt, hget⟩ := List.getElem?_eq_some_iff.1 hx
  obtain ⟨g', rest, hA, hb, hl, hcl⟩ := r.open he (by omega)
  injection hA with hA
  injection hA with hA _ _
  subst hA
  have hX : ((xs.take j).flatMap enc).length = j * sz := by rw [flat_len he]; simp; congr 1; omega
  have hs1 : xs.flatMap enc = (xs.take j).flatMap enc ++ (enc x ++ (xs.drop (j + 1)).flatMap enc) := by
    have : xs = xs.take j ++ x :: xs.drop (j + 1) := by rw [← hget, ← List.drop_eq_getElem_cons hlt, List.take_append_drop]
    conv => lhs; rw [this]
    simp
  have hs2 : xs.flatMap enc ++ rest = (xs.take j).flatMap enc ++ (enc x ++ ((xs.drop (j + 1)).flatMap enc ++ rest)) := by rw [hs1]; simp only [List.append_assoc]
  refine HU_st (us := us) hb hv hsz ?_ hf ?_
  · rw [hs2, List.length_append, List.length_append, hX, he]
    omega
  · have e : (xs.flatMap enc ++ rest).take (j * sz + o) ++ us ++ (xs.flatMap enc ++ rest).drop (j * sz + o + us.length) = (xs.set j x').flatMap enc ++ rest := by
      rw [List.set_eq_take_append_cons_drop, if_pos hlt, hs2]
      have d0 : ((xs.take j).flatMap enc).drop (j * sz + o + us.length) = [] := List.drop_of_length_le (by rw [hX]; omega)
      have d1 : ((xs.take j).flatMap enc).take (j * sz + o) = (xs.take j).flatMap enc := List.take_of_length_le (by rw [hX]; omega)
      rw [List.take_append, List.drop_append, hX, d0, d1, show j * sz + o - j * sz = o by omega, show j * sz + o + us.length - j * sz = o + us.length by omega]
      rw [List.take_append_of_le_length (by rw [he]; omega), List.drop_append_of_le_length (by rw [he]; omega)]
      simp [hx']
    rw [e]
    refine H _ (Row.shut he (setB_get (lt_of_get hb)) ?_ (by simpa using hcl)) (setB_fr rfl) setB_size
    rw [← hl, List.length_append, List.length_append, flat_len he, flat_len he, List.length_set]
theorem Row.blk0 (he : ∀ x, (enc x).length = sz) {h : Hp} {E : Nat} {A : Option Addr} {c : Nat} {xs : List α} (r : Row h E enc sz A c xs) (h0 : 0 < xs.length) : ∃ g, A = some ⟨g, 0, none⟩ := by
  obtain ⟨g, rest, hA, _⟩ := r.open he h0
  exact ⟨g, hA⟩
theorem Row.elem0 (he : ∀ x, (enc x).length = sz) {h : Hp} {E g c : Nat} {xs : List α} (r : Row h E enc sz (some ⟨g, 0, none⟩) c xs) {i : Nat} {x : α} (hi : xs[i]? = some x) : Cl h ⟨g, i * sz, none⟩ (enc x) := by
  have := r.read.elem he hi rfl
  rw [add_eq0] at this
  exact this
theorem ix0 {P : Program} {T E : TypeId} {g l c : Nat} {k : IntKind} {i : Nat} (h1 : i < l) (hu : P.underlying T = some (.slice E)) (hs : (P.info? E).map (·.size) = some sz) : PV P (Instr.indexAt T (.slice (some ⟨g, 0, none⟩) l c) (.int k (i : Int))) (.pointer (some ⟨g, i * sz, none⟩)) := by
  have := ix (P := P) (T := T) (E := E) (a := ⟨g, 0, none⟩) (l := l) (c := c) (sz := sz) (k := k) (i := (i : Int)) (by omega) (by omega) hu hs
  rw [Int.toNat_natCast, add_eq0] at this
  exact this
theorem ixR {P : Program} {T E : TypeId} (he : ∀ x, (enc x).length = sz) {h : Hp} {A : Option Addr} {l c : Nat} {k : IntKind} {xs : List α} (r : RSl h A l sz (xs.flatMap enc)) (hl : xs.length = l) (hu : P.underlying T = some (.slice E)) (hs : (P.info? E).map (·.size) = some sz) {i : Nat} {x : α} (hi : xs[i]? = some x) :
    ∃ a : Addr, a.spot = none ∧ (∃ b, A = some b ∧ a.block = b.block) ∧ PV P (Instr.indexAt T (.slice A l c) (.int k (i : Int))) (.pointer (some a)) ∧ Cl h a (enc x) := by
  have hlt := (List.getElem?_eq_some_iff.1 hi).1
  obtain ⟨a, rfl, hcl⟩ := r.some (by omega)
  have := ix (P := P) (T := T) (E := E) (a := a) (l := l) (c := c) (sz := sz) (k := k) (i := (i : Int)) (by omega) (by omega) hu hs
  rw [Int.toNat_natCast] at this
  exact ⟨a.add (i * sz), by rw [add_off hcl.spot], ⟨a, rfl, by rw [add_off hcl.spot]⟩, this, r.elem he hi hl⟩
/-- A row is made and filled out of a slice that is read. -/
theorem HW_copyFrom' {P : Program} {T E ty : TypeId} {i : TypeInfo} {h : Hp} {A sA : Option Addr} {c sc n : Nat} {zs xs : List α} {K : Value → Hp → Prop} (he : ∀ x, (enc x).length = sz) (hf : ∀ x, (enc x).all flatV = true)
    (hu : P.underlying T = some (.slice E)) (hi : P.info? E = some i) (hsz : i.size = sz) (r : Row h E enc sz A c zs) (hn : zs.length = n) (hl : xs.length = n) (rs : RSl h sA xs.length sz (xs.flatMap enc))
    (H : ∀ h', Row h' E enc sz A c xs → Fr (blk A) h h' → h'.size = h.size → K (.int .i64 (xs.length : Int)) h') :
    HW P (Builtin.copy_ #[T, T] ty #[.slice A n c, .slice sA xs.length sc]) h K := by
  subst hn
  exact HW_copyFrom he hf hu hi hsz r hl.symm rs H
/-! ### Rows whose room is a number of the machine's -/
structure RowC (h : Hp) (E : Nat) (enc : α → List Value) (sz : Nat) (A : Option Addr) (c : Nat) (xs : List α) : Prop where
  row : Row h E enc sz A c xs
  cap : c < 2 ^ 63
theorem RowC.nil {h : Hp} {E : Nat} : RowC h E enc sz none 0 [] := ⟨.inl ⟨rfl, rfl, rfl, rfl⟩, by decide⟩
theorem RowC.keep {h h' : Hp} {E : Nat} {A : Option Addr} {c : Nat} {xs : List α} {S : Nat → Prop} (r : RowC h E enc sz A c xs) (f : Fr S h h') (hn : ∀ k, blk A k → ¬ S k) : RowC h' E enc sz A c xs := ⟨r.row.keep f hn, r.cap⟩
theorem RowC.ext {h h' : Hp} {E : Nat} {A : Option Addr} {c : Nat} {xs : List α} (r : RowC h E enc sz A c xs) (e : Ext h h') : RowC h' E enc sz A c xs := ⟨r.row.ext e, r.cap⟩
theorem RowC.read {h : Hp} {E : Nat} {A : Option Addr} {c : Nat} {xs : List α} (r : RowC h E enc sz A c xs) : RSl h A xs.length sz (xs.flatMap enc) := r.row.read
theorem RowC.blk0 (he : ∀ x, (enc x).length = sz) {h : Hp} {E : Nat} {A : Option Addr} {c : Nat} {xs : List α} (r : RowC h E enc sz A c xs) (h0 : 0 < xs.length) : ∃ g, A = some ⟨g, 0, none⟩ := r.row.blk0 he h0
theorem RowC.elem0 (he : ∀ x, (enc x).length = sz) {h : Hp} {E g c : Nat} {xs : List α} (r : RowC h E enc sz (some ⟨g, 0, none⟩) c xs) {i : Nat} {x : α} (hi : xs[i]? = some x) : Cl h ⟨g, i * sz, none⟩ (enc x) := r.row.elem0 he hi
/-- A row's block is there. -/
theorem RowC.old {h : Hp} {E : Nat} {A : Option Addr} {c : Nat} {xs : List α} (r : RowC h E enc sz A c xs) : ∀ k, blk A k → k < h.size := by
  intro k hk
  rcases r.row with ⟨ha, _⟩ | ⟨g, rest, ha, hb, _⟩
  · rw [ha] at hk; obtain ⟨q, hq, _⟩ := hk; cases hq
  · rw [ha] at hk
    obtain ⟨q, hq, rfl⟩ := hk
    cases hq
    exact lt_of_get hb
/-- One element more, of a fresh row. -/
theorem appF {P : Program} {T E : TypeId} {i : TypeInfo} {z : Value} (he : ∀ x, (enc x).length = sz) (hf : ∀ x, (enc x).all flatV = true) {h0 h : Hp} {A : Option Addr} {c cx : Nat} {ax : Addr} {xs : List α} {x : α} {K : Value → Hp → Prop}
    (hu : P.underlying T = some (.slice E)) (hi : P.info? E = some i) (hz : i.zero = some z) (hzl : z.cells.size = sz) (hsz : i.size = sz) (hb0 : 0 < i.bytes) (hb1 : i.bytes ≤ 1000)
    (e : Ext h0 h) (r : RowC h E enc sz A c xs) (hF : Fresh h0 A) (hx : Cl h ax (enc x)) (hl : xs.length ≤ 1000000000)
    (H : ∀ h' A' c', Ext h0 h' → RowC h' E enc sz A' c' (xs ++ [x]) → Fresh h0 A' → Fr (blk A) h h' → K (.slice A' (xs ++ [x]).length c') h') :
    HW P (Builtin.append_ #[T, T] T #[.slice A xs.length c, .slice (some ax) 1 cx]) h K := by
  have hb : (2 * (xs.length + 1) + 768) * i.bytes ≤ 2 ^ 48 := by
    have h1 := Nat.mul_le_mul_left (2 * (xs.length + 1) + 768) hb1
    have h2 : (2 * (xs.length + 1) + 768) * 1000 ≤ 2 ^ 48 := by
      have : (2 * (xs.length + 1) + 768) ≤ 2000000770 := by omega
      exact Nat.le_trans (Nat.mul_le_mul_right 1000 this) (by decide)
    exact Nat.le_trans h1 h2
  refine HW_append1C he hf hu hi hz hzl hsz hb0 r.row hx hb fun h' g c' r' hg f hc => ?_
  have := H h' (some ⟨g, 0, none⟩) c' (extOwn e f hF) ⟨r', hc.elim (fun e => e ▸ r.cap) id⟩ (Fresh.some (by
    rcases hg with hg | hg
    · exact hF g hg
    · have := e.size; omega)) f
  simpa using this
/-- The cells of a row, whatever they are. -/
def Raw (h : Hp) (E g n : Nat) : Prop := ∃ cs : List Value, h[g]? = some (.cells cs.toArray E (0, 0)) ∧ cs.length = n
theorem RowC.raw {h : Hp} {E g c : Nat} {xs : List α} (r : RowC h E enc sz (some ⟨g, 0, none⟩) c xs) : Raw h E g (c * sz) := by
  rcases r.row with ⟨ha, _⟩ | ⟨g', rest, ha, hb, _, h2, _⟩
  · cases ha
  · cases ha; exact ⟨_, hb, h2⟩
theorem Raw.keep {h h' : Hp} {E g n : Nat} {S : Nat → Prop} (r : Raw h E g n) (f : Fr S h h') (hn : ¬ S g) : Raw h' E g n := by
  obtain ⟨cs, h1, h2⟩ := r
  exact ⟨cs, f.get h1 hn, h2⟩
theorem HU_raw {P : Program} {t : TypeId} {h : Hp} {E g n o : Nat} {v : Value} {us : List Value} {K : Hp → Prop} (r : Raw h E g n) (hv : v.cells = us.toArray) (hsz : (P.info? t).map (·.size) = some us.length) (hf : us.all flatV = true) (ho : o + us.length ≤ n)
    (H : ∀ h', Raw h' E g n → Fr (fun k => k = g) h h' → h'.size = h.size → K h') : HU P (Instr.storeAt t (.pointer (some ⟨g, o, none⟩)) v) h K := by
  obtain ⟨cs, h1, h2⟩ := r
  refine HU_st (us := us) h1 hv hsz (by omega) hf ?_
  exact H _ ⟨_, setB_get (lt_of_get h1), by simp; omega⟩ (setB_fr rfl) setB_size
end
end Go.Proofs.YtoheablfncdibaaDoor.Sx
