/- Laws of memory over the heap alone: rows of elements, each of several cells. -/
import Derived.Test.YtoheablfncdibaaDoorSxOwn
namespace Go.Proofs.YtoheablfncdibaaDoor.Sx
open Go Go.RowKit
set_option linter.unusedVariables false
set_option linter.unusedSimpArgs false
section
variable {α : Type} {enc : α → List Value} {sz : Nat}
theorem flat_take (he : ∀ x, (enc x).length = sz) : ∀ (xs : List α) (n : Nat), (xs.flatMap enc).take (n * sz) = (xs.take n).flatMap enc
  | xs, 0 => by simp
  | [], n + 1 => by simp
  | x :: xs, n + 1 => by
    rw [List.flatMap_cons, List.take_succ_cons, List.flatMap_cons, ← flat_take he xs n, Nat.add_mul, Nat.one_mul, Nat.add_comm, ← he x, List.take_append]
    rw [List.take_of_length_le (by omega), Nat.add_sub_cancel_left]
theorem flat_drop (he : ∀ x, (enc x).length = sz) : ∀ (xs : List α) (n : Nat), (xs.flatMap enc).drop (n * sz) = (xs.drop n).flatMap enc
  | xs, 0 => by simp
  | [], n + 1 => by simp
  | x :: xs, n + 1 => by
    rw [List.flatMap_cons, List.drop_succ_cons, ← flat_drop he xs n, Nat.add_mul, Nat.one_mul, Nat.add_comm, ← he x, List.drop_append]
    simp
/-- A row of elements of the call's own. -/
def Row (h : Hp) (E : Nat) (enc : α → List Value) (sz : Nat) (A : Option Addr) (c : Nat) (xs : List α) : Prop := OSl h E sz A xs.length c (xs.flatMap enc)
theorem Row.read {h : Hp} {E : Nat} {A : Option Addr} {c : Nat} {xs : List α} (r : Row h E enc sz A c xs) : RSl h A xs.length sz (xs.flatMap enc) := OSl.read r
theorem Row.keep {h h' : Hp} {E : Nat} {A : Option Addr} {c : Nat} {xs : List α} {S : Nat → Prop} (r : Row h E enc sz A c xs) (f : Fr S h h') (hn : ∀ k, blk A k → ¬ S k) : Row h' E enc sz A c xs := OSl.keep r f hn
theorem Row.open (he : ∀ x, (enc x).length = sz) {h : Hp} {E : Nat} {A : Option Addr} {c : Nat} {xs : List α} (r : Row h E enc sz A c xs) (h0 : 0 < xs.length) :
    ∃ g rest, A = some ⟨g, 0, none⟩ ∧ h[g]? = some (.cells (xs.flatMap enc ++ rest).toArray E (0, 0)) ∧ (xs.flatMap enc ++ rest).length = c * sz ∧ xs.length ≤ c := by
  rcases r with ⟨_, h1, _⟩ | ⟨g, rest, hA, hb, _, h2, h3⟩
  · omega
  · exact ⟨g, rest, hA, hb, h2, h3⟩
theorem Row.shut (he : ∀ x, (enc x).length = sz) {h : Hp} {E g c : Nat} {xs : List α} {rest : List Value} (hb : h[g]? = some (.cells (xs.flatMap enc ++ rest).toArray E (0, 0))) (hl : (xs.flatMap enc ++ rest).length = c * sz) (hc : xs.length ≤ c) : Row h E enc sz (some ⟨g, 0, none⟩) c xs :=
  .inr ⟨g, rest, rfl, hb, flat_len he xs, hl, hc⟩
/-- An element is stored. -/
theorem HU_elem {P : Program} {t : TypeId} (he : ∀ x, (enc x).length = sz) (hf : ∀ x, (enc x).all flatV = true) {h : Hp} {E g c : Nat} {xs : List α} {j : Nat} {x : α} {v : Value} {K : Hp → Prop} (r : Row h E enc sz (some ⟨g, 0, none⟩) c xs) (hj : j < xs.length)
    (hv : v.cells = (enc x).toArray) (hsz : (P.info? t).map (·.size) = some sz)
    (H : ∀ h', Row h' E enc sz (some ⟨g, 0, none⟩) c (xs.set j x) → Fr (fun k => k = g) h h' → h'.size = h.size → K h') : HU P (Instr.storeAt t (.pointer (some ⟨g, j * sz, none⟩)) v) h K := by
  obtain ⟨g', rest, hA, hb, hl, hc⟩ := r.open he (by omega)
  injection hA with hA
  injection hA with hA _ _
  subst hA
  have hx := he x
  have hlen := flat_len he xs
  have hmul : (j + 1) * sz ≤ xs.length * sz := Nat.mul_le_mul_right _ (by omega)
  have hmul2 : (j + 1) * sz = j * sz + sz := by rw [Nat.add_mul, Nat.one_mul]
  refine HU_st (us := enc x) hb hv (by rw [hx]; exact hsz) (by rw [List.length_append, hlen, hx]; omega) (hf x) ?_
  have e : (xs.flatMap enc ++ rest).take (j * sz) ++ enc x ++ (xs.flatMap enc ++ rest).drop (j * sz + (enc x).length) = (xs.set j x).flatMap enc ++ rest := by
    rw [List.take_append_of_le_length (by rw [hlen]; omega), flat_take he, hx, ← hmul2, List.drop_append_of_le_length (by rw [hlen]; omega), flat_drop he]
    rw [List.set_eq_take_append_cons_drop, if_pos hj]
    simp
  rw [e]
  refine H _ (Row.shut he (setB_get (lt_of_get hb)) ?_ (by simpa using hc)) (setB_fr rfl) setB_size
  rw [← hl, List.length_append, List.length_append, flat_len he, flat_len he, List.length_set]
/-- Elements go over within a row. -/
theorem HW_copyIn {P : Program} {T E ty : TypeId} {inf : TypeInfo} (he : ∀ x, (enc x).length = sz) (hf : ∀ x, (enc x).all flatV = true) {h : Hp} {A : Option Addr} {c : Nat} {xs : List α} {i j m dc sc : Nat} {dA sA : Option Addr} {K : Value → Hp → Prop}
    (hu : P.underlying T = some (.slice E)) (hi : P.info? E = some inf) (hsz : inf.size = sz) (r : Row h E enc sz A c xs) (hm : Nat.min (xs.length - j) (xs.length - i) = m) (hij : i ≤ xs.length) (hjj : j ≤ xs.length)
    (hd : 0 < m → dA = A.map (·.add (i * sz))) (hs : 0 < m → sA = A.map (·.add (j * sz)))
    (H : ∀ h', Row h' E enc sz A c (xs.take i ++ (xs.drop j).take m ++ xs.drop (i + m)) → Fr (blk A) h h' → h'.size = h.size → K (.int .i64 m) h') :
    HW P (Builtin.copy_ #[T, T] ty #[.slice dA (xs.length - i) dc, .slice sA (xs.length - j) sc]) h K := by
  rcases Nat.eq_zero_or_pos m with hm0 | hm0
  · subst hm0
    refine HW_copy0 hu hi hm ?_
    have := H h (by simpa using r) (Fr.refl _ _) rfl
    simpa using this
  · have hmi : i + m ≤ xs.length := by
      have : m ≤ xs.length - i := by rw [← hm]; exact Nat.min_le_right _ _
      omega
    have hmj : j + m ≤ xs.length := by
      have : m ≤ xs.length - j := by rw [← hm]; exact Nat.min_le_left _ _
      omega
    obtain ⟨g, rest, rfl, hb, hl, hc⟩ := r.open he (by omega)
    rw [hd hm0, hs hm0]
    simp only [Option.map_some, add_eq0]
    have hlen := flat_len he xs
    have m1 : (i + m) * sz = i * sz + m * sz := Nat.add_mul _ _ _
    have m2 : (j + m) * sz = j * sz + m * sz := Nat.add_mul _ _ _
    have m3 : (i + m) * sz ≤ xs.length * sz := Nat.mul_le_mul_right _ hmi
    have m4 : (j + m) * sz ≤ xs.length * sz := Nat.mul_le_mul_right _ hmj
    have hus : (((xs.drop j).take m).flatMap enc).length = m * sz := by rw [flat_len he]; congr 1; simp; omega
    have hcl : Cl h ⟨g, j * sz, none⟩ (((xs.drop j).take m).flatMap enc) := by
      refine Cl.of_block hb fun q v hq => ?_
      have hql := (List.getElem?_eq_some_iff.1 hq).1
      rw [hus] at hql
      rw [List.getElem?_append_left (by rw [hlen]; omega), ← List.getElem?_drop, flat_drop he]
      rw [← flat_take he, List.getElem?_take] at hq
      rw [if_pos hql] at hq
      exact hq
    have hfl : (((xs.drop j).take m).flatMap enc).all flatV = true := by
      rw [List.all_eq_true]
      intro u hu
      obtain ⟨y, _, hy⟩ := List.mem_flatMap.1 hu
      exact List.all_eq_true.1 (hf y) u hy
    refine HW_copy hu hi hb hcl (by rw [hus, hm, hsz]) (by rw [hus, List.length_append, hlen]; omega) hfl ?_
    rw [hm, hus]
    have e : (xs.flatMap enc ++ rest).take (i * sz) ++ ((xs.drop j).take m).flatMap enc ++ (xs.flatMap enc ++ rest).drop (i * sz + m * sz) = (xs.take i ++ (xs.drop j).take m ++ xs.drop (i + m)).flatMap enc ++ rest := by
      rw [List.take_append_of_le_length (by rw [hlen]; omega), flat_take he, ← m1, List.drop_append_of_le_length (by rw [hlen]; omega), flat_drop he]
      simp
    rw [e]
    have hlen2 : (xs.take i ++ (xs.drop j).take m ++ xs.drop (i + m)).length = xs.length := by simp; omega
    refine H _ (Row.shut he (setB_get (lt_of_get hb)) ?_ (by rw [hlen2]; exact hc)) (setB_fr ⟨_, rfl, rfl⟩) setB_size
    rw [← hl, List.length_append, List.length_append, flat_len he, flat_len he, hlen2]
/-- One element more. -/
theorem HW_append1C {P : Program} {T E : TypeId} {i : TypeInfo} {z : Value} (he : ∀ x, (enc x).length = sz) (hf : ∀ x, (enc x).all flatV = true) {h : Hp} {A : Option Addr} {c cx : Nat} {ax : Addr} {xs : List α} {x : α} {K : Value → Hp → Prop}
    (hu : P.underlying T = some (.slice E)) (hi : P.info? E = some i) (hz : i.zero = some z) (hzl : z.cells.size = sz) (hsz : i.size = sz) (hb0 : 0 < i.bytes)
    (r : Row h E enc sz A c xs) (hx : Cl h ax (enc x)) (hbound : (2 * (xs.length + 1) + 768) * i.bytes ≤ 2 ^ 48)
    (H : ∀ h' g c', Row h' E enc sz (some ⟨g, 0, none⟩) c' (xs ++ [x]) → (blk A g ∨ h.size ≤ g) → Fr (blk A) h h' → (c' = c ∨ c' < 2 ^ 63) → K (.slice (some ⟨g, 0, none⟩) (xs.length + 1) c') h') :
    HW P (Builtin.append_ #[T, T] T #[.slice A xs.length c, .slice (some ax) 1 cx]) h K := by
  refine HW_appendC hu hi hz (by rw [hzl, hsz]) hb0 (by rw [hsz]; exact r) hx (by rw [he, hsz]; simp) (by omega) (hf x) hbound ?_
  intro h' A' c' hO hA' hsome hfr hcc
  rw [hsz] at hO
  have hO' := hO
  rcases hO' with ⟨h1, _⟩ | ⟨g, rest, rfl, _⟩
  · rw [h1] at hsome; cases hsome
  · refine H h' g c' (by unfold Row; simpa using hO) ?_ hfr hcc
    rcases hA' with h1 | h1
    · exact .inl ⟨_, h1.symm, rfl⟩
    · exact .inr (h1 g ⟨_, rfl, rfl⟩)
theorem HW_append1 {P : Program} {T E : TypeId} {i : TypeInfo} {z : Value} (he : ∀ x, (enc x).length = sz) (hf : ∀ x, (enc x).all flatV = true) {h : Hp} {A : Option Addr} {c cx : Nat} {ax : Addr} {xs : List α} {x : α} {K : Value → Hp → Prop}
    (hu : P.underlying T = some (.slice E)) (hi : P.info? E = some i) (hz : i.zero = some z) (hzl : z.cells.size = sz) (hsz : i.size = sz) (hb0 : 0 < i.bytes)
    (r : Row h E enc sz A c xs) (hx : Cl h ax (enc x)) (hbound : (2 * (xs.length + 1) + 768) * i.bytes ≤ 2 ^ 48)
    (H : ∀ h' g c', Row h' E enc sz (some ⟨g, 0, none⟩) c' (xs ++ [x]) → (blk A g ∨ h.size ≤ g) → Fr (blk A) h h' → K (.slice (some ⟨g, 0, none⟩) (xs.length + 1) c') h') :
    HW P (Builtin.append_ #[T, T] T #[.slice A xs.length c, .slice (some ax) 1 cx]) h K :=
  HW_append1C he hf hu hi hz hzl hsz hb0 r hx hbound fun h' g c' a b d _ => H h' g c' a b d
/-- A row is made. -/
theorem HW_makeRow {P : Program} {T E : TypeId} {i : TypeInfo} {z : Value} {h : Hp} {n : Nat} {zr : α} {K : Value → Hp → Prop}
    (hu : P.underlying T = some (.slice E)) (hi : P.info? E = some i) (hz : i.zero = some z) (hsz : i.size = sz) (hz0 : 0 < sz) (hzl : z.cells = (enc zr).toArray) (he : ∀ x, (enc x).length = sz) (hb : i.bytes * (n : Int) ≤ 2 ^ 48) (hn : n < 2 ^ 62)
    (H : ∀ h', Ext h h' → Row h' E enc sz (some ⟨h.size, 0, none⟩) n (List.replicate n zr) → K (.slice (some ⟨h.size, 0, none⟩) n n) h') :
    HW P (Instr.makeSlice T (.int .i64 (n : Int)) (.int .i64 (n : Int))) h K := by
  refine HW_make (n := (n : Int)) (c := (n : Int)) hu hi hz (by rw [hzl, hsz]; simp [he]) (by omega) (by omega) (by omega) hb (by omega) ?_
  intro h' he' hO
  simp only [Int.toNat_natCast] at hO ⊢
  refine H h' (he' ▸ Ext.push _ _) ?_
  unfold Row
  rw [List.length_replicate]
  have : (List.replicate n zr).flatMap enc = (List.replicate n z.cells.toList).flatten := by
    rw [List.flatMap_def, List.map_replicate, hzl]
  rw [this, ← hsz]
  exact hO
/-- A whole row is filled out of a slice of the same length. -/
theorem HW_copyFrom {P : Program} {T E ty : TypeId} {i : TypeInfo} {h : Hp} {A sA : Option Addr} {c sc : Nat} {zs xs : List α} {K : Value → Hp → Prop} (he : ∀ x, (enc x).length = sz) (hf : ∀ x, (enc x).all flatV = true)
    (hu : P.underlying T = some (.slice E)) (hi : P.info? E = some i) (hsz : i.size = sz) (r : Row h E enc sz A c zs) (hl : zs.length = xs.length) (rs : RSl h sA xs.length sz (xs.flatMap enc))
    (H : ∀ h', Row h' E enc sz A c xs → Fr (blk A) h h' → h'.size = h.size → K (.int .i64 (xs.length : Int)) h') :
    HW P (Builtin.copy_ #[T, T] ty #[.slice A zs.length c, .slice sA xs.length sc]) h K := by
  rcases Nat.eq_zero_or_pos xs.length with h0 | h0
  · refine HW_copy0 hu hi (by rw [h0]; simp) ?_
    have hx : xs = [] := List.eq_nil_of_length_eq_zero h0
    have hzz : zs = [] := List.eq_nil_of_length_eq_zero (by omega)
    subst hx hzz
    exact H h r (Fr.refl _ _) rfl
  · obtain ⟨g, rest, rfl, hb, hlen, hc⟩ := r.open he (by omega)
    obtain ⟨sa, rfl, hcl⟩ := rs.some h0
    have hus := flat_len he xs
    have huz := flat_len he zs
    have hmin : Nat.min xs.length zs.length = xs.length := by rw [hl]; simp
    refine HW_copy hu hi hb hcl (by rw [hus, hmin, hsz]) (by rw [hus, List.length_append, huz, hl]; omega) ?_ ?_
    · rw [List.all_eq_true]
      intro u hu
      obtain ⟨y, _, hy⟩ := List.mem_flatMap.1 hu
      exact List.all_eq_true.1 (hf y) u hy
    · rw [hmin, hus]
      have e : (zs.flatMap enc ++ rest).take 0 ++ xs.flatMap enc ++ (zs.flatMap enc ++ rest).drop (0 + xs.length * sz) = xs.flatMap enc ++ rest := by
        rw [Nat.zero_add, ← hl, ← huz, List.drop_left]; simp
      rw [e]
      refine H _ (Row.shut he (setB_get (lt_of_get hb)) ?_ (by omega)) (setB_fr ⟨_, rfl, rfl⟩) setB_size
      rw [← hlen, List.length_append, List.length_append, hus, huz, hl]
end
/-- A box is stored whole. -/
theorem HU_box {P : Program} {t : TypeId} {b : Nat} {T : TypeId} {cs us : List Value} {v : Value} {h : Hp} {K : Hp → Prop} (hb : h[b]? = some (.cells cs.toArray T (0, 0))) (hv : v.cells = us.toArray) (hl : cs.length = us.length) (hsz : (P.info? t).map (·.size) = some us.length) (hf : us.all flatV = true)
    (H : ∀ h', Cl h' ⟨b, 0, none⟩ us → h'[b]? = some (.cells us.toArray T (0, 0)) → Fr (fun k => k = b) h h' → h'.size = h.size → K h') : HU P (Instr.storeAt t (.pointer (some ⟨b, 0, none⟩)) v) h K := by
  refine HU_st (us := us) hb hv hsz (by omega) hf ?_
  have e : cs.take 0 ++ us ++ cs.drop (0 + us.length) = us := by rw [List.drop_of_length_le (by omega)]; simp
  rw [e]
  have h1 : (setB h b us T)[b]? = some (.cells us.toArray T (0, 0)) := setB_get (lt_of_get hb)
  exact H _ (Cl.of_block h1 fun j v hj => by rw [Nat.zero_add]; exact hj) h1 (setB_fr rfl) setB_size
/-- A new box, stored at once. -/
theorem newV {P : Program} {t : TypeId} {T : TypeId} {cs us : List Value} {v : Value} {h : Hp} {K : Addr → Hp → Prop} (hv : v.cells = us.toArray) (hl : cs.length = us.length) (hsz : (P.info? t).map (·.size) = some us.length) (hf : us.all flatV = true)
    (H : ∀ h', Ext h h' → Cl h' ⟨h.size, 0, none⟩ us → h'[h.size]? = some (.cells us.toArray T (0, 0)) → h'.size = h.size + 1 → K ⟨h.size, 0, none⟩ h') :
    newC h (.cells cs.toArray T (0, 0)) fun a h1 => HU P (Instr.storeAt t (.pointer (some a)) v) h1 fun h2 => K a h2 := by
  refine newC_i fun h1 e1 c1 b1 z1 => HU_box b1 hv hl hsz hf fun h2 c2 b2 f2 z2 => H h2 ⟨?_, fun k hk => ?_⟩ c2 b2 (by omega)
  · have := e1.size; omega
  · rw [f2.keep k (by omega) (by omega), e1.old k hk]
end Go.Proofs.YtoheablfncdibaaDoor.Sx
