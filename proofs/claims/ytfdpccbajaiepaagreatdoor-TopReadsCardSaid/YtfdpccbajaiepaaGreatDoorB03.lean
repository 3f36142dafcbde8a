/- Texts laid together: SxRow, LxSpec1, SxPart, LxSpec2, LxSpec3, LxSpec4, LxSpec5, LxSpec6, LxSpec7, SxRange, SxFunc, LxSpec8, LxSpec9, LxSpec10, LxSpec11. -/
import Derived.Test.YtfdpccbajaiepaaGreatDoorB02
import Derived.Test.YtfdpccbajaiepaaGreatDoorB01
import Derived.Laws.Strings
import Derived.Laws.RangeString
import Derived.RangeFuncLeaves
import Derived.RangeFuncRecord
/- Laws of memory over the heap alone: rows of elements, each of several cells. -/
namespace Go.Proofs.YtfdpccbajaiepaaGreatDoor.Sx
open Go Go.RowKit
set_option linter.unusedVariables false
set_option linter.unusedSimpArgs false
section
variable {α : Type} {enc : α → List Value} {sz : Nat}
theorem flat_take (he : ∀ x, (enc x).length = sz) : ∀ (xs : List α) (n : Nat), (xs.flatMap enc).take (n * sz) = (xs.take n).flatMap enc
  | xs, 0 => by simp
  | [], n + 1 => by simp
  | x :: xs, n + 1 => by
    rw [List.flatMap_cons, List.take_succ_cons, List.flatMap_cons, ← flat_take he xs n, Nat.add_mul, Nat.one_mul, Nat.add_comm, ← he x, List.take_append]
    rw [List.take_of_length_le (by omega), Nat.add_sub_cancel_left]
theorem flat_drop (he : ∀ x, (enc x).length = sz) : ∀ (xs : List α) (n : Nat), (xs.flatMap enc).drop (n * sz) = (xs.drop n).flatMap enc
  | xs, 0 => by simp
  | [], n + 1 => by simp
  | x :: xs, n + 1 => by
    rw [List.flatMap_cons, List.drop_succ_cons, ← flat_drop he xs n, Nat.add_mul, Nat.one_mul, Nat.add_comm, ← he x, List.drop_append]
    simp
/-- A row of elements of the call's own. -/
def Row (h : Hp) (E : Nat) (enc : α → List Value) (sz : Nat) (A : Option Addr) (c : Nat) (xs : List α) : Prop := OSl h E sz A xs.length c (xs.flatMap enc)
theorem Row.read {h : Hp} {E : Nat} {A : Option Addr} {c : Nat} {xs : List α} (r : Row h E enc sz A c xs) : RSl h A xs.length sz (xs.flatMap enc) := OSl.read r
theorem Row.keep {h h' : Hp} {E : Nat} {A : Option Addr} {c : Nat} {xs : List α} {S : Nat → Prop} (r : Row h E enc sz A c xs) (f : Fr S h h') (hn : ∀ k, blk A k → ¬ S k) : Row h' E enc sz A c xs := OSl.keep r f hn
theorem Row.open (he : ∀ x, (enc x).length = sz) {h : Hp} {E : Nat} {A : Option Addr} {c : Nat} {xs : List α} (r : Row h E enc sz A c xs) (h0 : 0 < xs.length) :
    ∃ g rest, A = some ⟨g, 0, none⟩ ∧ h[g]? = some (.cells (xs.flatMap enc ++ rest).toArray E (0, 0)) ∧ (xs.flatMap enc ++ rest).length = c * sz ∧ xs.length ≤ c := by
  rcases r with ⟨_, h1, _⟩ | ⟨g, rest, hA, hb, _, h2, h3⟩
  · omega
  · exact ⟨g, rest, hA, hb, h2, h3⟩
theorem Row.shut (he : ∀ x, (enc x).length = sz) {h : Hp} {E g c : Nat} {xs : List α} {rest : List Value} (hb : h[g]? = some (.cells (xs.flatMap enc ++ rest).toArray E (0, 0))) (hl : (xs.flatMap enc ++ rest).length = c * sz) (hc : xs.length ≤ c) : Row h E enc sz (some ⟨g, 0, none⟩) c xs :=
  .inr ⟨g, rest, rfl, hb, flat_len he xs, hl, hc⟩
/-- An element is stored. -/
theorem HU_elem {P : Program} {t : TypeId} (he : ∀ x, (enc x).length = sz) (hf : ∀ x, (enc x).all flatV = true) {h : Hp} {E g c : Nat} {xs : List α} {j : Nat} {x : α} {v : Value} {K : Hp → Prop} (r : Row h E enc sz (some ⟨g, 0, none⟩) c xs) (hj : j < xs.length)
    (hv : v.cells = (enc x).toArray) (hsz : (P.info? t).map (·.size) = some sz)
    (H : ∀ h', Row h' E enc sz (some ⟨g, 0, none⟩) c (xs.set j x) → Fr (fun k => k = g) h h' → h'.size = h.size → K h') : HU P (Instr.storeAt t (.pointer (some ⟨g, j * sz, none⟩)) v) h K := by
  obtain ⟨g', rest, hA, hb, hl, hc⟩ := r.open he (by omega)
  injection hA with hA
  injection hA with hA _ _
  subst hA
  have hx := he x
  have hlen := flat_len he xs
  have hmul : (j + 1) * sz ≤ xs.length * sz := Nat.mul_le_mul_right _ (by omega)
  have hmul2 : (j + 1) * sz = j * sz + sz := by rw [Nat.add_mul, Nat.one_mul]
  refine HU_st (us := enc x) hb hv (by rw [hx]; exact hsz) (by rw [List.length_append, hlen, hx]; omega) (hf x) ?_
  have e : (xs.flatMap enc ++ rest).take (j * sz) ++ enc x ++ (xs.flatMap enc ++ rest).drop (j * sz + (enc x).length) = (xs.set j x).flatMap enc ++ rest := by
    rw [List.take_append_of_le_length (by rw [hlen]; omega), flat_take he, hx, ← hmul2, List.drop_append_of_le_length (by rw [hlen]; omega), flat_drop he]
    rw [List.set_eq_take_append_cons_drop, if_pos hj]
    simp
  rw [e]
  refine H _ (Row.shut he (setB_get (lt_of_get hb)) ?_ (by simpa using hc)) (setB_fr rfl) setB_size
  rw [← hl, List.length_append, List.length_append, flat_len he, flat_len he, List.length_set]
/-- Elements go over within a row. -/
theorem HW_copyIn {P : Program} {T E ty : TypeId} {inf : TypeInfo} (he : ∀ x, (enc x).length = sz) (hf : ∀ x, (enc x).all flatV = true) {h : Hp} {A : Option Addr} {c : Nat} {xs : List α} {i j m dc sc : Nat} {dA sA : Option Addr} {K : Value → Hp → Prop}
    (hu : P.underlying T = some (.slice E)) (hi : P.info? E = some inf) (hsz : inf.size = sz) (r : Row h E enc sz A c xs) (hm : Nat.min (xs.length - j) (xs.length - i) = m) (hij : i ≤ xs.length) (hjj : j ≤ xs.length)
    (hd : 0 < m → dA = A.map (·.add (i * sz))) (hs : 0 < m → sA = A.map (·.add (j * sz)))
    (H : ∀ h', Row h' E enc sz A c (xs.take i ++ (xs.drop j).take m ++ xs.drop (i + m)) → Fr (blk A) h h' → h'.size = h.size → K (.int .i64 m) h') :
    HW P (Builtin.copy_ #[T, T] ty #[.slice dA (xs.length - i) dc, .slice sA (xs.length - j) sc]) h K := by
  rcases Nat.eq_zero_or_pos m with hm0 | hm0
  · subst hm0
    refine HW_copy0 hu hi hm ?_
    have := H h (by simpa using r) (Fr.refl _ _) rfl
    simpa using this
  · have hmi : i + m ≤ xs.length := by
      have : m ≤ xs.length - i := by rw [← hm]; exact Nat.min_le_right _ _
      omega
    have hmj : j + m ≤ xs.length := by
      have : m ≤ xs.length - j := by rw [← hm]; exact Nat.min_le_left _ _
      omega
    obtain ⟨g, rest, rfl, hb, hl, hc⟩ := r.open he (by omega)
    rw [hd hm0, hs hm0]
    simp only [Option.map_some, add_eq0]
    have hlen := flat_len he xs
    have m1 : (i + m) * sz = i * sz + m * sz := Nat.add_mul _ _ _
    have m2 : (j + m) * sz = j * sz + m * sz := Nat.add_mul _ _ _
    have m3 : (i + m) * sz ≤ xs.length * sz := Nat.mul_le_mul_right _ hmi
    have m4 : (j + m) * sz ≤ xs.length * sz := Nat.mul_le_mul_right _ hmj
    have hus : (((xs.drop j).take m).flatMap enc).length = m * sz := by rw [flat_len he]; congr 1; simp; omega
    have hcl : Cl h ⟨g, j * sz, none⟩ (((xs.drop j).take m).flatMap enc) := by
      refine Cl.of_block hb fun q v hq => ?_
      have hql := (List.getElem?_eq_some_iff.1 hq).1
      rw [hus] at hql
      rw [List.getElem?_append_left (by rw [hlen]; omega), ← List.getElem?_drop, flat_drop he]
      rw [← flat_take he, List.getElem?_take] at hq
      rw [if_pos hql] at hq
      exact hq
    have hfl : (((xs.drop j).take m).flatMap enc).all flatV = true := by
      rw [List.all_eq_true]
      intro u hu
      obtain ⟨y, _, hy⟩ := List.mem_flatMap.1 hu
      exact List.all_eq_true.1 (hf y) u hy
    refine HW_copy hu hi hb hcl (by rw [hus, hm, hsz]) (by rw [hus, List.length_append, hlen]; omega) hfl ?_
    rw [hm, hus]
    have e : (xs.flatMap enc ++ rest).take (i * sz) ++ ((xs.drop j).take m).flatMap enc ++ (xs.flatMap enc ++ rest).drop (i * sz + m * sz) = (xs.take i ++ (xs.drop j).take m ++ xs.drop (i + m)).flatMap enc ++ rest := by
      rw [List.take_append_of_le_length (by rw [hlen]; omega), flat_take he, ← m1, List.drop_append_of_le_length (by rw [hlen]; omega), flat_drop he]
      simp
    rw [e]
    have hlen2 : (xs.take i ++ (xs.drop j).take m ++ xs.drop (i + m)).length = xs.length := by simp; omega
    refine H _ (Row.shut he (setB_get (lt_of_get hb)) ?_ (by rw [hlen2]; exact hc)) (setB_fr ⟨_, rfl, rfl⟩) setB_size
    rw [← hl, List.length_append, List.length_append, flat_len he, flat_len he, hlen2]
/-- One element more. -/
theorem HW_append1C {P : Program} {T E : TypeId} {i : TypeInfo} {z : Value} (he : ∀ x, (enc x).length = sz) (hf : ∀ x, (enc x).all flatV = true) {h : Hp} {A : Option Addr} {c cx : Nat} {ax : Addr} {xs : List α} {x : α} {K : Value → Hp → Prop}
    (hu : P.underlying T = some (.slice E)) (hi : P.info? E = some i) (hz : i.zero = some z) (hzl : z.cells.size = sz) (hsz : i.size = sz) (hb0 : 0 < i.bytes)
    (r : Row h E enc sz A c xs) (hx : Cl h ax (enc x)) (hbound : (2 * (xs.length + 1) + 768) * i.bytes ≤ 2 ^ 48)
    (H : ∀ h' g c', Row h' E enc sz (some ⟨g, 0, none⟩) c' (xs ++ [x]) → (blk A g ∨ h.size ≤ g) → Fr (blk A) h h' → (c' = c ∨ c' < 2 ^ 63) → K (.slice (some ⟨g, 0, none⟩) (xs.length + 1) c') h') :
    HW P (Builtin.append_ #[T, T] T #[.slice A xs.length c, .slice (some ax) 1 cx]) h K := by
  refine HW_appendC hu hi hz (by rw [hzl, hsz]) hb0 (by rw [hsz]; exact r) hx (by rw [he, hsz]; simp) (by omega) (hf x) hbound ?_
  intro h' A' c' hO hA' hsome hfr hcc
  rw [hsz] at hO
  have hO' := hO
  rcases hO' with ⟨h1, _⟩ | ⟨g, rest, rfl, _⟩
  · rw [h1] at hsome; cases hsome
  · refine H h' g c' (by unfold Row; simpa using hO) ?_ hfr hcc
    rcases hA' with h1 | h1
    · exact .inl ⟨_, h1.symm, rfl⟩
    · exact .inr (h1 g ⟨_, rfl, rfl⟩)
theorem HW_append1 {P : Program} {T E : TypeId} {i : TypeInfo} {z : Value} (he : ∀ x, (enc x).length = sz) (hf : ∀ x, (enc x).all flatV = true) {h : Hp} {A : Option Addr} {c cx : Nat} {ax : Addr} {xs : List α} {x : α} {K : Value → Hp → Prop}
    (hu : P.underlying T = some (.slice E)) (hi : P.info? E = some i) (hz : i.zero = some z) (hzl : z.cells.size = sz) (hsz : i.size = sz) (hb0 : 0 < i.bytes)
    (r : Row h E enc sz A c xs) (hx : Cl h ax (enc x)) (hbound : (2 * (xs.length + 1) + 768) * i.bytes ≤ 2 ^ 48)
    (H : ∀ h' g c', Row h' E enc sz (some ⟨g, 0, none⟩) c' (xs ++ [x]) → (blk A g ∨ h.size ≤ g) → Fr (blk A) h h' → K (.slice (some ⟨g, 0, none⟩) (xs.length + 1) c') h') :
    HW P (Builtin.append_ #[T, T] T #[.slice A xs.length c, .slice (some ax) 1 cx]) h K :=
  HW_append1C he hf hu hi hz hzl hsz hb0 r hx hbound fun h' g c' a b d _ => H h' g c' a b d
/-- A row is made. -/
theorem HW_makeRow {P : Program} {T E : TypeId} {i : TypeInfo} {z : Value} {h : Hp} {n : Nat} {zr : α} {K : Value → Hp → Prop}
    (hu : P.underlying T = some (.slice E)) (hi : P.info? E = some i) (hz : i.zero = some z) (hsz : i.size = sz) (hz0 : 0 < sz) (hzl : z.cells = (enc zr).toArray) (he : ∀ x, (enc x).length = sz) (hb : i.bytes * (n : Int) ≤ 2 ^ 48) (hn : n < 2 ^ 62)
    (H : ∀ h', Ext h h' → Row h' E enc sz (some ⟨h.size, 0, none⟩) n (List.replicate n zr) → K (.slice (some ⟨h.size, 0, none⟩) n n) h') :
    HW P (Instr.makeSlice T (.int .i64 (n : Int)) (.int .i64 (n : Int))) h K := by
  refine HW_make (n := (n : Int)) (c := (n : Int)) hu hi hz (by rw [hzl, hsz]; simp [he]) (by omega) (by omega) (by omega) hb (by omega) ?_
  intro h' he' hO
  simp only [Int.toNat_natCast] at hO ⊢
  refine H h' (he' ▸ Ext.push _ _) ?_
  unfold Row
  rw [List.length_replicate]
  have : (List.replicate n zr).flatMap enc = (List.replicate n z.cells.toList).flatten := by
    rw [List.flatMap_def, List.map_replicate, hzl]
  rw [this, ← hsz]
  exact hO
/-- A whole row is filled out of a slice of the same length. -/
theorem HW_copyFrom {P : Program} {T E ty : TypeId} {i : TypeInfo} {h : Hp} {A sA : Option Addr} {c sc : Nat} {zs xs : List α} {K : Value → Hp → Prop} (he : ∀ x, (enc x).length = sz) (hf : ∀ x, (enc x).all flatV = true)
    (hu : P.underlying T = some (.slice E)) (hi : P.info? E = some i) (hsz : i.size = sz) (r : Row h E enc sz A c zs) (hl : zs.length = xs.length) (rs : RSl h sA xs.length sz (xs.flatMap enc))
    (H : ∀ h', Row h' E enc sz A c xs → Fr (blk A) h h' → h'.size = h.size → K (.int .i64 (xs.length : Int)) h') :
    HW P (Builtin.copy_ #[T, T] ty #[.slice A zs.length c, .slice sA xs.length sc]) h K := by
  rcases Nat.eq_zero_or_pos xs.length with h0 | h0
  · refine HW_copy0 hu hi (by rw [h0]; simp) ?_
    have hx : xs = [] := List.eq_nil_of_length_eq_zero h0
    have hzz : zs = [] := List.eq_nil_of_length_eq_zero (by omega)
    subst hx hzz
    exact H h r (Fr.refl _ _) rfl
  · obtain ⟨g, rest, rfl, hb, hlen, hc⟩ := r.open he (by omega)
    obtain ⟨sa, rfl, hcl⟩ := rs.some h0
    have hus := flat_len he xs
    have huz := flat_len he zs
    have hmin : Nat.min xs.length zs.length = xs.length := by rw [hl]; simp
    refine HW_copy hu hi hb hcl (by rw [hus, hmin, hsz]) (by rw [hus, List.length_append, huz, hl]; omega) ?_ ?_
    · rw [List.all_eq_true]
      intro u hu
      obtain ⟨y, _, hy⟩ := List.mem_flatMap.1 hu
      exact List.all_eq_true.1 (hf y) u hy
    · rw [hmin, hus]
      have e : (zs.flatMap enc ++ rest).take 0 ++ xs.flatMap enc ++ (zs.flatMap enc ++ rest).drop (0 + xs.length * sz) = xs.flatMap enc ++ rest := by
        rw [Nat.zero_add, ← hl, ← huz, List.drop_left]; simp
      rw [e]
      refine H _ (Row.shut he (setB_get (lt_of_get hb)) ?_ (by omega)) (setB_fr ⟨_, rfl, rfl⟩) setB_size
      rw [← hlen, List.length_append, List.length_append, hus, huz, hl]
end
/-- A box is stored whole. -/
theorem HU_box {P : Program} {t : TypeId} {b : Nat} {T : TypeId} {cs us : List Value} {v : Value} {h : Hp} {K : Hp → Prop} (hb : h[b]? = some (.cells cs.toArray T (0, 0))) (hv : v.cells = us.toArray) (hl : cs.length = us.length) (hsz : (P.info? t).map (·.size) = some us.length) (hf : us.all flatV = true)
    (H : ∀ h', Cl h' ⟨b, 0, none⟩ us → h'[b]? = some (.cells us.toArray T (0, 0)) → Fr (fun k => k = b) h h' → h'.size = h.size → K h') : HU P (Instr.storeAt t (.pointer (some ⟨b, 0, none⟩)) v) h K := by
  refine HU_st (us := us) hb hv hsz (by omega) hf ?_
  have e : cs.take 0 ++ us ++ cs.drop (0 + us.length) = us := by rw [List.drop_of_length_le (by omega)]; simp
  rw [e]
  have h1 : (setB h b us T)[b]? = some (.cells us.toArray T (0, 0)) := setB_get (lt_of_get hb)
  exact H _ (Cl.of_block h1 fun j v hj => by rw [Nat.zero_add]; exact hj) h1 (setB_fr rfl) setB_size
/-- A new box, stored at once. -/
theorem newV {P : Program} {t : TypeId} {T : TypeId} {cs us : List Value} {v : Value} {h : Hp} {K : Addr → Hp → Prop} (hv : v.cells = us.toArray) (hl : cs.length = us.length) (hsz : (P.info? t).map (·.size) = some us.length) (hf : us.all flatV = true)
    (H : ∀ h', Ext h h' → Cl h' ⟨h.size, 0, none⟩ us → h'[h.size]? = some (.cells us.toArray T (0, 0)) → h'.size = h.size + 1 → K ⟨h.size, 0, none⟩ h') :
    newC h (.cells cs.toArray T (0, 0)) fun a h1 => HU P (Instr.storeAt t (.pointer (some a)) v) h1 fun h2 => K a h2 := by
  refine newC_i fun h1 e1 c1 b1 z1 => HU_box b1 hv hl hsz hf fun h2 c2 b2 f2 z2 => H h2 ⟨?_, fun k hk => ?_⟩ c2 b2 (by omega)
  · have := e1.size; omega
  · rw [f2.keep k (by omega) (by omega), e1.old k hk]
end Go.Proofs.YtfdpccbajaiepaaGreatDoor.Sx

/- The lexer's small functions: kind, measure, ends, checked. -/
namespace Go.Proofs.YtfdpccbajaiepaaGreatDoor.Lx
open Go Go.RowKit Go.Proofs.YtfdpccbajaiepaaGreatDoor.Sx Go.Proofs.YtfdpccbajaiepaaGreatDoor.Sxp.Fx
set_option linter.unusedVariables false
set_option linter.unusedSimpArgs false
set_option maxRecDepth 10000
def bs (l : List UInt8) : ByteArray := ⟨l.toArray⟩
theorem bs_size (l : List UInt8) : (bs l).size = l.length := by simp [bs, ByteArray.size]
theorem und_str : Tryz.prog.underlying 9 = some .string := by kernel_rfl
theorem bs_get (l : List UInt8) (i : Nat) (h : i < l.length) (h' : i < (bs l).size) : (bs l)[i] = l[i] := by
  have e : (bs l).data = l.toArray := rfl
  show (bs l).data[i]'(by rw [e]; simpa using h) = l[i]
  simp only [e, List.getElem_toArray]
  rfl
theorem ixS {l : List UInt8} {i : Nat} {c : UInt8} (h : l[i]? = some c) {x : Int} (hx : x = i) : PV Tryz.prog (Instr.index 9 (.string (bs l)) (.int .i64 x)) (.int .u8 (c.toNat : Int)) := by
  subst hx
  obtain ⟨hlt, he⟩ := List.getElem?_eq_some_iff.1 h
  intro w
  rw [run_index_string (h := und_str)]
  have hs := bs_size l
  rw [dif_pos (by omega)]
  have : ((i : Int)).toNat = i := by omega
  congr 2
  simp only [this]
  rw [bs_get l i hlt]
  exact congrArg (fun c : UInt8 => ((c.toNat : Nat) : Int)) he
/-- A scanner. -/
structure Sn where
  s : List UInt8
  at_ : Int
  line : Int
  beg : Int
  A : Option Addr
  l : Nat
  c : Nat
  nx : Int
  w : Option Addr
def Sn.enc (x : Sn) : List Value := [.string (bs x.s), .int .i64 x.at_, .int .i64 x.line, .int .i64 x.beg, .slice x.A x.l x.c, .int .i64 x.nx, .pointer x.w]
def SnAt (h : Hp) (b : Nat) (x : Sn) : Prop := h[b]? = some (.cells x.enc.toArray 173 (0, 0))
theorem SnAt.cl {h : Hp} {b : Nat} {x : Sn} (q : SnAt h b x) : Cl h ⟨b, 0, none⟩ x.enc := Cl.of_block q fun j v hj => by rw [Nat.zero_add]; exact hj
theorem SnAt.ext {h h' : Hp} {b : Nat} {x : Sn} (q : SnAt h b x) (e : Ext h h') : SnAt h' b x := by unfold SnAt; rw [e.old _ (lt_of_get q)]; exact q
theorem SnAt.st {h : Hp} {b : Nat} {x x' : Sn} (q : SnAt h b x) (o : Nat) {T : TypeId} {v : Value} (hv : v.cells = #[v]) (hz : (Tryz.prog.info? T).map (·.size) = some 1) (ho : o + 1 ≤ 7) (hf : flatV v = true)
    (he : x.enc.take o ++ [v] ++ x.enc.drop (o + 1) = x'.enc) {K : Hp → Prop} (H : ∀ h', SnAt h' b x' → Fr (fun k => k = b) h h' → h'.size = h.size → K h') : HU Tryz.prog (Instr.storeAt T (.pointer (some ((⟨b, 0, none⟩ : Addr).add o))) v) h K := by
  rw [add_eq0]
  refine HU_st (us := [v]) q hv hz (by simpa [Sn.enc] using ho) (by simp [hf]) ?_
  have : x.enc.take o ++ [v] ++ x.enc.drop (o + [v].length) = x'.enc := he
  rw [this]
  exact H _ (setB_get (lt_of_get q)) (setB_fr rfl) setB_size
theorem kind_s (c : UInt8) {x : Int} (hx : x = (c.toNat : Int)) {h : Hp} {K : Value → Hp → Prop} (H : K (.int .i64 (kindB c : Nat)) h) : CallsH Tryz.prog 86 #[.int .i32 x] h K := by
  subst hx
  refine lex_kind_ok _ ?_
  unfold lex_kind
  unfold kindB at H
  have hc := c.toNat_lt
  obtain ⟨n, hn⟩ : ∃ n, c.toNat = n := ⟨_, rfl⟩
  rw [hn] at H hc ⊢
  have key : ∀ v : Nat, (if 97 ≤ n ∧ n ≤ 122 then 1 else if 48 ≤ n ∧ n ≤ 57 then 2 else if n = 46 ∨ n = 47 ∨ n = 58 ∨ n = 42 then 3 else 0) = v → K (.int .i64 (v : Nat)) h := fun v e => by rw [← e]; exact H
  have tail : ¬ (97 ≤ n ∧ n ≤ 122) → ¬ (48 ≤ n ∧ n ≤ 57) → br ((n : Int) == 46) (K (.int .i64 3) h) (br ((n : Int) == 47) (K (.int .i64 3) h) (br ((n : Int) == 58) (K (.int .i64 3) h) (br ((n : Int) == 42) (K (.int .i64 3) h) (K (.int .i64 0) h)))) := fun a b => by
    refine br_i (fun d => ?_) (fun d1 => br_i (fun d => ?_) (fun d2 => br_i (fun d => ?_) (fun d3 => br_i (fun d => ?_) (fun d4 => ?_))))
    · simp at d; exact key 3 (by rw [if_neg a, if_neg b, if_pos (by omega)])
    · simp at d; exact key 3 (by rw [if_neg a, if_neg b, if_pos (by omega)])
    · simp at d; exact key 3 (by rw [if_neg a, if_neg b, if_pos (by omega)])
    · simp at d; exact key 3 (by rw [if_neg a, if_neg b, if_pos (by omega)])
    · simp at d1 d2 d3 d4; exact key 0 (by rw [if_neg a, if_neg b, if_neg (by omega)])
  refine br_i (fun c1 => br_i (fun c2 => ?_) (fun c2 => br_i (fun c3 => br_i (fun c4 => ?_) (fun c4 => ?_)) (fun c3 => ?_))) (fun c1 => br_i (fun c3 => br_i (fun c4 => ?_) (fun c4 => ?_)) (fun c3 => ?_))
  · simp at c1 c2; exact key 1 (by rw [if_pos (by omega)])
  · simp at c1 c2 c3 c4; exact key 2 (by rw [if_neg (by omega), if_pos (by omega)])
  · simp at c1 c2 c3 c4; exact tail (by omega) (by omega)
  · simp at c1 c2 c3; exact tail (by omega) (by omega)
  · simp at c1 c3 c4; exact key 2 (by rw [if_neg (by omega), if_pos (by omega)])
  · simp at c1 c3 c4; exact tail (by omega) (by omega)
  · simp at c1 c3; exact tail (by omega) (by omega)
/-! ### measure -/
theorem takeWhile_at {α : Type} (p : α → Bool) : ∀ (l : List α) (i : Nat), i < (l.takeWhile p).length → ∃ c, l[i]? = some c ∧ p c = true
  | [], i, h => by simp at h
  | a :: l, i, h => by
    rw [List.takeWhile_cons] at h
    by_cases ha : p a = true
    · rw [if_pos ha] at h
      cases i with
      | zero => exact ⟨a, rfl, ha⟩
      | succ i => exact takeWhile_at p l i (by simpa using h)
    · rw [if_neg ha] at h; simp at h
theorem takeWhile_end {α : Type} (p : α → Bool) : ∀ (l : List α), (∃ c, l[(l.takeWhile p).length]? = some c ∧ p c = false) ∨ (l.takeWhile p).length = l.length
  | [] => .inr rfl
  | a :: l => by
    rw [List.takeWhile_cons]
    by_cases ha : p a = true
    · rw [if_pos ha]
      rcases takeWhile_end p l with ⟨c, h1, h2⟩ | h
      · exact .inl ⟨c, by simpa using h1, h2⟩
      · exact .inr (by simp [h])
    · rw [if_neg ha]
      exact .inl ⟨a, rfl, by simpa using ha⟩
theorem takeWhile_le {α : Type} (p : α → Bool) (l : List α) : (l.takeWhile p).length ≤ l.length := List.Sublist.length_le (List.takeWhile_sublist p)
/-- Between its calls: what is left of the text is r. -/
structure LxS (x : Sn) (r : List UInt8) (line col : Nat) : Prop where
  suf : ∃ pre, x.s = pre ++ r ∧ x.at_ = pre.length ∧ x.beg = pre.length - col ∧ col ≤ pre.length
  lin : x.line = (line : Int)
  len : x.s.length ≤ 65536
  ln : line ≤ 200001
theorem measure_s {h : Hp} {b : Nat} {x : Sn} (q : SnAt h b x) {r : List UInt8} {line col : Nat} (s : LxS x r line col) {K : Value → Hp → Prop}
    (H : ∀ h' x', SnAt h' b x' → Fr (fun k => k = b) h h' → h.size ≤ h'.size → (if lineLen r > 200 then ∃ g, x' = { x with w := some ⟨g, 0, none⟩ } ∧ g ≠ b ∧ h.size ≤ g ∧ h'[g]? = some (.cells #[.int .i64 93, .int .i64 line, .int .i64 1] 34 (0, 0)) else x' = x) → K (.tuple #[]) h') :
    CallsH Tryz.prog 70 #[.pointer (some ⟨b, 0, none⟩)] h K := by
  refine lex_Scanner_measure_ok _ ?_
  unfold lex_Scanner_measure
  have hc := q.cl
  obtain ⟨⟨pre, hpre, hat, hbeg, hcol⟩, hline, hlen, hln⟩ := s
  refine ⟨_, ld (hc.at_ 1 _ rfl) (by kernel_rfl), lineLen r + 1, ?_⟩
  have hrl : pre.length + r.length ≤ 65536 := by rw [hpre] at hlen; simpa using hlen
  have hll : lineLen r ≤ r.length := takeWhile_le _ _
  -- behind the loop
  have fin : lex_Scanner_measure_j2 (fun h57 => K (.tuple #[]) h57) (some ⟨b, 0, none⟩) ((pre.length + lineLen r : Nat) : Int) h := by
    unfold lex_Scanner_measure_j2
    refine ⟨_, ld (hc.at_ 1 _ rfl) (by kernel_rfl), ?_⟩
    have e : IntKind.i64.wrap (((pre.length + lineLen r : Nat) : Int) - x.at_) = lineLen r := by rw [hat, wrap_in (by omega) (by omega)]; omega
    rw [e]
    refine br_i (fun c => ?_) (fun c => ?_)
    · simp at c
      refine ⟨_, ld (hc.at_ 2 _ rfl) (by kernel_rfl), newC_i (cs := [.int .i64 93, .int .i64 x.line, .int .i64 1]) fun h1 e1 c1 b1 z1 => ?_⟩
      have hb := lt_of_get q
      refine (q.ext e1).st (x' := { x with w := some ⟨h.size, 0, none⟩ }) 6 rfl (by kernel_rfl) (by omega) rfl rfl fun h2 q2 f2 z2 => ?_
      refine H h2 _ q2 ((e1.fr _).trans f2) (by omega) ?_
      rw [if_pos (by omega)]
      refine ⟨h.size, rfl, by omega, Nat.le_refl _, ?_⟩
      rw [f2.keep _ (by omega) (by omega), b1, hline]
    · simp at c
      exact H h x q (Fr.refl _ _) (Nat.le_refl _) (by rw [if_neg (by omega)])
  suffices ∀ (k j : Nat), j + k = lineLen r + 1 → j ≤ lineLen r → lex_Scanner_measure_l3 (some ⟨b, 0, none⟩) (fun p54 x55 h56 => lex_Scanner_measure_j2 (fun h57 => K (.tuple #[]) h57) p54 x55 h56) k ((pre.length + j : Nat) : Int) h by
    have := this (lineLen r + 1) 0 (by omega) (by omega)
    rw [hat]
    exact this
  intro k
  induction k with
  | zero => intro j hj hl; omega
  | succ k ih =>
    intro j hj hl
    unfold lex_Scanner_measure_l3
    refine ⟨_, ld hc.head (by kernel_rfl), ?_⟩
    rw [bs_size]
    have hsl : x.s.length = pre.length + r.length := by rw [hpre]; simp
    have hgt : ∀ i : Nat, x.s[pre.length + i]? = r[i]? := fun i => by rw [hpre, List.getElem?_append_right (by omega)]; congr 1; omega
    by_cases hjl : j < lineLen r
    · obtain ⟨c, hc1, hc2⟩ := takeWhile_at _ r j hjl
      refine br_t (by simp; omega) ⟨_, ld hc.head (by kernel_rfl), _, ixS (c := c) (i := pre.length + j) (by rw [hgt]; exact hc1) rfl, br_t (by simp at hc2 ⊢; omega) ?_⟩
      rw [wrap_in (by omega) (by omega), show ((pre.length + j : Nat) : Int) + 1 = ((pre.length + (j + 1) : Nat) : Int) by omega]
      exact ih (j + 1) (by omega) (by omega)
    · have hjl : j = lineLen r := by omega
      subst hjl
      rcases takeWhile_end (fun c : UInt8 => c.toNat != 10) r with ⟨c, h1, h2⟩ | h1
      · have hlt := (List.getElem?_eq_some_iff.1 h1).1
        refine br_t (by have e : lineLen r = (r.takeWhile fun c : UInt8 => c.toNat != 10).length := rfl; simp; omega) ⟨_, ld hc.head (by kernel_rfl), _, ixS (c := c) (i := pre.length + lineLen r) (by rw [hgt]; exact h1) rfl, br_f (by simp at h2 ⊢; omega) fin⟩
      · refine br_f (by have e : lineLen r = (r.takeWhile fun c : UInt8 => c.toNat != 10).length := rfl; simp; omega) fin
end Go.Proofs.YtfdpccbajaiepaaGreatDoor.Lx

/- Rows: a part of an element is stored; elements are read. -/
namespace Go.Proofs.YtfdpccbajaiepaaGreatDoor.Sx
open Go Go.RowKit
set_option linter.unusedVariables false
set_option linter.unusedSimpArgs false
set_option maxRecDepth 10000
theorem extOwn {h h1 h2 : Hp} {S : Nat → Prop} (e : Ext h h1) (f : Fr S h1 h2) (hS : ∀ k, S k → h.size ≤ k) : Ext h h2 :=
  ⟨Nat.le_trans e.size f.size, fun k hk => (f.keep k (Nat.lt_of_lt_of_le hk e.size) (fun hs => by have := hS k hs; omega)).trans (e.old k hk)⟩
def Fresh (h : Hp) (A : Option Addr) : Prop := ∀ k, blk A k → h.size ≤ k
theorem Fresh.none (h : Hp) : Fresh h none := by rintro k ⟨a, ha, _⟩; cases ha
theorem Fresh.some {h : Hp} {g o : Nat} {s : Option Nat} (hg : h.size ≤ g) : Fresh h (some ⟨g, o, s⟩) := by rintro k ⟨a, ha, hk⟩; cases ha; subst hk; exact hg
theorem Fresh.sub {h h1 : Hp} {A : Option Addr} (e : Ext h h1) (f : Fresh h1 A) : Fresh h A := fun k hk => Nat.le_trans e.size (f k hk)
theorem Ext.f0 {h h1 : Hp} (e : Ext h h1) : Fr (fun _ => False) h h1 := e.fr _
section
variable {α : Type} {enc : α → List Value} {sz : Nat}
theorem Row.ext {h h' : Hp} {E : Nat} {A : Option Addr} {c : Nat} {xs : List α} (r : Row h E enc sz A c xs) (e : Ext h h') : Row h' E enc sz A c xs := r.keep e.f0 (fun _ _ h => h)
theorem HU_part {P : Program} {t : TypeId} (he : ∀ x, (enc x).length = sz) {h : Hp} {E g c : Nat} {xs : List α} {j : Nat} {x x' : α} {v : Value} {us : List Value} {o : Nat} {K : Hp → Prop} (r : Row h E enc sz (some ⟨g, 0, none⟩) c xs) (hx : xs[j]? = some x)
    (hv : v.cells = us.toArray) (hsz : (P.info? t).map (·.size) = some us.length) (hf : us.all flatV = true) (ho : o + us.length ≤ sz) (hx' : enc x' = (enc x).take o ++ us ++ (enc x).drop (o + us.length))
    (H : ∀ h', Row h' E enc sz (some ⟨g, 0, none⟩) c (xs.set j x') → Fr (fun k => k = g) h h' → h'.size = h.size → K h') : HU P (Instr.storeAt t (.pointer (some ⟨g, j * sz + o, none⟩)) v) h K := by
  obtain ⟨hlt, hget⟩ := List.getElem?_eq_some_iff.1 hx
  obtain ⟨g', rest, hA, hb, hl, hcl⟩ := r.open he (by omega)
  injection hA with hA
  injection hA with hA _ _
  subst hA
  have hX : ((xs.take j).flatMap enc).length = j * sz := by rw [flat_len he]; simp; congr 1; omega
  have hs1 : xs.flatMap enc = (xs.take j).flatMap enc ++ (enc x ++ (xs.drop (j + 1)).flatMap enc) := by
    have : xs = xs.take j ++ x :: xs.drop (j + 1) := by rw [← hget, ← List.drop_eq_getElem_cons hlt, List.take_append_drop]
    conv => lhs; rw [this]
    simp
  have hs2 : xs.flatMap enc ++ rest = (xs.take j).flatMap enc ++ (enc x ++ ((xs.drop (j + 1)).flatMap enc ++ rest)) := by rw [hs1]; simp only [List.append_assoc]
  refine HU_st (us := us) hb hv hsz ?_ hf ?_
  · rw [hs2, List.length_append, List.length_append, hX, he]
    omega
  · have e : (xs.flatMap enc ++ rest).take (j * sz + o) ++ us ++ (xs.flatMap enc ++ rest).drop (j * sz + o + us.length) = (xs.set j x').flatMap enc ++ rest := by
      rw [List.set_eq_take_append_cons_drop, if_pos hlt, hs2]
      have d0 : ((xs.take j).flatMap enc).drop (j * sz + o + us.length) = [] := List.drop_of_length_le (by rw [hX]; omega)
      have d1 : ((xs.take j).flatMap enc).take (j * sz + o) = (xs.take j).flatMap enc := List.take_of_length_le (by rw [hX]; omega)
      rw [List.take_append, List.drop_append, hX, d0, d1, show j * sz + o - j * sz = o by omega, show j * sz + o + us.length - j * sz = o + us.length by omega]
      rw [List.take_append_of_le_length (by rw [he]; omega), List.drop_append_of_le_length (by rw [he]; omega)]
      simp [hx']
    rw [e]
    refine H _ (Row.shut he (setB_get (lt_of_get hb)) ?_ (by simpa using hcl)) (setB_fr rfl) setB_size
    rw [← hl, List.length_append, List.length_append, flat_len he, flat_len he, List.length_set]
theorem Row.blk0 (he : ∀ x, (enc x).length = sz) {h : Hp} {E : Nat} {A : Option Addr} {c : Nat} {xs : List α} (r : Row h E enc sz A c xs) (h0 : 0 < xs.length) : ∃ g, A = some ⟨g, 0, none⟩ := by
  obtain ⟨g, rest, hA, _⟩ := r.open he h0
  exact ⟨g, hA⟩
theorem Row.elem0 (he : ∀ x, (enc x).length = sz) {h : Hp} {E g c : Nat} {xs : List α} (r : Row h E enc sz (some ⟨g, 0, none⟩) c xs) {i : Nat} {x : α} (hi : xs[i]? = some x) : Cl h ⟨g, i * sz, none⟩ (enc x) := by
  have := r.read.elem he hi rfl
  rw [add_eq0] at this
  exact this
theorem ix0 {P : Program} {T E : TypeId} {g l c : Nat} {k : IntKind} {i : Nat} (h1 : i < l) (hu : P.underlying T = some (.slice E)) (hs : (P.info? E).map (·.size) = some sz) : PV P (Instr.indexAt T (.slice (some ⟨g, 0, none⟩) l c) (.int k (i : Int))) (.pointer (some ⟨g, i * sz, none⟩)) := by
  have := ix (P := P) (T := T) (E := E) (a := ⟨g, 0, none⟩) (l := l) (c := c) (sz := sz) (k := k) (i := (i : Int)) (by omega) (by omega) hu hs
  rw [Int.toNat_natCast, add_eq0] at this
  exact this
theorem ixR {P : Program} {T E : TypeId} (he : ∀ x, (enc x).length = sz) {h : Hp} {A : Option Addr} {l c : Nat} {k : IntKind} {xs : List α} (r : RSl h A l sz (xs.flatMap enc)) (hl : xs.length = l) (hu : P.underlying T = some (.slice E)) (hs : (P.info? E).map (·.size) = some sz) {i : Nat} {x : α} (hi : xs[i]? = some x) :
    ∃ a : Addr, a.spot = none ∧ (∃ b, A = some b ∧ a.block = b.block) ∧ PV P (Instr.indexAt T (.slice A l c) (.int k (i : Int))) (.pointer (some a)) ∧ Cl h a (enc x) := by
  have hlt := (List.getElem?_eq_some_iff.1 hi).1
  obtain ⟨a, rfl, hcl⟩ := r.some (by omega)
  have := ix (P := P) (T := T) (E := E) (a := a) (l := l) (c := c) (sz := sz) (k := k) (i := (i : Int)) (by omega) (by omega) hu hs
  rw [Int.toNat_natCast] at this
  exact ⟨a.add (i * sz), by rw [add_off hcl.spot], ⟨a, rfl, by rw [add_off hcl.spot]⟩, this, r.elem he hi hl⟩
/-- A row is made and filled out of a slice that is read. -/
theorem HW_copyFrom' {P : Program} {T E ty : TypeId} {i : TypeInfo} {h : Hp} {A sA : Option Addr} {c sc n : Nat} {zs xs : List α} {K : Value → Hp → Prop} (he : ∀ x, (enc x).length = sz) (hf : ∀ x, (enc x).all flatV = true)
    (hu : P.underlying T = some (.slice E)) (hi : P.info? E = some i) (hsz : i.size = sz) (r : Row h E enc sz A c zs) (hn : zs.length = n) (hl : xs.length = n) (rs : RSl h sA xs.length sz (xs.flatMap enc))
    (H : ∀ h', Row h' E enc sz A c xs → Fr (blk A) h h' → h'.size = h.size → K (.int .i64 (xs.length : Int)) h') :
    HW P (Builtin.copy_ #[T, T] ty #[.slice A n c, .slice sA xs.length sc]) h K := by
  subst hn
  exact HW_copyFrom he hf hu hi hsz r hl.symm rs H
/-! ### Rows whose room is a number of the machine's -/
structure RowC (h : Hp) (E : Nat) (enc : α → List Value) (sz : Nat) (A : Option Addr) (c : Nat) (xs : List α) : Prop where
  row : Row h E enc sz A c xs
  cap : c < 2 ^ 63
theorem RowC.nil {h : Hp} {E : Nat} : RowC h E enc sz none 0 [] := ⟨.inl ⟨rfl, rfl, rfl, rfl⟩, by decide⟩
theorem RowC.keep {h h' : Hp} {E : Nat} {A : Option Addr} {c : Nat} {xs : List α} {S : Nat → Prop} (r : RowC h E enc sz A c xs) (f : Fr S h h') (hn : ∀ k, blk A k → ¬ S k) : RowC h' E enc sz A c xs := ⟨r.row.keep f hn, r.cap⟩
theorem RowC.ext {h h' : Hp} {E : Nat} {A : Option Addr} {c : Nat} {xs : List α} (r : RowC h E enc sz A c xs) (e : Ext h h') : RowC h' E enc sz A c xs := ⟨r.row.ext e, r.cap⟩
theorem RowC.read {h : Hp} {E : Nat} {A : Option Addr} {c : Nat} {xs : List α} (r : RowC h E enc sz A c xs) : RSl h A xs.length sz (xs.flatMap enc) := r.row.read
theorem RowC.blk0 (he : ∀ x, (enc x).length = sz) {h : Hp} {E : Nat} {A : Option Addr} {c : Nat} {xs : List α} (r : RowC h E enc sz A c xs) (h0 : 0 < xs.length) : ∃ g, A = some ⟨g, 0, none⟩ := r.row.blk0 he h0
theorem RowC.elem0 (he : ∀ x, (enc x).length = sz) {h : Hp} {E g c : Nat} {xs : List α} (r : RowC h E enc sz (some ⟨g, 0, none⟩) c xs) {i : Nat} {x : α} (hi : xs[i]? = some x) : Cl h ⟨g, i * sz, none⟩ (enc x) := r.row.elem0 he hi
/-- A row's block is there. -/
theorem RowC.old {h : Hp} {E : Nat} {A : Option Addr} {c : Nat} {xs : List α} (r : RowC h E enc sz A c xs) : ∀ k, blk A k → k < h.size := by
  intro k hk
  rcases r.row with ⟨ha, _⟩ | ⟨g, rest, ha, hb, _⟩
  · rw [ha] at hk; obtain ⟨q, hq, _⟩ := hk; cases hq
  · rw [ha] at hk
    obtain ⟨q, hq, rfl⟩ := hk
    cases hq
    exact lt_of_get hb
/-- One element more, of a fresh row. -/
theorem appF {P : Program} {T E : TypeId} {i : TypeInfo} {z : Value} (he : ∀ x, (enc x).length = sz) (hf : ∀ x, (enc x).all flatV = true) {h0 h : Hp} {A : Option Addr} {c cx : Nat} {ax : Addr} {xs : List α} {x : α} {K : Value → Hp → Prop}
    (hu : P.underlying T = some (.slice E)) (hi : P.info? E = some i) (hz : i.zero = some z) (hzl : z.cells.size = sz) (hsz : i.size = sz) (hb0 : 0 < i.bytes) (hb1 : i.bytes ≤ 1000)
    (e : Ext h0 h) (r : RowC h E enc sz A c xs) (hF : Fresh h0 A) (hx : Cl h ax (enc x)) (hl : xs.length ≤ 1000000000)
    (H : ∀ h' A' c', Ext h0 h' → RowC h' E enc sz A' c' (xs ++ [x]) → Fresh h0 A' → Fr (blk A) h h' → K (.slice A' (xs ++ [x]).length c') h') :
    HW P (Builtin.append_ #[T, T] T #[.slice A xs.length c, .slice (some ax) 1 cx]) h K := by
  have hb : (2 * (xs.length + 1) + 768) * i.bytes ≤ 2 ^ 48 := by
    have h1 := Nat.mul_le_mul_left (2 * (xs.length + 1) + 768) hb1
    have h2 : (2 * (xs.length + 1) + 768) * 1000 ≤ 2 ^ 48 := by
      have : (2 * (xs.length + 1) + 768) ≤ 2000000770 := by omega
      exact Nat.le_trans (Nat.mul_le_mul_right 1000 this) (by decide)
    exact Nat.le_trans h1 h2
  refine HW_append1C he hf hu hi hz hzl hsz hb0 r.row hx hb fun h' g c' r' hg f hc => ?_
  have := H h' (some ⟨g, 0, none⟩) c' (extOwn e f hF) ⟨r', hc.elim (fun e => e ▸ r.cap) id⟩ (Fresh.some (by
    rcases hg with hg | hg
    · exact hF g hg
    · have := e.size; omega)) f
  simpa using this
/-- The cells of a row, whatever they are. -/
def Raw (h : Hp) (E g n : Nat) : Prop := ∃ cs : List Value, h[g]? = some (.cells cs.toArray E (0, 0)) ∧ cs.length = n
theorem RowC.raw {h : Hp} {E g c : Nat} {xs : List α} (r : RowC h E enc sz (some ⟨g, 0, none⟩) c xs) : Raw h E g (c * sz) := by
  rcases r.row with ⟨ha, _⟩ | ⟨g', rest, ha, hb, _, h2, _⟩
  · cases ha
  · cases ha; exact ⟨_, hb, h2⟩
theorem Raw.keep {h h' : Hp} {E g n : Nat} {S : Nat → Prop} (r : Raw h E g n) (f : Fr S h h') (hn : ¬ S g) : Raw h' E g n := by
  obtain ⟨cs, h1, h2⟩ := r
  exact ⟨cs, f.get h1 hn, h2⟩
theorem HU_raw {P : Program} {t : TypeId} {h : Hp} {E g n o : Nat} {v : Value} {us : List Value} {K : Hp → Prop} (r : Raw h E g n) (hv : v.cells = us.toArray) (hsz : (P.info? t).map (·.size) = some us.length) (hf : us.all flatV = true) (ho : o + us.length ≤ n)
    (H : ∀ h', Raw h' E g n → Fr (fun k => k = g) h h' → h'.size = h.size → K h') : HU P (Instr.storeAt t (.pointer (some ⟨g, o, none⟩)) v) h K := by
  obtain ⟨cs, h1, h2⟩ := r
  refine HU_st (us := us) h1 hv hsz (by omega) hf ?_
  exact H _ ⟨_, setB_get (lt_of_get h1), by simp; omega⟩ (setB_fr rfl) setB_size
end
end Go.Proofs.YtfdpccbajaiepaaGreatDoor.Sx

/- The lexer's ends, fault. -/
namespace Go.Proofs.YtfdpccbajaiepaaGreatDoor.Lx
open Go Go.RowKit Go.Proofs.YtfdpccbajaiepaaGreatDoor.Sx Go.Proofs.YtfdpccbajaiepaaGreatDoor.Sxp.Fx
set_option linter.unusedVariables false
set_option linter.unusedSimpArgs false
set_option maxRecDepth 10000
def TokM.val (t : TokM) : Value := .agg #[.int .i64 t.kind, .string (bs t.text), .int .u32 t.value, .int .i64 t.line, .int .i64 t.col]
def TokM.enc (t : TokM) : List Value := [.int .i64 t.kind, .string (bs t.text), .int .u32 t.value, .int .i64 t.line, .int .i64 t.col]
theorem TokM.len (t : TokM) : t.enc.length = 5 := rfl
theorem TokM.flat (t : TokM) : t.enc.all flatV = true := rfl
def tok0 : TokM := ⟨0, [], 0, 0, 0⟩
theorem tokSz : (Tryz.prog.info? 52).map (·.size) = some 5 := by kernel_rfl
theorem LxS.at {x : Sn} {r : List UInt8} {line col : Nat} (s : LxS x r line col) : ∃ n : Nat, x.at_ = n ∧ x.beg = (n : Int) - col ∧ col ≤ n ∧ x.s.length = n + r.length ∧ ∀ i, x.s[n + i]? = r[i]? := by
  obtain ⟨⟨pre, hpre, hat, hbeg, hcol⟩, _, _, _⟩ := s
  exact ⟨pre.length, hat, hbeg, hcol, by rw [hpre]; simp, fun i => by rw [hpre, List.getElem?_append_right (by omega)]; congr 1; omega⟩
/-- The scanner goes on by u bytes. -/
theorem LxS.go {x x' : Sn} {r : List UInt8} {line col : Nat} (s : LxS x r line col) (u : Nat) (hu : u ≤ r.length) (hs : x'.s = x.s) (ha : x'.at_ = x.at_ + u) (hl : x'.line = x.line) (hb : x'.beg = x.beg) : LxS x' (r.drop u) line (col + u) := by
  obtain ⟨⟨pre, hpre, hat, hbeg, hcol⟩, h2, h3, h4⟩ := s
  refine ⟨⟨pre ++ r.take u, by rw [hs, hpre, List.append_assoc, List.take_append_drop], ?_, ?_, ?_⟩, by rw [hl]; exact h2, by rw [hs]; exact h3, h4⟩
  · rw [ha, hat, List.length_append, List.length_take, Nat.min_eq_left hu]; omega
  · rw [hb, hbeg, List.length_append, List.length_take, Nat.min_eq_left hu]; omega
  · rw [List.length_append, List.length_take, Nat.min_eq_left hu]; omega
theorem SnAt.keep {h h' : Hp} {b : Nat} {x : Sn} {S : Nat → Prop} (q : SnAt h b x) (f : Fr S h h') (hn : ¬ S b) : SnAt h' b x := f.get q hn
theorem ends_s {h : Hp} {b : Nat} {x : Sn} (q : SnAt h b x) {r : List UInt8} {line col : Nat} (s : LxS x r line col) (hln : line ≤ 200000) {K : Value → Hp → Prop}
    (H0 : r = [] → col = 0 → ∀ h', SnAt h' b x → Fr (fun k => k = b) h h' → K (.tuple #[tok0.val, .bool false]) h')
    (H1 : r = [] → 0 < col → ∀ h' x', SnAt h' b x' → Fr (fun k => k = b) h h' → LxS x' [] line 0 → x'.w = x.w → x'.A = x.A → x'.l = x.l → x'.c = x.c → x'.nx = x.nx → x'.s = x.s → K (.tuple #[(⟨4, [], 0, line, col + 1⟩ : TokM).val, .bool true]) h')
    (H2 : ∀ c r', r = c :: r' → ∀ h' x', SnAt h' b x' → Fr (fun k => k = b) h h' → LxS x' r' (line + 1) 0 → x'.A = x.A → x'.l = x.l → x'.c = x.c → x'.nx = x.nx → x'.s = x.s →
      (if lineLen r' > 200 then ∃ g, x'.w = some ⟨g, 0, none⟩ ∧ g ≠ b ∧ h.size ≤ g ∧ h'[g]? = some (.cells #[.int .i64 93, .int .i64 ((line + 1 : Nat) : Int), .int .i64 1] 34 (0, 0)) else x'.w = x.w) → K (.tuple #[(⟨4, [10], 0, line, col + 1⟩ : TokM).val, .bool true]) h') :
    CallsH Tryz.prog 88 #[.pointer (some ⟨b, 0, none⟩)] h K := by
  refine lex_Scanner_ends_ok _ ?_
  unfold lex_Scanner_ends
  obtain ⟨n, hat, hbeg, hcol, hlen, hget⟩ := s.at
  have hlin := s.lin
  have hl6 := s.len
  have hb := lt_of_get q
  refine newC_i (cs := tok0.enc) fun h1 e1 c1 b1 z1 => ?_
  have hc1 := (q.ext e1).cl
  refine ⟨_, ld (hc1.at_ 2 _ rfl) (by kernel_rfl), _, ld (hc1.at_ 1 _ rfl) (by kernel_rfl), _, ld (hc1.at_ 3 _ rfl) (by kernel_rfl), ?_⟩
  refine newC_i (cs := tok0.enc) fun h2 e2 c2 b2 z2 => ?_
  have hc2 := ((q.ext e1).ext e2).cl
  refine ⟨ld (hc2.at_ 3 _ rfl) (by kernel_rfl), ld (hc2.at_ 1 _ rfl) (by kernel_rfl), ld (hc2.at_ 2 _ rfl) (by kernel_rfl), ?_⟩
  have ecol : IntKind.i64.wrap (IntKind.i64.wrap (x.at_ - x.beg) + 1) = (col : Int) + 1 := by
    rw [hat, hbeg, wrap_in (n := (n : Int) - ((n : Int) - col)) (by omega) (by omega), wrap_in (by omega) (by omega)]; omega
  rw [ecol, hlin]
  refine HU_box (us := (⟨4, [], 0, line, col + 1⟩ : TokM).enc) b2 rfl rfl tokSz rfl fun h3 c3 b3 f3 z3 => ?_
  have hs1 := e1.size
  have hs2 := e2.size
  have q3 : SnAt h3 b x := ((q.ext e1).ext e2).keep f3 (by omega)
  have F3 : Fr (fun k => k = b) h h3 := (extOwn (e1.trans e2) f3 (fun k hk => by subst hk; omega)).fr _
  have b3' : h3[h.size]? = some (.cells tok0.enc.toArray 52 (0, 0)) := by rw [f3.keep _ (by omega) (by omega), e2.old _ (by omega)]; exact b1
  have hc3 := q3.cl
  -- the result, out of its box
  have fin : ∀ (t : TokM) (ok : Bool) (h4 : Hp), h4[h.size]? = some (.cells tok0.enc.toArray 52 (0, 0)) → Cl h4 ⟨h1.size, 0, none⟩ t.enc → (∀ h5, Fr (fun k => k = h.size) h4 h5 → K (.tuple #[t.val, .bool ok]) h5) →
      ∃ x31 : Int, ∃ s32 : ByteArray, ∃ x33 : Int, ∃ x34 : Int, ∃ x35 : Int, HV Tryz.prog (Instr.loadAt 52 (.pointer (some ⟨h1.size, 0, none⟩))) h4 (.agg #[(.int .i64 x31), (.string s32), (.int .u32 x33), (.int .i64 x34), (.int .i64 x35)]) ∧
        HU Tryz.prog (Instr.storeAt 52 (.pointer (some ⟨h.size, 0, none⟩)) (.agg #[(.int .i64 x31), (.string s32), (.int .u32 x33), (.int .i64 x34), (.int .i64 x35)])) h4 fun h36 =>
        ∃ x37 : Int, ∃ s38 : ByteArray, ∃ x39 : Int, ∃ x40 : Int, ∃ x41 : Int, HV Tryz.prog (Instr.loadAt 52 (.pointer (some ⟨h.size, 0, none⟩))) h36 (.agg #[(.int .i64 x37), (.string s38), (.int .u32 x39), (.int .i64 x40), (.int .i64 x41)]) ∧ K (.tuple #[(.agg #[(.int .i64 x37), (.string s38), (.int .u32 x39), (.int .i64 x40), (.int .i64 x41)]), (.bool ok)]) h36 := fun t ok h4 hb4 hc4 hK => by
    refine ⟨_, _, _, _, _, ldS (vs := t.enc) hc4 (by kernel_rfl), ?_⟩
    refine HU_box (us := t.enc) hb4 rfl rfl tokSz rfl fun h5 c5 b5 f5 z5 => ?_
    exact ⟨_, _, _, _, _, ldS (vs := t.enc) c5 (by kernel_rfl), hK h5 f5⟩
  refine ⟨_, ld (hc3.at_ 1 _ rfl) (by kernel_rfl), _, ld hc3.head (by kernel_rfl), ?_⟩
  rw [bs_size, hat]
  cases r with
  | nil =>
    have hl0 : x.s.length = n := by simpa using hlen
    refine br_t (by simp; omega) ⟨_, ld (hc3.at_ 1 _ rfl) (by kernel_rfl), _, ld (hc3.at_ 3 _ rfl) (by kernel_rfl), ?_⟩
    rw [hat, hbeg]
    refine br_i (fun c => ?_) (fun c => ?_)
    · have hc0 : col = 0 := by simp at c; omega
      refine HU_box (us := tok0.enc) b3' rfl rfl tokSz rfl fun h4 c4 b4 f4 z4 => ?_
      refine ⟨_, _, _, _, _, ldS (vs := tok0.enc) c4 (by kernel_rfl), ?_⟩
      have f4' : Fr (fun k => k = b) h h4 := (extOwn ((extOwn (e1.trans e2) f3 (fun k hk => by subst hk; omega))) f4 (fun k hk => by subst hk; omega)).fr _
      exact H0 rfl hc0 h4 (q3.keep f4 (by omega)) f4'
    · have hc0 : 0 < col := by simp at c; omega
      refine ⟨_, ld (hc3.at_ 1 _ rfl) (by kernel_rfl), ?_⟩
      refine q3.st (x' := { x with beg := x.at_ }) 3 rfl (by kernel_rfl) (by omega) rfl rfl fun h4 q4 f4 z4 => ?_
      refine fin ⟨4, [], 0, line, col + 1⟩ true h4 (by rw [f4.keep _ (by omega) (by omega)]; exact b3') (f4.cl c3 (by show ¬ h1.size = b; omega)) fun h5 f5 => ?_
      have f4' : Fr (fun k => k = b) h h4 := F3.trans f4
      refine H1 rfl hc0 h5 _ (q4.keep f5 (by omega)) ⟨by have := f4'.size; have := f5.size; omega, fun k hk hne => by rw [f5.keep k (by have := f4'.size; omega) (by omega), f4'.keep k hk hne]⟩ ?_ rfl rfl rfl rfl rfl rfl
      obtain ⟨⟨pre, hpre, ha, hb2, hcl⟩, g2, g3, g4⟩ := s
      exact ⟨⟨pre, hpre, ha, by show x.at_ = _; rw [ha]; simp, Nat.zero_le _⟩, g2, g3, g4⟩
  | cons c r' =>
    have hl0 : x.s.length = n + (r'.length + 1) := by simpa using hlen
    refine br_f (by simp; omega) ?_
    have st1 : HU Tryz.prog (Instr.storeAt 9 (.pointer (some ((⟨h1.size, 0, none⟩ : Addr).add 1))) (.string ({ data := #[10] }))) h3 = HU Tryz.prog (Instr.storeAt 9 (.pointer (some ((⟨h1.size, 0, none⟩ : Addr).add 1))) (.string (bs [10]))) h3 := rfl
    rw [st1, add_eq0]
    refine HU_st (us := [.string (bs [10])]) b3 rfl (by kernel_rfl) (by simp [TokM.enc]) rfl ?_
    have et : (⟨4, [], 0, line, col + 1⟩ : TokM).enc.take (0 + 1) ++ [.string (bs [10])] ++ (⟨4, [], 0, line, col + 1⟩ : TokM).enc.drop (0 + 1 + [Value.string (bs [10])].length) = (⟨4, [10], 0, line, col + 1⟩ : TokM).enc := rfl
    rw [et]
    obtain ⟨h4, hh4⟩ : ∃ h4, h4 = setB h3 h1.size (⟨4, [10], 0, line, col + 1⟩ : TokM).enc 52 := ⟨_, rfl⟩
    rw [← hh4]
    have b4 : h4[h1.size]? = some (.cells (⟨4, [10], 0, line, col + 1⟩ : TokM).enc.toArray 52 (0, 0)) := by rw [hh4]; exact setB_get (lt_of_get b3)
    have f4 : Fr (fun k => k = h1.size) h3 h4 := by rw [hh4]; exact setB_fr rfl
    have z4 : h4.size = h3.size := by rw [hh4]; exact setB_size
    have q4 : SnAt h4 b x := q3.keep f4 (by omega)
    have hc4 := q4.cl
    refine ⟨_, ld (hc4.at_ 1 _ rfl) (by kernel_rfl), ?_⟩
    rw [hat, wrap_in (n := (n : Int) + 1) (by omega) (by omega)]
    refine q4.st (x' := { x with at_ := (n : Int) + 1 }) 1 rfl (by kernel_rfl) (by omega) rfl rfl fun h5 q5 f5 z5 => ?_
    refine ⟨_, ld (q5.cl.at_ 2 _ rfl) (by kernel_rfl), ?_⟩
    rw [show ({ x with at_ := (n : Int) + 1 } : Sn).line = (line : Int) from hlin, wrap_in (n := (line : Int) + 1) (by omega) (by omega)]
    refine q5.st (x' := { x with at_ := (n : Int) + 1, line := (line : Int) + 1 }) 2 rfl (by kernel_rfl) (by omega) rfl rfl fun h6 q6 f6 z6 => ?_
    refine ⟨_, ld (q6.cl.at_ 1 _ rfl) (by kernel_rfl), ?_⟩
    refine q6.st (x' := { x with at_ := (n : Int) + 1, line := (line : Int) + 1, beg := (n : Int) + 1 }) 3 rfl (by kernel_rfl) (by omega) rfl rfl fun h7 q7 f7 z7 => ?_
    have s7 : LxS ({ x with at_ := (n : Int) + 1, line := (line : Int) + 1, beg := (n : Int) + 1 } : Sn) r' (line + 1) 0 := by
      obtain ⟨⟨pre, hpre, ha, hb2, hcl⟩, g2, g3, g4⟩ := s
      have hn : pre.length = n := by omega
      exact ⟨⟨pre ++ [c], by show x.s = _; rw [hpre]; simp, by show (n : Int) + 1 = _; simp; omega, by show (n : Int) + 1 = _; simp; omega, Nat.zero_le _⟩, by show (line : Int) + 1 = _; omega, g3, by omega⟩
    have f47 : Fr (fun k => k = b) h4 h7 := (f5.trans f6).trans f7
    refine measure_s q7 s7 fun h8 x8 q8 f8 z8 hw => ⟨rfl, ?_⟩
    have f48 := f47.trans f8
    have b8 : h8[h1.size]? = some (.cells (⟨4, [10], 0, line, col + 1⟩ : TokM).enc.toArray 52 (0, 0)) := by rw [f48.keep _ (by omega) (by omega)]; exact b4
    refine fin ⟨4, [10], 0, line, col + 1⟩ true h8 (by rw [f48.keep _ (by omega) (by omega), f4.keep _ (by omega) (by omega)]; exact b3') (Cl.of_block b8 fun j v hj => by rw [Nat.zero_add]; exact hj) fun h9 f9 => ?_
    have zz := f48.size
    have F9 : Fr (fun k => k = b) h h9 := ⟨by have := f9.size; omega, fun k hk hne => by
      rw [f9.keep k (by omega) (by omega), f48.keep k (by omega) hne, f4.keep k (by omega) (by omega), f3.keep k (by omega) (by omega), e2.old k (by omega), e1.old k hk]⟩
    by_cases hw2 : lineLen r' > 200
    · rw [if_pos hw2] at hw
      obtain ⟨g, rfl, hgb, hge, hg⟩ := hw
      have hg8 := lt_of_get hg
      refine H2 c r' rfl h9 _ (q8.keep f9 (by omega)) F9 ⟨s7.suf, s7.lin, s7.len, s7.ln⟩ rfl rfl rfl rfl rfl ?_
      rw [if_pos hw2]
      exact ⟨g, rfl, hgb, by omega, by rw [f9.keep g hg8 (by omega)]; exact hg⟩
    · rw [if_neg hw2] at hw
      subst hw
      refine H2 c r' rfl h9 _ (q8.keep f9 (by omega)) F9 s7 rfl rfl rfl rfl rfl ?_
      rw [if_neg hw2]
end Go.Proofs.YtfdpccbajaiepaaGreatDoor.Lx

/- The lexer's checked: words and numbers that may not be; what a number is worth. -/
namespace Go.Proofs.YtfdpccbajaiepaaGreatDoor.Lx
open Go Go.RowKit Go.Proofs.YtfdpccbajaiepaaGreatDoor.Sx Go.Proofs.YtfdpccbajaiepaaGreatDoor.Sxp.Fx
set_option linter.unusedVariables false
set_option linter.unusedSimpArgs false
set_option maxRecDepth 10000
theorem set_fr2 {h : Hp} {r : Nat} {o : Obj} : Fr (fun k => k = r) h (h.setIfInBounds r o) := ⟨by simp, fun k hk hne => by rw [Array.getElem?_setIfInBounds_ne (fun e => hne e.symm)]⟩
theorem set_get2 {h : Hp} {r : Nat} {o o' : Obj} (hr : h[r]? = some o) : (h.setIfInBounds r o')[r]? = some o' := by
  have := (Array.getElem?_eq_some_iff.1 hr).1
  rw [Array.getElem?_setIfInBounds_self_of_lt this]
theorem next_more {h : Hp} {r : Nat} {l : List UInt8} {pos : Nat} {c : UInt8} {T : TypeId} (hr : h[r]? = some (.stringIter (bs l) pos)) (hp : l[pos]? = some c) (ha : c.toNat < 128) {K : Value → Hp → Prop}
    (H : K (.tuple #[.bool true, .int .i64 (pos : Int), .int .i32 (c.toNat : Int)]) (h.setIfInBounds r (.stringIter (bs l) (pos + 1)))) : HW Tryz.prog (Instr.next (.pointer (some ⟨r, 0, none⟩)) true T) h K := by
  obtain ⟨hlt, he⟩ := List.getElem?_eq_some_iff.1 hp
  have hs : pos < (bs l).size := by rw [bs_size]; exact hlt
  have hg : (bs l)[pos]'hs = c := (bs_get l pos hlt hs).trans he
  have hd : Utf8.decode (bs l) pos = (c.toNat, 1) := (decode_ascii (bs l) pos hs (lt_of_eq_of_lt (congrArg UInt8.toNat hg) ha)).trans (congrArg (fun x : UInt8 => (x.toNat, 1)) hg)
  refine ⟨_, hr, rfl, ?_⟩
  show semWp Tryz.prog (if pos < (bs l).size then _ else _) h K
  rw [if_pos hs]
  show semWp Tryz.prog (do setObj r (.stringIter (bs l) (pos + (Utf8.decode (bs l) pos).2)); pure (.tuple #[.bool true, goInt pos, .int .i32 (Utf8.decode (bs l) pos).1])) h K
  rw [hd]
  exact ⟨⟨_, hr, rfl⟩, H⟩
theorem next_end {h : Hp} {r : Nat} {l : List UInt8} {pos : Nat} {T : TypeId} (hr : h[r]? = some (.stringIter (bs l) pos)) (hp : l.length ≤ pos) {K : Value → Hp → Prop}
    (H : K (.tuple #[.bool false]) h) : HW Tryz.prog (Instr.next (.pointer (some ⟨r, 0, none⟩)) true T) h K := by
  have hs : ¬ pos < (bs l).size := by rw [bs_size]; omega
  refine ⟨_, hr, rfl, ?_⟩
  show semWp Tryz.prog (if pos < (bs l).size then _ else _) h K
  rw [if_neg hs]
  exact H
theorem min64 (x y : Int) : PV Tryz.prog (Builtin.min_ #[3, 3] 3 #[.int .i64 x, .int .i64 y]) (.int .i64 (min x y)) := by
  intro w
  simp [Builtin.min_, Builtin.min2, go_sem]
  omega
def digs (l : List UInt8) : Prop := ∀ c ∈ l, 48 ≤ c.toNat ∧ c.toNat ≤ 57
theorem numV_ge : ∀ (l : List UInt8) (v : Int), digs l → 0 ≤ v → v ≤ 8589934592 → 0 ≤ numV l v ∧ numV l v ≤ 8589934592
  | [], v, _, h0, h1 => ⟨h0, h1⟩
  | c :: l, v, hd, h0, h1 => numV_ge l _ (fun x hx => hd x (List.mem_cons_of_mem _ hx)) (by have := hd c (List.mem_cons_self ..); omega) (by omega)
theorem checked_l3 {p : Option Addr} {a85 a86 : Addr} {r : Nat} {l : List UInt8} (hd : digs l) {K0 : (Option Addr) → Addr → Addr → Int → Hp → Prop} {h0 : Hp}
    (H : ∀ h', Fr (fun k => k = r) h0 h' → K0 p a85 a86 (numV l 0) h') :
    ∀ (rest done : List UInt8) (v : Int) (h : Hp), l = done ++ rest → numV l 0 = numV rest v → 0 ≤ v → v ≤ 8589934592 → Fr (fun k => k = r) h0 h → h[r]? = some (.stringIter (bs l) done.length) →
      lex_Scanner_checked_l3 p a85 a86 ⟨r, 0, none⟩ K0 (rest.length + 1) v h := by
  intro rest
  induction rest with
  | nil =>
    intro done v h hl hv v0 v1 f hr
    unfold lex_Scanner_checked_l3
    refine next_end hr (by rw [hl]; simp) (.inl ⟨rfl, ?_⟩)
    have : v = numV l 0 := by rw [hv]; rfl
    rw [this]
    exact H h f
  | cons c rest ih =>
    intro done v h hl hv v0 v1 f hr
    unfold lex_Scanner_checked_l3
    have hc := hd c (by rw [hl]; simp)
    refine next_more (c := c) hr (by rw [hl]; simp) (by omega) (.inr ⟨_, _, rfl, ?_⟩)
    refine ⟨_, min64 _ _, ?_⟩
    have e1 : IntKind.i32.wrap ((c.toNat : Int) - 48) = (c.toNat : Int) - 48 := by simp [IntKind.wrap, IntKind.bits, IntKind.signed]; omega
    rw [e1, wrap_in (n := (c.toNat : Int) - 48) (by omega) (by omega), wrap_in (n := 10 * v) (by omega) (by omega), wrap_in (by omega) (by omega)]
    refine ih (done ++ [c]) _ _ (by rw [hl]; simp) (by rw [hv]; rfl) (by omega) (by omega) (f.trans set_fr2) ?_
    rw [set_get2 hr]
    simp
end Go.Proofs.YtfdpccbajaiepaaGreatDoor.Lx

/- The lexer's checked, whole. -/
namespace Go.Proofs.YtfdpccbajaiepaaGreatDoor.Lx
open Go Go.RowKit Go.Proofs.YtfdpccbajaiepaaGreatDoor.Sx Go.Proofs.YtfdpccbajaiepaaGreatDoor.Sxp.Fx
set_option linter.unusedVariables false
set_option linter.unusedSimpArgs false
set_option maxRecDepth 10000
def badC (t : TokM) : Option Int := if t.kind = 1 ∧ t.text.length > 16 then some 92 else if t.kind = 2 ∧ badNum t.text = true then some 91 else none
def worth (t : TokM) : Int := if t.kind = 2 then numV t.text 0 else 0
theorem undF : Tryz.prog.underlying 27 = some (.pointer (Tryz.prog.pointee 27)) := by kernel_rfl
/-- A fault is laid into the scanner. -/
def Bad (h h' : Hp) (b : Nat) (x' x : Sn) (code line col : Int) : Prop := ∃ g, x' = { x with w := some ⟨g, 0, none⟩ } ∧ g ≠ b ∧ h.size ≤ g ∧ h'[g]? = some (.cells #[.int .i64 code, .int .i64 line, .int .i64 col] 34 (0, 0))
theorem checked_s {h : Hp} {b : Nat} {x : Sn} (q : SnAt h b x) (hw : x.w = none) (t : TokM) (hv : t.value = 0) (hd : t.kind = 2 → digs t.text) (hl : t.text.length ≤ 65536) {K : Value → Hp → Prop}
    (HB : ∀ code, badC t = some code → ∀ h' x' y, SnAt h' b x' → Fr (fun k => k = b) h h' → Bad h h' b x' x code t.line t.col → K (.tuple #[({ t with value := y } : TokM).val, .bool false]) h')
    (HG : badC t = none → ∀ h', SnAt h' b x → Fr (fun k => k = b) h h' → K (.tuple #[({ t with value := worth t } : TokM).val, .bool true]) h') :
    CallsH Tryz.prog 87 #[.pointer (some ⟨b, 0, none⟩), t.val] h K := by
  refine lex_Scanner_checked_ok _ _ _ _ _ _ ?_
  unfold lex_Scanner_checked
  have hb := lt_of_get q
  refine newC_i (cs := t.enc) fun h1 e1 c1 b1 z1 => ?_
  refine newC_i (cs := tok0.enc) fun h2 e2 c2 b2 z2 => ?_
  have q2 := (q.ext e1).ext e2
  have b1' : h2[h.size]? = some (.cells t.enc.toArray 52 (0, 0)) := by rw [e2.old _ (by omega)]; exact b1
  -- behind the join
  have fin : ∀ (t' : TokM) (x' : Sn) (h4 : Hp), SnAt h4 b x' → h4[h.size]? = some (.cells t'.enc.toArray 52 (0, 0)) → h4[h1.size]? = some (.cells tok0.enc.toArray 52 (0, 0)) →
      (∀ h5, SnAt h5 b x' → Fr (fun k => k = h1.size) h4 h5 → K (.tuple #[t'.val, .bool x'.w.isNone]) h5) →
      ∃ x134 : Int, ∃ s135 : ByteArray, ∃ x136 : Int, ∃ x137 : Int, ∃ x138 : Int, HV Tryz.prog (Instr.loadAt 52 (.pointer (some ⟨h.size, 0, none⟩))) h4 (.agg #[(.int .i64 x134), (.string s135), (.int .u32 x136), (.int .i64 x137), (.int .i64 x138)]) ∧
      drf (some ⟨b, 0, none⟩) fun a139 =>
      ∃ p140 : Option Addr, HV Tryz.prog (Instr.loadAt 27 (.pointer (some (a139.add 6)))) h4 (.pointer p140) ∧
      ∃ b141 : Bool, PV Tryz.prog (binOp .eql 27 (.pointer p140) (.pointer none)) (.bool b141) ∧
      HU Tryz.prog (Instr.storeAt 52 (.pointer (some ⟨h1.size, 0, none⟩)) (.agg #[(.int .i64 x134), (.string s135), (.int .u32 x136), (.int .i64 x137), (.int .i64 x138)])) h4 fun h142 => HV Tryz.prog (Instr.loadAt 27 (.pointer (some (a139.add 6)))) h142 (.pointer p140) ∧
      ∃ x143 : Int, ∃ s144 : ByteArray, ∃ x145 : Int, ∃ x146 : Int, ∃ x147 : Int, HV Tryz.prog (Instr.loadAt 52 (.pointer (some ⟨h1.size, 0, none⟩))) h142 (.agg #[(.int .i64 x143), (.string s144), (.int .u32 x145), (.int .i64 x146), (.int .i64 x147)]) ∧ K (.tuple #[(.agg #[(.int .i64 x143), (.string s144), (.int .u32 x145), (.int .i64 x146), (.int .i64 x147)]), (.bool b141)]) h142 := fun t' x' h4 q4 hb4 hb5 hK => by
    have c4 : Cl h4 ⟨h.size, 0, none⟩ t'.enc := Cl.of_block hb4 fun j v hj => by rw [Nat.zero_add]; exact hj
    refine ⟨_, _, _, _, _, ldS (vs := t'.enc) c4 (by kernel_rfl), _, ld (q4.cl.at_ 6 _ rfl) (by kernel_rfl), _, eqNil undF, ?_⟩
    refine HU_box (us := t'.enc) hb5 rfl rfl tokSz rfl fun h5 c5 b5 f5 z5 => ?_
    have q5 := q4.keep f5 (by omega)
    exact ⟨ld (q5.cl.at_ 6 _ rfl) (by kernel_rfl), _, _, _, _, _, ldS (vs := t'.enc) c5 (by kernel_rfl), hK h5 q5 f5⟩
  -- a fault
  have flt : ∀ (code : Int) (t' : TokM) (h4 : Hp), badC t = some code → (∃ y, t' = { t with value := y }) → SnAt h4 b x → Fr (fun k => k = b) h h4 → h2.size ≤ h4.size → h4[h.size]? = some (.cells t'.enc.toArray 52 (0, 0)) → h4[h1.size]? = some (.cells tok0.enc.toArray 52 (0, 0)) →
      ∀ (K0 : (Option Addr) → Addr → Addr → Hp → Prop), (∀ h5 x', SnAt h5 b x' → Fr (fun k => k = b) h4 h5 → Bad h h5 b x' x code t.line t.col → h5[h.size]? = some (.cells t'.enc.toArray 52 (0, 0)) → K0 (some ⟨b, 0, none⟩) ⟨h.size, 0, none⟩ ⟨h1.size, 0, none⟩ h5) →
      ∃ x74 : Int, HV Tryz.prog (Instr.loadAt 3 (.pointer (some ((⟨h.size, 0, none⟩ : Addr).add 3)))) h4 (.int .i64 x74) ∧
      ∃ x75 : Int, HV Tryz.prog (Instr.loadAt 3 (.pointer (some ((⟨h.size, 0, none⟩ : Addr).add 4)))) h4 (.int .i64 x75) ∧
      newC h4 (.cells #[(.int .i64 code), (.int .i64 x74), (.int .i64 x75)] 34 (0, 0)) fun a77 h76 =>
      drf (some ⟨b, 0, none⟩) fun a78 =>
      HU Tryz.prog (Instr.storeAt 27 (.pointer (some (a78.add 6))) (.pointer (some a77))) h76 fun h79 =>
      K0 (some ⟨b, 0, none⟩) ⟨h.size, 0, none⟩ ⟨h1.size, 0, none⟩ h79 := fun code t' h4 hbad ht' q4 f4 hz4 hb4 hb5 K0 hK => by
    obtain ⟨y, rfl⟩ := ht'
    have c4 : Cl h4 ⟨h.size, 0, none⟩ ({ t with value := y } : TokM).enc := Cl.of_block hb4 fun j v hj => by rw [Nat.zero_add]; exact hj
    refine ⟨_, ld (c4.at_ 3 _ rfl) (by kernel_rfl), _, ld (c4.at_ 4 _ rfl) (by kernel_rfl), newC_i (cs := [.int .i64 code, .int .i64 t.line, .int .i64 t.col]) fun h5 e5 c5 b5 z5 => ?_⟩
    refine (q4.ext e5).st (x' := { x with w := some ⟨h4.size, 0, none⟩ }) 6 rfl (by kernel_rfl) (by omega) rfl rfl fun h6 q6 f6 z6 => ?_
    have hz := f4.size
    refine hK h6 _ q6 ((e5.fr _).trans f6) ⟨h4.size, rfl, by omega, hz, by rw [f6.keep _ (by omega) (by omega)]; exact b5⟩ ?_
    rw [f6.keep _ (by omega) (by omega), e5.old _ (by omega)]
    exact hb4
  have f12 : Fr (fun k => k = b) h h2 := (e1.trans e2).fr _
  -- the value is laid
  have val : ∀ (y : Int) (x' : Sn) (h4 : Hp), SnAt h4 b x' → h4[h.size]? = some (.cells t.enc.toArray 52 (0, 0)) → ∀ (K1 : Hp → Prop), (∀ h5, SnAt h5 b x' → Fr (fun k => k = h.size) h4 h5 → h5[h.size]? = some (.cells ({ t with value := y } : TokM).enc.toArray 52 (0, 0)) → K1 h5) →
      HU Tryz.prog (Instr.storeAt 50 (.pointer (some ((⟨h.size, 0, none⟩ : Addr).add 2))) (.int .u32 y)) h4 K1 := fun y x' h4 q4 hb4 K1 hK => by
    rw [add_eq0]
    refine HU_st (us := [.int .u32 y]) hb4 rfl (by kernel_rfl) (by simp [TokM.enc]) rfl ?_
    have et : t.enc.take (0 + 2) ++ [.int .u32 y] ++ t.enc.drop (0 + 2 + [Value.int .u32 y].length) = ({ t with value := y } : TokM).enc := rfl
    rw [et]
    exact hK _ (q4.keep (setB_fr rfl) (by omega)) (setB_fr rfl) (setB_get (lt_of_get hb4))
  have ct : Cl h2 ⟨h.size, 0, none⟩ t.enc := Cl.of_block b1' fun j v hj => by rw [Nat.zero_add]; exact hj
  have go : ∀ (K0 : (Option Addr) → Addr → Addr → Hp → Prop) (b16 : Bool), (b16 = true ↔ t.kind = 1 ∧ t.text.length > 16) →
      (∀ (t' : TokM) (x' : Sn) (h4 : Hp), SnAt h4 b x' → h4[h.size]? = some (.cells t'.enc.toArray 52 (0, 0)) → h4[h1.size]? = some (.cells tok0.enc.toArray 52 (0, 0)) → Fr (fun k => k = b) h h4 →
        ((∃ code y, badC t = some code ∧ t' = { t with value := y } ∧ Bad h h4 b x' x code t.line t.col) ∨ (badC t = none ∧ t' = { t with value := worth t } ∧ x' = x)) → K0 (some ⟨b, 0, none⟩) ⟨h.size, 0, none⟩ ⟨h1.size, 0, none⟩ h4) →
      lex_Scanner_checked_j2 K0 (some ⟨b, 0, none⟩) ⟨h.size, 0, none⟩ ⟨h1.size, 0, none⟩ b16 h2 := fun K0 b16 hb16 hK => by
    unfold lex_Scanner_checked_j2
    refine br_i (fun c => ?_) (fun c => ?_)
    · have c := hb16.1 c
      have hbad : badC t = some 92 := by unfold badC; rw [if_pos c]
      refine flt 92 t h2 hbad ⟨t.value, by cases t; rfl⟩ q2 f12 (Nat.le_refl _) b1' b2 K0 fun h5 x' q5 f5 B5 hb5 => ?_
      exact hK t x' h5 q5 hb5 (by rw [f5.keep _ (by omega) (by omega)]; exact b2) (f12.trans f5) (.inl ⟨92, t.value, hbad, by cases t; rfl, B5⟩)
    · have c : ¬ (t.kind = 1 ∧ t.text.length > 16) := fun hh => by rw [hb16.2 hh] at c; cases c
      refine ⟨_, ld ct.head (by kernel_rfl), br_i (fun k2 => ?_) (fun k2 => ?_)⟩
      · have k2 : t.kind = 2 := by simpa using k2
        have hdg := hd k2
        obtain ⟨v0, v1⟩ := numV_ge t.text 0 hdg (by omega) (by omega)
        refine ⟨_, ld (ct.at_ 1 _ rfl) (by kernel_rfl), ?_⟩
        obtain ⟨h3, hh3⟩ : ∃ h3, h3 = h2.push (.stringIter (bs t.text) 0) := ⟨_, rfl⟩
        have e3 : Ext h2 h3 := by rw [hh3]; exact Ext.push _ _
        have hit : h3[h2.size]? = some (.stringIter (bs t.text) 0) := by rw [hh3]; simp
        have z3 : h3.size = h2.size + 1 := by rw [hh3]; simp
        show newC h2 (.stringIter (bs t.text) 0) _
        unfold newC
        rw [← hh3]
        refine ⟨t.text.length + 1, ?_⟩
        refine checked_l3 (h0 := h3) hdg (fun h4 f4 => ?_) t.text [] 0 h3 rfl rfl (by omega) (by omega) (Fr.refl _ _) hit
        have z4 := f4.size
        have q4 : SnAt h4 b x := (q2.ext e3).keep f4 (by omega)
        have f24 : Ext h2 h4 := extOwn e3 f4 (fun k hk => by subst hk; omega)
        have F4 : Fr (fun k => k = b) h h4 := f12.trans (f24.fr _)
        have hb4 : h4[h.size]? = some (.cells t.enc.toArray 52 (0, 0)) := by rw [f24.old _ (by omega)]; exact b1'
        have hb5 : h4[h1.size]? = some (.cells tok0.enc.toArray 52 (0, 0)) := by rw [f24.old _ (by omega)]; exact b2
        have ct4 := ct.ext f24
        -- a number that may not be
        have nb : badNum t.text = true → ∃ x74 : Int, HV Tryz.prog (Instr.loadAt 3 (.pointer (some ((⟨h.size, 0, none⟩ : Addr).add 3)))) h4 (.int .i64 x74) ∧
            ∃ x75 : Int, HV Tryz.prog (Instr.loadAt 3 (.pointer (some ((⟨h.size, 0, none⟩ : Addr).add 4)))) h4 (.int .i64 x75) ∧
            newC h4 (.cells #[(.int .i64 91), (.int .i64 x74), (.int .i64 x75)] 34 (0, 0)) fun a77 h76 =>
            drf (some ⟨b, 0, none⟩) fun a78 =>
            HU Tryz.prog (Instr.storeAt 27 (.pointer (some (a78.add 6))) (.pointer (some a77))) h76 fun h79 =>
            HU Tryz.prog (Instr.storeAt 50 (.pointer (some ((⟨h.size, 0, none⟩ : Addr).add 2))) (.int .u32 (IntKind.u32.wrap (numV t.text 0)))) h79 fun h114 =>
            K0 (some ⟨b, 0, none⟩) ⟨h.size, 0, none⟩ ⟨h1.size, 0, none⟩ h114 := fun hbn => by
          have hbad : badC t = some 91 := by unfold badC; rw [if_neg c, if_pos ⟨k2, hbn⟩]
          refine flt 91 t h4 hbad ⟨t.value, by cases t; rfl⟩ q4 F4 f24.size hb4 hb5 (fun p a a' h79 => HU Tryz.prog (Instr.storeAt 50 (.pointer (some (a.add 2))) (.int .u32 (IntKind.u32.wrap (numV t.text 0)))) h79 fun h114 => K0 p a a' h114) fun h5 x' q5 f5 B5 hb6 => ?_
          have z5 := f5.size
          have w5 : h2.size ≤ h5.size := Nat.le_trans f24.size z5
          refine val _ x' h5 q5 hb6 _ fun h6 q6 f6 hb7 => ?_
          have B6 : Bad h h6 b x' x 91 t.line t.col := by
            obtain ⟨g, g1, g2, g3, g4⟩ := B5
            refine ⟨g, g1, g2, g3, ?_⟩
            have hgl := lt_of_get g4
            by_cases hg : g = h.size
            · exfalso
              rw [hg, hb6] at g4
              simp at g4
            · rw [f6.keep g hgl hg]; exact g4
          refine hK _ x' h6 q6 hb7 ?_ ⟨by have := F4.size; have := f6.size; omega, fun k hk hne => ?_⟩ (.inl ⟨91, _, hbad, rfl, B6⟩)
          · rw [f6.keep _ (by omega) (by omega), f5.keep _ (by omega) (by omega)]; exact hb5
          · have := F4.size
            rw [f6.keep k (by omega) (by omega), (F4.trans f5).keep k hk hne]
        -- a number that may be
        have ng : badNum t.text = false → HU Tryz.prog (Instr.storeAt 50 (.pointer (some ((⟨h.size, 0, none⟩ : Addr).add 2))) (.int .u32 (IntKind.u32.wrap (numV t.text 0)))) h4 fun h114 =>
            K0 (some ⟨b, 0, none⟩) ⟨h.size, 0, none⟩ ⟨h1.size, 0, none⟩ h114 := fun hbn => by
          have hok : badC t = none := by unfold badC; rw [if_neg c, if_neg (by rw [hbn]; simp)]
          have hlt : ¬ numV t.text 0 ≥ 4294967296 := by
            unfold badNum at hbn
            simp at hbn
            omega
          have hwr : IntKind.u32.wrap (numV t.text 0) = worth t := by
            unfold worth; rw [if_pos k2]
            simp [IntKind.wrap, IntKind.bits, IntKind.signed]; omega
          rw [hwr]
          refine val _ x h4 q4 hb4 _ fun h6 q6 f6 hb7 => ?_
          refine hK _ x h6 q6 hb7 (by rw [f6.keep _ (by have := f24.size; omega) (by omega)]; exact hb5) ⟨by have := F4.size; have := f6.size; omega, fun k hk hne => ?_⟩ (.inr ⟨hok, rfl, rfl⟩)
          have := F4.size
          rw [f6.keep k (by omega) (by omega), F4.keep k hk hne]
        refine br_i (fun d1 => ?_) (fun d1 => ⟨_, ld (ct4.at_ 1 _ rfl) (by kernel_rfl), ?_⟩)
        · exact nb (by unfold badNum; rw [show decide (numV t.text 0 ≥ 4294967296) = true from d1]; rfl)
        · rw [bs_size]
          refine br_i (fun d2 => ⟨_, ld (ct4.at_ 1 _ rfl) (by kernel_rfl), ?_⟩) (fun d2 => ?_)
          · obtain ⟨c0, hc0⟩ : ∃ c0, t.text[0]? = some c0 := ⟨_, List.getElem?_eq_getElem (by simp at d2; omega)⟩
            refine ⟨_, ixS (i := 0) hc0 rfl, br_i (fun d3 => nb ?_) (fun d3 => ng ?_)⟩
            · have h48 : c0 = 48 := by
                have : c0.toNat = 48 := by simp at d3; omega
                exact UInt8.toNat_inj.1 this
              unfold badNum
              have : decide (t.text.length > 1) = true := by simp at d2 ⊢; omega
              rw [this, List.head?_eq_getElem?, hc0, h48]
              simp
            · have h48 : c0 ≠ 48 := fun e => by rw [e] at d3; simp at d3
              unfold badNum
              rw [show decide (numV t.text 0 ≥ 4294967296) = false from d1, List.head?_eq_getElem?, hc0]
              simp [h48]
          · refine ng ?_
            unfold badNum
            have : decide (t.text.length > 1) = false := by simp at d2 ⊢; omega
            rw [show decide (numV t.text 0 ≥ 4294967296) = false from d1, this]
            rfl
      · have k2 : ¬ t.kind = 2 := by simpa using k2
        have hok : badC t = none := by unfold badC; rw [if_neg c, if_neg (fun hh => k2 hh.1)]
        have hwt : worth t = t.value := by unfold worth; rw [if_neg k2, hv]
        exact hK t x h2 q2 b1' b2 f12 (.inr ⟨hok, by rw [hwt], rfl⟩)
  have last : ∀ (t' : TokM) (x' : Sn) (h4 : Hp), Fr (fun k => k = b) h h4 → h2.size ≤ h4.size ∨ True → ((∃ code y, badC t = some code ∧ t' = { t with value := y } ∧ Bad h h4 b x' x code t.line t.col) ∨ (badC t = none ∧ t' = { t with value := worth t } ∧ x' = x)) →
      h4[h1.size]? = some (.cells tok0.enc.toArray 52 (0, 0)) → ∀ h5, SnAt h5 b x' → Fr (fun k => k = h1.size) h4 h5 → K (.tuple #[t'.val, .bool x'.w.isNone]) h5 := fun t' x' h4 f4 _ hcase hb5 h5 q5 f5 => by
    have z4 := f4.size
    have F5 : Fr (fun k => k = b) h h5 := ⟨by have := f5.size; omega, fun k hk hne => by rw [f5.keep k (by omega) (by omega), f4.keep k hk hne]⟩
    rcases hcase with ⟨code, y, h1', rfl, B⟩ | ⟨h1', rfl, rfl⟩
    · obtain ⟨g, rfl, g2, g3, g4⟩ := B
      refine HB code h1' h5 _ y q5 F5 ⟨g, rfl, g2, g3, ?_⟩
      have hgl := lt_of_get g4
      by_cases hg : g = h1.size
      · exfalso
        rw [hg, hb5] at g4
        simp at g4
      · rw [f5.keep g hgl hg]; exact g4
    · rw [hw]
      exact HG h1' h5 q5 F5
  refine ⟨_, ld ct.head (by kernel_rfl), br_i (fun k1 => ⟨_, ld (ct.at_ 1 _ rfl) (by kernel_rfl), ?_⟩) (fun k1 => ?_)⟩
  · have k1 : t.kind = 1 := by simpa using k1
    rw [bs_size]
    refine go _ _ ⟨fun hh => ⟨k1, by simp at hh; omega⟩, fun hh => by have := hh.2; simp; omega⟩ fun t' x' h4 q4 hb4 hb5 f4 hcase => ?_
    exact fin t' x' h4 q4 hb4 hb5 (last t' x' h4 f4 (.inr trivial) hcase hb5)
  · have k1 : ¬ t.kind = 1 := by simpa using k1
    refine go _ _ (by simp [k1]) fun t' x' h4 q4 hb4 hb5 f4 hcase => ?_
    exact fin t' x' h4 q4 hb4 hb5 (last t' x' h4 f4 (.inr trivial) hcase hb5)
end Go.Proofs.YtfdpccbajaiepaaGreatDoor.Lx

/- The lexer's read: one token. -/
namespace Go.Proofs.YtfdpccbajaiepaaGreatDoor.Lx
open Go Go.RowKit Go.Proofs.YtfdpccbajaiepaaGreatDoor.Sx Go.Proofs.YtfdpccbajaiepaaGreatDoor.Sxp.Fx
set_option linter.unusedVariables false
set_option linter.unusedSimpArgs false
set_option maxRecDepth 10000
structure Kept (x x' : Sn) : Prop where
  A : x'.A = x.A
  l : x'.l = x.l
  c : x'.c = x.c
  nx : x'.nx = x.nx
  s : x'.s = x.s
theorem Kept.refl (x : Sn) : Kept x x := ⟨rfl, rfl, rfl, rfl, rfl⟩
theorem Kept.trans {x y z : Sn} (a : Kept x y) (b : Kept y z) : Kept x z := ⟨b.A.trans a.A, b.l.trans a.l, b.c.trans a.c, b.nx.trans a.nx, b.s.trans a.s⟩
def FltAt (h h' : Hp) (b : Nat) (x' : Sn) (f : Flt) : Prop := ∃ g, x'.w = some ⟨g, 0, none⟩ ∧ g ≠ b ∧ h.size ≤ g ∧ h'[g]? = some (.cells #[.int .i64 f.code, .int .i64 f.line, .int .i64 f.col] 34 (0, 0))
def OutK (R : RdR) (h : Hp) (b : Nat) (x : Sn) (r : List UInt8) (K : Value → Hp → Prop) : Prop := match R with
  | .stop => ∀ h' x' (t : TokM), SnAt h' b x' → Fr (fun k => k = b) h h' → Kept x x' → x'.w = none → K (.tuple #[t.val, .bool false]) h'
  | .bad f => ∀ h' x' (t : TokM), SnAt h' b x' → Fr (fun k => k = b) h h' → Kept x x' → FltAt h h' b x' f → K (.tuple #[t.val, .bool false]) h'
  | .tok t u line' col' w => ∀ h' x', SnAt h' b x' → Fr (fun k => k = b) h h' → Kept x x' → LxS x' (r.drop u) line' col' → (match w with
    | none => x'.w = none
    | some f => FltAt h h' b x' f) → K (.tuple #[t.val, .bool true]) h'
def K1R (K : Value → Hp → Prop) : Addr → Bool → Hp → Prop := fun a461 b462 h463 =>
  ∃ x464 : Int, ∃ s465 : ByteArray, ∃ x466 : Int, ∃ x467 : Int, ∃ x468 : Int, HV Tryz.prog (Instr.loadAt 52 (.pointer (some a461))) h463 (.agg #[(.int .i64 x464), (.string s465), (.int .u32 x466), (.int .i64 x467), (.int .i64 x468)]) ∧ K (.tuple #[(.agg #[(.int .i64 x464), (.string s465), (.int .u32 x466), (.int .i64 x467), (.int .i64 x468)]), (.bool b462)]) h463
theorem res_out {h1 : Hp} {e : Nat} {told : TokM} (hb : h1[e]? = some (.cells told.enc.toArray 52 (0, 0))) (t : TokM) (ok : Bool) {K : Value → Hp → Prop} (H : ∀ h2, Fr (fun k => k = e) h1 h2 → K (.tuple #[t.val, .bool ok]) h2) :
    HU Tryz.prog (Instr.storeAt 52 (.pointer (some ⟨e, 0, none⟩)) (.agg #[(.int .i64 t.kind), (.string (bs t.text)), (.int .u32 t.value), (.int .i64 t.line), (.int .i64 t.col)])) h1 fun h2 => K1R K ⟨e, 0, none⟩ ok h2 := by
  refine HU_box (us := t.enc) hb rfl rfl tokSz rfl fun h5 c5 b5 f5 z5 => ?_
  exact ⟨_, _, _, _, _, ldS (vs := t.enc) c5 (by kernel_rfl), H h5 f5⟩
/-- In the midst of a read: the scanner, the result's box, the token's box. -/
structure Mid (h h1 : Hp) (b : Nat) (x x1 : Sn) (r : List UInt8) (u line col : Nat) (tk : TokM) : Prop where
  q : SnAt h1 b x1
  f : Fr (fun k => k = b) h h1
  kp : Kept x x1
  w : x1.w = none
  s : LxS x1 (r.drop u) line col
  b1 : h1[h.size]? = some (.cells tok0.enc.toArray 52 (0, 0))
  b2 : h1[h.size + 1]? = some (.cells tk.enc.toArray 52 (0, 0))
  hb : b < h.size
  u : u ≤ r.length
theorem Mid.go {h h1 h2 : Hp} {b : Nat} {x x1 x2 : Sn} {r : List UInt8} {u line col : Nat} {tk : TokM} (m : Mid h h1 b x x1 r u line col tk) (q : SnAt h2 b x2) (f : Fr (fun k => k = b) h1 h2) (hu : u < r.length) (e : x2 = { x1 with at_ := x1.at_ + 1 }) : Mid h h2 b x x2 r (u + 1) line (col + 1) tk := by
  subst e
  have hb := m.hb
  have z := m.f.size
  refine ⟨q, m.f.trans f, m.kp.trans ⟨rfl, rfl, rfl, rfl, rfl⟩, m.w, ?_, by rw [f.keep _ (lt_of_get m.b1) (by omega)]; exact m.b1, by rw [f.keep _ (lt_of_get m.b2) (by omega)]; exact m.b2, hb, by omega⟩
  have := m.s.go (x' := { x1 with at_ := x1.at_ + 1 }) 1 (by rw [List.length_drop]; omega) rfl rfl rfl rfl
  rwa [List.drop_drop] at this
theorem Mid.fin {h h1 h2 : Hp} {b : Nat} {x x1 : Sn} {r : List UInt8} {u line col : Nat} {tk : TokM} (m : Mid h h1 b x x1 r u line col tk) {h3 : Hp} (f : Fr (fun k => k = b) h1 h2) (f2 : Fr (fun k => k = h.size) h2 h3) : Fr (fun k => k = b) h h3 ∧ h.size ≠ b := by
  have hb := m.hb
  have z := m.f.size
  have z2 := f.size
  have z3 := f2.size
  refine ⟨⟨by omega, fun k hk hne => ?_⟩, by omega⟩
  rw [f2.keep k (by omega) (by omega), (m.f.trans f).keep k hk hne]
theorem m0_s {h h1 : Hp} {b : Nat} {x x1 : Sn} {r : List UInt8} {u line col : Nat} {tk : TokM} (m : Mid h h1 b x x1 r u line col tk) (hln : line ≤ 200000) {K : Value → Hp → Prop} (H : OutK (endsM (r.drop u) u line col) h b x r K) (k : Nat) :
    lex_Scanner_read_m1_0 (K1R K) (k + 1) (some ⟨b, 0, none⟩) ⟨h.size, 0, none⟩ h1 := by
  unfold lex_Scanner_read_m1_0
  have hb1 := lt_of_get m.b1
  have zb := m.hb
  have z1 := m.f.size
  refine ends_s m.q m.s hln (fun hr hc h2 q2 f2 => ?_) (fun hr hc h2 x2 q2 f2 s2 g1 g2 g3 g4 g5 g6 => ?_) (fun c r' hr h2 x2 q2 f2 s2 g2 g3 g4 g5 g6 gw => ?_)
  · refine ⟨_, _, _, _, _, _, rfl, ?_⟩
    refine res_out (told := tok0) (by rw [f2.keep _ hb1 (by omega)]; exact m.b1) tok0 false fun h3 f3 => ?_
    obtain ⟨F, hne⟩ := m.fin f2 f3
    rw [hr, hc] at H
    exact H h3 x1 tok0 (q2.keep f3 (by omega)) F m.kp m.w
  · refine ⟨_, _, _, _, _, _, rfl, ?_⟩
    refine res_out (told := tok0) (by rw [f2.keep _ hb1 (by omega)]; exact m.b1) ⟨4, [], 0, line, col + 1⟩ true fun h3 f3 => ?_
    obtain ⟨F, hne⟩ := m.fin f2 f3
    rw [hr] at H
    unfold endsM at H
    simp only at H
    rw [if_neg (by omega)] at H
    refine H h3 x2 (q2.keep f3 (by omega)) F (m.kp.trans ⟨g2, g3, g4, g5, g6⟩) ?_ (g1.trans m.w)
    rw [hr]; exact s2
  · refine ⟨_, _, _, _, _, _, rfl, ?_⟩
    refine res_out (told := tok0) (by rw [f2.keep _ hb1 (by omega)]; exact m.b1) ⟨4, [10], 0, line, col + 1⟩ true fun h3 f3 => ?_
    obtain ⟨F, hne⟩ := m.fin f2 f3
    rw [hr] at H
    unfold endsM at H
    simp only at H
    have hd : r.drop (u + 1) = r' := by
      have := congrArg (List.drop 1) hr
      rw [List.drop_drop] at this
      exact this
    refine H h3 x2 (q2.keep f3 (by omega)) F (m.kp.trans ⟨g2, g3, g4, g5, g6⟩) (by rw [hd]; exact s2) ?_
    by_cases hl : lineLen r' > 200
    · rw [if_pos hl] at gw ⊢
      obtain ⟨g, e1, e2, e3, e4⟩ := gw
      have hgl := lt_of_get e4
      exact ⟨g, e1, e2, by omega, by rw [f3.keep g hgl (by omega)]; exact e4⟩
    · rw [if_neg hl] at gw ⊢
      exact gw.trans m.w
theorem m2_s {h : Hp} {b : Nat} {x : Sn} {r : List UInt8} {line : Nat} {tk : TokM} (hln : line ≤ 200000) (hrl : r.length ≤ 65536) {K : Value → Hp → Prop} (u0 col0 : Nat) (hu0 : u0 ≤ r.length) (hcol : col0 ≤ 65536 * 2)
    (H : OutK (endsM (r.drop (u0 + lineLen (r.drop u0))) (u0 + lineLen (r.drop u0)) line (col0 + lineLen (r.drop u0))) h b x r K) :
    ∀ (k j : Nat) (h1 : Hp) (x1 : Sn), lineLen (r.drop u0) + 1 ≤ j + k → j ≤ lineLen (r.drop u0) → Mid h h1 b x x1 r (u0 + j) line (col0 + j) tk →
      lex_Scanner_read_m1_2 (K1R K) k (some ⟨b, 0, none⟩) ⟨h.size, 0, none⟩ h1 := by
  intro k
  induction k with
  | zero => intro j h1 x1 hk hj m; omega
  | succ k ih =>
    intro j h1 x1 hk hj m
    unfold lex_Scanner_read_m1_2
    obtain ⟨n, hat, hbeg, hcl, hlen, hget⟩ := m.s.at
    have hl6 := m.s.len
    have hc := m.q.cl
    have hLL : lineLen (r.drop u0) ≤ (r.drop u0).length := takeWhile_le _ _
    have hdl : (r.drop u0).length = r.length - u0 := List.length_drop
    have hdj : (r.drop (u0 + j)).length = r.length - (u0 + j) := List.length_drop
    have hg0 : ∀ i, (r.drop (u0 + j))[i]? = (r.drop u0)[j + i]? := fun i => by rw [List.getElem?_drop, List.getElem?_drop]; congr 1; omega
    refine ⟨_, ld (hc.at_ 1 _ rfl) (by kernel_rfl), _, ld hc.head (by kernel_rfl), ?_⟩
    rw [bs_size, hat]
    by_cases hjl : j < lineLen (r.drop u0)
    · obtain ⟨c, hc1, hc2⟩ := takeWhile_at _ _ j hjl
      have hgc : x1.s[n]? = some c := by have := hget 0; rw [Nat.add_zero] at this; rw [this, hg0]; simpa using hc1
      refine br_t (by simp; omega) ⟨_, ld hc.head (by kernel_rfl), _, ld (hc.at_ 1 _ rfl) (by kernel_rfl), ?_⟩
      rw [hat]
      refine ⟨_, ixS hgc rfl, br_t (by simp at hc2 ⊢; omega) ⟨_, ld (hc.at_ 1 _ rfl) (by kernel_rfl), ?_⟩⟩
      rw [hat, wrap_in (by omega) (by omega)]
      refine m.q.st (x' := { x1 with at_ := x1.at_ + 1 }) 1 rfl (by kernel_rfl) (by omega) rfl (by rw [hat]; rfl) fun h2 q2 f2 z2 => ?_
      exact ih (j + 1) h2 _ (by omega) (by omega) (m.go q2 f2 (by omega) rfl)
    · have hjl : j = lineLen (r.drop u0) := by omega
      subst hjl
      have out := m0_s m hln H
      rcases takeWhile_end (fun c : UInt8 => c.toNat != 10) (r.drop u0) with ⟨c, h1', h2'⟩ | h1'
      · have h1' : (r.drop u0)[lineLen (r.drop u0)]? = some c := h1'
        have hgc : x1.s[n]? = some c := by have := hget 0; rw [Nat.add_zero] at this; rw [this, hg0]; simpa using h1'
        have hlt := (List.getElem?_eq_some_iff.1 hgc).1
        refine br_t (by simp; omega) ⟨_, ld hc.head (by kernel_rfl), _, ld (hc.at_ 1 _ rfl) (by kernel_rfl), ?_⟩
        rw [hat]
        exact ⟨_, ixS hgc rfl, br_f (by simp at h2' ⊢; omega) (out k)⟩
      · have h1' : lineLen (r.drop u0) = (r.drop u0).length := h1'
        exact br_f (by simp; omega) (out k)
end Go.Proofs.YtfdpccbajaiepaaGreatDoor.Lx

/- The lexer's read: rows of letters or digits, blanks; the whole. -/
namespace Go.Proofs.YtfdpccbajaiepaaGreatDoor.Lx
open Go Go.RowKit Go.Proofs.YtfdpccbajaiepaaGreatDoor.Sx Go.Proofs.YtfdpccbajaiepaaGreatDoor.Sxp.Fx
set_option linter.unusedVariables false
set_option linter.unusedSimpArgs false
set_option maxRecDepth 10000
theorem extS {l : List UInt8} {lo hi : Nat} (h1 : lo ≤ hi) (h2 : hi ≤ l.length) : PV Tryz.prog (Instr.sliceAt 9 (.string (bs l)) (some (.int .i64 (lo : Int))) (some (.int .i64 (hi : Int))) none) (.string (bs ((l.drop lo).take (hi - lo)))) := by
  intro w
  have e : (bs l).extract lo hi = bs ((l.drop lo).take (hi - lo)) := by
    apply ByteArray.ext
    rw [ByteArray.data_extract]
    simp [bs]
  rw [← e]
  have hs := bs_size l
  have u := run_underlying und_str (P := Tryz.prog)
  have b1 : ∀ w, (Instr.sliceBound (.int .i64 (hi : Int)) (bs l).size .sliceAlen).run Tryz.prog w = .ok hi w := fun w => by
    unfold Instr.sliceBound
    simp [go_sem, Result.andThen]
    intro hh; omega
  have b2 : ∀ w, (Instr.sliceBound (.int .i64 (lo : Int)) hi .sliceB).run Tryz.prog w = .ok lo w := fun w => by
    unfold Instr.sliceBound
    simp [go_sem, Result.andThen]
    intro hh; omega
  rw [run_sliceAt_string (h := und_str)]
  simp [Instr.slice, Instr.sliceBounds, u, b1, b2, Result.andThen]
theorem checkM_eq (k : Nat) (text : List UInt8) (u line col col' : Nat) : checkM k text u line col col' = match badC ⟨k, text, 0, line, col⟩ with
    | some code => .bad ⟨code, line, col⟩
    | none => .tok { (⟨k, text, 0, line, col⟩ : TokM) with value := worth ⟨k, text, 0, line, col⟩ } u line col' none := by
  have e1 : ((k : Int) = 1) ↔ k = 1 := by omega
  have e2 : ((k : Int) = 2) ↔ k = 2 := by omega
  simp only [checkM, badC, worth, e1, e2]
  by_cases c1 : k = 1 ∧ text.length > 16
  · simp only [if_pos c1]
  · simp only [if_neg c1]
    by_cases c2 : k = 2
    · subst c2
      by_cases c3 : badNum text = true
      · simp [c3]
      · simp [c3]
    · simp [c2]
theorem rowKind {k : Nat} {r : List UInt8} : ∀ c ∈ r.take (rowLen k r), kindB c = k := by
  intro c hc
  have : ∀ (l : List UInt8), ∀ c ∈ l.take ((l.takeWhile fun c => kindB c == k).length), kindB c = k := by
    intro l
    induction l with
    | nil => intro c hc; simp at hc
    | cons a l ih =>
      intro c hc
      rw [List.takeWhile_cons] at hc
      by_cases ha : (kindB a == k) = true
      · rw [if_pos ha] at hc
        simp only [List.length_cons, List.take_succ_cons, List.mem_cons] at hc
        rcases hc with rfl | hc
        · simpa using ha
        · exact ih c hc
      · rw [if_neg ha] at hc; simp at hc
  exact this r c hc
theorem m3_s {h : Hp} {b : Nat} {x : Sn} {r : List UInt8} {line : Nat} {k : Nat} (hln : line ≤ 200000) (hrl : r.length ≤ 65536) {K : Value → Hp → Prop} (u0 col0 n0 : Nat) {c0 : UInt8} (hc0 : (r.drop u0)[0]? = some c0) (hk : kindB c0 = k) (hk0 : k ≠ 0) (hdr : x.s.drop n0 = r.drop u0)
    (H : OutK (checkM k ((r.drop u0).take (if k = 3 then 1 else rowLen k (r.drop u0))) (u0 + (if k = 3 then 1 else rowLen k (r.drop u0))) line (col0 + 1) (col0 + (if k = 3 then 1 else rowLen k (r.drop u0)))) h b x r K) :
    ∀ (f j : Nat) (h1 : Hp) (x1 : Sn), (if k = 3 then 1 else rowLen k (r.drop u0)) ≤ j + f → j < (if k = 3 then 1 else rowLen k (r.drop u0)) → Mid h h1 b x x1 r (u0 + j) line (col0 + j) ⟨k, [], 0, line, ((col0 + 1 : Nat) : Int)⟩ → x1.at_ = ((n0 + j : Nat) : Int) →
      lex_Scanner_read_m1_3 (K1R K) f (some ⟨b, 0, none⟩) ⟨h.size, 0, none⟩ ⟨h.size + 1, 0, none⟩ (n0 : Int) h1 := by
  obtain ⟨m, hm⟩ : ∃ m, m = (if k = 3 then 1 else rowLen k (r.drop u0)) := ⟨_, rfl⟩
  rw [← hm] at H
  have hml : m ≤ (r.drop u0).length := by
    rw [hm]
    split
    · have := (List.getElem?_eq_some_iff.1 hc0).1; omega
    · exact takeWhile_le _ _
  have hdl : (r.drop u0).length = r.length - u0 := List.length_drop
  intro f
  induction f with
  | zero => intro j h1 x1 hf hj; omega
  | succ f ih =>
    intro j h1 x1 hf hj md hat
    rw [← hm] at hf hj ih
    unfold lex_Scanner_read_m1_3
    have hc := md.q.cl
    have hl6 := md.s.len
    obtain ⟨n, hatn, _, _, hlen, hget⟩ := md.s.at
    have hnn : n = n0 + j := by omega
    subst hnn
    have hdj : (r.drop (u0 + j)).length = r.length - (u0 + j) := List.length_drop
    refine ⟨_, ld (hc.at_ 1 _ rfl) (by kernel_rfl), ?_⟩
    rw [hat, wrap_in (by omega) (by omega)]
    refine md.q.st (x' := { x1 with at_ := x1.at_ + 1 }) 1 rfl (by kernel_rfl) (by omega) rfl (by rw [hat]; rfl) fun h2 q2 f2 z2 => ?_
    have md2 := md.go q2 f2 (by omega) rfl
    have hc2 := md2.q.cl
    have hb2 := md2.b2
    have ck : Cl h2 ⟨h.size + 1, 0, none⟩ (⟨k, [], 0, line, ((col0 + 1 : Nat) : Int)⟩ : TokM).enc := Cl.of_block hb2 fun j v hj => by rw [Nat.zero_add]; exact hj
    have hat2 : ({ x1 with at_ := x1.at_ + 1 } : Sn).at_ = ((n0 + (j + 1) : Nat) : Int) := by show x1.at_ + 1 = _; omega
    have hz := md2.f.size
    have hbb := md.hb
    -- the token is cut out
    have cut : j + 1 = m → ∀ h3, Fr (fun k => k = b) h2 h3 → SnAt h3 b { x1 with at_ := x1.at_ + 1 } → (drf (some ⟨b, 0, none⟩) fun a338 =>
        ∃ s339 : ByteArray, HV Tryz.prog (Instr.loadAt 9 (.pointer (some a338))) h3 (.string s339) ∧
        drf (some ⟨b, 0, none⟩) fun a340 =>
        ∃ x341 : Int, HV Tryz.prog (Instr.loadAt 3 (.pointer (some (a340.add 1)))) h3 (.int .i64 x341) ∧
        ∃ s342 : ByteArray, PV Tryz.prog (Instr.sliceAt 9 (.string s339) (some (.int .i64 (n0 : Int))) (some (.int .i64 x341)) none) (.string s342) ∧
        HU Tryz.prog (Instr.storeAt 9 (.pointer (some ((⟨h.size + 1, 0, none⟩ : Addr).add 1))) (.string s342)) h3 fun h343 =>
        ∃ x344 : Int, ∃ s345 : ByteArray, ∃ x346 : Int, ∃ x347 : Int, ∃ x348 : Int, HV Tryz.prog (Instr.loadAt 52 (.pointer (some ⟨h.size + 1, 0, none⟩))) h343 (.agg #[(.int .i64 x344), (.string s345), (.int .u32 x346), (.int .i64 x347), (.int .i64 x348)]) ∧
        CallsH Tryz.prog 87 #[(.pointer (some ⟨b, 0, none⟩)), (.agg #[(.int .i64 x344), (.string s345), (.int .u32 x346), (.int .i64 x347), (.int .i64 x348)])] h343 fun r350 h349 =>
        ∃ x351 : Int, ∃ s352 : ByteArray, ∃ x353 : Int, ∃ x354 : Int, ∃ x355 : Int, ∃ b356 : Bool, r350 = (.tuple #[(.agg #[(.int .i64 x351), (.string s352), (.int .u32 x353), (.int .i64 x354), (.int .i64 x355)]), (.bool b356)]) ∧
        HU Tryz.prog (Instr.storeAt 52 (.pointer (some ⟨h.size, 0, none⟩)) (.agg #[(.int .i64 x351), (.string s352), (.int .u32 x353), (.int .i64 x354), (.int .i64 x355)])) h349 fun h357 =>
        K1R K ⟨h.size, 0, none⟩ b356 h357) := fun hjm h3 f3 q3 => by
      have hc3 := q3.cl
      have hz3 := f3.size
      have hlb1 := lt_of_get md2.b1
      have hlb2 := lt_of_get md2.b2
      refine ⟨_, ld hc3.head (by kernel_rfl), _, ld (hc3.at_ 1 _ rfl) (by kernel_rfl), ?_⟩
      rw [hat2]
      refine ⟨_, extS (l := x1.s) (lo := n0) (hi := n0 + (j + 1)) (by omega) (by omega), ?_⟩
      have htx : (x1.s.drop n0).take (n0 + (j + 1) - n0) = (r.drop u0).take m := by
        rw [md.kp.s, hdr, show n0 + (j + 1) - n0 = m by omega]
      rw [htx]
      obtain ⟨tx, htx'⟩ : ∃ tx, tx = (r.drop u0).take m := ⟨_, rfl⟩
      rw [← htx'] at H ⊢
      have hb3 : h3[h.size + 1]? = some (.cells (⟨k, [], 0, line, ((col0 + 1 : Nat) : Int)⟩ : TokM).enc.toArray 52 (0, 0)) := by rw [f3.keep _ hlb2 (by omega)]; exact hb2
      rw [add_eq0]
      refine HU_st (us := [.string (bs tx)]) hb3 rfl (by kernel_rfl) (by simp [TokM.enc]) rfl ?_
      have et : (⟨k, [], 0, line, ((col0 + 1 : Nat) : Int)⟩ : TokM).enc.take (0 + 1) ++ [.string (bs tx)] ++ (⟨k, [], 0, line, ((col0 + 1 : Nat) : Int)⟩ : TokM).enc.drop (0 + 1 + [Value.string (bs tx)].length) = (⟨k, tx, 0, line, ((col0 + 1 : Nat) : Int)⟩ : TokM).enc := rfl
      rw [et]
      obtain ⟨h4, hh4⟩ : ∃ h4, h4 = setB h3 (h.size + 1) (⟨k, tx, 0, line, ((col0 + 1 : Nat) : Int)⟩ : TokM).enc 52 := ⟨_, rfl⟩
      rw [← hh4]
      have b4 : h4[h.size + 1]? = some (.cells (⟨k, tx, 0, line, ((col0 + 1 : Nat) : Int)⟩ : TokM).enc.toArray 52 (0, 0)) := by rw [hh4]; exact setB_get (lt_of_get hb3)
      have f4 : Fr (fun k => k = h.size + 1) h3 h4 := by rw [hh4]; exact setB_fr rfl
      have z4 : h4.size = h3.size := by rw [hh4]; exact setB_size
      have q4 : SnAt h4 b { x1 with at_ := x1.at_ + 1 } := q3.keep f4 (by omega)
      have hbx1 : h4[h.size]? = some (.cells tok0.enc.toArray 52 (0, 0)) := by rw [f4.keep _ (by omega) (by omega), f3.keep _ hlb1 (by omega)]; exact md2.b1
      have c4 : Cl h4 ⟨h.size + 1, 0, none⟩ (⟨k, tx, 0, line, ((col0 + 1 : Nat) : Int)⟩ : TokM).enc := Cl.of_block b4 fun j v hj => by rw [Nat.zero_add]; exact hj
      refine ⟨_, _, _, _, _, ldS (vs := (⟨k, tx, 0, line, ((col0 + 1 : Nat) : Int)⟩ : TokM).enc) c4 (by kernel_rfl), ?_⟩
      rw [checkM_eq] at H
      have htl : tx.length ≤ 65536 := by rw [htx', List.length_take]; omega
      have hdg : ((⟨k, tx, 0, line, ((col0 + 1 : Nat) : Int)⟩ : TokM)).kind = 2 → digs tx := fun h2k c hcm => by
        have h2k : k = 2 := by have : (k : Int) = 2 := h2k; omega
        rw [htx', hm, if_neg (by omega)] at hcm
        have := rowKind c hcm
        rw [h2k] at this
        unfold kindB at this
        split at this
        · cases this
        · split at this
          · assumption
          · split at this <;> cases this
      have keepF : ∀ h5, Fr (fun k => k = b) h4 h5 → Fr (fun k => k = b) h h5 := fun h5 f5 => ⟨by have := f5.size; omega, fun k hk hne => by
        rw [f5.keep k (by omega) hne, f4.keep k (by omega) (by omega), f3.keep k (by omega) hne, md2.f.keep k hk hne]⟩
      refine checked_s q4 md2.w ⟨k, tx, 0, line, ((col0 + 1 : Nat) : Int)⟩ rfl hdg htl (fun code hbad h5 x5 y q5 f5 B5 => ?_) (fun hok h5 q5 f5 => ?_)
      · refine ⟨_, _, _, _, _, _, rfl, ?_⟩
        rw [hbad] at H
        refine res_out (told := tok0) (by rw [f5.keep _ (by omega) (by omega)]; exact hbx1) _ false fun h6 f6 => ?_
        obtain ⟨g, rfl, g2, g3, g4⟩ := B5
        have hgl := lt_of_get g4
        have hz5 := f5.size
        refine H h6 _ _ (q5.keep f6 (by omega)) ⟨by have := f6.size; omega, fun k hk hne => by rw [f6.keep k (by omega) (by omega), (keepF h5 f5).keep k hk hne]⟩ (md2.kp.trans ⟨rfl, rfl, rfl, rfl, rfl⟩) ⟨g, rfl, g2, by omega, ?_⟩
        rw [f6.keep g hgl (by omega)]
        exact g4
      · refine ⟨_, _, _, _, _, _, rfl, ?_⟩
        rw [hok] at H
        refine res_out (told := tok0) (by rw [f5.keep _ (by omega) (by omega)]; exact hbx1) _ true fun h6 f6 => ?_
        have hz5 := f5.size
        refine H h6 _ (q5.keep f6 (by omega)) ⟨by have := f6.size; omega, fun k hk hne => by rw [f6.keep k (by omega) (by omega), (keepF h5 f5).keep k hk hne]⟩ md2.kp ?_ md2.w
        have := md2.s
        rw [show u0 + j + 1 = u0 + m by omega, show col0 + j + 1 = col0 + m by omega] at this
        exact this
    refine ⟨_, ld ck.head (by kernel_rfl), br_i (fun k3 => ?_) (fun k3 => ?_)⟩
    · have k3 : ¬ k = 3 := by simp at k3; omega
      rw [if_neg k3] at hm
      refine ⟨_, ld (hc2.at_ 1 _ rfl) (by kernel_rfl), _, ld hc2.head (by kernel_rfl), ?_⟩
      rw [hat2, bs_size]
      show br _ _ _
      have hs2 : ({ x1 with at_ := x1.at_ + 1 } : Sn).s = x1.s := rfl
      rw [hs2]
      have hgd : ∀ i, x1.s[n0 + i]? = (r.drop u0)[i]? := fun i => by rw [← hdr, ← md.kp.s, List.getElem?_drop]
      by_cases hjm : j + 1 < m
      · obtain ⟨c, hc1, hcp⟩ := takeWhile_at (fun c => kindB c == k) (r.drop u0) (j + 1) (by show j + 1 < rowLen k (r.drop u0); omega)
        have hgc : x1.s[n0 + (j + 1)]? = some c := by rw [hgd]; exact hc1
        refine br_t (by simp; omega) ⟨_, ld hc2.head (by kernel_rfl), _, ld (hc2.at_ 1 _ rfl) (by kernel_rfl), ?_⟩
        rw [hat2]
        refine ⟨_, ixS (l := x1.s) hgc rfl, ?_⟩
        refine kind_s c (by have := c.toNat_lt; simp [IntKind.wrap, IntKind.bits, IntKind.signed]; omega) ⟨_, rfl, _, ld ck.head (by kernel_rfl), ld ck.head (by kernel_rfl), br_t (by simp at hcp ⊢; omega) ?_⟩
        exact ih (j + 1) h2 _ (by omega) (by omega) md2 hat2
      · have hjm : j + 1 = m := by omega
        have hre := takeWhile_end (fun c => kindB c == k) (r.drop u0)
        rcases hre with ⟨c, h1', h2'⟩ | h1'
        · have h1' : (r.drop u0)[rowLen k (r.drop u0)]? = some c := h1'
          have hgc : x1.s[n0 + (j + 1)]? = some c := by rw [hgd, hjm, hm]; exact h1'
          have hlt := (List.getElem?_eq_some_iff.1 hgc).1
          refine br_t (by simp; omega) ⟨_, ld hc2.head (by kernel_rfl), _, ld (hc2.at_ 1 _ rfl) (by kernel_rfl), ?_⟩
          rw [hat2]
          refine ⟨_, ixS (l := x1.s) hgc rfl, ?_⟩
          refine kind_s c (by have := c.toNat_lt; simp [IntKind.wrap, IntKind.bits, IntKind.signed]; omega) ⟨_, rfl, _, ld ck.head (by kernel_rfl), ld ck.head (by kernel_rfl), br_f (by simp at h2' ⊢; omega) ?_⟩
          exact cut hjm h2 (Fr.refl _ _) q2
        · have h1' : rowLen k (r.drop u0) = (r.drop u0).length := h1'
          refine br_f (by simp; omega) (cut hjm h2 (Fr.refl _ _) q2)
    · have k3 : k = 3 := by simp at k3; omega
      rw [if_pos k3] at hm
      exact cut (by omega) h2 (Fr.refl _ _) q2
end Go.Proofs.YtfdpccbajaiepaaGreatDoor.Lx

/- The lexer's read, whole. -/
namespace Go.Proofs.YtfdpccbajaiepaaGreatDoor.Lx
open Go Go.RowKit Go.Proofs.YtfdpccbajaiepaaGreatDoor.Sx Go.Proofs.YtfdpccbajaiepaaGreatDoor.Sxp.Fx
set_option linter.unusedVariables false
set_option linter.unusedSimpArgs false
set_option maxRecDepth 10000
theorem m1_s {h : Hp} {b : Nat} {x : Sn} {r : List UInt8} {line col : Nat} (hln : line ≤ 200000) (hrl : r.length ≤ 65536) (hcl0 : col ≤ 65536) (n0 : Nat) (hdr : x.s.drop n0 = r) {K : Value → Hp → Prop}
    (H : OutK (readM r line col) h b x r K) :
    ∀ (f j : Nat) (h1 : Hp) (x1 : Sn), 2 * r.length + 3 ≤ j + f → j ≤ blanks r → Mid h h1 b x x1 r j line (col + j) tok0 → x1.at_ = ((n0 + j : Nat) : Int) →
      lex_Scanner_read_m1_1 (K1R K) f (some ⟨b, 0, none⟩) ⟨h.size, 0, none⟩ ⟨h.size + 1, 0, none⟩ h1 := by
  have hbl : blanks r ≤ r.length := takeWhile_le _ _
  intro f
  induction f with
  | zero => intro j h1 x1 hf hj; omega
  | succ f ih =>
    intro j h1 x1 hf hj md hat
    unfold lex_Scanner_read_m1_1
    have hc := md.q.cl
    have hl6 := md.s.len
    obtain ⟨n, hatn, hbeg, hcl, hlen, hget⟩ := md.s.at
    have hnn : n = n0 + j := by omega
    subst hnn
    have hdj : (r.drop j).length = r.length - j := List.length_drop
    have hgr : ∀ i, (r.drop j)[i]? = r[j + i]? := fun i => List.getElem?_drop
    refine ⟨_, ld (hc.at_ 1 _ rfl) (by kernel_rfl), _, ld hc.head (by kernel_rfl), ?_⟩
    rw [bs_size, hat]
    have stp : ∀ (hlt : j < blanks r), ∃ x408 : Int, HV Tryz.prog (Instr.loadAt 3 (.pointer (some ((⟨b, 0, none⟩ : Addr).add 1)))) h1 (.int .i64 x408) ∧
        drf (some ⟨b, 0, none⟩) fun a409 =>
        HU Tryz.prog (Instr.storeAt 3 (.pointer (some (a409.add 1))) (.int .i64 (IntKind.i64.wrap (x408 + 1)))) h1 fun h410 =>
        lex_Scanner_read_m1_1 (K1R K) f (some ⟨b, 0, none⟩) ⟨h.size, 0, none⟩ ⟨h.size + 1, 0, none⟩ h410 := fun hlt => by
      refine ⟨_, ld (hc.at_ 1 _ rfl) (by kernel_rfl), ?_⟩
      rw [hat, wrap_in (by omega) (by omega)]
      refine md.q.st (x' := { x1 with at_ := x1.at_ + 1 }) 1 rfl (by kernel_rfl) (by omega) rfl (by rw [hat]; rfl) fun h2 q2 f2 z2 => ?_
      exact ih (j + 1) h2 _ (by omega) (by omega) (md.go q2 f2 (by omega) rfl) (by show x1.at_ + 1 = _; omega)
    by_cases hjl : j < blanks r
    · obtain ⟨c, hc1, hc2⟩ := takeWhile_at _ r j hjl
      have hgc : x1.s[n0 + j]? = some c := by have := hget 0; rw [Nat.add_zero] at this; rw [this, hgr]; simpa using hc1
      refine br_f (by simp; omega) ⟨_, ld hc.head (by kernel_rfl), _, ld (hc.at_ 1 _ rfl) (by kernel_rfl), ?_⟩
      rw [hat]
      refine ⟨_, ixS hgc rfl, br_i (fun _ => stp hjl) (fun d1 => br_i (fun _ => stp hjl) (fun d2 => br_i (fun _ => stp hjl) (fun d3 => ?_)))⟩
      exfalso
      simp at d1 d2 d3
      unfold blankB at hc2
      simp at hc2
      omega
    · have hjl : j = blanks r := by omega
      subst hjl
      unfold readM at H
      simp only at H
      clear ih stp
      generalize hB : blanks r = B at *
      cases hd : r.drop B with
      | nil =>
        rw [hd] at H
        have hl0 : r.length = B := by have := congrArg List.length hd; rw [hdj] at this; simp at this; omega
        refine br_t (by simp; omega) ?_
        obtain ⟨f', rfl⟩ : ∃ f', f = f' + 1 := ⟨f - 1, by omega⟩
        exact m0_s md hln (by rw [hd]; exact H) f'
      | cons c rest =>
        rw [hd] at H
        simp only at H
        have hlr : r.length - B = rest.length + 1 := by have := congrArg List.length hd; rw [hdj] at this; simpa using this
        have hgc : x1.s[n0 + B]? = some c := by have := hget 0; rw [Nat.add_zero] at this; rw [this, hd]; rfl
        have hnb : blankB c = false := by
          rcases takeWhile_end blankB r with ⟨c', h1', h2'⟩ | h1'
          · have e : r[B]? = some c' := by rw [← hB]; exact h1'
            have e2 : r[B]? = some c := by have := hgr 0; rw [hd] at this; simpa using this.symm
            rw [e] at e2; injection e2 with e2; rw [← e2]; exact h2'
          · exfalso
            have : B = r.length := by rw [← hB]; exact h1'
            omega
        unfold blankB at hnb
        simp at hnb
        refine br_f (by simp; omega) ⟨_, ld hc.head (by kernel_rfl), _, ld (hc.at_ 1 _ rfl) (by kernel_rfl), ?_⟩
        rw [hat]
        refine ⟨_, ixS hgc rfl, br_f (by simp; omega) (br_f (by simp; omega) (br_f (by simp; omega) (br_i (fun d => ?_) (fun d35 => br_i (fun d => ?_) (fun d10 => ?_)))))⟩
        · have d : c.toNat = 35 := by simp at d; omega
          rw [if_pos d] at H
          have hLL : lineLen (c :: rest) ≤ (c :: rest).length := takeWhile_le _ _
          have hcons : (c :: rest).length = rest.length + 1 := rfl
          refine m2_s (h := h) (tk := tok0) hln hrl B (col + B) (by omega) (by omega) (by rw [hd, ← List.drop_drop, hd]; exact H) f 0 h1 x1 (by rw [hd]; omega) (by omega) (by simpa using md)
        · have d : c.toNat = 10 := by simp at d; omega
          rw [if_neg (by omega), if_pos d] at H
          obtain ⟨f', rfl⟩ : ∃ f', f = f' + 1 := ⟨f - 1, by omega⟩
          exact m0_s md hln (by rw [hd]; exact H) f'
        · have d35 : c.toNat ≠ 35 := by simp at d35; omega
          have d10 : c.toNat ≠ 10 := by simp at d10; omega
          rw [if_neg d35, if_neg d10] at H
          refine kind_s c (by have := c.toNat_lt; simp [IntKind.wrap, IntKind.bits, IntKind.signed]; omega) ⟨_, rfl, ?_⟩
          have hlin := md.s.lin
          refine ⟨_, ld (hc.at_ 2 _ rfl) (by kernel_rfl), ld (hc.at_ 2 _ rfl) (by kernel_rfl), _, ld (hc.at_ 1 _ rfl) (by kernel_rfl), ld (hc.at_ 1 _ rfl) (by kernel_rfl), _, ld (hc.at_ 3 _ rfl) (by kernel_rfl), ld (hc.at_ 3 _ rfl) (by kernel_rfl), ?_⟩
          have ecol : IntKind.i64.wrap (IntKind.i64.wrap (x1.at_ - x1.beg) + 1) = ((col + B + 1 : Nat) : Int) := by
            rw [hatn, hbeg, wrap_in (n := ((n0 + B : Nat) : Int) - (((n0 + B : Nat) : Int) - ((col + B : Nat) : Int))) (by omega) (by omega), wrap_in (by omega) (by omega)]; omega
          rw [ecol, hlin]
          have hzf := md.f.size
          have hbb := md.hb
          have hl1 := lt_of_get md.b1
          refine HU_box (us := (⟨(kindB c : Nat), [], 0, line, ((col + B + 1 : Nat) : Int)⟩ : TokM).enc) md.b2 rfl rfl tokSz rfl fun h2 c2 b2 f2 z2 => ?_
          have q2 : SnAt h2 b x1 := md.q.keep f2 (by omega)
          refine ⟨_, ld (q2.cl.at_ 1 _ rfl) (by kernel_rfl), _, ld c2.head (by kernel_rfl), ?_⟩
          have F2 : Fr (fun k => k = b) h h2 := ⟨by omega, fun k hk hne => by rw [f2.keep k (by omega) (by omega), md.f.keep k hk hne]⟩
          have hb12 : h2[h.size]? = some (.cells tok0.enc.toArray 52 (0, 0)) := by rw [f2.keep _ hl1 (by omega)]; exact md.b1
          refine br_i (fun d0 => ?_) (fun d0 => ?_)
          · have d0 : kindB c = 0 := by simp at d0; omega
            rw [if_pos d0] at H
            refine ⟨_, ld (c2.at_ 3 _ rfl) (by kernel_rfl), _, ld (c2.at_ 4 _ rfl) (by kernel_rfl), newC_i (cs := [.int .i64 90, .int .i64 (line : Int), .int .i64 ((col + B + 1 : Nat) : Int)]) fun h3 e3 c3 b3 z3 => ?_⟩
            refine (q2.ext e3).st (x' := { x1 with w := some ⟨h2.size, 0, none⟩ }) 6 rfl (by kernel_rfl) (by omega) rfl rfl fun h4 q4 f4 z4 => ?_
            have b24 : h4[h.size + 1]? = some (.cells (⟨(kindB c : Nat), [], 0, line, ((col + B + 1 : Nat) : Int)⟩ : TokM).enc.toArray 52 (0, 0)) := by
              have := lt_of_get b2
              rw [f4.keep _ (by omega) (by omega), e3.old _ this]; exact b2
            have c4 : Cl h4 ⟨h.size + 1, 0, none⟩ (⟨(kindB c : Nat), [], 0, line, ((col + B + 1 : Nat) : Int)⟩ : TokM).enc := Cl.of_block b24 fun j v hj => by rw [Nat.zero_add]; exact hj
            refine ⟨_, _, _, _, _, ldS (vs := (⟨(kindB c : Nat), [], 0, line, ((col + B + 1 : Nat) : Int)⟩ : TokM).enc) c4 (by kernel_rfl), ?_⟩
            refine res_out (told := tok0) (by rw [f4.keep _ (by omega) (by omega), e3.old _ (by omega)]; exact hb12) ⟨(kindB c : Nat), [], 0, line, ((col + B + 1 : Nat) : Int)⟩ false fun h5 f5 => ?_
            refine H h5 _ _ (q4.keep f5 (by omega)) ⟨by have := f5.size; omega, fun k hk hne => by rw [f5.keep k (by omega) (by omega), f4.keep k (by omega) hne, e3.old k (by omega), F2.keep k hk hne]⟩ (md.kp.trans ⟨rfl, rfl, rfl, rfl, rfl⟩) ⟨h2.size, rfl, by omega, by omega, ?_⟩
            rw [f5.keep _ (by omega) (by omega), f4.keep _ (by omega) (by omega)]
            exact b3
          · have d0 : kindB c ≠ 0 := by simp at d0; omega
            rw [if_neg d0] at H
            rw [hat]
            have md2 : Mid h h2 b x x1 r (B + 0) line (col + B + 0) ⟨(kindB c : Nat), [], 0, line, ((col + B + 1 : Nat) : Int)⟩ := ⟨q2, F2, md.kp, md.w, md.s, hb12, b2, md.hb, md.u⟩
            refine m3_s (h := h) (k := kindB c) hln hrl B (col + B) (n0 + B) (c0 := c) (by rw [hd]; rfl) rfl d0 (by rw [← List.drop_drop, hdr]) (by rw [hd]; exact H) (f + 1) 0 h2 x1 ?_ ?_ md2 (by rw [hat]; rfl)
            · rw [hd]
              have : rowLen (kindB c) (c :: rest) ≤ (c :: rest).length := takeWhile_le _ _
              have hcons : (c :: rest).length = rest.length + 1 := rfl
              split <;> omega
            · rw [hd]
              split
              · omega
              · unfold rowLen; rw [List.takeWhile_cons, if_pos (by simp)]; simp
theorem read_s {h : Hp} {b : Nat} {x : Sn} (q : SnAt h b x) {r : List UInt8} {line col : Nat} (s : LxS x r line col) (hw : x.w = none) (hln : line ≤ 200000) {K : Value → Hp → Prop} (H : OutK (readM r line col) h b x r K) :
    CallsH Tryz.prog 71 #[.pointer (some ⟨b, 0, none⟩)] h K := by
  refine lex_Scanner_read_ok _ ?_
  unfold lex_Scanner_read
  have hb := lt_of_get q
  obtain ⟨n, hatn, hbeg, hcl, hlen, hget⟩ := s.at
  have hl6 := s.len
  refine newC_i (cs := tok0.enc) fun h1 e1 c1 b1 z1 => ⟨2 * r.length + 2, ?_⟩
  refine newC_i (cs := tok0.enc) fun h2 e2 c2 b2 z2 => ?_
  have q2 := (q.ext e1).ext e2
  refine ⟨_, ld (q2.cl.at_ 6 _ rfl) (by kernel_rfl), ?_⟩
  rw [hw]
  refine ⟨_, neNil undF, br_f rfl ?_⟩
  show lex_Scanner_read_m1_1 (K1R K) _ _ ⟨h.size, 0, none⟩ ⟨h1.size, 0, none⟩ h2
  rw [z1]
  refine m1_s (h := h) (x := x) hln (by omega) (by omega) n ?_ H (2 * r.length + 2 + 1) 0 h2 x (by omega) (by omega) ⟨q2, (e1.trans e2).fr _, Kept.refl _, hw, by simpa using s, by rw [e2.old _ (by omega)]; exact b1, by rw [← z1]; exact b2, hb, Nat.zero_le _⟩ (by rw [hatn]; rfl)
  apply List.ext_getElem?
  intro i
  rw [List.getElem?_drop, hget]
end Go.Proofs.YtfdpccbajaiepaaGreatDoor.Lx

/- Functions that range over functions: the loop's record and its mark stand in the heap; the iterator is called once, with yield. -/
namespace Go.Proofs.YtfdpccbajaiepaaGreatDoor.Sx
open Go
set_option linter.unusedVariables false
set_option linter.unusedSimpArgs false

def marks (dl : List Nat) : List Deferred := dl.map fun D => { target := .collected D, args := #[] }
abbrev Qr := Exit → Tm → List Nat → Hp → Prop
/-- The loop's record as it is entered. -/
structure RecOK (n : Nat) (ps : Array Tmp) (asg bd : Code) (tm : Tm) (D : Nat) (r : Loop) : Prop where
  state : r.state = .ready
  pending : r.pending = none
  params : r.params = ps
  assign : r.assign = asg
  body : r.body = bd
  defers : r.defers = D
  tmps : ∀ i v, tm i = some v → r.tmps[i]? = some v
  size : r.tmps.size = n
/-- A function with a body of its own. -/
def enters (P : Program) (f : FuncId) : Bool := match P.funcs[f]? with
  | some fn => !(fn.name == "runtime.NumGoroutine") && fn.body.isSome
  | none => false
theorem enters_run {P : Program} {f : FuncId} (h : enters P f = true) (args : Array Value) (w : World) : (callFunc f args).run P w = .ok (.enter f args) w := by
  unfold enters at h
  cases hf : P.funcs[f]? with
  | none => rw [hf] at h; cases h
  | some fn =>
    rw [hf] at h
    simp only [Bool.and_eq_true, Bool.not_eq_true'] at h
    obtain ⟨h1, h2⟩ := h
    have h4 : fn.body ≠ none := by intro hb; rw [hb] at h2; cases h2
    have h5 : fn.name ≠ "runtime.NumGoroutine" := by simpa using h1
    unfold callFunc
    simp [go_sem, hf, h5, h4]
/-- The pending jump. -/
def pickX (id : Nat) : List (Nat × Prop) → Prop
  | [] => False
  | (e, p) :: r => match Nat.beq id e with
    | true => p
    | false => pickX id r
def jmpQ (c : Code) (ret : Prop) (ex : List (Nat × Prop)) : Prop := match c with
  | .ret => ret
  | .exit id => pickX id ex
  | _ => False
def exitsOf : Code → List Nat
  | .seq a b => exitsOf a ++ exitsOf b
  | .cond _ a b => exitsOf a ++ exitsOf b
  | .block id c => (exitsOf c).filter fun e => !(Nat.beq e id)
  | .scope c => exitsOf c
  | .loop c => exitsOf c
  | .rangeFunc _ _ _ b => exitsOf b
  | .exit id => [id]
  | _ => []
/-- What is known behind the iterator's call. -/
def endL (h2 : Hp) (D : Nat) (Kn : Nat → Hp → Prop) (Kj : Code → Nat → Hp → Prop) : Prop :=
  ∃ r2 : Loop, h2[D + 1]? = some (.loop r2) ∧ r2.state ≠ .busy ∧ (match r2.pending with
    | none => Kn D (h2.setIfInBounds (D + 1) (.loop { r2 with state := .exhausted }))
    | some c => Kj c D (h2.setIfInBounds (D + 1) (.loop { r2 with state := .exhausted })))
def yieldV (l : Nat) : Value := .func (.yield l) #[] #[]
def RangeW (P : Program) (n : Nat) (fv : Value) (ps : Array Tmp) (asg bd : Code) (tm : Tm) (h : Hp) (Kn : Nat → Hp → Prop) (Kj : Code → Nat → Hp → Prop) : Prop :=
  ∃ f lb, fv = .func (.func f) #[] lb ∧ enters P f = true ∧ ∀ r : Loop, RecOK n ps asg bd tm h.size r →
    CallsH P f (#[yieldV (h.size + 1)] ++ lb) ((h.push (.deferred (some []))).push (.loop r)) fun _ h2 => endL h2 h.size Kn Kj
def thenR (K : Tm → List Nat → Hp → Prop) (Q : Qr) : Qr
  | .normal, tm, dl, h => K tm dl h
  | e, tm, dl, h => Q e tm dl h
def blkR (id : Nat) (Q : Qr) : Qr
  | .exit i, tm, dl, h => match Nat.beq i id with
    | true => Q .normal tm dl h
    | false => Q (.exit i) tm dl h
  | e, tm, dl, h => Q e tm dl h
def noGotoR (Q : Qr) : Qr
  | .goto _, _, _, _ => False
  | e, tm, dl, h => Q e tm dl h
def rcodeWp (P : Program) (n : Nat) (lp : Nat → Qr → Tm → List Nat → Hp → Prop) (cut : Nat → Option (List Nat)) : Code → Nat → Qr → Tm → List Nat → Hp → Prop
  | .skip, _, Q, tm, dl, h => Q .normal tm dl h
  | .region id ops dr, i, Q, tm, dl, h => codeWp P n lp0 cut0 (.region id ops dr) i (fun e tm h => Q e tm dl h) tm h
  | .seq a b, i, Q, tm, dl, h => rcodeWp P n lp cut a (2 * i) (thenR (fun tm' dl' h' => match cut i with
      | none => rcodeWp P n lp cut b (2 * i + 1) Q tm' dl' h'
      | some live => lp i Q (mask live tm') dl' h') Q) tm dl h
  | .cond c a b, i, Q, tm, dl, h => match ev? tm c with
    | some (.bool x) => br x (rcodeWp P n lp cut a (2 * i) Q (litO c true tm) dl h) (rcodeWp P n lp cut b (2 * i + 1) Q (litO c false tm) dl h)
    | _ => False
  | .block id c, i, Q, tm, dl, h => rcodeWp P n lp cut c (2 * i) (blkR id Q) tm dl h
  | .loop _, i, Q, tm, dl, h => lp i Q tm dl h
  | .rangeFunc g ps asg bd, i, Q, tm, dl, h => match ev? tm g with
    | some fv => match cut i with
      | some live => RangeW P n fv ps asg bd (mask live tm) h (fun D h' => Q .normal tm (D :: dl) h') (fun c D h' => jmpQ c (Q .ret tm (D :: dl) h') ((exitsOf bd).map fun e => (e, Q (.exit e) tm (D :: dl) h')))
      | none => False
    | none => False
  | .exit id, _, Q, tm, dl, h => Q (.exit id) tm dl h
  | .scope c, i, Q, tm, dl, h => rcodeWp P n lp cut c (2 * i) (noGotoR Q) tm dl h
  | .label _, _, Q, tm, dl, h => Q .normal tm dl h
  | .goto _, _, _, _, _, _ => False
  | .ret, _, Q, tm, dl, h => Q .ret tm dl h
  | .refuse _, _, _, _, _, _ => False
def LER (w0 : World) (n : Nat) (Q : Qr) (e : Exit) (a : Act) (w : World) : Prop := ∃ tm dl, Le (marks dl) tm a ∧ a.tmps.size = n ∧ Same w0 w ∧ Q e tm dl w.heap
def SndR (P : Program) (n : Nat) (c : Code) (R : Qr → Tm → List Nat → Hp → Prop) : Prop :=
  ∀ (Q : Qr) (tm : Tm) (dl : List Nat) (a : Act) (w w0 : World), R Q tm dl w.heap → Le (marks dl) tm a → a.tmps.size = n → Same w0 w → ∀ m, c.wpIn (FW none) m P (LER w0 n Q) a w
def GoodR (P : Program) (n : Nat) (lp : Nat → Qr → Tm → List Nat → Hp → Prop) (cut : Nat → Option (List Nat)) : Code → Nat → Prop
  | .seq a b, i => GoodR P n lp cut a (2 * i) ∧ (match cut i with
    | none => GoodR P n lp cut b (2 * i + 1)
    | some _ => SndR P n b (lp i))
  | .cond _ a b, i => GoodR P n lp cut a (2 * i) ∧ GoodR P n lp cut b (2 * i + 1)
  | .block _ c, i => GoodR P n lp cut c (2 * i)
  | .scope c, i => GoodR P n lp cut c (2 * i)
  | .loop c, i => SndR P n (.loop c) (lp i)
  | _, _ => True
theorem same_alloc (w : World) (o : Obj) : Same w (w.alloc o) := ⟨rfl, rfl, rfl, trivial⟩
theorem same_put (w : World) (r : Nat) (o : Obj) : Same w (w.putObj r o) := ⟨rfl, rfl, rfl, trivial⟩
theorem pickX_map {id : Nat} {F : Nat → Prop} : ∀ (l : List Nat), pickX id (l.map fun e => (e, F e)) → F id
  | [], h => h.elim
  | e :: r, h => by
    simp only [List.map_cons, pickX] at h
    cases hb : Nat.beq id e with
    | true => rw [hb] at h; rw [Nat.eq_of_beq_eq_true hb]; exact h
    | false => rw [hb] at h; exact pickX_map r h
theorem range_sound {P : Program} {n : Nat} {g : Operand} {ps : Array Tmp} {asg bd : Code} {Q : Qr} {tm tm0 : Tm} {dl : List Nat} {a : Act} {w w0 : World} {fv : Value}
    (hg : ev? tm g = some fv) (hsub : ∀ i v, tm0 i = some v → tm i = some v)
    (h : RangeW P n fv ps asg bd tm0 w.heap (fun D h' => Q .normal tm (D :: dl) h') (fun c D h' => jmpQ c (Q .ret tm (D :: dl) h') ((exitsOf bd).map fun e => (e, Q (.exit e) tm (D :: dl) h'))))
    (hl : Le (marks dl) tm a) (hz : a.tmps.size = n) (hs : Same w0 w) (m : Nat) : (Code.rangeFunc g ps asg bd).wpIn (FW none) m P (LER w0 n Q) a w := by
  obtain ⟨f, lb, rfl, hen, hr⟩ := h
  refine wpIn_rangeFunc ?_
  intro fn hfn
  have hgv : a.eval g = .func (.func f) #[] lb := hl.ev hg
  obtain ⟨rec, hrec⟩ : ∃ rec : Loop, rec = { state := .ready, pending := none, fn, tmps := a.tmps, params := ps, assign := asg, body := bd, defers := w.heap.size } := ⟨_, rfl⟩
  obtain ⟨W1, hW1⟩ : ∃ W1, (w.alloc (.deferred (some []))).alloc (.loop rec) = W1 := ⟨_, rfl⟩
  have hH : W1.heap = (w.heap.push (.deferred (some []))).push (.loop rec) := by rw [← hW1]; rfl
  have hS : Same w W1 := by rw [← hW1]; exact (same_alloc _ _).trans (same_alloc _ _)
  refine ⟨w.heap.size + 1, [{ target := .collected w.heap.size, args := #[] }], W1, { target := .fn (.func f) lb, args := #[.func (.yield (w.heap.size + 1)) #[] #[]] }, W1, f,
    #[.func (.yield (w.heap.size + 1)) #[] #[]] ++ lb, W1, ?_, ?_, ?_, ?_, (fun h => by cases h), ?_⟩
  · rw [← hW1, hrec]; exact run_enterLoop_outer _ _ _ _ _
  · simp only [resolve, hgv]
    simp [go_sem]
  · intro f' _; trivial
  · simp [invoke, go_sem, enters_run hen]
  · have hc := hr rec ⟨by rw [hrec], by rw [hrec], by rw [hrec], by rw [hrec], by rw [hrec], by rw [hrec], fun i v hi => by rw [hrec]; exact hl.at_ i v (hsub i v hi), by rw [hrec]; exact hz⟩
    have hc2 : CallsIn Fence.wide (m - 1) P f (#[.func (.yield (w.heap.size + 1)) #[] #[]] ++ lb) W1 _ := callsIn_wide.2 (hc W1 hH)
    refine CallsIn.mono hc2 ?_
    rintro e w3 ⟨v, rfl, hs3, r2, hr2, hb, hK⟩
    refine ⟨r2.pending, w3.putObj (w.heap.size + 1) (.loop { r2 with state := .exhausted }), run_endLoop hr2 hb, ?_⟩
    have hS3 := (hs.trans hS).trans hs3
    have hl' : Le (marks (w.heap.size :: dl)) tm { a with defers := [({ target := .collected w.heap.size, args := #[] } : Deferred)] ++ a.defers } := ⟨hl.at_, by rw [hl.defers]; rfl⟩
    cases hp : r2.pending with
    | none =>
      rw [hp] at hK
      exact ⟨tm, _, hl', hz, hS3.trans (same_put _ _ _), hK⟩
    | some c =>
      rw [hp] at hK
      cases c <;> simp only [jmpQ] at hK <;> try exact hK.elim
      case ret => exact wpIn_ret ⟨tm, _, hl', hz, hS3.trans (same_put _ _ _), hK⟩
      case exit id => exact wpIn_exit ⟨tm, _, hl', hz, hS3.trans (same_put _ _ _), pickX_map (F := fun e => Q (.exit e) tm _ _) _ hK⟩
theorem rcodeWp_sound {P : Program} {n : Nat} {lp : Nat → Qr → Tm → List Nat → Hp → Prop} {cut : Nat → Option (List Nat)} : ∀ (c : Code) (i : Nat), GoodR P n lp cut c i → SndR P n c (rcodeWp P n lp cut c i)
  | .skip, i, hg => fun Q tm dl a w w0 h hl hz hs m => wpIn_skip ⟨tm, dl, hl, hz, hs, h⟩
  | .region id ops dr, i, hg => fun Q tm dl a w w0 h hl hz hs m =>
    wpIn_mono (codeWp_sound (ρ := none) (.region id ops dr) i (by trivial) (marks dl) (fun e tm h => Q e tm dl h) tm a w w0 h hl hz hs m) (fun e a' w' ⟨tm', h1, h2, h3, h4⟩ => ⟨tm', dl, h1, h2, h3, h4⟩)
  | .seq x y, i, hg => fun Q tm dl a w w0 h hl hz hs m => by
    refine wpIn_seq (wpIn_mono (rcodeWp_sound x (2 * i) hg.1 _ tm dl a w w0 h hl hz hs m) (fun e a' w' ⟨tm', dl', h1, h2, h3, h4⟩ => ?_))
    have hy : SndR P n y (fun Q tm' dl' h' => match cut i with
      | none => rcodeWp P n lp cut y (2 * i + 1) Q tm' dl' h'
      | some live => lp i Q (mask live tm') dl' h') := by
      have hg2 := hg.2
      cases hc : cut i with
      | none => rw [hc] at hg2; exact rcodeWp_sound y (2 * i + 1) hg2
      | some live => rw [hc] at hg2; exact fun Q tm dl a w w0 h hl hz hs m => hg2 Q (mask live tm) dl a w w0 h (hl.mask live) hz hs m
    cases e with
    | normal => exact hy Q tm' dl' a' w' w0 h4 h1 h2 h3 m
    | _ => exact ⟨tm', dl', h1, h2, h3, h4⟩
  | .cond c x y, i, hg => fun Q tm dl a w w0 h hl hz hs m => by
    rw [rcodeWp] at h
    split at h
    · rename_i b hb
      have hlit : litO c b tm = tm := by
        cases c with
        | tmp t => exact Tm.put_same hb
        | _ => rfl
      refine wpIn_cond (t := b) (hl.ev hb) ?_
      cases b with
      | true =>
        simp only [br] at h
        rw [hlit] at h
        exact rcodeWp_sound x (2 * i) hg.1 _ _ _ _ _ _ h hl hz hs m
      | false =>
        simp only [br] at h
        rw [hlit] at h
        exact rcodeWp_sound y (2 * i + 1) hg.2 _ _ _ _ _ _ h hl hz hs m
    · exact h.elim
  | .block id c, i, hg => fun Q tm dl a w w0 h hl hz hs m => by
    refine wpIn_block (wpIn_mono (rcodeWp_sound c (2 * i) hg _ tm dl a w w0 h hl hz hs m) (fun e a' w' ⟨tm', dl', h1, h2, h3, h4⟩ => ?_))
    cases e with
    | exit j =>
      simp only [blkR] at h4
      simp only [Exit.inBlock]
      cases hb : Nat.beq j id with
      | true =>
        rw [hb] at h4
        rw [if_pos (Nat.eq_of_beq_eq_true hb)]
        exact ⟨tm', dl', h1, h2, h3, h4⟩
      | false =>
        rw [hb] at h4
        rw [if_neg (fun e => by subst e; simp at hb)]
        exact ⟨tm', dl', h1, h2, h3, h4⟩
    | _ => exact ⟨tm', dl', h1, h2, h3, h4⟩
  | .loop c, i, hg => hg
  | .rangeFunc g ps asg bd, i, hg => fun Q tm dl a w w0 h hl hz hs m => by
    rw [rcodeWp] at h
    split at h
    · rename_i fv hfv
      split at h
      · rename_i live _
        exact range_sound hfv (fun i v hi => mkTm_mask tm live i v hi) h hl hz hs m
      · exact h.elim
    · exact h.elim
  | .exit id, i, hg => fun Q tm dl a w w0 h hl hz hs m => wpIn_exit ⟨tm, dl, hl, hz, hs, h⟩
  | .scope c, i, hg => fun Q tm dl a w w0 h hl hz hs m => by
    refine wpIn_scope_straight (wpIn_mono (rcodeWp_sound c (2 * i) hg _ tm dl a w w0 h hl hz hs m) (fun e a' w' ⟨tm', dl', h1, h2, h3, h4⟩ => ?_))
    cases e with
    | goto l => exact h4.elim
    | _ => exact ⟨tm', dl', h1, h2, h3, h4⟩
  | .label l, i, hg => fun Q tm dl a w w0 h hl hz hs m => wpIn_label ⟨tm, dl, hl, hz, hs, h⟩
  | .goto l, i, hg => fun Q tm dl a w w0 h hl hz hs m => h.elim
  | .ret, i, hg => fun Q tm dl a w w0 h hl hz hs m => wpIn_ret ⟨tm, dl, hl, hz, hs, h⟩
  | .refuse y, i, hg => fun Q tm dl a w w0 h hl hz hs m => h.elim
def leavesR (cut : Nat → Option (List Nat)) : Code → Nat → List (Nat × Code)
  | .seq a b, i => leavesR cut a (2 * i) ++ (match cut i with
    | none => leavesR cut b (2 * i + 1)
    | some _ => [(i, b)])
  | .cond _ a b, i => leavesR cut a (2 * i) ++ leavesR cut b (2 * i + 1)
  | .block _ c, i => leavesR cut c (2 * i)
  | .scope c, i => leavesR cut c (2 * i)
  | .loop c, i => [(i, .loop c)]
  | _, _ => []
theorem good_of_leavesR {P : Program} {n : Nat} {lp : Nat → Qr → Tm → List Nat → Hp → Prop} {cut : Nat → Option (List Nat)} : ∀ (c : Code) (i : Nat), (∀ p ∈ leavesR cut c i, SndR P n p.2 (lp p.1)) → GoodR P n lp cut c i
  | .seq a b, i, h => by
    simp only [leavesR] at h
    refine ⟨good_of_leavesR a (2 * i) (fun p hp => h p (List.mem_append_left _ hp)), ?_⟩
    cases hc : cut i with
    | none => rw [hc] at h; exact good_of_leavesR b (2 * i + 1) (fun p hp => h p (List.mem_append_right _ hp))
    | some l => rw [hc] at h; exact h (i, b) (List.mem_append_right _ (List.mem_cons_self ..))
  | .cond c a b, i, h => by
    simp only [leavesR] at h
    exact ⟨good_of_leavesR a (2 * i) (fun p hp => h p (List.mem_append_left _ hp)), good_of_leavesR b (2 * i + 1) (fun p hp => h p (List.mem_append_right _ hp))⟩
  | .block id c, i, h => good_of_leavesR c (2 * i) h
  | .scope c, i, h => good_of_leavesR c (2 * i) h
  | .loop c, i, h => h (i, .loop c) (List.mem_cons_self ..)
  | .rangeFunc f ps asg c, i, h => trivial
  | .skip, i, h => trivial
  | .region .., i, h => trivial
  | .exit _, i, h => trivial
  | .label _, i, h => trivial
  | .goto _, i, h => trivial
  | .ret, i, h => trivial
  | .refuse _, i, h => trivial
theorem good_byR {P : Program} {n : Nat} {lp : Nat → Qr → Tm → List Nat → Hp → Prop} {cut : Nat → Option (List Nat)} {c : Code} {i : Nat} {l : List (Nat × Code)} (he : leavesR cut c i = l) (h : ∀ p ∈ l, SndR P n p.2 (lp p.1)) : GoodR P n lp cut c i :=
  good_of_leavesR c i (by rw [he]; exact h)
def lpR0 : Nat → Qr → Tm → List Nat → Hp → Prop := fun _ _ _ _ _ => False
/-- The marks are come to on the way out: their blocks are shut. -/
def shut : List Nat → Hp → (Hp → Prop) → Prop
  | [], h, K => K h
  | D :: r, h, K => h[D]? = some (.deferred (some [])) ∧ shut r (h.setIfInBounds D (.deferred none)) K
def endR (P : Program) (rs : List ResultVar) (K : Value → Hp → Prop) : Qr
  | .normal, tm, dl, h => shut dl h fun h' => resQ P tm h' rs fun l => K (oneV l) h'
  | .ret, tm, dl, h => shut dl h fun h' => resQ P tm h' rs fun l => K (oneV l) h'
  | _, _, _, _ => False
theorem shut_leaves {P : Program} {m : Nat} {fn : Func} {tmps : Array Value} {R : Ending → World → Prop} : ∀ (dl : List Nat) (w w0 : World) (K : Hp → Prop), Same w0 w → shut dl w.heap K →
    (∀ w', Same w0 w' → K w'.heap → ∃ v, (results fn tmps).run P w' = .ok v w' ∧ R (.returned v) w') → LeavesInM Fence.wide m P fn tmps R (marks dl) .returning w
  | [], w, w0, K, hs, h, fin => by
    obtain ⟨v, hr, hR⟩ := fin w hs h
    exact ⟨v, hr, hR⟩
  | D :: r, w, w0, K, hs, h, fin => by
    refine ⟨by simp, .inl ⟨D, w.putObj D (.deferred none), rfl, run_takeDeferred h.1, ?_⟩⟩
    exact shut_leaves r _ w0 K (hs.trans (same_put _ _ _)) h.2 fin
theorem calls_ofR {P : Program} {f : FuncId} {fn : Func} {c : Code} {n : Nat} {args : List Value} {h : Hp} {K : Value → Hp → Prop} {lp : Nat → Qr → Tm → List Nat → Hp → Prop} {cut : Nat → Option (List Nat)}
    (hf : P.funcs[f]? = some fn) (hb : fn.body = some c) (hn : fn.ntmps = n) (ha : Nat.ble args.length n = true) (hg : GoodR P n lp cut c 1)
    (hc : rcodeWp P n lp cut c 1 (endR P fn.results.toList K) (argTm args) [] h) : CallsH P f args.toArray h K := by
  intro w hw
  subst hw
  refine (callsIn_wide (n := 0)).1 (callsIn_of_wp_marks hf hb trivial ?_)
  have hle : args.length ≤ n := Nat.le_of_ble_eq_true ha
  have h1 : Le (marks []) (argTm args) { tmps := args.toArray ++ Array.replicate (fn.ntmps - args.toArray.size) undef, defers := [] } := by
    refine ⟨fun i v hi => ?_, rfl⟩
    simp only [argTm] at hi
    have hlt := (List.getElem?_eq_some_iff.1 hi).1
    rw [Array.getElem?_append_left (by simpa using hlt)]
    simpa using hi
  have h2 : (args.toArray ++ Array.replicate (fn.ntmps - args.toArray.size) undef).size = n := by simp [hn]; omega
  refine wpIn_mono (rcodeWp_sound c 1 hg _ _ [] _ w w hc h1 h2 (.refl w) 0) (fun e a' w' ⟨tm', dl', l1, l2, l3, l4⟩ => ?_)
  have fin : shut dl' w'.heap (fun h' => resQ P tm' h' fn.results.toList fun l => K (oneV l) h') → LeavesInM Fence.wide 0 P fn a'.tmps (fun e w' => ∃ v, e = .returned v ∧ Same w w' ∧ K v w'.heap) a'.defers .returning w' := by
    intro hsh
    rw [l1.defers]
    refine shut_leaves dl' w' w _ l3 hsh (fun w2 hs2 hr => ?_)
    obtain ⟨l, hrun, hK⟩ := resQ_run (ds := marks dl') (a := a') (w := w2) l1 _ _ hr
    refine ⟨oneV l, ?_, _, rfl, hs2, hK⟩
    rw [results_eq, ← Array.toArray_toList (xs := fn.results), List.mapM_toArray]
    simp only [Sem.run_bind]
    simp [hrun, Result.andThen]
    match l with
    | [] => simp [oneV]
    | [v] => simp [oneV]
    | v :: u :: r => simp [oneV]
  cases e with
  | normal => exact fin l4
  | ret => exact fin l4
  | _ => exact l4.elim
end Go.Proofs.YtfdpccbajaiepaaGreatDoor.Sx

/- Calls of a function's value; append of a whole slice, and of none. -/
namespace Go.Proofs.YtfdpccbajaiepaaGreatDoor.Sx
open Go Go.RowKit
set_option linter.unusedVariables false
set_option linter.unusedSimpArgs false
set_option maxRecDepth 10000
theorem callF {P : Program} {f : FuncId} {lb args : Array Value} (hen : enters P f = true) {h : Hp} {K : Value → Hp → Prop} (H : CallsH P f (args ++ lb) h K) : HN P (callS (.func (.func f) #[] lb) args) h K := by
  unfold HN callS
  simp only [Deferred.ofValue, semWp_bind_eq, semWp_pure_eq, invoke]
  unfold callFunc
  unfold enters at hen
  cases hf : P.funcs[f]? with
  | none => rw [hf] at hen; cases hen
  | some fn =>
    rw [hf] at hen
    simp only [Bool.and_eq_true, Bool.not_eq_true'] at hen
    obtain ⟨h1, h2⟩ := hen
    have h4 : fn.body ≠ none := by intro hb; rw [hb] at h2; cases h2
    have h5 : fn.name ≠ "runtime.NumGoroutine" := by simpa using h1
    simp only [program, semWp_bind_eq, semWp_pure_eq, semWp, hf]
    simp [h5, h4, semWp_pure_eq, nextWp, H]
theorem rem64 {P : Program} {t : TypeId} (x y : Int) (hy : y ≠ 0) : PV P (binOp .rem t (.int .i64 x) (.int .i64 y)) (.int .i64 (Int.tmod x y)) := by
  intro w
  simp [binOp, Op.intDiv, go_sem, hy]
theorem shl64i {P : Program} {t : TypeId} (x y : Int) (hy : 0 ≤ y) : PV P (binOp .shl t (.int .i64 x) (.int .i64 y)) (.int .i64 (IntKind.i64.wrap (x * 2 ^ min y.toNat 64))) := by
  intro w
  have hn : ¬ (y < 0) := by omega
  simp only [binOp, Op.shift, hn, if_false]
  rfl
theorem shr16 {P : Program} {t : TypeId} (x y : Int) (hy : 0 ≤ y) : PV P (binOp .shr t (.int .u16 x) (.int .i64 y)) (.int .u16 (x.fdiv (2 ^ min y.toNat 16))) := by
  intro w
  have hn : ¬ (y < 0) := by omega
  simp only [binOp, Op.shift, hn, if_false]
  rfl
section
variable {α : Type} {enc : α → List Value} {sz : Nat}
/-- append(s, nothing...). -/
theorem HW_append0 {P : Program} {T E : TypeId} {i : TypeInfo} {h : Hp} {A : Option Addr} {n c : Nat} {K : Value → Hp → Prop}
    (hu : P.underlying T = some (.slice E)) (hi : P.info? E = some i) (hnc : n ≤ c) (hA : A = none → n = 0 ∧ c = 0) (H : K (.slice A n c) h) :
    HW P (Builtin.append_ #[T, T] T #[.slice A n c, .slice none 0 0]) h K := by
  unfold HW
  simp [Builtin.append_, semWp_bind_eq, underlying_eq hu, size_eq hi, Builtin.lenOf, semWp_pure_eq]
  rw [if_pos hnc, semWp_bind_eq]
  show semWp P (pure #[] : Sem (Array Value)) h _
  rw [semWp_pure_eq]
  cases A with
  | none => exact H
  | some a =>
    simp only [semWp_map_eq]
    exact H
theorem RowC.le {h : Hp} {E : Nat} {A : Option Addr} {c : Nat} {xs : List α} (r : RowC h E enc sz A c xs) : xs.length ≤ c := by
  rcases r.row with ⟨_, h1, h2, _⟩ | ⟨g, rest, rfl, hb, h1, h2, h3⟩
  · omega
  · exact h3
theorem RowC.none0 {h : Hp} {E : Nat} {c : Nat} {xs : List α} (r : RowC h E enc sz none c xs) : xs = [] ∧ c = 0 := by
  rcases r.row with ⟨_, h1, h2, _⟩ | ⟨g, rest, h0, _⟩
  · exact ⟨List.eq_nil_of_length_eq_zero h1, h2⟩
  · cases h0
/-- More elements, of a fresh row: out of another row. -/
theorem appRow {P : Program} {T E : TypeId} {i : TypeInfo} {z : Value} (he : ∀ x, (enc x).length = sz) (hf : ∀ x, (enc x).all flatV = true) {h0 h : Hp} {A B : Option Addr} {c cx : Nat} {xs ys : List α} {K : Value → Hp → Prop}
    (hu : P.underlying T = some (.slice E)) (hi : P.info? E = some i) (hz : i.zero = some z) (hzl : z.cells.size = sz) (hsz : i.size = sz) (hb0 : 0 < i.bytes) (hb1 : i.bytes ≤ 1000)
    (e : Ext h0 h) (r : RowC h E enc sz A c xs) (hF : Fresh h0 A) (rB : RowC h E enc sz B cx ys) (hl : xs.length + ys.length ≤ 1000000000)
    (H : ∀ h' A' c', Ext h0 h' → RowC h' E enc sz A' c' (xs ++ ys) → Fresh h0 A' → Fr (blk A) h h' → K (.slice A' (xs ++ ys).length c') h') :
    HW P (Builtin.append_ #[T, T] T #[.slice A xs.length c, .slice B ys.length cx]) h K := by
  rcases Nat.eq_zero_or_pos ys.length with h00 | h00
  · have hy : ys = [] := List.eq_nil_of_length_eq_zero h00
    subst hy
    rw [List.append_nil] at H
    cases B with
    | none =>
      obtain ⟨_, rfl⟩ := rB.none0
      exact HW_append0 hu hi r.le (fun hA => by subst hA; have := r.none0; exact ⟨by rw [this.1]; rfl, this.2⟩) (H h A c e r hF (Fr.refl _ _))
    | some b =>
      unfold HW
      simp [Builtin.append_, semWp_bind_eq, underlying_eq hu, size_eq hi, Builtin.lenOf, semWp_pure_eq]
      rw [if_pos r.le, semWp_bind_eq]
      show semWp P (loadCells b (0 * i.size)) h _
      rw [Nat.zero_mul]
      show semWp P (pure #[] : Sem (Array Value)) h _
      rw [semWp_pure_eq]
      cases A with
      | none => exact H h none c e r hF (Fr.refl _ _)
      | some a =>
        simp only [semWp_map_eq]
        exact H h (some a) c e r hF (Fr.refl _ _)
  · obtain ⟨g, rfl⟩ := rB.blk0 he h00
    obtain ⟨hlb, hcb⟩ := rB.read
    rcases hcb with hcb | ⟨ax, hax, hcl⟩
    · omega
    · cases hax
      have hb : (2 * (xs.length + ys.length) + 768) * i.bytes ≤ 2 ^ 48 := by
        have h1 := Nat.mul_le_mul_left (2 * (xs.length + ys.length) + 768) hb1
        have h2 : (2 * (xs.length + ys.length) + 768) * 1000 ≤ 2 ^ 48 := by
          have : (2 * (xs.length + ys.length) + 768) ≤ 2000000770 := by omega
          exact Nat.le_trans (Nat.mul_le_mul_right 1000 this) (by decide)
        exact Nat.le_trans h1 h2
      refine HW_appendC (ns := ys.flatMap enc) hu hi hz (by rw [hzl, hsz]) hb0 (by rw [hsz]; exact r.row) hcl (by rw [flat_len he, hsz]) h00 ?_ hb ?_
      · rw [List.all_eq_true]
        intro u hu
        obtain ⟨y, _, hy⟩ := List.mem_flatMap.1 hu
        exact List.all_eq_true.1 (hf y) u hy
      · intro h' A' c' hO hA' hsome hfr hc
        rw [hsz] at hO
        have := H h' A' c' (extOwn e hfr hF) ⟨by unfold Row; rw [List.length_append, List.flatMap_append]; exact hO, hc.elim (fun e => e ▸ r.cap) id⟩ (by
          rcases hA' with rfl | hA'
          · exact hF
          · intro k hk; have := hA' k hk; have := e.size; omega) hfr
        rw [List.length_append] at this
        exact this
end
end Go.Proofs.YtfdpccbajaiepaaGreatDoor.Sx

/- The lexer's fault, Next. -/
namespace Go.Proofs.YtfdpccbajaiepaaGreatDoor.Lx
open Go Go.RowKit Go.Proofs.YtfdpccbajaiepaaGreatDoor.Sx Go.Proofs.YtfdpccbajaiepaaGreatDoor.Sxp.Fx
set_option linter.unusedVariables false
set_option linter.unusedSimpArgs false
set_option maxRecDepth 10000
def Flt.enc (f : Flt) : List Value := [.int .i64 f.code, .int .i64 f.line, .int .i64 f.col]
def FltC (h : Hp) (g : Nat) (f : Flt) : Prop := h[g]? = some (.cells f.enc.toArray 34 (0, 0))
theorem fltSz : (Tryz.prog.info? 34).map (·.size) = some 3 := by kernel_rfl
theorem undToks : Tryz.prog.underlying 46 = some (.slice 52) := by kernel_rfl
theorem tokInfo : ∃ i z, Tryz.prog.info? 52 = some i ∧ i.size = 5 ∧ 0 < i.bytes ∧ i.bytes ≤ 1000 ∧ i.zero = some z ∧ z.cells.size = 5 := ⟨_, _, rfl, rfl, by decide, by decide, rfl, rfl⟩
theorem undSc : Tryz.prog.underlying 118 = some (.pointer (Tryz.prog.pointee 118)) := by kernel_rfl
theorem fault_s {h : Hp} {b : Nat} {x : Sn} (q : SnAt h b x) {K : Value → Hp → Prop} (H0 : x.w = none → K .nilIface h)
    (H1 : ∀ g f, x.w = some ⟨g, 0, none⟩ → FltC h g f → ∀ h' g', Ext h h' → h.size ≤ g' → FltC h' g' f → K (.iface 27 (.pointer (some ⟨g', 0, none⟩))) h')
    (hw : x.w = none ∨ ∃ g f, x.w = some ⟨g, 0, none⟩ ∧ FltC h g f) : CallsH Tryz.prog 72 #[.pointer (some ⟨b, 0, none⟩)] h K := by
  refine lex_Scanner_fault_ok _ ?_
  unfold lex_Scanner_fault
  refine ⟨_, ld (q.cl.at_ 6 _ rfl) (by kernel_rfl), ?_⟩
  rcases hw with hw | ⟨g, f, hw, hf⟩
  · rw [hw]
    exact ⟨_, eqNil undF, br_t rfl (H0 hw)⟩
  · rw [hw]
    refine ⟨_, eqNil undF, br_f rfl ⟨_, ld (q.cl.at_ 6 _ rfl) (by kernel_rfl), ?_⟩⟩
    rw [hw]
    have cf : Cl h ⟨g, 0, none⟩ f.enc := Cl.of_block hf fun j v hj => by rw [Nat.zero_add]; exact hj
    refine ⟨_, _, _, ldS (vs := f.enc) cf (by kernel_rfl), ?_⟩
    refine newV (us := f.enc) rfl rfl fltSz rfl fun h1 e1 c1 b1 z1 => ?_
    exact H1 g f hw hf h1 h.size e1 (Nat.le_refl _) b1
/-- A scanner whose tokens told are a row of its own. -/
structure Nc (h0 h : Hp) (b : Nat) (x : Sn) (told : List TokM) : Prop where
  e : Ext h0 h
  q : SnAt h b x
  nx : x.nx = (told.length : Int)
  l : x.l = told.length
  row : RowC h 52 TokM.enc 5 x.A x.c told
  fr : Fresh h0 x.A
  nb : ¬ blk x.A b
  hb : h0.size ≤ b
theorem read_w {h : Hp} {b : Nat} {x : Sn} (q : SnAt h b x) {g : Addr} (hw : x.w = some g) {K : Value → Hp → Prop} (H : ∀ h', Ext h h' → K (.tuple #[tok0.val, .bool false]) h') :
    CallsH Tryz.prog 71 #[.pointer (some ⟨b, 0, none⟩)] h K := by
  refine lex_Scanner_read_ok _ ?_
  unfold lex_Scanner_read
  refine newC_i (cs := tok0.enc) fun h1 e1 c1 b1 z1 => ⟨0, ?_⟩
  refine newC_i (cs := tok0.enc) fun h2 e2 c2 b2 z2 => ?_
  have q2 := (q.ext e1).ext e2
  refine ⟨_, ld (q2.cl.at_ 6 _ rfl) (by kernel_rfl), ?_⟩
  rw [hw]
  refine ⟨_, neNil undF, br_t rfl ⟨_, _, _, _, _, ldS (vs := tok0.enc) c2 (by kernel_rfl), ?_⟩⟩
  refine HU_box (us := tok0.enc) (by rw [e2.old _ (by omega)]; exact b1) rfl rfl tokSz rfl fun h3 c3 b3 f3 z3 => ?_
  exact ⟨_, _, _, _, _, ldS (vs := tok0.enc) c3 (by kernel_rfl), H h3 (extOwn (e1.trans e2) f3 (fun k hk => by subst hk; omega))⟩
theorem frT {h h1 h2 : Hp} {S T : Nat → Prop} (f : Fr S h h1) (g : Fr T h1 h2) (hT : ∀ k, k < h.size → T k → S k) : Fr S h h2 :=
  ⟨Nat.le_trans f.size g.size, fun k hk hn => by rw [g.keep k (Nat.lt_of_lt_of_le hk f.size) (fun ht => hn (hT k hk ht)), f.keep k hk hn]⟩
def Own (b : Nat) (x : Sn) (k : Nat) : Prop := k = b ∨ blk x.A k
/-- Next, of what its read tells. -/
theorem next_of {h0 h : Hp} {b : Nat} {x : Sn} {told : List TokM} (n : Nc h0 h b x told) (ht : told.length ≤ 1000000) {K : Value → Hp → Prop} {Rd : Hp → (Value → Hp → Prop) → Prop}
    (HR : ∀ h2 K2, Ext h h2 → Rd h2 K2 → CallsH Tryz.prog 71 #[.pointer (some ⟨b, 0, none⟩)] h2 K2)
    (H : ∀ h2 K2, Ext h h2 → h.size < h2.size →
      (∀ h' x' (t : TokM), SnAt h' b x' → Fr (fun k => k = b) h2 h' → Kept x x' → (x'.w = none ∨ ∃ g f, x'.w = some ⟨g, 0, none⟩ ∧ g ≠ b ∧ FltC h' g f) →
        ((x'.w = none → ∀ h3, Ext h0 h3 → Fr (Own b x) h h3 → K (.tuple #[tok0.val, .bool false, .nilIface]) h3) ∧ (∀ g f, x'.w = some ⟨g, 0, none⟩ → FltC h' g f → ∀ h3 g', Ext h0 h3 → h0.size ≤ g' → FltC h3 g' f → K (.tuple #[tok0.val, .bool false, .iface 27 (.pointer (some ⟨g', 0, none⟩))]) h3)) → K2 (.tuple #[t.val, .bool false]) h') →
      (∀ h' x' (t : TokM), SnAt h' b x' → Fr (fun k => k = b) h2 h' → Kept x x' →
        (∀ h3 x3, Nc h0 h3 b x3 (told ++ [t]) → x3.s = x'.s → x3.at_ = x'.at_ → x3.line = x'.line → x3.beg = x'.beg → x3.w = x'.w → (∀ g, g ≠ b → h.size < g → g < h'.size → h3[g]? = h'[g]?) → Fr (Own b x) h h3 → (∀ k, blk x3.A k → blk x.A k ∨ h.size ≤ k) → K (.tuple #[t.val, .bool true, .nilIface]) h3) → K2 (.tuple #[t.val, .bool true]) h') → Rd h2 K2) :
    CallsH Tryz.prog 40 #[.pointer (some ⟨b, 0, none⟩)] h K := by
  refine lex_Scanner_Next_ok _ ?_
  unfold lex_Scanner_Next
  have hbl := lt_of_get n.q
  refine newC_i (cs := tok0.enc) fun h1 e1 c1 b1 z1 => ⟨_, eqNil undSc, br_f rfl ?_⟩
  have q1 := n.q.ext e1
  refine ⟨_, ld (q1.cl.at_ 5 _ rfl) (by kernel_rfl), _, _, _, ld (q1.cl.at_ 4 _ rfl) (by kernel_rfl), br_t (by rw [n.nx, n.l]; simp) ?_⟩
  refine HR h1 _ e1 (H h1 _ e1 (by omega) (fun h2 x2 t q2 f2 k2 hw hK => ?_) (fun h2 x2 t q2 f2 k2 hK => ?_))
  · refine ⟨_, _, _, _, _, _, rfl, ?_⟩
    have z2 := f2.size
    refine newV (us := t.enc) rfl rfl tokSz rfl fun h3 e3 c3 b3 z3 => br_t rfl ?_
    have q3 := q2.ext e3
    have b13 : h3[h.size]? = some (.cells tok0.enc.toArray 52 (0, 0)) := by rw [e3.old _ (by omega), f2.keep _ (by omega) (by omega)]; exact b1
    have E3 : Ext h0 h3 := ((extOwn (n.e.trans e1) f2 (fun k hk => by subst hk; exact n.hb))).trans e3
    have out : ∀ (v : Value) (h4 : Hp), Ext h3 h4 → (∀ h5, Ext h0 h5 → Fr (Own b x) h h5 → (∀ k, k < h4.size → k ≠ h.size → h5[k]? = h4[k]?) → K (.tuple #[tok0.val, .bool false, v]) h5) → ∃ v96 : Value, v = v96 ∧
        HU Tryz.prog (Instr.storeAt 52 (.pointer (some ⟨h.size, 0, none⟩)) (.agg #[(.int .i64 0), (.string ⟨#[]⟩), (.int .u32 0), (.int .i64 0), (.int .i64 0)])) h4 fun h97 =>
        ∃ x98 : Int, ∃ s99 : ByteArray, ∃ x100 : Int, ∃ x101 : Int, ∃ x102 : Int, HV Tryz.prog (Instr.loadAt 52 (.pointer (some ⟨h.size, 0, none⟩))) h97 (.agg #[(.int .i64 x98), (.string s99), (.int .u32 x100), (.int .i64 x101), (.int .i64 x102)]) ∧ K (.tuple #[(.agg #[(.int .i64 x98), (.string s99), (.int .u32 x100), (.int .i64 x101), (.int .i64 x102)]), (.bool false), v96]) h97 := fun v h4 e4 hk => by
      have hz4 := e4.size
      have hz0 := n.e.size
      refine ⟨v, rfl, HU_box (us := tok0.enc) (by rw [e4.old _ (by omega)]; exact b13) rfl rfl tokSz rfl fun h5 c5 b5 f5 z5 => ?_⟩
      exact ⟨_, _, _, _, _, ldS (vs := tok0.enc) c5 (by kernel_rfl), hk h5 (extOwn (E3.trans e4) f5 (fun k hk => by subst hk; omega)) (frT (frT (frT (e1.fr _) f2 (fun k _ hk => .inl hk)) ((e3.trans e4).fr (fun _ => False)) (fun _ _ h => h.elim)) f5 (fun k hk he => by omega)) (fun k hk hne => f5.keep k hk hne)⟩
    have hw3 : x2.w = none ∨ ∃ g f, x2.w = some ⟨g, 0, none⟩ ∧ FltC h3 g f := by
      rcases hw with hw | ⟨g, f, h1', h2', h3'⟩
      · exact .inl hw
      · exact .inr ⟨g, f, h1', by unfold FltC; rw [e3.old _ (lt_of_get h3')]; exact h3'⟩
    refine fault_s q3 (fun hwn => out _ h3 (Ext.refl _) fun h5 E5 F5 _ => hK.1 hwn h5 E5 F5) (fun g f hwg hf h4 g' e4 hg' hf' => out _ h4 e4 fun h5 E5 _ keep => ?_) hw3
    have hgl := lt_of_get hf'
    refine hK.2 g f hwg ?_ h5 g' E5 (by have := E3.size; omega) (by unfold FltC; rw [keep g' hgl (by omega)]; exact hf')
    rcases hw with hw | ⟨g2, f2', h1', h2', h3'⟩
    · rw [hw] at hwg; cases hwg
    · rw [hwg] at h1'
      injection h1' with h1'
      injection h1' with h1' _ _
      subst h1'
      have : FltC h3 g f2' := by unfold FltC; rw [e3.old _ (lt_of_get h3')]; exact h3'
      unfold FltC at this hf ⊢
      rw [e3.old _ (lt_of_get h3')] at hf
      exact hf
  · refine ⟨_, _, _, _, _, _, rfl, ?_⟩
    have z2 := f2.size
    have z0 := n.e.size
    refine newV (us := t.enc) rfl rfl tokSz rfl fun h3 e3 c3 b3 z3 => br_f rfl ?_
    have q3 := q2.ext e3
    refine ⟨_, _, _, ld (q3.cl.at_ 4 _ rfl) (by kernel_rfl), ?_⟩
    refine ⟨_, _, _, _, _, ldS (vs := t.enc) c3 (by kernel_rfl), ?_⟩
    refine newC_i (cs := t.enc) fun h4 e4 c4 b4 z4 => ⟨ld ((q3.ext e4).cl.at_ 4 _ rfl) (by kernel_rfl), ?_⟩
    have q4 := q3.ext e4
    have r4 : RowC h4 52 TokM.enc 5 x.A x.c told := (((n.row.ext e1).keep f2 (fun k hk he => n.nb (he ▸ hk))).ext e3).ext e4
    have E4 : Ext h0 h4 := ((extOwn (n.e.trans e1) f2 (fun k hk => by subst hk; exact n.hb)).trans e3).trans e4
    obtain ⟨i, z, hi, hsz, hb0, hb1, hz, hzl⟩ := tokInfo
    have hbnd : (2 * (told.length + 1) + 768) * i.bytes ≤ 2 ^ 48 := by
      have h1 := Nat.mul_le_mul_left (2 * (told.length + 1) + 768) hb1
      have h2 : (2 * (told.length + 1) + 768) * 1000 ≤ 2 ^ 48 := by
        have : (2 * (told.length + 1) + 768) ≤ 2000000770 := by omega
        exact Nat.le_trans (Nat.mul_le_mul_right 1000 this) (by decide)
      exact Nat.le_trans h1 h2
    rw [k2.A, k2.l, k2.c, n.l]
    refine HW_append1C (enc := TokM.enc) (sz := 5) (fun _ => rfl) (fun _ => rfl) undToks hi hz hzl hsz hb0 r4.row c4 hbnd fun h5 g c' r5 hg f5 hc => ?_
    have gold : ∀ k, blk x.A k → k < h.size := n.row.old
    have gb : g ≠ b := by
      rcases hg with hg | hg
      · exact fun he => n.nb (he ▸ hg)
      · have := lt_of_get q4; omega
    have g0 : g ≠ h.size := by
      rcases hg with hg | hg
      · have := gold g hg; omega
      · omega
    have gf : h0.size ≤ g := by
      rcases hg with hg | hg
      · exact n.fr g hg
      · have := E4.size; omega
    refine ⟨_, _, _, rfl, ?_⟩
    have q5 : SnAt h5 b x2 := f5.get q4 n.nb
    refine SnAt.st (x' := { x2 with A := some ⟨g, 0, none⟩, l := told.length + 1, c := c' }) q5 4 rfl (by kernel_rfl) (by decide) rfl rfl fun h6 q6 f6 z6 => ?_
    unfold lex_Scanner_Next_j1
    refine ⟨_, ld (q6.cl.at_ 5 _ rfl) (by kernel_rfl), ?_⟩
    have nxe : x2.nx = (told.length : Int) := k2.nx.trans n.nx
    have w1 : IntKind.i64.wrap (x2.nx + 1) = ((told.length + 1 : Nat) : Int) := by rw [nxe, wrap_in (by omega) (by omega)]; omega
    show HU Tryz.prog (Instr.storeAt 3 _ (.int .i64 (IntKind.i64.wrap (x2.nx + 1)))) h6 _
    rw [w1]
    refine SnAt.st (x' := { x2 with A := some ⟨g, 0, none⟩, l := told.length + 1, c := c', nx := ((told.length + 1 : Nat) : Int) }) q6 5 rfl (by kernel_rfl) (by decide) rfl rfl fun h7 q7 f7 z7 => ?_
    refine ⟨_, _, _, ld (q7.cl.at_ 4 _ rfl) (by kernel_rfl), _, ld (q7.cl.at_ 5 _ rfl) (by kernel_rfl), ?_⟩
    have r7 : RowC h7 52 TokM.enc 5 (some ⟨g, 0, none⟩) c' (told ++ [t]) := by
      have r5' : RowC h5 52 TokM.enc 5 (some ⟨g, 0, none⟩) c' (told ++ [t]) := ⟨r5, hc.elim (fun e => e ▸ r4.cap) id⟩
      have hn : ∀ k, blk (some (⟨g, 0, none⟩ : Addr)) k → ¬ k = b := by
        rintro k ⟨a, ha, hk⟩
        cases ha
        subst hk
        exact gb
      exact (r5'.keep f6 hn).keep f7 hn
    have w2 : IntKind.i64.wrap (((told.length + 1 : Nat) : Int) - 1) = (told.length : Int) := by rw [wrap_in (by omega) (by omega)]; omega
    obtain ⟨a, ha0, _, pv, cl⟩ := ixR (P := Tryz.prog) (T := 46) (E := 52) (enc := TokM.enc) (sz := 5) (xs := told ++ [t]) (h := h7) (A := some ⟨g, 0, none⟩) (l := told.length + 1) (c := c') (k := .i64) (i := told.length) (x := t) (fun _ => rfl) (by have := r7.read; rwa [List.length_append] at this) (by simp) undToks tokSz (by simp)
    refine ⟨a, by
      show PV Tryz.prog (Instr.indexAt _ _ (.int .i64 (IntKind.i64.wrap (((told.length + 1 : Nat) : Int) - 1)))) _
      rw [w2]
      exact pv, ?_⟩
    refine ⟨_, _, _, _, _, ldS (vs := t.enc) cl (by kernel_rfl), ?_⟩
    have b7 : h7[h.size]? = some (.cells tok0.enc.toArray 52 (0, 0)) := by
      rw [f7.keep _ (by have := f5.size; have := e4.size; have := e3.size; omega) (by omega), f6.keep _ (by have := f5.size; have := e4.size; have := e3.size; omega) (by omega), f5.keep _ (by have := e4.size; have := e3.size; omega) (fun hk => by have := gold _ hk; omega), e4.old _ (by have := e3.size; omega), e3.old _ (by omega), f2.keep _ (by omega) (by omega)]
      exact b1
    refine HU_box (us := t.enc) b7 rfl rfl tokSz rfl fun h8 c8 b8 f8 z8 => ?_
    have zz5 := f5.size
    have zz4 := e4.size
    have zz3 := e3.size
    have hn8 : ∀ k, blk (some (⟨g, 0, none⟩ : Addr)) k → ¬ k = h.size := by
      rintro k ⟨a, ha, hk⟩
      cases ha
      subst hk
      exact g0
    have E8 : Ext h0 h8 := extOwn (extOwn (extOwn (extOwn E4 f5 n.fr) f6 (fun k hk => by subst hk; exact n.hb)) f7 (fun k hk => by subst hk; exact n.hb)) f8 (fun k hk => by subst hk; omega)
    refine ⟨_, _, _, _, _, ldS (vs := t.enc) c8 (by kernel_rfl), hK h8 { x2 with A := some ⟨g, 0, none⟩, l := told.length + 1, c := c', nx := ((told.length + 1 : Nat) : Int) }
      { e := E8, q := f8.get q7 (by omega), nx := by simp, l := by simp, row := r7.keep f8 hn8, fr := Fresh.some gf, nb := ?_, hb := n.hb } rfl rfl rfl rfl rfl (fun q hq hlo hhi => ?_) ?_ ?_⟩
    · rintro ⟨a, ha, hk⟩
      cases ha
      exact gb hk
    · rw [f8.keep q (by omega) (by omega), f7.keep q (by omega) hq, f6.keep q (by omega) hq, f5.keep q (by omega) (fun hk => by have := gold _ hk; omega), e4.old q (by omega), e3.old q hhi]
    · exact frT (frT (frT (frT (frT (frT (e1.fr _) f2 (fun k _ hk => .inl hk)) ((e3.trans e4).fr (fun _ => False)) (fun _ _ h => h.elim)) f5 (fun k _ hk => .inr hk)) f6 (fun k _ hk => .inl hk)) f7 (fun k _ hk => .inl hk)) f8 (fun k hk he => by omega)
    · rintro k ⟨a, ha, hk⟩
      cases ha
      subst hk
      rcases hg with hg | hg
      · exact .inl hg
      · exact .inr (by show h.size ≤ g; omega)
end Go.Proofs.YtfdpccbajaiepaaGreatDoor.Lx

/- The lexer: Next by its reads; All. -/
namespace Go.Proofs.YtfdpccbajaiepaaGreatDoor.Lx
open Go Go.RowKit Go.Proofs.YtfdpccbajaiepaaGreatDoor.Sx Go.Proofs.YtfdpccbajaiepaaGreatDoor.Sxp.Fx
set_option linter.unusedVariables false
set_option linter.unusedSimpArgs false
set_option maxRecDepth 10000
theorem LxS.of {x x' : Sn} {r : List UInt8} {line col : Nat} (s : LxS x r line col) (h1 : x'.s = x.s) (h2 : x'.at_ = x.at_) (h3 : x'.line = x.line) (h4 : x'.beg = x.beg) : LxS x' r line col := by
  obtain ⟨⟨p, a1, a2, a3, a4⟩, b, c, d⟩ := s
  exact ⟨⟨p, h1.trans a1, h2.trans a2, h4.trans a3, a4⟩, h3.trans b, by rw [h1]; exact c, d⟩
theorem FltC.inj {h : Hp} {g : Nat} {f f' : Flt} (a : FltC h g f) (b : FltC h g f') : f = f' := by
  unfold FltC at a b
  rw [a] at b
  obtain ⟨x, y, z⟩ := f
  obtain ⟨x', y', z'⟩ := f'
  simpa [Flt.enc] using b
/-- The fault a scanner holds. -/
def WAt (h : Hp) (b : Nat) (x : Sn) (w : Option Flt) : Prop := match w with
  | none => x.w = none
  | some f => ∃ g, x.w = some ⟨g, 0, none⟩ ∧ g ≠ b ∧ FltC h g f
theorem next_w {h0 h : Hp} {b : Nat} {x : Sn} {told : List TokM} (n : Nc h0 h b x told) (ht : told.length ≤ 1000000) {f : Flt} (hw : WAt h b x (some f)) {K : Value → Hp → Prop}
    (H : ∀ h3 g', Ext h0 h3 → h0.size ≤ g' → FltC h3 g' f → K (.tuple #[tok0.val, .bool false, .iface 27 (.pointer (some ⟨g', 0, none⟩))]) h3) :
    CallsH Tryz.prog 40 #[.pointer (some ⟨b, 0, none⟩)] h K := by
  obtain ⟨g, hg, hgb, hf⟩ := hw
  refine next_of n ht (Rd := fun h2 K2 => ∀ h', Ext h2 h' → K2 (.tuple #[tok0.val, .bool false]) h') (fun h2 K2 e o => read_w (n.q.ext e) hg o) fun h2 K2 e hlt A B h' e' => ?_
  refine A h' x tok0 ((n.q.ext e).ext e') (e'.fr _) (Kept.refl x) (.inr ⟨g, f, hg, hgb, ?_⟩) ⟨fun hn => (by rw [hg] at hn; cases hn), fun g2 f2 hw2 hf2 h3 g' e3 hg' hf' => ?_⟩
  · unfold FltC
    rw [e'.old _ (Nat.lt_of_lt_of_le (lt_of_get hf) e.size), e.old _ (lt_of_get hf)]
    exact hf
  · rw [hg] at hw2
    cases hw2
    have h1 : FltC h' g f := by
      unfold FltC
      rw [e'.old _ (Nat.lt_of_lt_of_le (lt_of_get hf) e.size), e.old _ (lt_of_get hf)]
      exact hf
    rw [hf2.inj h1] at hf'
    exact H h3 g' e3 hg' hf'
theorem next_s {h0 h : Hp} {b : Nat} {x : Sn} {told : List TokM} (n : Nc h0 h b x told) (ht : told.length ≤ 1000000) (hw : x.w = none) {r : List UInt8} {line col : Nat} (s : LxS x r line col) (hln : line ≤ 200000) {K : Value → Hp → Prop}
    (H : match readM r line col with
      | .stop => ∀ h3, Ext h0 h3 → Fr (Own b x) h h3 → K (.tuple #[tok0.val, .bool false, .nilIface]) h3
      | .bad f => ∀ h3 g', Ext h0 h3 → h0.size ≤ g' → FltC h3 g' f → K (.tuple #[tok0.val, .bool false, .iface 27 (.pointer (some ⟨g', 0, none⟩))]) h3
      | .tok t u line' col' w => ∀ h3 x3, Nc h0 h3 b x3 (told ++ [t]) → LxS x3 (r.drop u) line' col' → WAt h3 b x3 w → Fr (Own b x) h h3 → (∀ k, blk x3.A k → blk x.A k ∨ h.size ≤ k) → K (.tuple #[t.val, .bool true, .nilIface]) h3) :
    CallsH Tryz.prog 40 #[.pointer (some ⟨b, 0, none⟩)] h K := by
  refine next_of n ht (Rd := fun h2 K2 => OutK (readM r line col) h2 b x r K2) (fun h2 K2 e o => read_s (n.q.ext e) s hw hln o) fun h2 K2 e hlt A B => ?_
  cases hR : readM r line col with
  | stop =>
    rw [hR] at H
    exact fun h' x' t q f k w => A h' x' t q f k (.inl w) ⟨fun _ h3 e3 f3 => H h3 e3 f3, fun g f hg => (by rw [w] at hg; cases hg)⟩
  | bad f =>
    rw [hR] at H
    intro h' x' t q fr k fa
    obtain ⟨g, hg, hgb, hlo, hf⟩ := fa
    refine A h' x' t q fr k (.inr ⟨g, f, hg, hgb, hf⟩) ⟨fun hn => (by rw [hg] at hn; cases hn), fun g2 f2 hg2 hf2 h3 g' e3 hg' hf' => ?_⟩
    rw [hg] at hg2
    cases hg2
    have h1 : FltC h' g f := hf
    rw [hf2.inj h1] at hf'
    exact H h3 g' e3 hg' hf'
  | tok t u line' col' w =>
    rw [hR] at H
    intro h' x' q fr k sx wf
    refine B h' x' t q fr k fun h3 x3 nc s1 s2 s3 s4 s5 keep F bl => H h3 x3 nc (sx.of s1 s2 s3 s4) ?_ F bl
    cases w with
    | none => exact s5.trans wf
    | some f =>
      obtain ⟨g, hg, hgb, hlo, hf⟩ := wf
      refine ⟨g, s5.trans hg, hgb, ?_⟩
      unfold FltC
      rw [keep g hgb (by omega) (lt_of_get hf)]
      exact hf
theorem neI0 : PV Tryz.prog (binOp .neq 24 .nilIface .nilIface) (.bool false) := fun w => pureRun_run _ _ _ (by kernel_rfl) w
theorem neI1 {T : TypeId} {v : Value} : PV Tryz.prog (binOp .neq 24 (.iface T v) .nilIface) (.bool true) := fun w => pureRun_run _ _ _ (by kernel_rfl) w
end Go.Proofs.YtfdpccbajaiepaaGreatDoor.Lx

/- The lexer: New, All. -/
namespace Go.Proofs.YtfdpccbajaiepaaGreatDoor.Lx
open Go Go.RowKit Go.Proofs.YtfdpccbajaiepaaGreatDoor.Sx Go.Proofs.YtfdpccbajaiepaaGreatDoor.Sxp.Fx
set_option linter.unusedVariables false
set_option linter.unusedSimpArgs false
set_option maxRecDepth 10000
theorem ends_line {r : List UInt8} {u line col : Nat} {t : TokM} {u' line' col' : Nat} {w : Option Flt} (h : endsM r u line col = .tok t u' line' col' w) : line' ≤ line + 1 := by
  cases r with
  | nil =>
    simp only [endsM] at h
    split at h
    · cases h
    · injection h; omega
  | cons c r' =>
    simp only [endsM] at h
    injection h
    omega
theorem check_line {k : Nat} {tx : List UInt8} {u line col c2 : Nat} {t : TokM} {u' line' col' : Nat} {w : Option Flt} (h : checkM k tx u line col c2 = .tok t u' line' col' w) : line' ≤ line + 1 := by
  unfold checkM at h
  split at h
  · cases h
  · split at h
    · split at h
      · cases h
      · injection h; omega
    · injection h; omega
theorem read_line {r : List UInt8} {line col : Nat} {t : TokM} {u' line' col' : Nat} {w : Option Flt} (h : readM r line col = .tok t u' line' col' w) : line' ≤ line + 1 := by
  simp only [readM] at h
  split at h
  · exact ends_line h
  · split at h
    · exact ends_line h
    · split at h
      · exact ends_line h
      · split at h
        · cases h
        · exact check_line h
/-- What All gives at its end. -/
def FinK (R : Except Flt (List TokM)) (h0 : Hp) (told : List TokM) (K0 : Option Addr → Nat → Nat → Value → Hp → Prop) : Prop := match R with
  | .ok l => ∀ h' A' c', Ext h0 h' → RowC h' 52 TokM.enc 5 A' c' (told ++ l) → Fresh h0 A' → K0 A' (told ++ l).length c' .nilIface h'
  | .error e => ∀ h' g, Ext h0 h' → h0.size ≤ g → FltC h' g e → K0 none 0 0 (.iface 27 (.pointer (some ⟨g, 0, none⟩))) h'
theorem l1_fault {h0 h : Hp} {b : Nat} {x : Sn} {told : List TokM} (n : Nc h0 h b x told) (ht : told.length ≤ 1000000) {f : Flt} (hw : WAt h b x (some f)) {K0 : Option Addr → Nat → Nat → Value → Hp → Prop} {tl : List TokM} (HK : FinK (.error f) h0 tl K0) (k : Nat) {A : Option Addr} {l c : Nat} :
    lex_All_l1 (some ⟨b, 0, none⟩) K0 (k + 1) A l c h := by
  unfold lex_All_l1
  refine next_w n ht hw fun h3 g' e3 hg hf => ?_
  refine ⟨_, _, _, _, _, _, _, rfl, ?_⟩
  refine newV (us := tok0.enc) rfl rfl tokSz rfl fun h4 e4 c4 b4 z4 => ⟨_, neI1, br_t rfl (HK h4 g' (e3.trans e4) hg ?_)⟩
  unfold FltC
  rw [e4.old _ (lt_of_get hf)]
  exact hf
theorem l1_s (f : Nat) : ∀ {h0 h : Hp} {b : Nat} {x : Sn} {told : List TokM} {r : List UInt8} {line col : Nat} {A : Option Addr} {c : Nat} {R : Except Flt (List TokM)} {K0 : Option Addr → Nat → Nat → Value → Hp → Prop},
    lexL f r line col = some R → Nc h0 h b x told → x.w = none → LxS x r line col → line + f ≤ 200000 → told.length + f ≤ 200000 → RowC h 52 TokM.enc 5 A c told → Fresh h0 A → (∀ k, blk A k → ¬ Own b x k) →
    FinK R h0 told K0 → lex_All_l1 (some ⟨b, 0, none⟩) K0 (f + 1) A told.length c h := by
  induction f with
  | zero => intro h0 h b x told r line col A c R K0 hl; cases hl
  | succ f ih =>
    intro h0 h b x told r line col A c R K0 hl n hw s hln htl ra hF hO HK
    unfold lex_All_l1
    refine next_s n (by omega) hw s (by omega) ?_
    unfold lexL at hl
    cases hR : readM r line col with
    | stop =>
      rw [hR] at hl
      cases hl
      intro h3 E3 F3
      refine ⟨_, _, _, _, _, _, _, rfl, ?_⟩
      refine newV (us := tok0.enc) rfl rfl tokSz rfl fun h4 e4 c4 b4 z4 => ⟨_, neI0, br_f rfl (br_t rfl ?_)⟩
      have := HK h4 A c (E3.trans e4) (by rw [List.append_nil]; exact (ra.keep F3 hO).ext e4) hF
      rwa [List.append_nil] at this
    | bad e =>
      rw [hR] at hl
      cases hl
      intro h3 g' e3 hg hf
      refine ⟨_, _, _, _, _, _, _, rfl, ?_⟩
      refine newV (us := tok0.enc) rfl rfl tokSz rfl fun h4 e4 c4 b4 z4 => ⟨_, neI1, br_t rfl (HK h4 g' (e3.trans e4) hg ?_)⟩
      unfold FltC
      rw [e4.old _ (lt_of_get hf)]
      exact hf
    | tok t u line' col' w =>
      rw [hR] at hl
      have hli := read_line hR
      intro h3 x3 n3 s3 w3 F3 bl
      refine ⟨_, _, _, _, _, _, _, rfl, ?_⟩
      refine newV (us := t.enc) rfl rfl tokSz rfl fun h4 e4 c4 b4 z4 => ⟨_, neI0, br_f rfl (br_f rfl ?_)⟩
      refine ⟨_, _, _, _, _, ldS (vs := t.enc) c4 (by kernel_rfl), ?_⟩
      refine newC_i (cs := t.enc) fun h5 e5 c5 b5 z5 => ?_
      have E45 := e4.trans e5
      have r5 : RowC h5 52 TokM.enc 5 A c told := (ra.keep F3 hO).ext E45
      have r5x := n3.row.ext E45
      obtain ⟨i, z, hi, hsz, hb0, hb1, hz, hzl⟩ := tokInfo
      have hbnd : (2 * (told.length + 1) + 768) * i.bytes ≤ 2 ^ 48 := by
        have h1 := Nat.mul_le_mul_left (2 * (told.length + 1) + 768) hb1
        have h2 : (2 * (told.length + 1) + 768) * 1000 ≤ 2 ^ 48 := by
          have : (2 * (told.length + 1) + 768) ≤ 2000000770 := by omega
          exact Nat.le_trans (Nat.mul_le_mul_right 1000 this) (by decide)
        exact Nat.le_trans h1 h2
      refine HW_append1C (enc := TokM.enc) (sz := 5) (fun _ => rfl) (fun _ => rfl) undToks hi hz hzl hsz hb0 r5.row c5 hbnd fun h6 g c' r6 hg f6 hc => ⟨_, _, _, rfl, ?_⟩
      have hz3 := F3.size
      have gold : ∀ k, blk A k → k < h.size := ra.old
      have hd : ∀ k, blk A k → ¬ Own b x3 k := by
        intro k hk ho
        rcases ho with ho | ho
        · exact hO k hk (.inl ho)
        · rcases bl k ho with h1 | h1
          · exact hO k hk (.inr h1)
          · have := gold k hk; omega
      have E5 := (n3.e.trans E45)
      have q5 := n3.q.ext E45
      have n6 : Nc h0 h6 b x3 (told ++ [t]) := {
        e := extOwn E5 f6 hF
        q := f6.get q5 (fun hk => hd b hk (.inl rfl))
        nx := n3.nx
        l := n3.l
        row := r5x.keep f6 (fun k hk ha => hd k ha (.inr hk))
        fr := n3.fr
        nb := n3.nb
        hb := n3.hb }
      have r6' : RowC h6 52 TokM.enc 5 (some ⟨g, 0, none⟩) c' (told ++ [t]) := ⟨r6, hc.elim (fun e => e ▸ ra.cap) id⟩
      have gf : Fresh h0 (some (⟨g, 0, none⟩ : Addr)) := Fresh.some (by
        rcases hg with hg | hg
        · exact hF g hg
        · have := E5.size; omega)
      have gO : ∀ k, blk (some (⟨g, 0, none⟩ : Addr)) k → ¬ Own b x3 k := by
        rintro k ⟨a, ha, hk⟩ ho
        cases ha
        subst hk
        rcases hg with hg | hg
        · exact hd _ hg ho
        · have hg' : h5.size ≤ g := hg
          rcases ho with ho | ho
          · have h1 : g = b := ho
            have := lt_of_get q5
            omega
          · have := r5x.old _ ho
            have h2 : g < h5.size := this
            omega
      have len1 : told.length + 1 = (told ++ [t]).length := by simp
      rw [len1]
      cases w with
      | some fl =>
        cases hl
        refine l1_fault n6 (by simp; omega) (f := fl) ?_ HK f
        obtain ⟨gw, w1, w2, w4⟩ := w3
        refine ⟨gw, w1, w2, ?_⟩
        unfold FltC at w4 ⊢
        have hgl := lt_of_get w4
        have w5 : h5[gw]? = some (.cells fl.enc.toArray 34 (0, 0)) := by rw [E45.old _ hgl]; exact w4
        refine f6.get w5 fun hk => ?_
        rcases ra.row with ⟨ha, _⟩ | ⟨g2, rest, ha, hb2, _⟩
        · rw [ha] at hk; obtain ⟨q, hq, _⟩ := hk; cases hq
        · have r5r := r5.row
          rcases r5r with ⟨ha', _⟩ | ⟨g3, rest3, ha', hb3, _⟩
          · rw [ha'] at hk; obtain ⟨q, hq, _⟩ := hk; cases hq
          · rw [ha'] at hk
            obtain ⟨q, hq, hqb⟩ := hk
            cases hq
            have : g3 = gw := hqb
            subst this
            rw [hb3] at w5
            injection w5 with w5
            injection w5 with _ w5 _
            exact absurd w5 (by decide)
      | none =>
        have key : ∀ R', lexL f (r.drop u) line' col' = some R' → FinK R' h0 (told ++ [t]) K0 → lex_All_l1 (some ⟨b, 0, none⟩) K0 (f + 1) (some ⟨g, 0, none⟩) (told ++ [t]).length c' h6 := fun R' hl' HK' =>
          ih hl' n6 w3 s3 (by omega) (by simp; omega) r6' gf gO HK'
        cases hl2 : lexL f (r.drop u) line' col' with
        | none =>
          simp only [hl2] at hl
          cases hl
        | some R2 =>
          refine key R2 hl2 ?_
          cases R2 with
          | error e =>
            simp only [hl2] at hl
            cases hl
            exact HK
          | ok l =>
            simp only [hl2] at hl
            cases hl
            intro h' A' c2 E2 ra2 hF2
            have := HK h' A' c2 E2 (by simpa using ra2) hF2
            simpa using this
end Go.Proofs.YtfdpccbajaiepaaGreatDoor.Lx

/- The lexer: New, All, whole. -/
namespace Go.Proofs.YtfdpccbajaiepaaGreatDoor.Lx
open Go Go.RowKit Go.Proofs.YtfdpccbajaiepaaGreatDoor.Sx Go.Proofs.YtfdpccbajaiepaaGreatDoor.Sxp.Fx
set_option linter.unusedVariables false
set_option linter.unusedSimpArgs false
set_option maxRecDepth 10000
def firstW (s : List UInt8) : Option Flt := if s.length > 65536 then some ⟨2, 0, 0⟩ else if lineLen s > 200 then some ⟨93, 1, 1⟩ else none
theorem New_s {h : Hp} {s : List UInt8} {K : Value → Hp → Prop}
    (H : ∀ h' x, Nc h h' h.size x [] → WAt h' h.size x (firstW s) → x.A = none → (s.length ≤ 65536 → LxS x s 1 0) → K (.pointer (some ⟨h.size, 0, none⟩)) h') :
    CallsH Tryz.prog 39 #[.string (bs s)] h K := by
  refine lex_New_ok _ ?_
  unfold lex_New
  refine newC_i (cs := (⟨s, 0, 1, 0, none, 0, 0, 0, none⟩ : Sn).enc) fun h1 e1 c1 b1 z1 => ?_
  have q1 : SnAt h1 h.size ⟨s, 0, 1, 0, none, 0, 0, 0, none⟩ := b1
  have nc : ∀ (h' : Hp) (x : Sn), Ext h h' → SnAt h' h.size x → x.A = none → x.l = 0 → x.c = 0 → x.nx = 0 → Nc h h' h.size x [] := fun h' x e q a1 a2 a3 a4 =>
    { e := e, q := q, nx := by rw [a4]; rfl, l := by rw [a2]; rfl, row := by rw [a1, a3]; exact RowC.nil, fr := by rw [a1]; exact Fresh.none h, nb := (by rw [a1]; rintro ⟨a, ha, _⟩; cases ha), hb := Nat.le_refl _ }
  by_cases hl : s.length > 65536
  · refine br_t (by rw [bs_size]; simp; omega) ?_
    refine newC_i (cs := [.int .i64 2, .int .i64 0, .int .i64 0]) fun h2 e2 c2 b2 z2 => ?_
    have q2 := q1.ext e2
    refine SnAt.st (x' := ⟨s, 0, 1, 0, none, 0, 0, 0, some ⟨h1.size, 0, none⟩⟩) q2 6 rfl (by kernel_rfl) (by decide) rfl rfl fun h3 q3 f3 z3 => ?_
    refine H h3 ⟨s, 0, 1, 0, none, 0, 0, 0, some ⟨h1.size, 0, none⟩⟩ (nc _ _ (extOwn (e1.trans e2) f3 (fun k hk => by subst hk; exact Nat.le_refl _)) q3 rfl rfl rfl rfl) ?_ rfl (fun h0 => by omega)
    unfold firstW
    rw [if_pos hl]
    exact ⟨h1.size, rfl, by omega, f3.get b2 (by omega)⟩
  · have lx : LxS ⟨s, 0, 1, 0, none, 0, 0, 0, none⟩ s 1 0 := ⟨⟨[], by simp, by simp, by simp, by simp⟩, rfl, by show s.length ≤ 65536; omega, by omega⟩
    refine br_f (by rw [bs_size]; simp; omega) ?_
    refine measure_s q1 lx fun h2 x2 q2 f2 z2 hif => ⟨rfl, ?_⟩
    have E2 : Ext h h2 := extOwn e1 f2 (fun k hk => by subst hk; exact Nat.le_refl _)
    by_cases hll : lineLen s > 200
    · rw [if_pos hll] at hif
      obtain ⟨g, rfl, hgb, hg, hf⟩ := hif
      refine H h2 _ (nc _ _ E2 q2 rfl rfl rfl rfl) ?_ rfl (fun _ => lx.of rfl rfl rfl rfl)
      unfold firstW
      rw [if_neg hl, if_pos hll]
      exact ⟨g, rfl, hgb, hf⟩
    · rw [if_neg hll] at hif
      subst hif
      refine H h2 _ (nc _ _ E2 q2 rfl rfl rfl rfl) ?_ rfl (fun _ => lx)
      unfold firstW
      rw [if_neg hl, if_neg hll]
      exact rfl
/-- All tells lexM. -/
theorem All_s {h : Hp} {s : List UInt8} {R : Except Flt (List TokM)} (hR : lexM s = some R) {K : Value → Hp → Prop}
    (H : FinK R h [] (fun A l c v h' => K (.tuple #[.slice A l c, v]) h')) : CallsH Tryz.prog 14 #[.string (bs s)] h K := by
  refine lex_All_ok _ ?_
  unfold lex_All
  refine New_s fun h1 x n w hA lx => ⟨_, rfl, ?_⟩
  unfold lexM at hR
  by_cases hl : s.length > 65536
  · rw [if_pos hl] at hR
    cases hR
    unfold firstW at w
    rw [if_pos hl] at w
    exact ⟨1, l1_fault n (by decide) w H 0⟩
  · rw [if_neg hl] at hR
    unfold firstW at w
    rw [if_neg hl] at w
    by_cases hll : lineLen s > 200
    · rw [if_pos hll] at hR w
      cases hR
      exact ⟨1, l1_fault n (by decide) w H 0⟩
    · rw [if_neg hll] at hR w
      exact ⟨_, l1_s _ hR n w (lx (by omega)) (by omega) (by simp; omega) RowC.nil (Fresh.none h) (fun k hk _ => (by obtain ⟨a, ha, _⟩ := hk; cases ha)) H⟩
end Go.Proofs.YtfdpccbajaiepaaGreatDoor.Lx
