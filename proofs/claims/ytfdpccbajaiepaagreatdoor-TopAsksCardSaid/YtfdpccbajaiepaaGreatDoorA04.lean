/- Texts laid together: SxOwn, SxRow, SxPart, SxStr, LxModel, FxL, LxSpec1, PrSpec1, LxTotal, LxDec. -/
import Derived.Test.YtfdpccbajaiepaaGreatDoorA03
import Derived.Lib.UnsafeStr
import Derived.Laws.BytesArg
import Derived.Test.YtfdpccbajaiepaaGreatDoorA01
import Derived.Test.YtfdpccbajaiepaaGreatDoorA02
import Derived.Test.YtfdpccbajaiepaaGreatDoorProg
import Derived.Laws.Strings
import Derived.Lib.LaidTab
import Derived.Lib.ItoaNum
/- Laws of memory over the heap alone: rows of the call's own, written, appended to, copied. -/
namespace Go.Proofs.YtfdpccbajaiepaaGreatDoor.Sx
open Go Go.RowKit
set_option linter.unusedVariables false
set_option linter.unusedSimpArgs false
/-- What changes lies in S. -/
structure Fr (S : Nat → Prop) (h h' : Hp) : Prop where
  size : h.size ≤ h'.size
  keep : ∀ k, k < h.size → ¬ S k → h'[k]? = h[k]?
theorem Ext.fr {h h' : Hp} (e : Ext h h') (S : Nat → Prop) : Fr S h h' := ⟨e.size, fun k hk _ => e.old k hk⟩
theorem Fr.refl (S : Nat → Prop) (h : Hp) : Fr S h h := (Ext.refl h).fr S
theorem Fr.mono {S S' : Nat → Prop} {h h' : Hp} (f : Fr S h h') (hs : ∀ k, S k → S' k) : Fr S' h h' := ⟨f.size, fun k hk hn => f.keep k hk (fun hS => hn (hs k hS))⟩
theorem Fr.trans {S : Nat → Prop} {a b c : Hp} (f : Fr S a b) (g : Fr S b c) : Fr S a c := ⟨Nat.le_trans f.size g.size, fun k hk hn => (g.keep k (Nat.lt_of_lt_of_le hk f.size) hn).trans (f.keep k hk hn)⟩
/-- Blocks made on the way may change later. -/
theorem Fr.then_ {S S' : Nat → Prop} {a b c : Hp} (f : Fr S a b) (g : Fr S' b c) (hs : ∀ k, S' k → S k ∨ a.size ≤ k) : Fr S a c :=
  ⟨Nat.le_trans f.size g.size, fun k hk hn => (g.keep k (Nat.lt_of_lt_of_le hk f.size) (fun h => by rcases hs k h with h | h; exact hn h; omega)).trans (f.keep k hk hn)⟩
theorem Fr.get {S : Nat → Prop} {h h' : Hp} (f : Fr S h h') {b : Nat} {o : Obj} (hb : h[b]? = some o) (hn : ¬ S b) : h'[b]? = some o := (f.keep b (lt_of_get hb) hn).trans hb
theorem Fr.cl {S : Nat → Prop} {h h' : Hp} (f : Fr S h h') {a : Addr} {vs : List Value} (c : Cl h a vs) (hn : ¬ S a.block) : Cl h' a vs :=
  ⟨c.spot, fun j v hj => by
    have := c.at_ j v hj
    rw [cell_same]
    · exact this
    · have hb : (a.add j).block = a.block := by rw [add_off c.spot]
      rw [hb]
      have := cell_lt this
      rw [hb] at this
      exact f.keep _ this hn⟩
def setB (h : Hp) (b : Nat) (cs : List Value) (T : TypeId) : Hp := h.setIfInBounds b (.cells cs.toArray T (0, 0))
theorem setB_get {h : Hp} {b : Nat} {cs : List Value} {T : TypeId} (hb : b < h.size) : (setB h b cs T)[b]? = some (.cells cs.toArray T (0, 0)) := by simp [setB, hb]
theorem setB_ne {h : Hp} {b k : Nat} {cs : List Value} {T : TypeId} (hk : k ≠ b) : (setB h b cs T)[k]? = h[k]? := by
  unfold setB; rw [Array.getElem?_setIfInBounds_ne (Ne.symm hk)]
theorem setB_size {h : Hp} {b : Nat} {cs : List Value} {T : TypeId} : (setB h b cs T).size = h.size := by simp [setB]
theorem setB_fr {h : Hp} {b : Nat} {cs : List Value} {T : TypeId} {S : Nat → Prop} (hS : S b) : Fr S h (setB h b cs T) :=
  ⟨by rw [setB_size]; exact Nat.le_refl _, fun k hk hn => setB_ne (fun e => hn (e ▸ hS))⟩
theorem setB_setB {h : Hp} {b : Nat} {cs cs' : List Value} {T : TypeId} : setB (setB h b cs T) b cs' T = setB h b cs' T := by simp [setB]
theorem setB_self {h : Hp} {b : Nat} {cs : List Value} {T : TypeId} (hb : h[b]? = some (.cells cs.toArray T (0, 0))) : setB h b cs T = h := by
  unfold setB
  apply Array.ext_getElem?
  intro i
  by_cases hi : b = i
  · subst hi
    rw [hb, Array.getElem?_setIfInBounds_self_of_lt (lt_of_get hb)]
  · rw [Array.getElem?_setIfInBounds_ne hi]
theorem setCell_heap {h : Hp} {b o : Nat} {cs : List Value} {T : TypeId} {v : Value} (hb : h[b]? = some (.cells cs.toArray T (0, 0))) : ((W h).setCell ⟨b, o, none⟩ v).heap = setB h b (cs.set o v) T := by
  unfold World.setCell setB W
  simp only
  apply Array.ext_getElem?
  intro i
  rw [Array.getElem?_modify]
  by_cases hi : b = i
  · subst hi
    rw [if_pos rfl, hb, Array.getElem?_setIfInBounds_self_of_lt (lt_of_get hb)]
    simp
  · rw [if_neg hi, Array.getElem?_setIfInBounds_ne hi]
theorem frozen_false {h : Hp} {b o : Nat} {cs : List Value} {T : TypeId} (hb : h[b]? = some (.cells cs.toArray T (0, 0))) : (W h).frozen? ⟨b, o, none⟩ = false := by
  show (match h[b]? with | some (.cells _ _ (lo, hi)) => decide (lo ≤ o) && decide (o < hi) | _ => false) = false
  rw [hb]; simp
section
variable (P : Program)
theorem wp_bind {α β : Type} {s : Sem α} {f : α → Sem β} {h : Hp} {K : β → Hp → Prop} (hh : semWp P s h (fun a h' => semWp P (f a) h' K)) : semWp P (s >>= f) h K := semWp_bind P s f h K hh
theorem wp_underlying {t : TypeId} {d : TypeDesc} {h : Hp} {K : TypeDesc → Hp → Prop} (hu : P.underlying t = some d) (hk : K d h) : semWp P (underlying t) h K := by
  unfold underlying
  refine wp_bind P ?_
  show semWp P (match P.underlying t with | some d => pure d | none => stuck "no such type") h K
  rw [hu]; exact hk
theorem wp_info {t : TypeId} {i : TypeInfo} {h : Hp} {K : TypeInfo → Hp → Prop} (hi : P.info? t = some i) (hk : K i h) : semWp P (typeInfo t) h K := by
  unfold typeInfo
  refine wp_bind P ?_
  show semWp P (match P.info? t with | some i => pure i | none => stuck "no such type") h K
  rw [hi]; exact hk
theorem wp_size {t : TypeId} {i : TypeInfo} {h : Hp} {K : Nat → Hp → Prop} (hi : P.info? t = some i) (hk : K i.size h) : semWp P (sizeOf t) h K := by
  unfold sizeOf
  exact wp_bind P (wp_info P hi hk)
theorem wp_zero {t : TypeId} {i : TypeInfo} {z : Value} {h : Hp} {K : Value → Hp → Prop} (hi : P.info? t = some i) (hz : i.zero = some z) (hk : K z h) : semWp P (zeroValue t) h K := by
  unfold zeroValue
  refine wp_bind P (wp_info P hi ?_)
  rw [hz]; exact hk
theorem wp_loadCells {a : Addr} {us : List Value} {h : Hp} {K : Array Value → Hp → Prop} (hc : Cl h a us) (hk : K us.toArray h) : semWp P (loadCells a us.length) h K := by
  have key : ∀ (n i : Nat) (acc : Array Value), n + i = us.length → acc.toList = us.take i → semWp P (loadCellsFrom a i n acc) h K := by
    intro n
    induction n with
    | zero =>
      intro i acc hn hacc
      have : acc = us.toArray := by apply Array.ext'; rw [hacc, List.take_of_length_le (by omega)]
      rw [loadCellsFrom, this]; exact hk
    | succ n ih =>
      intro i acc hn hacc
      have hlt : i < us.length := by omega
      have hi : us[i]? = some us[i] := List.getElem?_eq_getElem hlt
      rw [loadCellsFrom]
      refine wp_bind P ⟨us[i], hc.at_ i _ hi, ?_⟩
      refine ih (i + 1) _ (by omega) ?_
      rw [Array.toList_push, hacc, List.take_succ_eq_append_getElem hlt]
  exact key us.length 0 #[] (by omega) (by simp)
theorem wp_storeCells {b o : Nat} {T : TypeId} {K : Unit → Hp → Prop} : ∀ (us : List Value) (i : Nat) (cs : List Value) (h : Hp), h[b]? = some (.cells cs.toArray T (0, 0)) → o + i + us.length ≤ cs.length → (∀ u ∈ us, flatV u = true) →
    K () (setB h b (cs.take (o + i) ++ us ++ cs.drop (o + i + us.length)) T) → semWp P (storeCells ⟨b, o, none⟩ us i) h K
  | [], i, cs, h, hb, hl, hf, hk => by
    rw [storeCells]
    simp only [List.append_nil, List.length_nil, Nat.add_zero, List.take_append_drop] at hk
    rw [setB_self hb] at hk
    exact hk
  | u :: us, i, cs, h, hb, hl, hf, hk => by
    rw [storeCells]
    have hlt : o + i < cs.length := by simp at hl; omega
    have hadd : (⟨b, o, none⟩ : Addr).add i = ⟨b, o + i, none⟩ := add_off rfl i
    refine wp_bind P ?_
    rw [hadd]
    refine ⟨hf u (List.mem_cons_self ..), ⟨cs[o + i], ?_⟩, frozen_false hb, ?_⟩
    · show cell h _ = _
      rw [cell_of hb, List.getElem?_eq_getElem hlt]
    · rw [setCell_heap hb]
      have hb2 : (setB h b (cs.set (o + i) u) T)[b]? = some (.cells (cs.set (o + i) u).toArray T (0, 0)) := setB_get (lt_of_get hb)
      refine wp_storeCells us (i + 1) (cs.set (o + i) u) _ hb2 (by simp at hl ⊢; omega) (fun x hx => hf x (List.mem_cons_of_mem _ hx)) ?_
      rw [setB_setB]
      have e : (cs.set (o + i) u).take (o + (i + 1)) ++ us ++ (cs.set (o + i) u).drop (o + (i + 1) + us.length) = cs.take (o + i) ++ (u :: us) ++ cs.drop (o + i + (u :: us).length) := by
        have h1 : (cs.set (o + i) u).take (o + (i + 1)) = cs.take (o + i) ++ [u] := by
          rw [← Nat.add_assoc, List.take_succ_eq_append_getElem (by simpa using hlt)]
          simp [List.take_set_of_le]
        have h2 : (cs.set (o + i) u).drop (o + (i + 1) + us.length) = cs.drop (o + i + (u :: us).length) := by
          rw [List.drop_set_of_lt (by omega)]
          congr 1
          simp; omega
        rw [h1, h2]; simp
      rw [e]; exact hk
end
/-- A store into a block that is known whole. -/
theorem HU_st {P : Program} {t : TypeId} {b o : Nat} {T : TypeId} {cs us : List Value} {v : Value} {h : Hp} {K : Hp → Prop} (hb : h[b]? = some (.cells cs.toArray T (0, 0))) (hv : v.cells = us.toArray) (hsz : (P.info? t).map (·.size) = some us.length)
    (hl : o + us.length ≤ cs.length) (hf : us.all flatV = true) (hk : K (setB h b (cs.take o ++ us ++ cs.drop (o + us.length)) T)) : HU P (Instr.storeAt t (.pointer (some ⟨b, o, none⟩)) v) h K := by
  unfold HU Instr.storeAt Instr.sureAddr
  refine wp_bind P ?_
  unfold storeVar
  cases hi : P.info? t with
  | none => rw [hi] at hsz; cases hsz
  | some i =>
    rw [hi] at hsz
    simp only [Option.map_some, Option.some.injEq] at hsz
    refine wp_bind P (wp_size P hi ?_)
    have : ¬ (v.cells.size ≠ i.size) := by rw [hv, hsz]; simp
    rw [if_neg this]
    rw [hv]
    refine wp_storeCells P us 0 cs h hb (by omega) (fun u hu => List.all_eq_true.1 hf u hu) ?_
    simpa using hk
/-- A row of the call's own: nil, or the head of a block. -/
def OSl (h : Hp) (E sz : Nat) (A : Option Addr) (n c : Nat) (cs : List Value) : Prop :=
  (A = none ∧ n = 0 ∧ c = 0 ∧ cs = []) ∨ ∃ g rest, A = some ⟨g, 0, none⟩ ∧ h[g]? = some (.cells (cs ++ rest).toArray E (0, 0)) ∧ cs.length = n * sz ∧ (cs ++ rest).length = c * sz ∧ n ≤ c
def blk (A : Option Addr) (k : Nat) : Prop := ∃ a, A = some a ∧ a.block = k
theorem OSl.read {h : Hp} {E sz : Nat} {A : Option Addr} {n c : Nat} {cs : List Value} (r : OSl h E sz A n c cs) : RSl h A n sz cs := by
  rcases r with ⟨rfl, rfl, rfl, rfl⟩ | ⟨g, rest, rfl, hb, h1, h2, h3⟩
  · exact ⟨by simp, .inl rfl⟩
  · refine ⟨h1, .inr ⟨_, rfl, Cl.of_block hb fun j v hj => ?_⟩⟩
    rw [Nat.zero_add, List.getElem?_append_left (List.getElem?_eq_some_iff.1 hj).1]; exact hj
theorem OSl.keep {h h' : Hp} {E sz : Nat} {A : Option Addr} {n c : Nat} {cs : List Value} {S : Nat → Prop} (r : OSl h E sz A n c cs) (f : Fr S h h') (hn : ∀ k, blk A k → ¬ S k) : OSl h' E sz A n c cs := by
  rcases r with r | ⟨g, rest, rfl, hb, h1, h2, h3⟩
  · exact .inl r
  · exact .inr ⟨g, rest, rfl, f.get hb (hn g ⟨_, rfl, rfl⟩), h1, h2, h3⟩
theorem OSl.blk_lt {h : Hp} {E sz : Nat} {A : Option Addr} {n c : Nat} {cs : List Value} (r : OSl h E sz A n c cs) {k : Nat} (hk : blk A k) : k < h.size := by
  rcases r with ⟨rfl, _⟩ | ⟨g, rest, rfl, hb, _⟩
  · obtain ⟨a, ha, _⟩ := hk; cases ha
  · obtain ⟨a, ha, rfl⟩ := hk
    injection ha with ha
    subst ha
    exact lt_of_get hb
/-! ### append -/
def zcells (zero : List Value) (n : Nat) : List Value := (Builtin.zeroCells zero.toArray n).toList
theorem zcells_len (zero : List Value) (n : Nat) : (zcells zero n).length = n * zero.length := by simp [zcells, Builtin.zeroCells]
theorem growBy_le (need : Nat) : ∀ (r c : Nat), c < need → Builtin.growBy need r c ≤ 2 * need + 768
  | 0, c, h => by simp [Builtin.growBy]; omega
  | r + 1, c, h => by
    rw [Builtin.growBy]
    split
    · omega
    · by_cases h2 : c + (c + 768) / 4 < need
      · exact growBy_le need r _ h2
      · have : ∀ r', Builtin.growBy need r' (c + (c + 768) / 4) = c + (c + 768) / 4 := by
          intro r'
          cases r' with
          | zero => rfl
          | succ r' => rw [Builtin.growBy, if_pos (by omega)]
        rw [this]; omega
theorem nextcap_le {need cap : Nat} (h : cap < need) : Builtin.nextslicecap need cap ≤ 2 * need + 768 := by
  unfold Builtin.nextslicecap
  split
  · omega
  · split
    · omega
    · exact growBy_le need 4 cap h
theorem wp_askRoom {P : Program} {n : Nat} {h : Hp} {K : Unit → Hp → Prop} (hk : K () h) : semWp P (askRoom n) h K := by
  unfold askRoom
  split
  · exact hk
  · exact hk
theorem add_eq0 (g : Nat) (n : Nat) : (⟨g, 0, none⟩ : Addr).add n = ⟨g, n, none⟩ := by rw [add_off rfl]; simp
theorem wp_firstCells {P : Program} {A : Option Addr} {n c sz : Nat} {cs : List Value} {h : Hp} {K : Array Value → Hp → Prop} (r : RSl h A n sz cs) (hk : K cs.toArray h) : semWp P (Builtin.firstCells sz n (.slice A n c)) h K := by
  obtain ⟨hl, r⟩ := r
  cases A with
  | none =>
    rcases r with r | ⟨a, ha, _⟩
    · subst r
      have : cs = [] := List.eq_nil_of_length_eq_zero (by rw [hl]; simp)
      subst this
      exact hk
    · cases ha
  | some a =>
    show semWp P (loadCells a (n * sz)) h K
    rcases r with r | ⟨a', ha, c⟩
    · subst r
      have : cs = [] := List.eq_nil_of_length_eq_zero (by rw [hl]; simp)
      subst this
      rw [Nat.zero_mul]
      exact hk
    · rw [← hl]
      injection ha with ha; subst ha; exact wp_loadCells P c hk
theorem semWp_bind_eq (P : Program) {α β : Type} (s : Sem α) (f : α → Sem β) : ∀ (h : Hp) (K : β → Hp → Prop), semWp P (s >>= f) h K = semWp P s h (fun a h' => semWp P (f a) h' K) := by
  show ∀ (h : Hp) (K : β → Hp → Prop), semWp P (Sem.bind s f) h K = _
  induction s with
  | pure a => intro h K; rfl
  | load m a k ih => intro h K; simp only [Sem.bind, semWp, ih]
  | store m a v k ih => intro h K; simp only [Sem.bind, semWp, ih]
  | new o k ih => intro h K; simp only [Sem.bind, semWp, ih]
  | shape r k ih => intro h K; simp only [Sem.bind, semWp, ih]
  | freeze a n k ih => intro h K; simp only [Sem.bind, semWp, ih]
  | frozen a k ih => intro h K; simp only [Sem.bind, semWp, ih]
  | getObj r k ih => intro h K; simp only [Sem.bind, semWp, ih]
  | setObj r o k ih => intro h K; simp only [Sem.bind, semWp, ih]
  | choose q k ih => intro h K; simp only [Sem.bind, semWp, ih]
  | sys c k ih => intro h K; rfl
  | program k ih => intro h K; simp only [Sem.bind, semWp, ih]
  | mark m k ih => intro h K; simp only [Sem.bind, semWp, ih]
  | halt x => intro h K; rfl
theorem semWp_pure_eq (P : Program) {α : Type} (a : α) (h : Hp) (K : α → Hp → Prop) : semWp P (pure a : Sem α) h K = K a h := rfl
theorem underlying_eq {P : Program} {t : TypeId} {d : TypeDesc} (hu : P.underlying t = some d) (h : Hp) (K : TypeDesc → Hp → Prop) : semWp P (underlying t) h K = K d h := by
  unfold underlying
  rw [semWp_bind_eq]
  show semWp P (match P.underlying t with | some d => pure d | none => stuck "no such type") h K = _
  rw [hu]; rfl
theorem info_eq {P : Program} {t : TypeId} {i : TypeInfo} (hi : P.info? t = some i) (h : Hp) (K : TypeInfo → Hp → Prop) : semWp P (typeInfo t) h K = K i h := by
  unfold typeInfo
  rw [semWp_bind_eq]
  show semWp P (match P.info? t with | some i => pure i | none => stuck "no such type") h K = _
  rw [hi]; rfl
theorem size_eq {P : Program} {t : TypeId} {i : TypeInfo} (hi : P.info? t = some i) (h : Hp) (K : Nat → Hp → Prop) : semWp P (sizeOf t) h K = K i.size h := by
  unfold sizeOf
  rw [semWp_bind_eq, info_eq hi]; rfl
theorem zero_eq {P : Program} {t : TypeId} {i : TypeInfo} {z : Value} (hi : P.info? t = some i) (hz : i.zero = some z) (h : Hp) (K : Value → Hp → Prop) : semWp P (zeroValue t) h K = K z h := by
  unfold zeroValue
  rw [semWp_bind_eq, info_eq hi, hz]; rfl
theorem askRoom_eq {P : Program} {n : Nat} (h : Hp) (K : Unit → Hp → Prop) : semWp P (askRoom n) h K = K () h := by
  unfold askRoom
  split <;> rfl
theorem semWp_map_eq (P : Program) {α β : Type} (f : α → β) (s : Sem α) (h : Hp) (K : β → Hp → Prop) : semWp P (f <$> s) h K = semWp P s h (fun a h' => K (f a) h') := by
  show semWp P (s >>= fun a => pure (f a)) h K = _
  rw [semWp_bind_eq]; rfl
/-- append(s, x...), s a row of the call's own, x a slice that is read. -/
theorem HW_appendC {P : Program} {T E : TypeId} {i : TypeInfo} {z : Value} {h : Hp} {A : Option Addr} {n c m cx : Nat} {ax : Addr} {cs ns : List Value} {K : Value → Hp → Prop}
    (hu : P.underlying T = some (.slice E)) (hi : P.info? E = some i) (hz : i.zero = some z) (hzl : z.cells.size = i.size) (hb0 : 0 < i.bytes)
    (r : OSl h E i.size A n c cs) (hx : Cl h ax ns) (hm : ns.length = m * i.size) (hm0 : 0 < m) (hf : ns.all flatV = true) (hbound : (2 * (n + m) + 768) * i.bytes ≤ 2 ^ 48)
    (H : ∀ h' A' c', OSl h' E i.size A' (n + m) c' (cs ++ ns) → (A' = A ∨ ∀ k, blk A' k → h.size ≤ k) → A'.isSome = true → Fr (blk A) h h' → (c' = c ∨ c' < 2 ^ 63) → K (.slice A' (n + m) c') h') :
    HW P (Builtin.append_ #[T, T] T #[.slice A n c, .slice (some ax) m cx]) h K := by
  unfold HW
  have hub : n + m < 2 ^ 62 := by
    have : (2 * (n + m) + 768) * 1 ≤ (2 * (n + m) + 768) * i.bytes := Nat.mul_le_mul_left _ hb0
    omega
  simp [Builtin.append_, semWp_bind_eq, underlying_eq hu, size_eq hi, Builtin.lenOf, semWp_pure_eq]
  have hrx : RSl h (some ax) m i.size ns := ⟨hm, .inr ⟨ax, rfl, hx⟩⟩
  by_cases hroom : n + m ≤ c
  · rw [if_pos hroom, semWp_bind_eq]
    refine wp_firstCells hrx ?_
    rcases r with ⟨rfl, rfl, rfl, rfl⟩ | ⟨g, rest, rfl, hb, h1, h2, h3⟩
    · omega
    · simp only [semWp_map_eq]
      rw [add_eq0]
      have hlen : n * i.size + ns.length ≤ (cs ++ rest).length := by
        rw [h2, hm, ← Nat.add_mul]; exact Nat.mul_le_mul_right _ hroom
      refine wp_storeCells P ns 0 (cs ++ rest) h hb (by simpa using hlen) (fun u hu => List.all_eq_true.1 hf u hu) ?_
      have e : (cs ++ rest).take (n * i.size + 0) ++ ns ++ (cs ++ rest).drop (n * i.size + 0 + ns.length) = (cs ++ ns) ++ rest.drop ns.length := by
        rw [Nat.add_zero, ← h1, List.take_left, List.drop_append, List.drop_of_length_le (by omega)]
        simp
      rw [e]
      refine H _ _ c (.inr ⟨g, rest.drop ns.length, rfl, setB_get (lt_of_get hb), ?_, ?_, hroom⟩) (.inl rfl) rfl (setB_fr ⟨_, rfl, rfl⟩) (.inl rfl)
      · rw [List.length_append, h1, hm, Nat.add_mul]
      · simp only [List.length_append, List.length_drop] at h2 hlen ⊢
        omega
  · rw [if_neg hroom]
    have hne : ¬ (i.bytes = 0) := by omega
    have hcap := nextcap_le (need := n + m) (cap := c) (by omega)
    have hok : ¬ (281474976710656 < Builtin.nextslicecap (n + m) c * i.bytes) := by
      have := Nat.mul_le_mul_right i.bytes hcap
      omega
    simp only [semWp_bind_eq, info_eq hi, hne, and_false, if_false, hok]
    refine ⟨fun hq => by simp [Question.forced] at hq, fun _ t => ?_⟩
    show semWp P (pure _ : Sem Nat) h _
    rw [semWp_pure_eq]
    have hcapn : n + m ≤ Question.cut (.appendCap (n + m) c E) t := by simp [Question.cut]
    have hcapu : Question.cut (.appendCap (n + m) c E) t < 2 ^ 63 := by
      simp only [Question.cut]
      have := Nat.mod_lt t (show 0 < 2 ^ 63 - (n + m) by omega)
      omega
    revert hcapu
    generalize Question.cut (.appendCap (n + m) c E) t = nc at hcapn
    intro hcapu
    simp only [askRoom_eq]
    refine wp_firstCells r.read ?_
    refine wp_firstCells hrx ?_
    simp only [zero_eq hi hz, semWp_map_eq]
    show K (.slice (some ⟨h.size, 0, none⟩) (n + m) nc) (h.push _)
    have hzc : (cs.toArray ++ (ns.toArray ++ Builtin.zeroCells z.cells (nc - (n + m)))) = ((cs ++ ns) ++ zcells z.cells.toList (nc - (n + m))).toArray := by
      apply Array.ext'
      simp [zcells]
    rw [hzc]
    refine H _ _ nc (.inr ⟨h.size, zcells z.cells.toList (nc - (n + m)), rfl, by simp, ?_, ?_, hcapn⟩) (.inr ?_) rfl ((Ext.push h _).fr _) (.inr hcapu)
    · rw [List.length_append, r.read.1, hm, Nat.add_mul]
    · rw [List.length_append, List.length_append, r.read.1, hm, zcells_len, ← Nat.add_mul]
      have : z.cells.toList.length = i.size := by simpa using hzl
      rw [this, ← Nat.add_mul]
      congr 1
      omega
    · rintro k ⟨a, ha, rfl⟩
      injection ha with ha
      subst ha
      exact Nat.le_refl _
theorem HW_append {P : Program} {T E : TypeId} {i : TypeInfo} {z : Value} {h : Hp} {A : Option Addr} {n c m cx : Nat} {ax : Addr} {cs ns : List Value} {K : Value → Hp → Prop}
    (hu : P.underlying T = some (.slice E)) (hi : P.info? E = some i) (hz : i.zero = some z) (hzl : z.cells.size = i.size) (hb0 : 0 < i.bytes)
    (r : OSl h E i.size A n c cs) (hx : Cl h ax ns) (hm : ns.length = m * i.size) (hm0 : 0 < m) (hf : ns.all flatV = true) (hbound : (2 * (n + m) + 768) * i.bytes ≤ 2 ^ 48)
    (H : ∀ h' A' c', OSl h' E i.size A' (n + m) c' (cs ++ ns) → (A' = A ∨ ∀ k, blk A' k → h.size ≤ k) → A'.isSome = true → Fr (blk A) h h' → K (.slice A' (n + m) c') h') :
    HW P (Builtin.append_ #[T, T] T #[.slice A n c, .slice (some ax) m cx]) h K := HW_appendC hu hi hz hzl hb0 r hx hm hm0 hf hbound fun h' A' c' a b d e _ => H h' A' c' a b d e
/-! ### Cuts -/
theorem slLo {P : Program} {T E : TypeId} {i : TypeInfo} {A : Option Addr} {l c : Nat} {x : Int} (hu : P.underlying T = some (.slice E)) (hi : P.info? E = some i) (h0 : 0 ≤ x) (h1 : x ≤ l) :
    PV P (Instr.sliceAt T (.slice A l c) (some (.int .i64 x)) none none) (.slice (if c = x.toNat then A else A.map (·.add (x.toNat * i.size))) (l - x.toNat) (c - x.toNat)) := by
  intro w
  simp [Instr.sliceAt, Instr.slice, run_underlying hu, Instr.sliceBounds, Instr.sliceBound, asIntOf, h0, h1, sizeOf, typeInfo, hi]
theorem slHi {P : Program} {T E : TypeId} {i : TypeInfo} {A : Option Addr} {l c : Nat} {x : Int} (hu : P.underlying T = some (.slice E)) (hi : P.info? E = some i) (h0 : 0 ≤ x) (h1 : x ≤ c) :
    PV P (Instr.sliceAt T (.slice A l c) none (some (.int .i64 x)) none) (.slice A x.toNat c) := by
  intro w
  simp [Instr.sliceAt, Instr.slice, run_underlying hu, Instr.sliceBounds, Instr.sliceBound, asIntOf, h0, h1, sizeOf, typeInfo, hi, add_zero]
/-! ### copy -/
theorem HW_copy0 {P : Program} {T E ty : TypeId} {i : TypeInfo} {h : Hp} {dA sA : Option Addr} {dn dc sn sc : Nat} {K : Value → Hp → Prop}
    (hu : P.underlying T = some (.slice E)) (hi : P.info? E = some i) (hn : Nat.min sn dn = 0) (H : K (.int .i64 0) h) :
    HW P (Builtin.copy_ #[T, T] ty #[.slice dA dn dc, .slice sA sn sc]) h K := by
  unfold HW
  simp [Builtin.copy_, semWp_bind_eq, underlying_eq hu, size_eq hi, Builtin.lenOf, semWp_pure_eq, hn]
  have hf : ∀ (K : Array Value → Hp → Prop), K #[] h → semWp P (Builtin.firstCells i.size 0 (.slice sA sn sc)) h K := by
    intro K hk
    cases sA with
    | none => exact hk
    | some a => show semWp P (loadCells a (0 * i.size)) h K; rw [Nat.zero_mul]; exact hk
  refine hf _ ?_
  cases dA with
  | none => exact H
  | some a => simp only [semWp_map_eq]; exact H
theorem HW_copy {P : Program} {T E ty : TypeId} {i : TypeInfo} {h : Hp} {g o dn dc sn sc : Nat} {sa : Addr} {cs us : List Value} {K : Value → Hp → Prop}
    (hu : P.underlying T = some (.slice E)) (hi : P.info? E = some i) (hb : h[g]? = some (.cells cs.toArray E (0, 0))) (hc : Cl h sa us) (hl : us.length = Nat.min sn dn * i.size) (ho : o + us.length ≤ cs.length) (hf : us.all flatV = true)
    (H : K (.int .i64 (Nat.min sn dn : Nat)) (setB h g (cs.take o ++ us ++ cs.drop (o + us.length)) E)) :
    HW P (Builtin.copy_ #[T, T] ty #[.slice (some ⟨g, o, none⟩) dn dc, .slice (some sa) sn sc]) h K := by
  unfold HW
  simp [Builtin.copy_, semWp_bind_eq, underlying_eq hu, size_eq hi, Builtin.lenOf, semWp_pure_eq]
  show semWp P (loadCells sa (Nat.min sn dn * i.size)) h _
  rw [← hl]
  refine wp_loadCells P hc ?_
  simp only [semWp_map_eq]
  refine wp_storeCells P us 0 cs h hb (by omega) (fun u hu => List.all_eq_true.1 hf u hu) ?_
  simpa [goInt] using H
/-! ### make -/
theorem zcells_eq (z : List Value) (k : Nat) (hz : 0 < z.length) : zcells z k = (List.replicate k z).flatten := by
  apply List.ext_getElem?
  intro j
  by_cases hj : j < k * z.length
  · have h1 : (zcells z k)[j]? = z[j % z.length]? := by
      have hlt := Nat.mod_lt j hz
      simp [zcells, Builtin.zeroCells, hj, hlt]
    rw [h1]
    clear h1
    induction k generalizing j with
    | zero => simp at hj
    | succ k ih =>
      rw [List.replicate_succ, List.flatten_cons]
      by_cases hlt : j < z.length
      · rw [List.getElem?_append_left hlt, Nat.mod_eq_of_lt hlt]
      · rw [List.getElem?_append_right (by omega), ← ih (j - z.length) (by rw [Nat.add_mul] at hj; omega)]
        rw [← Nat.mod_eq_sub_mod (by omega)]
  · rw [List.getElem?_eq_none (by rw [zcells_len]; omega), List.getElem?_eq_none (by simp; omega)]
theorem HW_make {P : Program} {T E : TypeId} {i : TypeInfo} {z : Value} {h : Hp} {n c : Int} {K : Value → Hp → Prop}
    (hu : P.underlying T = some (.slice E)) (hi : P.info? E = some i) (hz : i.zero = some z) (hzl : z.cells.size = i.size) (hz0 : 0 < i.size) (h0 : 0 ≤ n) (h1 : n ≤ c) (hb : i.bytes * c ≤ 2 ^ 48) (hc : c < 2 ^ 62)
    (H : ∀ h', h' = h.push (.cells (List.replicate c.toNat z.cells.toList).flatten.toArray E (0, 0)) → OSl h' E i.size (some ⟨h.size, 0, none⟩) n.toNat c.toNat ((List.replicate n.toNat z.cells.toList).flatten) → K (.slice (some ⟨h.size, 0, none⟩) n.toNat c.toNat) h') :
    HW P (Instr.makeSlice T (.int .i64 n) (.int .i64 c)) h K := by
  unfold HW
  have w1 : IntKind.i64.wrap n = n := wrap_in (by omega) (by omega)
  have w2 : IntKind.i64.wrap c = c := wrap_in (by omega) (by omega)
  have hb' : ¬ ((i.bytes : Int) * c > 281474976710656) := by omega
  have hno : ((decide (c < 0) || decide ((i.bytes : Int) * c > 2 ^ 48)) || decide (n < 0) || decide (n > c)) = false := by
    simp; omega
  simp only [Instr.makeSlice, semWp_bind_eq, underlying_eq hu, info_eq hi, size_eq hi, asInt, asIntOf, semWp_pure_eq, w1, w2]
  rw [if_neg (by simp at hno ⊢; omega)]
  simp only [semWp_bind_eq, askRoom_eq, size_eq hi]
  have hzl' : z.cells.toList.length = i.size := by simpa using hzl
  have hcells : ∀ (zc : Array Value), (c.toNat * i.size = 0 ∧ zc = #[]) ∨ (c.toNat * i.size ≠ 0 ∧ zc = z.cells) → (Array.range (c.toNat * i.size)).map (fun j => zc[j % zc.size]!) = (List.replicate c.toNat z.cells.toList).flatten.toArray := by
    intro zc hzc
    rw [← zcells_eq _ _ (by omega)]
    rcases hzc with ⟨h2, rfl⟩ | ⟨h2, rfl⟩
    · apply Array.ext'
      simp [zcells, Builtin.zeroCells, h2]
      rw [hzl]; exact h2
    · apply Array.ext'
      simp [zcells, Builtin.zeroCells, hzl]
  have fin : ∀ zc : Array Value, ((c.toNat * i.size = 0 ∧ zc = #[]) ∨ (c.toNat * i.size ≠ 0 ∧ zc = z.cells)) → K (.slice (some ⟨h.size, 0, none⟩) n.toNat c.toNat) (h.push (.cells ((Array.range (c.toNat * i.size)).map (fun j => zc[j % zc.size]!)) E)) := by
    intro zc hzc
    rw [hcells zc hzc]
    refine H _ rfl (.inr ⟨h.size, (List.replicate (c.toNat - n.toNat) z.cells.toList).flatten, rfl, ?_, ?_, ?_, by omega⟩)
    · rw [← List.flatten_append, List.replicate_append_replicate]
      have : n.toNat + (c.toNat - n.toNat) = c.toNat := by omega
      rw [this]; simp
    · simp [hzl]
    · rw [← List.flatten_append, List.replicate_append_replicate]
      have : n.toNat + (c.toNat - n.toNat) = c.toNat := by omega
      rw [this]; simp [hzl]
  split
  · rename_i h2
    exact fin #[] (.inl ⟨h2, rfl⟩)
  · rename_i h2
    simp only [semWp_bind_eq, zero_eq hi hz, semWp_pure_eq]
    exact fin z.cells (.inr ⟨h2, rfl⟩)
end Go.Proofs.YtfdpccbajaiepaaGreatDoor.Sx

/- Laws of memory over the heap alone: rows of elements, each of several cells. -/
namespace Go.Proofs.YtfdpccbajaiepaaGreatDoor.Sx
open Go Go.RowKit
set_option linter.unusedVariables false
set_option linter.unusedSimpArgs false
section
variable {α : Type} {enc : α → List Value} {sz : Nat}
theorem flat_take (he : ∀ x, (enc x).length = sz) : ∀ (xs : List α) (n : Nat), (xs.flatMap enc).take (n * sz) = (xs.take n).flatMap enc
  | xs, 0 => by simp
  | [], n + 1 => by simp
  | x :: xs, n + 1 => by
    rw [List.flatMap_cons, List.take_succ_cons, List.flatMap_cons, ← flat_take he xs n, Nat.add_mul, Nat.one_mul, Nat.add_comm, ← he x, List.take_append]
    rw [List.take_of_length_le (by omega), Nat.add_sub_cancel_left]
theorem flat_drop (he : ∀ x, (enc x).length = sz) : ∀ (xs : List α) (n : Nat), (xs.flatMap enc).drop (n * sz) = (xs.drop n).flatMap enc
  | xs, 0 => by simp
  | [], n + 1 => by simp
  | x :: xs, n + 1 => by
    rw [List.flatMap_cons, List.drop_succ_cons, ← flat_drop he xs n, Nat.add_mul, Nat.one_mul, Nat.add_comm, ← he x, List.drop_append]
    simp
/-- A row of elements of the call's own. -/
def Row (h : Hp) (E : Nat) (enc : α → List Value) (sz : Nat) (A : Option Addr) (c : Nat) (xs : List α) : Prop := OSl h E sz A xs.length c (xs.flatMap enc)
theorem Row.read {h : Hp} {E : Nat} {A : Option Addr} {c : Nat} {xs : List α} (r : Row h E enc sz A c xs) : RSl h A xs.length sz (xs.flatMap enc) := OSl.read r
theorem Row.keep {h h' : Hp} {E : Nat} {A : Option Addr} {c : Nat} {xs : List α} {S : Nat → Prop} (r : Row h E enc sz A c xs) (f : Fr S h h') (hn : ∀ k, blk A k → ¬ S k) : Row h' E enc sz A c xs := OSl.keep r f hn
theorem Row.open (he : ∀ x, (enc x).length = sz) {h : Hp} {E : Nat} {A : Option Addr} {c : Nat} {xs : List α} (r : Row h E enc sz A c xs) (h0 : 0 < xs.length) :
    ∃ g rest, A = some ⟨g, 0, none⟩ ∧ h[g]? = some (.cells (xs.flatMap enc ++ rest).toArray E (0, 0)) ∧ (xs.flatMap enc ++ rest).length = c * sz ∧ xs.length ≤ c := by
  rcases r with ⟨_, h1, _⟩ | ⟨g, rest, hA, hb, _, h2, h3⟩
  · omega
  · exact ⟨g, rest, hA, hb, h2, h3⟩
theorem Row.shut (he : ∀ x, (enc x).length = sz) {h : Hp} {E g c : Nat} {xs : List α} {rest : List Value} (hb : h[g]? = some (.cells (xs.flatMap enc ++ rest).toArray E (0, 0))) (hl : (xs.flatMap enc ++ rest).length = c * sz) (hc : xs.length ≤ c) : Row h E enc sz (some ⟨g, 0, none⟩) c xs :=
  .inr ⟨g, rest, rfl, hb, flat_len he xs, hl, hc⟩
/-- An element is stored. -/
theorem HU_elem {P : Program} {t : TypeId} (he : ∀ x, (enc x).length = sz) (hf : ∀ x, (enc x).all flatV = true) {h : Hp} {E g c : Nat} {xs : List α} {j : Nat} {x : α} {v : Value} {K : Hp → Prop} (r : Row h E enc sz (some ⟨g, 0, none⟩) c xs) (hj : j < xs.length)
    (hv : v.cells = (enc x).toArray) (hsz : (P.info? t).map (·.size) = some sz)
    (H : ∀ h', Row h' E enc sz (some ⟨g, 0, none⟩) c (xs.set j x) → Fr (fun k => k = g) h h' → h'.size = h.size → K h') : HU P (Instr.storeAt t (.pointer (some ⟨g, j * sz, none⟩)) v) h K := by
  obtain ⟨g', rest, hA, hb, hl, hc⟩ := r.open he (by omega)
  injection hA with hA
  injection hA with hA _ _
  subst hA
  have hx := he x
  have hlen := flat_len he xs
  have hmul : (j + 1) * sz ≤ xs.length * sz := Nat.mul_le_mul_right _ (by omega)
  have hmul2 : (j + 1) * sz = j * sz + sz := by rw [Nat.add_mul, Nat.one_mul]
  refine HU_st (us := enc x) hb hv (by rw [hx]; exact hsz) (by rw [List.length_append, hlen, hx]; omega) (hf x) ?_
  have e : (xs.flatMap enc ++ rest).take (j * sz) ++ enc x ++ (xs.flatMap enc ++ rest).drop (j * sz + (enc x).length) = (xs.set j x).flatMap enc ++ rest := by
    rw [List.take_append_of_le_length (by rw [hlen]; omega), flat_take he, hx, ← hmul2, List.drop_append_of_le_length (by rw [hlen]; omega), flat_drop he]
    rw [List.set_eq_take_append_cons_drop, if_pos hj]
    simp
  rw [e]
  refine H _ (Row.shut he (setB_get (lt_of_get hb)) ?_ (by simpa using hc)) (setB_fr rfl) setB_size
  rw [← hl, List.length_append, List.length_append, flat_len he, flat_len he, List.length_set]
/-- Elements go over within a row. -/
theorem HW_copyIn {P : Program} {T E ty : TypeId} {inf : TypeInfo} (he : ∀ x, (enc x).length = sz) (hf : ∀ x, (enc x).all flatV = true) {h : Hp} {A : Option Addr} {c : Nat} {xs : List α} {i j m dc sc : Nat} {dA sA : Option Addr} {K : Value → Hp → Prop}
    (hu : P.underlying T = some (.slice E)) (hi : P.info? E = some inf) (hsz : inf.size = sz) (r : Row h E enc sz A c xs) (hm : Nat.min (xs.length - j) (xs.length - i) = m) (hij : i ≤ xs.length) (hjj : j ≤ xs.length)
    (hd : 0 < m → dA = A.map (·.add (i * sz))) (hs : 0 < m → sA = A.map (·.add (j * sz)))
    (H : ∀ h', Row h' E enc sz A c (xs.take i ++ (xs.drop j).take m ++ xs.drop (i + m)) → Fr (blk A) h h' → h'.size = h.size → K (.int .i64 m) h') :
    HW P (Builtin.copy_ #[T, T] ty #[.slice dA (xs.length - i) dc, .slice sA (xs.length - j) sc]) h K := by
  rcases Nat.eq_zero_or_pos m with hm0 | hm0
  · subst hm0
    refine HW_copy0 hu hi hm ?_
    have := H h (by simpa using r) (Fr.refl _ _) rfl
    simpa using this
  · have hmi : i + m ≤ xs.length := by
      have : m ≤ xs.length - i := by rw [← hm]; exact Nat.min_le_right _ _
      omega
    have hmj : j + m ≤ xs.length := by
      have : m ≤ xs.length - j := by rw [← hm]; exact Nat.min_le_left _ _
      omega
    obtain ⟨g, rest, rfl, hb, hl, hc⟩ := r.open he (by omega)
    rw [hd hm0, hs hm0]
    simp only [Option.map_some, add_eq0]
    have hlen := flat_len he xs
    have m1 : (i + m) * sz = i * sz + m * sz := Nat.add_mul _ _ _
    have m2 : (j + m) * sz = j * sz + m * sz := Nat.add_mul _ _ _
    have m3 : (i + m) * sz ≤ xs.length * sz := Nat.mul_le_mul_right _ hmi
    have m4 : (j + m) * sz ≤ xs.length * sz := Nat.mul_le_mul_right _ hmj
    have hus : (((xs.drop j).take m).flatMap enc).length = m * sz := by rw [flat_len he]; congr 1; simp; omega
    have hcl : Cl h ⟨g, j * sz, none⟩ (((xs.drop j).take m).flatMap enc) := by
      refine Cl.of_block hb fun q v hq => ?_
      have hql := (List.getElem?_eq_some_iff.1 hq).1
      rw [hus] at hql
      rw [List.getElem?_append_left (by rw [hlen]; omega), ← List.getElem?_drop, flat_drop he]
      rw [← flat_take he, List.getElem?_take] at hq
      rw [if_pos hql] at hq
      exact hq
    have hfl : (((xs.drop j).take m).flatMap enc).all flatV = true := by
      rw [List.all_eq_true]
      intro u hu
      obtain ⟨y, _, hy⟩ := List.mem_flatMap.1 hu
      exact List.all_eq_true.1 (hf y) u hy
    refine HW_copy hu hi hb hcl (by rw [hus, hm, hsz]) (by rw [hus, List.length_append, hlen]; omega) hfl ?_
    rw [hm, hus]
    have e : (xs.flatMap enc ++ rest).take (i * sz) ++ ((xs.drop j).take m).flatMap enc ++ (xs.flatMap enc ++ rest).drop (i * sz + m * sz) = (xs.take i ++ (xs.drop j).take m ++ xs.drop (i + m)).flatMap enc ++ rest := by
      rw [List.take_append_of_le_length (by rw [hlen]; omega), flat_take he, ← m1, List.drop_append_of_le_length (by rw [hlen]; omega), flat_drop he]
      simp
    rw [e]
    have hlen2 : (xs.take i ++ (xs.drop j).take m ++ xs.drop (i + m)).length = xs.length := by simp; omega
    refine H _ (Row.shut he (setB_get (lt_of_get hb)) ?_ (by rw [hlen2]; exact hc)) (setB_fr ⟨_, rfl, rfl⟩) setB_size
    rw [← hl, List.length_append, List.length_append, flat_len he, flat_len he, hlen2]
/-- One element more. -/
theorem HW_append1C {P : Program} {T E : TypeId} {i : TypeInfo} {z : Value} (he : ∀ x, (enc x).length = sz) (hf : ∀ x, (enc x).all flatV = true) {h : Hp} {A : Option Addr} {c cx : Nat} {ax : Addr} {xs : List α} {x : α} {K : Value → Hp → Prop}
    (hu : P.underlying T = some (.slice E)) (hi : P.info? E = some i) (hz : i.zero = some z) (hzl : z.cells.size = sz) (hsz : i.size = sz) (hb0 : 0 < i.bytes)
    (r : Row h E enc sz A c xs) (hx : Cl h ax (enc x)) (hbound : (2 * (xs.length + 1) + 768) * i.bytes ≤ 2 ^ 48)
    (H : ∀ h' g c', Row h' E enc sz (some ⟨g, 0, none⟩) c' (xs ++ [x]) → (blk A g ∨ h.size ≤ g) → Fr (blk A) h h' → (c' = c ∨ c' < 2 ^ 63) → K (.slice (some ⟨g, 0, none⟩) (xs.length + 1) c') h') :
    HW P (Builtin.append_ #[T, T] T #[.slice A xs.length c, .slice (some ax) 1 cx]) h K := by
  refine HW_appendC hu hi hz (by rw [hzl, hsz]) hb0 (by rw [hsz]; exact r) hx (by rw [he, hsz]; simp) (by omega) (hf x) hbound ?_
  intro h' A' c' hO hA' hsome hfr hcc
  rw [hsz] at hO
  have hO' := hO
  rcases hO' with ⟨h1, _⟩ | ⟨g, rest, rfl, _⟩
  · rw [h1] at hsome; cases hsome
  · refine H h' g c' (by unfold Row; simpa using hO) ?_ hfr hcc
    rcases hA' with h1 | h1
    · exact .inl ⟨_, h1.symm, rfl⟩
    · exact .inr (h1 g ⟨_, rfl, rfl⟩)
theorem HW_append1 {P : Program} {T E : TypeId} {i : TypeInfo} {z : Value} (he : ∀ x, (enc x).length = sz) (hf : ∀ x, (enc x).all flatV = true) {h : Hp} {A : Option Addr} {c cx : Nat} {ax : Addr} {xs : List α} {x : α} {K : Value → Hp → Prop}
    (hu : P.underlying T = some (.slice E)) (hi : P.info? E = some i) (hz : i.zero = some z) (hzl : z.cells.size = sz) (hsz : i.size = sz) (hb0 : 0 < i.bytes)
    (r : Row h E enc sz A c xs) (hx : Cl h ax (enc x)) (hbound : (2 * (xs.length + 1) + 768) * i.bytes ≤ 2 ^ 48)
    (H : ∀ h' g c', Row h' E enc sz (some ⟨g, 0, none⟩) c' (xs ++ [x]) → (blk A g ∨ h.size ≤ g) → Fr (blk A) h h' → K (.slice (some ⟨g, 0, none⟩) (xs.length + 1) c') h') :
    HW P (Builtin.append_ #[T, T] T #[.slice A xs.length c, .slice (some ax) 1 cx]) h K :=
  HW_append1C he hf hu hi hz hzl hsz hb0 r hx hbound fun h' g c' a b d _ => H h' g c' a b d
/-- A row is made. -/
theorem HW_makeRow {P : Program} {T E : TypeId} {i : TypeInfo} {z : Value} {h : Hp} {n : Nat} {zr : α} {K : Value → Hp → Prop}
    (hu : P.underlying T = some (.slice E)) (hi : P.info? E = some i) (hz : i.zero = some z) (hsz : i.size = sz) (hz0 : 0 < sz) (hzl : z.cells = (enc zr).toArray) (he : ∀ x, (enc x).length = sz) (hb : i.bytes * (n : Int) ≤ 2 ^ 48) (hn : n < 2 ^ 62)
    (H : ∀ h', Ext h h' → Row h' E enc sz (some ⟨h.size, 0, none⟩) n (List.replicate n zr) → K (.slice (some ⟨h.size, 0, none⟩) n n) h') :
    HW P (Instr.makeSlice T (.int .i64 (n : Int)) (.int .i64 (n : Int))) h K := by
  refine HW_make (n := (n : Int)) (c := (n : Int)) hu hi hz (by rw [hzl, hsz]; simp [he]) (by omega) (by omega) (by omega) hb (by omega) ?_
  intro h' he' hO
  simp only [Int.toNat_natCast] at hO ⊢
  refine H h' (he' ▸ Ext.push _ _) ?_
  unfold Row
  rw [List.length_replicate]
  have : (List.replicate n zr).flatMap enc = (List.replicate n z.cells.toList).flatten := by
    rw [List.flatMap_def, List.map_replicate, hzl]
  rw [this, ← hsz]
  exact hO
/-- A whole row is filled out of a slice of the same length. -/
theorem HW_copyFrom {P : Program} {T E ty : TypeId} {i : TypeInfo} {h : Hp} {A sA : Option Addr} {c sc : Nat} {zs xs : List α} {K : Value → Hp → Prop} (he : ∀ x, (enc x).length = sz) (hf : ∀ x, (enc x).all flatV = true)
    (hu : P.underlying T = some (.slice E)) (hi : P.info? E = some i) (hsz : i.size = sz) (r : Row h E enc sz A c zs) (hl : zs.length = xs.length) (rs : RSl h sA xs.length sz (xs.flatMap enc))
    (H : ∀ h', Row h' E enc sz A c xs → Fr (blk A) h h' → h'.size = h.size → K (.int .i64 (xs.length : Int)) h') :
    HW P (Builtin.copy_ #[T, T] ty #[.slice A zs.length c, .slice sA xs.length sc]) h K := by
  rcases Nat.eq_zero_or_pos xs.length with h0 | h0
  · refine HW_copy0 hu hi (by rw [h0]; simp) ?_
    have hx : xs = [] := List.eq_nil_of_length_eq_zero h0
    have hzz : zs = [] := List.eq_nil_of_length_eq_zero (by omega)
    subst hx hzz
    exact H h r (Fr.refl _ _) rfl
  · obtain ⟨g, rest, rfl, hb, hlen, hc⟩ := r.open he (by omega)
    obtain ⟨sa, rfl, hcl⟩ := rs.some h0
    have hus := flat_len he xs
    have huz := flat_len he zs
    have hmin : Nat.min xs.length zs.length = xs.length := by rw [hl]; simp
    refine HW_copy hu hi hb hcl (by rw [hus, hmin, hsz]) (by rw [hus, List.length_append, huz, hl]; omega) ?_ ?_
    · rw [List.all_eq_true]
      intro u hu
      obtain ⟨y, _, hy⟩ := List.mem_flatMap.1 hu
      exact List.all_eq_true.1 (hf y) u hy
    · rw [hmin, hus]
      have e : (zs.flatMap enc ++ rest).take 0 ++ xs.flatMap enc ++ (zs.flatMap enc ++ rest).drop (0 + xs.length * sz) = xs.flatMap enc ++ rest := by
        rw [Nat.zero_add, ← hl, ← huz, List.drop_left]; simp
      rw [e]
      refine H _ (Row.shut he (setB_get (lt_of_get hb)) ?_ (by omega)) (setB_fr ⟨_, rfl, rfl⟩) setB_size
      rw [← hlen, List.length_append, List.length_append, hus, huz, hl]
end
/-- A box is stored whole. -/
theorem HU_box {P : Program} {t : TypeId} {b : Nat} {T : TypeId} {cs us : List Value} {v : Value} {h : Hp} {K : Hp → Prop} (hb : h[b]? = some (.cells cs.toArray T (0, 0))) (hv : v.cells = us.toArray) (hl : cs.length = us.length) (hsz : (P.info? t).map (·.size) = some us.length) (hf : us.all flatV = true)
    (H : ∀ h', Cl h' ⟨b, 0, none⟩ us → h'[b]? = some (.cells us.toArray T (0, 0)) → Fr (fun k => k = b) h h' → h'.size = h.size → K h') : HU P (Instr.storeAt t (.pointer (some ⟨b, 0, none⟩)) v) h K := by
  refine HU_st (us := us) hb hv hsz (by omega) hf ?_
  have e : cs.take 0 ++ us ++ cs.drop (0 + us.length) = us := by rw [List.drop_of_length_le (by omega)]; simp
  rw [e]
  have h1 : (setB h b us T)[b]? = some (.cells us.toArray T (0, 0)) := setB_get (lt_of_get hb)
  exact H _ (Cl.of_block h1 fun j v hj => by rw [Nat.zero_add]; exact hj) h1 (setB_fr rfl) setB_size
/-- A new box, stored at once. -/
theorem newV {P : Program} {t : TypeId} {T : TypeId} {cs us : List Value} {v : Value} {h : Hp} {K : Addr → Hp → Prop} (hv : v.cells = us.toArray) (hl : cs.length = us.length) (hsz : (P.info? t).map (·.size) = some us.length) (hf : us.all flatV = true)
    (H : ∀ h', Ext h h' → Cl h' ⟨h.size, 0, none⟩ us → h'[h.size]? = some (.cells us.toArray T (0, 0)) → h'.size = h.size + 1 → K ⟨h.size, 0, none⟩ h') :
    newC h (.cells cs.toArray T (0, 0)) fun a h1 => HU P (Instr.storeAt t (.pointer (some a)) v) h1 fun h2 => K a h2 := by
  refine newC_i fun h1 e1 c1 b1 z1 => HU_box b1 hv hl hsz hf fun h2 c2 b2 f2 z2 => H h2 ⟨?_, fun k hk => ?_⟩ c2 b2 (by omega)
  · have := e1.size; omega
  · rw [f2.keep k (by omega) (by omega), e1.old k hk]
end Go.Proofs.YtfdpccbajaiepaaGreatDoor.Sx

/- Rows: a part of an element is stored; elements are read. -/
namespace Go.Proofs.YtfdpccbajaiepaaGreatDoor.Sx
open Go Go.RowKit
set_option linter.unusedVariables false
set_option linter.unusedSimpArgs false
set_option maxRecDepth 10000
theorem extOwn {h h1 h2 : Hp} {S : Nat → Prop} (e : Ext h h1) (f : Fr S h1 h2) (hS : ∀ k, S k → h.size ≤ k) : Ext h h2 :=
  ⟨Nat.le_trans e.size f.size, fun k hk => (f.keep k (Nat.lt_of_lt_of_le hk e.size) (fun hs => by have := hS k hs; omega)).trans (e.old k hk)⟩
def Fresh (h : Hp) (A : Option Addr) : Prop := ∀ k, blk A k → h.size ≤ k
theorem Fresh.none (h : Hp) : Fresh h none := by rintro k ⟨a, ha, _⟩; cases ha
theorem Fresh.some {h : Hp} {g o : Nat} {s : Option Nat} (hg : h.size ≤ g) : Fresh h (some ⟨g, o, s⟩) := by rintro k ⟨a, ha, hk⟩; cases ha; subst hk; exact hg
theorem Fresh.sub {h h1 : Hp} {A : Option Addr} (e : Ext h h1) (f : Fresh h1 A) : Fresh h A := fun k hk => Nat.le_trans e.size (f k hk)
theorem Ext.f0 {h h1 : Hp} (e : Ext h h1) : Fr (fun _ => False) h h1 := e.fr _
section
variable {α : Type} {enc : α → List Value} {sz : Nat}
theorem Row.ext {h h' : Hp} {E : Nat} {A : Option Addr} {c : Nat} {xs : List α} (r : Row h E enc sz A c xs) (e : Ext h h') : Row h' E enc sz A c xs := r.keep e.f0 (fun _ _ h => h)
theorem HU_part {P : Program} {t : TypeId} (he : ∀ x, (enc x).length = sz) {h : Hp} {E g c : Nat} {xs : List α} {j : Nat} {x x' : α} {v : Value} {us : List Value} {o : Nat} {K : Hp → Prop} (r : Row h E enc sz (some ⟨g, 0, none⟩) c xs) (hx : xs[j]? = some x)
    (hv : v.cells = us.toArray) (hsz : (P.info? t).map (·.size) = some us.length) (hf : us.all flatV = true) (ho : o + us.length ≤ sz) (hx' : enc x' = (enc x).take o ++ us ++ (enc x).drop (o + us.length))
    (H : ∀ h', Row h' E enc sz (some ⟨g, 0, none⟩) c (xs.set j x') → Fr (fun k => k = g) h h' → h'.size = h.size → K h') : HU P (Instr.storeAt t (.pointer (some ⟨g, j * sz + o, none⟩)) v) h K := by
  obtain ⟨hlt, hget⟩ := List.getElem?_eq_some_iff.1 hx
  obtain ⟨g', rest, hA, hb, hl, hcl⟩ := r.open he (by omega)
  injection hA with hA
  injection hA with hA _ _
  subst hA
  have hX : ((xs.take j).flatMap enc).length = j * sz := by rw [flat_len he]; simp; congr 1; omega
  have hs1 : xs.flatMap enc = (xs.take j).flatMap enc ++ (enc x ++ (xs.drop (j + 1)).flatMap enc) := by
    have : xs = xs.take j ++ x :: xs.drop (j + 1) := by rw [← hget, ← List.drop_eq_getElem_cons hlt, List.take_append_drop]
    conv => lhs; rw [this]
    simp
  have hs2 : xs.flatMap enc ++ rest = (xs.take j).flatMap enc ++ (enc x ++ ((xs.drop (j + 1)).flatMap enc ++ rest)) := by rw [hs1]; simp only [List.append_assoc]
  refine HU_st (us := us) hb hv hsz ?_ hf ?_
  · rw [hs2, List.length_append, List.length_append, hX, he]
    omega
  · have e : (xs.flatMap enc ++ rest).take (j * sz + o) ++ us ++ (xs.flatMap enc ++ rest).drop (j * sz + o + us.length) = (xs.set j x').flatMap enc ++ rest := by
      rw [List.set_eq_take_append_cons_drop, if_pos hlt, hs2]
      have d0 : ((xs.take j).flatMap enc).drop (j * sz + o + us.length) = [] := List.drop_of_length_le (by rw [hX]; omega)
      have d1 : ((xs.take j).flatMap enc).take (j * sz + o) = (xs.take j).flatMap enc := List.take_of_length_le (by rw [hX]; omega)
      rw [List.take_append, List.drop_append, hX, d0, d1, show j * sz + o - j * sz = o by omega, show j * sz + o + us.length - j * sz = o + us.length by omega]
      rw [List.take_append_of_le_length (by rw [he]; omega), List.drop_append_of_le_length (by rw [he]; omega)]
      simp [hx']
    rw [e]
    refine H _ (Row.shut he (setB_get (lt_of_get hb)) ?_ (by simpa using hcl)) (setB_fr rfl) setB_size
    rw [← hl, List.length_append, List.length_append, flat_len he, flat_len he, List.length_set]
theorem Row.blk0 (he : ∀ x, (enc x).length = sz) {h : Hp} {E : Nat} {A : Option Addr} {c : Nat} {xs : List α} (r : Row h E enc sz A c xs) (h0 : 0 < xs.length) : ∃ g, A = some ⟨g, 0, none⟩ := by
  obtain ⟨g, rest, hA, _⟩ := r.open he h0
  exact ⟨g, hA⟩
theorem Row.elem0 (he : ∀ x, (enc x).length = sz) {h : Hp} {E g c : Nat} {xs : List α} (r : Row h E enc sz (some ⟨g, 0, none⟩) c xs) {i : Nat} {x : α} (hi : xs[i]? = some x) : Cl h ⟨g, i * sz, none⟩ (enc x) := by
  have := r.read.elem he hi rfl
  rw [add_eq0] at this
  exact this
theorem ix0 {P : Program} {T E : TypeId} {g l c : Nat} {k : IntKind} {i : Nat} (h1 : i < l) (hu : P.underlying T = some (.slice E)) (hs : (P.info? E).map (·.size) = some sz) : PV P (Instr.indexAt T (.slice (some ⟨g, 0, none⟩) l c) (.int k (i : Int))) (.pointer (some ⟨g, i * sz, none⟩)) := by
  have := ix (P := P) (T := T) (E := E) (a := ⟨g, 0, none⟩) (l := l) (c := c) (sz := sz) (k := k) (i := (i : Int)) (by omega) (by omega) hu hs
  rw [Int.toNat_natCast, add_eq0] at this
  exact this
theorem ixR {P : Program} {T E : TypeId} (he : ∀ x, (enc x).length = sz) {h : Hp} {A : Option Addr} {l c : Nat} {k : IntKind} {xs : List α} (r : RSl h A l sz (xs.flatMap enc)) (hl : xs.length = l) (hu : P.underlying T = some (.slice E)) (hs : (P.info? E).map (·.size) = some sz) {i : Nat} {x : α} (hi : xs[i]? = some x) :
    ∃ a : Addr, a.spot = none ∧ (∃ b, A = some b ∧ a.block = b.block) ∧ PV P (Instr.indexAt T (.slice A l c) (.int k (i : Int))) (.pointer (some a)) ∧ Cl h a (enc x) := by
  have hlt := (List.getElem?_eq_some_iff.1 hi).1
  obtain ⟨a, rfl, hcl⟩ := r.some (by omega)
  have := ix (P := P) (T := T) (E := E) (a := a) (l := l) (c := c) (sz := sz) (k := k) (i := (i : Int)) (by omega) (by omega) hu hs
  rw [Int.toNat_natCast] at this
  exact ⟨a.add (i * sz), by rw [add_off hcl.spot], ⟨a, rfl, by rw [add_off hcl.spot]⟩, this, r.elem he hi hl⟩
/-- A row is made and filled out of a slice that is read. -/
theorem HW_copyFrom' {P : Program} {T E ty : TypeId} {i : TypeInfo} {h : Hp} {A sA : Option Addr} {c sc n : Nat} {zs xs : List α} {K : Value → Hp → Prop} (he : ∀ x, (enc x).length = sz) (hf : ∀ x, (enc x).all flatV = true)
    (hu : P.underlying T = some (.slice E)) (hi : P.info? E = some i) (hsz : i.size = sz) (r : Row h E enc sz A c zs) (hn : zs.length = n) (hl : xs.length = n) (rs : RSl h sA xs.length sz (xs.flatMap enc))
    (H : ∀ h', Row h' E enc sz A c xs → Fr (blk A) h h' → h'.size = h.size → K (.int .i64 (xs.length : Int)) h') :
    HW P (Builtin.copy_ #[T, T] ty #[.slice A n c, .slice sA xs.length sc]) h K := by
  subst hn
  exact HW_copyFrom he hf hu hi hsz r hl.symm rs H
/-! ### Rows whose room is a number of the machine's -/
structure RowC (h : Hp) (E : Nat) (enc : α → List Value) (sz : Nat) (A : Option Addr) (c : Nat) (xs : List α) : Prop where
  row : Row h E enc sz A c xs
  cap : c < 2 ^ 63
theorem RowC.nil {h : Hp} {E : Nat} : RowC h E enc sz none 0 [] := ⟨.inl ⟨rfl, rfl, rfl, rfl⟩, by decide⟩
theorem RowC.keep {h h' : Hp} {E : Nat} {A : Option Addr} {c : Nat} {xs : List α} {S : Nat → Prop} (r : RowC h E enc sz A c xs) (f : Fr S h h') (hn : ∀ k, blk A k → ¬ S k) : RowC h' E enc sz A c xs := ⟨r.row.keep f hn, r.cap⟩
theorem RowC.ext {h h' : Hp} {E : Nat} {A : Option Addr} {c : Nat} {xs : List α} (r : RowC h E enc sz A c xs) (e : Ext h h') : RowC h' E enc sz A c xs := ⟨r.row.ext e, r.cap⟩
theorem RowC.read {h : Hp} {E : Nat} {A : Option Addr} {c : Nat} {xs : List α} (r : RowC h E enc sz A c xs) : RSl h A xs.length sz (xs.flatMap enc) := r.row.read
theorem RowC.blk0 (he : ∀ x, (enc x).length = sz) {h : Hp} {E : Nat} {A : Option Addr} {c : Nat} {xs : List α} (r : RowC h E enc sz A c xs) (h0 : 0 < xs.length) : ∃ g, A = some ⟨g, 0, none⟩ := r.row.blk0 he h0
theorem RowC.elem0 (he : ∀ x, (enc x).length = sz) {h : Hp} {E g c : Nat} {xs : List α} (r : RowC h E enc sz (some ⟨g, 0, none⟩) c xs) {i : Nat} {x : α} (hi : xs[i]? = some x) : Cl h ⟨g, i * sz, none⟩ (enc x) := r.row.elem0 he hi
/-- A row's block is there. -/
theorem RowC.old {h : Hp} {E : Nat} {A : Option Addr} {c : Nat} {xs : List α} (r : RowC h E enc sz A c xs) : ∀ k, blk A k → k < h.size := by
  intro k hk
  rcases r.row with ⟨ha, _⟩ | ⟨g, rest, ha, hb, _⟩
  · rw [ha] at hk; obtain ⟨q, hq, _⟩ := hk; cases hq
  · rw [ha] at hk
    obtain ⟨q, hq, rfl⟩ := hk
    cases hq
    exact lt_of_get hb
/-- One element more, of a fresh row. -/
theorem appF {P : Program} {T E : TypeId} {i : TypeInfo} {z : Value} (he : ∀ x, (enc x).length = sz) (hf : ∀ x, (enc x).all flatV = true) {h0 h : Hp} {A : Option Addr} {c cx : Nat} {ax : Addr} {xs : List α} {x : α} {K : Value → Hp → Prop}
    (hu : P.underlying T = some (.slice E)) (hi : P.info? E = some i) (hz : i.zero = some z) (hzl : z.cells.size = sz) (hsz : i.size = sz) (hb0 : 0 < i.bytes) (hb1 : i.bytes ≤ 1000)
    (e : Ext h0 h) (r : RowC h E enc sz A c xs) (hF : Fresh h0 A) (hx : Cl h ax (enc x)) (hl : xs.length ≤ 1000000000)
    (H : ∀ h' A' c', Ext h0 h' → RowC h' E enc sz A' c' (xs ++ [x]) → Fresh h0 A' → Fr (blk A) h h' → K (.slice A' (xs ++ [x]).length c') h') :
    HW P (Builtin.append_ #[T, T] T #[.slice A xs.length c, .slice (some ax) 1 cx]) h K := by
  have hb : (2 * (xs.length + 1) + 768) * i.bytes ≤ 2 ^ 48 := by
    have h1 := Nat.mul_le_mul_left (2 * (xs.length + 1) + 768) hb1
    have h2 : (2 * (xs.length + 1) + 768) * 1000 ≤ 2 ^ 48 := by
      have : (2 * (xs.length + 1) + 768) ≤ 2000000770 := by omega
      exact Nat.le_trans (Nat.mul_le_mul_right 1000 this) (by decide)
    exact Nat.le_trans h1 h2
  refine HW_append1C he hf hu hi hz hzl hsz hb0 r.row hx hb fun h' g c' r' hg f hc => ?_
  have := H h' (some ⟨g, 0, none⟩) c' (extOwn e f hF) ⟨r', hc.elim (fun e => e ▸ r.cap) id⟩ (Fresh.some (by
    rcases hg with hg | hg
    · exact hF g hg
    · have := e.size; omega)) f
  simpa using this
/-- The cells of a row, whatever they are. -/
def Raw (h : Hp) (E g n : Nat) : Prop := ∃ cs : List Value, h[g]? = some (.cells cs.toArray E (0, 0)) ∧ cs.length = n
theorem RowC.raw {h : Hp} {E g c : Nat} {xs : List α} (r : RowC h E enc sz (some ⟨g, 0, none⟩) c xs) : Raw h E g (c * sz) := by
  rcases r.row with ⟨ha, _⟩ | ⟨g', rest, ha, hb, _, h2, _⟩
  · cases ha
  · cases ha; exact ⟨_, hb, h2⟩
theorem Raw.keep {h h' : Hp} {E g n : Nat} {S : Nat → Prop} (r : Raw h E g n) (f : Fr S h h') (hn : ¬ S g) : Raw h' E g n := by
  obtain ⟨cs, h1, h2⟩ := r
  exact ⟨cs, f.get h1 hn, h2⟩
theorem HU_raw {P : Program} {t : TypeId} {h : Hp} {E g n o : Nat} {v : Value} {us : List Value} {K : Hp → Prop} (r : Raw h E g n) (hv : v.cells = us.toArray) (hsz : (P.info? t).map (·.size) = some us.length) (hf : us.all flatV = true) (ho : o + us.length ≤ n)
    (H : ∀ h', Raw h' E g n → Fr (fun k => k = g) h h' → h'.size = h.size → K h') : HU P (Instr.storeAt t (.pointer (some ⟨g, o, none⟩)) v) h K := by
  obtain ⟨cs, h1, h2⟩ := r
  refine HU_st (us := us) h1 hv hsz (by omega) hf ?_
  exact H _ ⟨_, setB_get (lt_of_get h1), by simp; omega⟩ (setB_fr rfl) setB_size
end
end Go.Proofs.YtfdpccbajaiepaaGreatDoor.Sx

/- Rows of bytes: a string is appended; what is kept of the others. -/
namespace Go.Proofs.YtfdpccbajaiepaaGreatDoor.Sx
open Go Go.RowKit
set_option linter.unusedVariables false
set_option linter.unusedSimpArgs false
set_option maxRecDepth 10000
abbrev encB (u : UInt8) : List Value := [.int .u8 u.toNat]
theorem flatB (l : List UInt8) : l.flatMap encB = Lib.byteCells l := by
  induction l with
  | nil => rfl
  | cons x l ih => rw [List.flatMap_cons, ih]; rfl
/-- A row of these bytes. -/
def ByR (h : Hp) (E : Nat) (A : Option Addr) (c : Nat) (l : List UInt8) : Prop := RowC h E encB 1 A c l
theorem ByR.nil {h : Hp} {E : Nat} : ByR h E none 0 [] := RowC.nil
/-- Blocks of other kinds are kept. -/
def OthK (E : Nat) (h h' : Hp) : Prop := ∀ (k : Nat) (o : Obj), h[k]? = some o → (∀ c fz, o ≠ Obj.cells c E fz) → h'[k]? = some o
theorem OthK.refl (E : Nat) (h : Hp) : OthK E h h := fun _ _ h _ => h
theorem OthK.trans {E : Nat} {a b c : Hp} (x : OthK E a b) (y : OthK E b c) : OthK E a c := fun k o h ho => y k o (x k o h ho) ho
theorem Ext.oth {E : Nat} {h h' : Hp} (e : Ext h h') : OthK E h h' := fun k o ho _ => by rw [e.old k (lt_of_get ho)]; exact ho
theorem OthK.cells {E : Nat} {h h' : Hp} (x : OthK E h h') {k : Nat} {cs : Array Value} {T : TypeId} {fz : Nat × Nat} (hb : h[k]? = some (.cells cs T fz)) (hT : T ≠ E) : h'[k]? = some (.cells cs T fz) := x k _ hb (fun c f h => by injection h with _ h1; exact hT h1)
theorem OthK.cl {E : Nat} {h h' : Hp} (x : OthK E h h') {k o : Nat} {cs vs : List Value} {T : TypeId} {fz : Nat × Nat} (hb : h[k]? = some (.cells cs.toArray T fz)) (hT : T ≠ E) (hv : ∀ j v, vs[j]? = some v → cs[o + j]? = some v) : Cl h' ⟨k, o, none⟩ vs := Cl.of_block (x.cells hb hT) hv
theorem Fr.oth {E : Nat} {h h' : Hp} {A : Option Addr} {c : Nat} {l : List UInt8} (f : Fr (blk A) h h') (r : ByR h E A c l) : OthK E h h' := by
  intro k o ho hn
  by_cases hk : blk A k
  · exfalso
    obtain ⟨a, ha, hab⟩ := hk
    rcases r.row with ⟨rfl, _⟩ | ⟨g, rest, rfl, hb, _⟩
    · cases ha
    · injection ha with ha
      subst ha
      simp only at hab
      subst hab
      rw [hb] at ho
      injection ho with ho
      exact hn _ _ ho.symm
  · exact f.get ho hk
theorem HW_appendS {P : Program} {T S E : TypeId} {i : TypeInfo} {z : Value} {h : Hp} {A : Option Addr} {n c : Nat} {cs : List Value} {ns : List UInt8} {K : Value → Hp → Prop}
    (hu : P.underlying T = some (.slice E)) (hS : P.underlying S = some .string) (hi : P.info? E = some i) (hz : i.zero = some z) (hzl : z.cells.size = i.size) (hi1 : i.size = 1) (hb0 : 0 < i.bytes)
    (r : OSl h E 1 A n c cs) (hbound : (2 * (n + ns.length) + 768) * i.bytes ≤ 2 ^ 48)
    (H : ∀ h' A' c', OSl h' E 1 A' (n + ns.length) c' (cs ++ Lib.byteCells ns) → (A' = A ∨ ∀ k, blk A' k → h.size ≤ k) → Fr (blk A) h h' → (c' = c ∨ c' < 2 ^ 63) → K (.slice A' (n + ns.length) c') h') :
    HW P (Builtin.append_ #[T, S] T #[.slice A n c, .string ⟨ns.toArray⟩]) h K := by
  unfold HW
  have hub : n + ns.length < 2 ^ 62 := by
    have : (2 * (n + ns.length) + 768) * 1 ≤ (2 * (n + ns.length) + 768) * i.bytes := Nat.mul_le_mul_left _ hb0
    omega
  have hsz : (⟨ns.toArray⟩ : ByteArray).size = ns.length := by simp [ByteArray.size]
  have hex : ((⟨ns.toArray⟩ : ByteArray).extract 0 ns.length).data = ns.toArray := by
    have : ((⟨ns.toArray⟩ : ByteArray).extract 0 ns.length) = ⟨ns.toArray⟩ := by
      have := ByteArray.extract_zero_size (b := (⟨ns.toArray⟩ : ByteArray))
      rwa [hsz] at this
    rw [this]
  have hnl : (Lib.byteCells ns).length = ns.length := Lib.byteCells_length ns
  have hfc : Builtin.firstCells i.size ns.length (.string ⟨ns.toArray⟩) = (pure (Lib.byteCells ns).toArray : Sem (Array Value)) := by
    have e1 : Builtin.firstCells i.size ns.length (.string ⟨ns.toArray⟩) = (pure (((⟨ns.toArray⟩ : ByteArray).extract 0 ns.length).data.map fun b => Value.int .u8 b.toNat) : Sem (Array Value)) := rfl
    rw [e1, hex]
    simp [Lib.byteCells]
  simp [Builtin.append_, semWp_bind_eq, underlying_eq hu, underlying_eq hS, size_eq hi, Builtin.lenOf, semWp_pure_eq, hsz]
  by_cases hroom : n + ns.length ≤ c
  · rw [if_pos hroom, hfc, semWp_bind_eq, semWp_pure_eq]
    rcases r with ⟨rfl, rfl, rfl, rfl⟩ | ⟨g, rest, rfl, hb, h1, h2, h3⟩
    · have hn0 : ns = [] := List.eq_nil_of_length_eq_zero (by omega)
      subst hn0
      simp only [semWp_pure_eq]
      exact H h none 0 (.inl ⟨rfl, rfl, rfl, rfl⟩) (.inl rfl) (Fr.refl _ _) (.inl rfl)
    · simp only [semWp_map_eq]
      rw [add_eq0, hi1, Nat.mul_one]
      rw [Nat.mul_one] at h1 h2
      have hlen : n + (Lib.byteCells ns).length ≤ (cs ++ rest).length := by rw [h2, hnl]; exact hroom
      have hf : (Lib.byteCells ns).all flatV = true := by simp [Lib.byteCells, flatV]
      refine wp_storeCells P (Lib.byteCells ns) 0 (cs ++ rest) h hb (by simpa using hlen) (fun u hu => List.all_eq_true.1 hf u hu) ?_
      have e : (cs ++ rest).take (n + 0) ++ Lib.byteCells ns ++ (cs ++ rest).drop (n + 0 + (Lib.byteCells ns).length) = (cs ++ Lib.byteCells ns) ++ rest.drop (Lib.byteCells ns).length := by
        rw [Nat.add_zero, ← h1, List.take_left, List.drop_append, List.drop_of_length_le (by omega)]
        simp
      rw [e]
      refine H _ _ c (.inr ⟨g, rest.drop (Lib.byteCells ns).length, rfl, setB_get (lt_of_get hb), ?_, ?_, hroom⟩) (.inl rfl) (setB_fr ⟨_, rfl, rfl⟩) (.inl rfl)
      · rw [List.length_append, h1, hnl, Nat.mul_one]
      · simp only [List.length_append, List.length_drop] at h2 hlen ⊢
        omega
  · rw [if_neg hroom]
    have hne : ¬ (i.bytes = 0) := by omega
    have hcap := nextcap_le (need := n + ns.length) (cap := c) (by omega)
    have hok : ¬ (281474976710656 < Builtin.nextslicecap (n + ns.length) c * i.bytes) := by
      have := Nat.mul_le_mul_right i.bytes hcap
      omega
    simp only [semWp_bind_eq, info_eq hi, hne, and_false, if_false, hok]
    refine ⟨fun hq => by simp [Question.forced] at hq, fun _ t => ?_⟩
    show semWp P (pure _ : Sem Nat) h _
    rw [semWp_pure_eq]
    have hcapn : n + ns.length ≤ Question.cut (.appendCap (n + ns.length) c E) t := by simp [Question.cut]
    have hcapu : Question.cut (.appendCap (n + ns.length) c E) t < 2 ^ 63 := by
      simp only [Question.cut]
      have := Nat.mod_lt t (show 0 < 2 ^ 63 - (n + ns.length) by omega)
      omega
    revert hcapu
    generalize Question.cut (.appendCap (n + ns.length) c E) t = nc at hcapn
    intro hcapu
    simp only [askRoom_eq]
    have r2 : RSl h A n i.size cs := by rw [hi1]; exact r.read
    refine wp_firstCells r2 ?_
    rw [hfc, semWp_pure_eq]
    simp only [zero_eq hi hz, semWp_map_eq]
    show K (.slice (some ⟨h.size, 0, none⟩) (n + ns.length) nc) (h.push _)
    have hzc : (cs.toArray ++ ((Lib.byteCells ns).toArray ++ Builtin.zeroCells z.cells (nc - (n + ns.length)))) = ((cs ++ Lib.byteCells ns) ++ zcells z.cells.toList (nc - (n + ns.length))).toArray := by
      apply Array.ext'
      simp [zcells]
    rw [hzc]
    have hcl := r.read.1
    rw [Nat.mul_one] at hcl
    refine H _ _ nc (.inr ⟨h.size, zcells z.cells.toList (nc - (n + ns.length)), rfl, by simp, ?_, ?_, hcapn⟩) (.inr ?_) ((Ext.push h _).fr _) (.inr hcapu)
    · rw [List.length_append, hcl, hnl, Nat.mul_one]
    · have : z.cells.toList.length = 1 := by simpa [hi1] using hzl
      rw [List.length_append, List.length_append, hcl, hnl, zcells_len, this]
      omega
    · rintro k ⟨a, ha, rfl⟩
      injection ha with ha
      subst ha
      exact Nat.le_refl _
/-- append(b, s...), b a fresh row of bytes. -/
theorem appStr {P : Program} {T S E : TypeId} {i : TypeInfo} {z : Value} {h0 h : Hp} {A : Option Addr} {c : Nat} {l ns : List UInt8} {K : Value → Hp → Prop}
    (hu : P.underlying T = some (.slice E)) (hS : P.underlying S = some .string) (hi : P.info? E = some i) (hz : i.zero = some z) (hzl : z.cells.size = i.size) (hi1 : i.size = 1) (hb0 : i.bytes = 1)
    (e : Ext h0 h) (r : ByR h E A c l) (hF : Fresh h0 A) (hl : l.length + ns.length ≤ 1000000000)
    (H : ∀ h' A' c', Ext h0 h' → OthK E h h' → ByR h' E A' c' (l ++ ns) → Fresh h0 A' → K (.slice A' (l ++ ns).length c') h') :
    HW P (Builtin.append_ #[T, S] T #[.slice A l.length c, .string ⟨ns.toArray⟩]) h K := by
  have r1 : OSl h E 1 A l.length c (Lib.byteCells l) := by have := r.row; unfold Row at this; rwa [flatB] at this
  refine HW_appendS hu hS hi hz hzl hi1 (by omega) r1 (by rw [hb0]; omega) fun h' A' c' r' hA f hc => ?_
  have hF' : Fresh h0 A' := by
    rcases hA with rfl | hA
    · exact hF
    · exact fun k hk => Nat.le_trans e.size (hA k hk)
  have := H h' A' c' (extOwn e f (fun k hk => hF k hk)) (f.oth r) ⟨by
    unfold Row
    rw [flatB, List.length_append, Lib.byteCells_append]
    exact r', hc.elim (fun h => h ▸ r.cap) (fun h => h)⟩ hF'
  rwa [List.length_append] at this
theorem convCl {P : Program} {T S E : TypeId} (hs : P.underlying T = some (.slice E)) (hd : P.underlying S = some .string) (he : P.underlying E = some (.int .u8)) {h : Hp} {a : Addr} {l : List UInt8} {n c : Nat} (cl : Cl h a (Lib.byteCells l)) (hn : l.length = n) :
    HV P (convert T S (.slice (some a) n c)) h (.string ⟨l.toArray⟩) := by
  intro w hw
  subst hw
  have hld := run_loadCells_list (P := P) w a (Lib.byteCells l) (fun j v hj => cl.at_ j v hj)
  rw [Lib.byteCells_length, hn] at hld
  have e1 : Lib.byteCells l = (l.map fun b => (b.toNat : Int)).map (Value.int .u8) := by simp [Lib.byteCells]
  rw [e1] at hld
  rw [run_convert_bytes_string w T S E _ n c hs he hd, run_bytesToString w _ n c _ hld, foldl_push_bytes]
  have e2 : (l.map fun b => (b.toNat : Int)).map (fun n => UInt8.ofNat n.toNat) = l := by
    rw [List.map_map]
    have : ((fun n : Int => UInt8.ofNat n.toNat) ∘ fun b : UInt8 => (b.toNat : Int)) = id := by
      funext b
      simp
    rw [this, List.map_id]
  rw [e2]
  simp [ByteArray.empty, ByteArray.emptyWithCapacity]
  rfl
end Go.Proofs.YtfdpccbajaiepaaGreatDoor.Sx

/- The tokens of a text: a model over lists of bytes. -/
namespace Go.Proofs.YtfdpccbajaiepaaGreatDoor.Lx
open Go
set_option linter.unusedVariables false
structure TokM where
  kind : Int
  text : List UInt8
  value : Int
  line : Int
  col : Int
  deriving DecidableEq
structure Flt where
  code : Int
  line : Int
  col : Int
  deriving DecidableEq
def kindB (c : UInt8) : Nat := if 97 ≤ c.toNat ∧ c.toNat ≤ 122 then 1 else if 48 ≤ c.toNat ∧ c.toNat ≤ 57 then 2 else if c.toNat = 46 ∨ c.toNat = 47 ∨ c.toNat = 58 ∨ c.toNat = 42 then 3 else 0
def blankB (c : UInt8) : Bool := c.toNat == 32 || c.toNat == 9 || c.toNat == 13
def lineLen (r : List UInt8) : Nat := (r.takeWhile fun c => c.toNat != 10).length
/-- How many blanks stand ahead. -/
def blanks (r : List UInt8) : Nat := (r.takeWhile blankB).length
def rowLen (k : Nat) (r : List UInt8) : Nat := (r.takeWhile fun c => kindB c == k).length
def numV : List UInt8 → Int → Int
  | [], v => v
  | c :: r, v => numV r (min (10 * v + ((c.toNat : Int) - 48)) 8589934592)
inductive RdR where
  | tok (t : TokM) (used : Nat) (line col : Nat) (w : Option Flt)
  | stop
  | bad (f : Flt)
  deriving DecidableEq
/-- A line's end; u: so many bytes are gone over till there. -/
def endsM (r : List UInt8) (u line col : Nat) : RdR := match r with
  | [] => if col = 0 then .stop else .tok ⟨4, [], 0, line, col + 1⟩ u line 0 none
  | _ :: r' => .tok ⟨4, [10], 0, line, col + 1⟩ (u + 1) (line + 1) 0 (if lineLen r' > 200 then some ⟨93, line + 1, 1⟩ else none)
def badNum (t : List UInt8) : Bool := decide (numV t 0 ≥ 4294967296) || (decide (t.length > 1) && decide (t.head? = some 48))
def checkM (k : Nat) (t : List UInt8) (u line col col' : Nat) : RdR :=
  if k = 1 ∧ t.length > 16 then .bad ⟨92, line, col⟩
  else if k = 2 then (if badNum t then .bad ⟨91, line, col⟩ else .tok ⟨2, t, numV t 0, line, col⟩ u line col' none)
  else .tok ⟨k, t, 0, line, col⟩ u line col' none
def readM (r : List UInt8) (line col : Nat) : RdR :=
  let b := blanks r
  let r1 := r.drop b
  match r1 with
  | [] => endsM [] b line (col + b)
  | c :: _ =>
    if c.toNat = 35 then endsM (r1.drop (lineLen r1)) (b + lineLen r1) line (col + b + lineLen r1)
    else if c.toNat = 10 then endsM r1 b line (col + b)
    else if kindB c = 0 then .bad ⟨90, line, col + b + 1⟩
    else
      let m := if kindB c = 3 then 1 else rowLen (kindB c) r1
      checkM (kindB c) (r1.take m) (b + m) line (col + b + 1) (col + b + m)
def lexL : Nat → List UInt8 → Nat → Nat → Option (Except Flt (List TokM))
  | 0, _, _, _ => none
  | f + 1, r, line, col => match readM r line col with
    | .stop => some (.ok [])
    | .bad e => some (.error e)
    | .tok t u line' col' (some w) => some (.error w)
    | .tok t u line' col' none => match lexL f (r.drop u) line' col' with
      | some (.ok l) => some (.ok (t :: l))
      | x => x
def lexM (s : List UInt8) : Option (Except Flt (List TokM)) :=
  if s.length > 65536 then some (.error ⟨2, 0, 0⟩) else if lineLen s > 200 then some (.error ⟨93, 1, 1⟩) else lexL (2 * s.length + 3) s 1 0
end Go.Proofs.YtfdpccbajaiepaaGreatDoor.Lx

/- Printed by sx.py: words over the heap alone for Go functions, and that each call does what its word says. -/
namespace Go.Proofs.YtfdpccbajaiepaaGreatDoor.Sxp.Fx
open Go Go.RowKit Go.Proofs.YtfdpccbajaiepaaGreatDoor.Sx
set_option linter.unusedVariables false
set_option maxRecDepth 100000
set_option maxHeartbeats 4000000

/-! ### quintet/lex.kind: function 86 -/
set_option maxRecDepth 100000 in
def lex_kind (x1 : Int) (h : Hp) (K : Value → Hp → Prop) : Prop :=
  br (decide (x1 ≥ 97))
  (br (decide (x1 ≤ 122))
  (K (.int .i64 1) h)
  (br (decide (x1 ≥ 48))
  (br (decide (x1 ≤ 57))
  (K (.int .i64 2) h)
  (br (x1 == 46)
  (K (.int .i64 3) h)
  (br (x1 == 47)
  (K (.int .i64 3) h)
  (br (x1 == 58)
  (K (.int .i64 3) h)
  (br (x1 == 42)
  (K (.int .i64 3) h)
  (K (.int .i64 0) h))))))
  (br (x1 == 46)
  (K (.int .i64 3) h)
  (br (x1 == 47)
  (K (.int .i64 3) h)
  (br (x1 == 58)
  (K (.int .i64 3) h)
  (br (x1 == 42)
  (K (.int .i64 3) h)
  (K (.int .i64 0) h)))))))
  (br (decide (x1 ≥ 48))
  (br (decide (x1 ≤ 57))
  (K (.int .i64 2) h)
  (br (x1 == 46)
  (K (.int .i64 3) h)
  (br (x1 == 47)
  (K (.int .i64 3) h)
  (br (x1 == 58)
  (K (.int .i64 3) h)
  (br (x1 == 42)
  (K (.int .i64 3) h)
  (K (.int .i64 0) h))))))
  (br (x1 == 46)
  (K (.int .i64 3) h)
  (br (x1 == 47)
  (K (.int .i64 3) h)
  (br (x1 == 58)
  (K (.int .i64 3) h)
  (br (x1 == 42)
  (K (.int .i64 3) h)
  (K (.int .i64 0) h))))))
def lex_kind_lp (i : Nat) (Q : Qx) (tm : Tm) (h : Hp) : Prop := False
def lex_kind_cut (i : Nat) : Option (List Nat) := none
set_option maxRecDepth 100000 in
theorem lex_kind_eq (x1 : Int) (h : Hp) (K : Value → Hp → Prop) : lex_kind x1 h K =
    codeWp Tryz.prog 25 false lex_kind_lp lex_kind_cut (bodyOf Tryz.f86) 1 (endQ Tryz.prog Tryz.f86.results.toList K) (argTm [(.int .i32 x1)]) h := by kernel_rfl
set_option maxRecDepth 100000 in
theorem lex_kind_ok (x1 : Int) {h : Hp} {K : Value → Hp → Prop} (H : lex_kind x1 h K) : CallsH Tryz.prog 86 #[(.int .i32 x1)] h K :=
  calls_of (pn := false) (args := [(.int .i32 x1)]) (n := 25) (lp := lex_kind_lp) (cut := lex_kind_cut) Tryz.func86 (c := bodyOf Tryz.f86) (by kernel_rfl) (by kernel_rfl) (by kernel_rfl) (good_by (pn := false) (c := (bodyOf Tryz.f86)) (i := 1) (l := []) (by kernel_rfl) (fun _ h => by cases h))
    (Eq.mp (lex_kind_eq x1 h K) H)

/-! ### (*quintet/lex.Scanner).measure: function 70 -/
def lex_Scanner_measure_j2 (K0 : Hp → Prop) (p22 : Option Addr) (x23 : Int) (h : Hp) : Prop :=
  drf p22 fun a32 =>
  ∃ x33 : Int, HV Tryz.prog (Instr.loadAt 3 (.pointer (some (a32.add 1)))) h (.int .i64 x33) ∧ 
  br (decide ((IntKind.i64.wrap (x23 - x33)) > 200))
  (drf p22 fun a34 =>
  ∃ x35 : Int, HV Tryz.prog (Instr.loadAt 3 (.pointer (some (a34.add 2)))) h (.int .i64 x35) ∧ 
  newC h (.cells #[(.int .i64 93), (.int .i64 x35), (.int .i64 1)] 34 (0, 0)) fun a37 h36 => 
  drf p22 fun a38 =>
  HU Tryz.prog (Instr.storeAt 27 (.pointer (some (a38.add 6))) (.pointer (some a37))) h36 fun h39 => 
  K0 h39)
  (K0 h)
def lex_Scanner_measure_j2_L (Q : Qx) (tm : Tm) (h : Hp) : Prop :=
  selP (tm 0) fun p22 =>
  selI .i64 (tm 2) fun x23 =>
  lex_Scanner_measure_j2 (fun  h => Q (.normal) (mkTm []) h) p22 x23 h
def lex_Scanner_measure_l3 (p40 : Option Addr) (K0 : (Option Addr) → Int → Hp → Prop)  : Nat → Int → Hp → Prop
  | 0, _, _ => False
  | k + 1, x41, h =>
    drf p40 fun a49 =>
    ∃ s50 : ByteArray, HV Tryz.prog (Instr.loadAt 9 (.pointer (some a49))) h (.string s50) ∧ 
    br (decide (x41 < ((s50 : ByteArray).size : Int)))
    (drf p40 fun a51 =>
    ∃ s52 : ByteArray, HV Tryz.prog (Instr.loadAt 9 (.pointer (some a51))) h (.string s52) ∧ 
    ∃ x53 : Int, PV Tryz.prog (Instr.index 9 (.string s52) (.int .i64 x41)) (.int .u8 x53) ∧
    br (x53 != 10)
    (lex_Scanner_measure_l3 p40 K0 k (IntKind.i64.wrap (x41 + 1)) h)
    (K0 p40 x41 h))
    (K0 p40 x41 h)
def lex_Scanner_measure_l3_L (Q : Qx) (k : Nat) (tm : Tm) (h : Hp) : Prop :=
  selP (tm 0) fun p40 =>
  selI .i64 (tm 2) fun x41 =>
  lex_Scanner_measure_l3 p40 (fun (p47 : Option Addr) (x48 : Int) h => Q (.exit 0) (mkTm [(0, some (.pointer p47)), (2, some (.int .i64 x48))]) h) k x41 h
set_option maxRecDepth 100000 in
def lex_Scanner_measure (p1 : Option Addr) (h : Hp) (K : Value → Hp → Prop) : Prop :=
  drf p1 fun a2 =>
  ∃ x3 : Int, HV Tryz.prog (Instr.loadAt 3 (.pointer (some (a2.add 1)))) h (.int .i64 x3) ∧ 
  ∃ k58, lex_Scanner_measure_l3 p1
  (fun (p54 : Option Addr) (x55 : Int) (h56 : Hp) =>
  lex_Scanner_measure_j2
  (fun  (h57 : Hp) =>
  K (.tuple #[]) h57)
  p54 x55 h56)
   k58 x3 h
def lex_Scanner_measure_lp (i : Nat) (Q : Qx) (tm : Tm) (h : Hp) : Prop := match Nat.beq i 3 with
  | true => lex_Scanner_measure_j2_L Q tm h
  | false => match Nat.beq i 12 with
  | true => ∃ k, lex_Scanner_measure_l3_L Q k tm h
  | false => False
def lex_Scanner_measure_cut (i : Nat) : Option (List Nat) := match Nat.beq i 3 with
  | true => some [0, 2]
  | false => none
set_option maxRecDepth 100000 in
theorem lex_Scanner_measure_j2_step (Q : Qx) (p22 : Option Addr) (x23 : Int) (h : Hp) : lex_Scanner_measure_j2_L Q (mkTm [(0, some (.pointer p22)), (2, some (.int .i64 x23))]) h =
    codeWp Tryz.prog 41 false lex_Scanner_measure_lp lex_Scanner_measure_cut (sub (bodyOf Tryz.f70) [true, true]) 7 (maskQ (fun e => match e with | .normal => [] | _ => []) Q) (mkTm [(0, some (.pointer p22)), (2, some (.int .i64 x23))]) h := by kernel_rfl
theorem lex_Scanner_measure_j2_mask (Q : Qx) (tm : Tm) (h : Hp) : lex_Scanner_measure_j2_L Q tm h ↔ lex_Scanner_measure_j2_L Q (mask [0, 2] tm) h := Iff.rfl
set_option maxRecDepth 100000 in
theorem lex_Scanner_measure_j2_snd : SndAt Tryz.prog 41 none (sub (bodyOf Tryz.f70) [true, true]) (lex_Scanner_measure_lp 3) := by
  refine join_sound (pn := false) (lp := lex_Scanner_measure_lp) (cut := lex_Scanner_measure_cut) (i := 3) (c := (sub (bodyOf Tryz.f70) [true, true])) [0, 2] (fun e => match e with | .normal => [] | _ => []) lex_Scanner_measure_j2_L ?_ ?_
  · exact good_by (pn := false) (c := (sub (bodyOf Tryz.f70) [true, true])) (i := 7) (l := []) (by kernel_rfl) (fun _ h => by cases h)
  · intro Q tm h H
    have H0 := H
    obtain ⟨p22, e0, H⟩ := selP_ex H
    obtain ⟨x23, e2, H⟩ := selI_ex H
    have e : mask [0, 2] tm = mkTm [(0, some (.pointer p22)), (2, some (.int .i64 x23))] := by simp only [mask, List.map_cons, List.map_nil, e0, e2] <;> rfl
    rw [e]
    refine Eq.mp (lex_Scanner_measure_j2_step Q p22 x23 h) ?_
    rw [← e]
    exact (lex_Scanner_measure_j2_mask Q tm h).mp H0
set_option maxRecDepth 100000 in
theorem lex_Scanner_measure_l3_step (Q : Qx) (k : Nat) (p40 : Option Addr) (x41 : Int) (h : Hp) : lex_Scanner_measure_l3_L Q (k + 1) (mkTm [(0, some (.pointer p40)), (2, some (.int .i64 x41))]) h =
    codeWp Tryz.prog 41 false lex_Scanner_measure_lp lex_Scanner_measure_cut (sub (bodyOf Tryz.f70) [true, false, false, false]) 24 (thenQ (fun tm h => lex_Scanner_measure_l3_L Q k (mask [0, 2] tm) h) (maskQ (fun e => match e with | .exit 0 => [0, 2] | _ => []) Q)) (mkTm [(0, some (.pointer p40)), (2, some (.int .i64 x41))]) h := by kernel_rfl
theorem lex_Scanner_measure_l3_mask (Q : Qx) (k : Nat) (tm : Tm) (h : Hp) : lex_Scanner_measure_l3_L Q k tm h ↔ lex_Scanner_measure_l3_L Q k (mask [0, 2] tm) h := Iff.rfl
set_option maxRecDepth 100000 in
theorem lex_Scanner_measure_l3_snd : SndAt Tryz.prog 41 none (sub (bodyOf Tryz.f70) [true, false, false]) (lex_Scanner_measure_lp 12) := by
  refine loop_sound (pn := false) (lp := lex_Scanner_measure_lp) (cut := lex_Scanner_measure_cut) (i := 12) (c := (sub (bodyOf Tryz.f70) [true, false, false, false])) [0, 2] (fun e => match e with | .exit 0 => [0, 2] | _ => []) lex_Scanner_measure_l3_L ?_ ?_ ?_
  · exact good_by (pn := false) (c := (sub (bodyOf Tryz.f70) [true, false, false, false])) (i := 24) (l := []) (by kernel_rfl) (fun _ h => by cases h)
  · intro Q tm h H
    obtain ⟨p40, e0, H⟩ := selP_ex H
    obtain ⟨x41, e2, H⟩ := selI_ex H
    exact H
  · intro Q k tm h H
    have H0 := H
    obtain ⟨p40, e0, H⟩ := selP_ex H
    obtain ⟨x41, e2, H⟩ := selI_ex H
    have e : mask [0, 2] tm = mkTm [(0, some (.pointer p40)), (2, some (.int .i64 x41))] := by simp only [mask, List.map_cons, List.map_nil, e0, e2] <;> rfl
    rw [e]
    refine Eq.mp (lex_Scanner_measure_l3_step Q k p40 x41 h) ?_
    rw [← e]
    exact (lex_Scanner_measure_l3_mask Q (k + 1) tm h).mp H0
set_option maxRecDepth 100000 in
theorem lex_Scanner_measure_eq (p1 : Option Addr) (h : Hp) (K : Value → Hp → Prop) : lex_Scanner_measure p1 h K =
    codeWp Tryz.prog 41 false lex_Scanner_measure_lp lex_Scanner_measure_cut (bodyOf Tryz.f70) 1 (endQ Tryz.prog Tryz.f70.results.toList K) (argTm [(.pointer p1)]) h := by kernel_rfl
set_option maxRecDepth 100000 in
theorem lex_Scanner_measure_ok (p1 : Option Addr) {h : Hp} {K : Value → Hp → Prop} (H : lex_Scanner_measure p1 h K) : CallsH Tryz.prog 70 #[(.pointer p1)] h K :=
  calls_of (pn := false) (args := [(.pointer p1)]) (n := 41) (lp := lex_Scanner_measure_lp) (cut := lex_Scanner_measure_cut) Tryz.func70 (c := bodyOf Tryz.f70) (by kernel_rfl) (by kernel_rfl) (by kernel_rfl) (good_by (pn := false) (c := (bodyOf Tryz.f70)) (i := 1) (l := [(12, (sub (bodyOf Tryz.f70) [true, false, false])), (3, (sub (bodyOf Tryz.f70) [true, true]))]) (by kernel_rfl) (List.forall_mem_cons.2 ⟨lex_Scanner_measure_l3_snd, (List.forall_mem_cons.2 ⟨lex_Scanner_measure_j2_snd, (fun _ h => by cases h)⟩)⟩))
    (Eq.mp (lex_Scanner_measure_eq p1 h K) H)

/-! ### (*quintet/lex.Scanner).fault: function 72 -/
set_option maxRecDepth 100000 in
def lex_Scanner_fault (p1 : Option Addr) (h : Hp) (K : Value → Hp → Prop) : Prop :=
  drf p1 fun a2 =>
  ∃ p3 : Option Addr, HV Tryz.prog (Instr.loadAt 27 (.pointer (some (a2.add 6)))) h (.pointer p3) ∧ 
  ∃ b4 : Bool, PV Tryz.prog (binOp .eql 27 (.pointer p3) (.pointer none)) (.bool b4) ∧
  br b4
  (K .nilIface h)
  (drf p1 fun a5 =>
  ∃ p6 : Option Addr, HV Tryz.prog (Instr.loadAt 27 (.pointer (some (a5.add 6)))) h (.pointer p6) ∧ 
  drf p6 fun a7 =>
  ∃ x8 : Int, ∃ x9 : Int, ∃ x10 : Int, HV Tryz.prog (Instr.loadAt 34 (.pointer (some a7))) h (.agg #[(.int .i64 x8), (.int .i64 x9), (.int .i64 x10)]) ∧ 
  newC h (.cells #[(.int .i64 0), (.int .i64 0), (.int .i64 0)] 34 (0, 0)) fun a12 h11 => 
  HU Tryz.prog (Instr.storeAt 34 (.pointer (some a12)) (.agg #[(.int .i64 x8), (.int .i64 x9), (.int .i64 x10)])) h11 fun h13 => 
  K (.iface 27 (.pointer (some a12))) h13)
def lex_Scanner_fault_lp (i : Nat) (Q : Qx) (tm : Tm) (h : Hp) : Prop := False
def lex_Scanner_fault_cut (i : Nat) : Option (List Nat) := none
set_option maxRecDepth 100000 in
theorem lex_Scanner_fault_eq (p1 : Option Addr) (h : Hp) (K : Value → Hp → Prop) : lex_Scanner_fault p1 h K =
    codeWp Tryz.prog 16 false lex_Scanner_fault_lp lex_Scanner_fault_cut (bodyOf Tryz.f72) 1 (endQ Tryz.prog Tryz.f72.results.toList K) (argTm [(.pointer p1)]) h := by kernel_rfl
set_option maxRecDepth 100000 in
theorem lex_Scanner_fault_ok (p1 : Option Addr) {h : Hp} {K : Value → Hp → Prop} (H : lex_Scanner_fault p1 h K) : CallsH Tryz.prog 72 #[(.pointer p1)] h K :=
  calls_of (pn := false) (args := [(.pointer p1)]) (n := 16) (lp := lex_Scanner_fault_lp) (cut := lex_Scanner_fault_cut) Tryz.func72 (c := bodyOf Tryz.f72) (by kernel_rfl) (by kernel_rfl) (by kernel_rfl) (good_by (pn := false) (c := (bodyOf Tryz.f72)) (i := 1) (l := []) (by kernel_rfl) (fun _ h => by cases h))
    (Eq.mp (lex_Scanner_fault_eq p1 h K) H)

/-! ### (*quintet/lex.Scanner).ends: function 88 -/
set_option maxRecDepth 100000 in
def lex_Scanner_ends (p1 : Option Addr) (h : Hp) (K : Value → Hp → Prop) : Prop :=
  newC h (.cells #[(.int .i64 0), (.string ⟨#[]⟩), (.int .u32 0), (.int .i64 0), (.int .i64 0)] 52 (0, 0)) fun a3 h2 => 
  drf p1 fun a4 =>
  ∃ x5 : Int, HV Tryz.prog (Instr.loadAt 3 (.pointer (some (a4.add 2)))) h2 (.int .i64 x5) ∧ 
  drf p1 fun a6 =>
  ∃ x7 : Int, HV Tryz.prog (Instr.loadAt 3 (.pointer (some (a6.add 1)))) h2 (.int .i64 x7) ∧ 
  drf p1 fun a8 =>
  ∃ x9 : Int, HV Tryz.prog (Instr.loadAt 3 (.pointer (some (a8.add 3)))) h2 (.int .i64 x9) ∧ 
  newC h2 (.cells #[(.int .i64 0), (.string ⟨#[]⟩), (.int .u32 0), (.int .i64 0), (.int .i64 0)] 52 (0, 0)) fun a11 h10 => HV Tryz.prog (Instr.loadAt 3 (.pointer (some (a8.add 3)))) h10 (.int .i64 x9) ∧ HV Tryz.prog (Instr.loadAt 3 (.pointer (some (a6.add 1)))) h10 (.int .i64 x7) ∧ HV Tryz.prog (Instr.loadAt 3 (.pointer (some (a4.add 2)))) h10 (.int .i64 x5) ∧ 
  HU Tryz.prog (Instr.storeAt 52 (.pointer (some a11)) (.agg #[(.int .i64 4), (.string ⟨#[]⟩), (.int .u32 0), (.int .i64 x5), (.int .i64 (IntKind.i64.wrap ((IntKind.i64.wrap (x7 - x9)) + 1)))])) h10 fun h12 => 
  drf p1 fun a13 =>
  ∃ x14 : Int, HV Tryz.prog (Instr.loadAt 3 (.pointer (some (a13.add 1)))) h12 (.int .i64 x14) ∧ 
  drf p1 fun a15 =>
  ∃ s16 : ByteArray, HV Tryz.prog (Instr.loadAt 9 (.pointer (some a15))) h12 (.string s16) ∧ 
  br (x14 == ((s16 : ByteArray).size : Int))
  (drf p1 fun a17 =>
  ∃ x18 : Int, HV Tryz.prog (Instr.loadAt 3 (.pointer (some (a17.add 1)))) h12 (.int .i64 x18) ∧ 
  drf p1 fun a19 =>
  ∃ x20 : Int, HV Tryz.prog (Instr.loadAt 3 (.pointer (some (a19.add 3)))) h12 (.int .i64 x20) ∧ 
  br (x18 == x20)
  (HU Tryz.prog (Instr.storeAt 52 (.pointer (some a3)) (.agg #[(.int .i64 0), (.string ⟨#[]⟩), (.int .u32 0), (.int .i64 0), (.int .i64 0)])) h12 fun h21 => 
  ∃ x22 : Int, ∃ s23 : ByteArray, ∃ x24 : Int, ∃ x25 : Int, ∃ x26 : Int, HV Tryz.prog (Instr.loadAt 52 (.pointer (some a3))) h21 (.agg #[(.int .i64 x22), (.string s23), (.int .u32 x24), (.int .i64 x25), (.int .i64 x26)]) ∧ K (.tuple #[(.agg #[(.int .i64 x22), (.string s23), (.int .u32 x24), (.int .i64 x25), (.int .i64 x26)]), (.bool false)]) h21)
  (drf p1 fun a27 =>
  ∃ x28 : Int, HV Tryz.prog (Instr.loadAt 3 (.pointer (some (a27.add 1)))) h12 (.int .i64 x28) ∧ 
  drf p1 fun a29 =>
  HU Tryz.prog (Instr.storeAt 3 (.pointer (some (a29.add 3))) (.int .i64 x28)) h12 fun h30 => 
  ∃ x31 : Int, ∃ s32 : ByteArray, ∃ x33 : Int, ∃ x34 : Int, ∃ x35 : Int, HV Tryz.prog (Instr.loadAt 52 (.pointer (some a11))) h30 (.agg #[(.int .i64 x31), (.string s32), (.int .u32 x33), (.int .i64 x34), (.int .i64 x35)]) ∧ 
  HU Tryz.prog (Instr.storeAt 52 (.pointer (some a3)) (.agg #[(.int .i64 x31), (.string s32), (.int .u32 x33), (.int .i64 x34), (.int .i64 x35)])) h30 fun h36 => 
  ∃ x37 : Int, ∃ s38 : ByteArray, ∃ x39 : Int, ∃ x40 : Int, ∃ x41 : Int, HV Tryz.prog (Instr.loadAt 52 (.pointer (some a3))) h36 (.agg #[(.int .i64 x37), (.string s38), (.int .u32 x39), (.int .i64 x40), (.int .i64 x41)]) ∧ K (.tuple #[(.agg #[(.int .i64 x37), (.string s38), (.int .u32 x39), (.int .i64 x40), (.int .i64 x41)]), (.bool true)]) h36))
  (HU Tryz.prog (Instr.storeAt 9 (.pointer (some (a11.add 1))) (.string ({ data := #[10] }))) h12 fun h42 => 
  drf p1 fun a43 =>
  ∃ x44 : Int, HV Tryz.prog (Instr.loadAt 3 (.pointer (some (a43.add 1)))) h42 (.int .i64 x44) ∧ 
  drf p1 fun a45 =>
  HU Tryz.prog (Instr.storeAt 3 (.pointer (some (a45.add 1))) (.int .i64 (IntKind.i64.wrap (x44 + 1)))) h42 fun h46 => 
  drf p1 fun a47 =>
  ∃ x48 : Int, HV Tryz.prog (Instr.loadAt 3 (.pointer (some (a47.add 2)))) h46 (.int .i64 x48) ∧ 
  drf p1 fun a49 =>
  HU Tryz.prog (Instr.storeAt 3 (.pointer (some (a49.add 2))) (.int .i64 (IntKind.i64.wrap (x48 + 1)))) h46 fun h50 => 
  drf p1 fun a51 =>
  ∃ x52 : Int, HV Tryz.prog (Instr.loadAt 3 (.pointer (some (a51.add 1)))) h50 (.int .i64 x52) ∧ 
  drf p1 fun a53 =>
  HU Tryz.prog (Instr.storeAt 3 (.pointer (some (a53.add 3))) (.int .i64 x52)) h50 fun h54 => 
  CallsH Tryz.prog 70 #[(.pointer p1)] h54 fun r56 h55 =>
  r56 = (.tuple #[]) ∧ 
  ∃ x57 : Int, ∃ s58 : ByteArray, ∃ x59 : Int, ∃ x60 : Int, ∃ x61 : Int, HV Tryz.prog (Instr.loadAt 52 (.pointer (some a11))) h55 (.agg #[(.int .i64 x57), (.string s58), (.int .u32 x59), (.int .i64 x60), (.int .i64 x61)]) ∧ 
  HU Tryz.prog (Instr.storeAt 52 (.pointer (some a3)) (.agg #[(.int .i64 x57), (.string s58), (.int .u32 x59), (.int .i64 x60), (.int .i64 x61)])) h55 fun h62 => 
  ∃ x63 : Int, ∃ s64 : ByteArray, ∃ x65 : Int, ∃ x66 : Int, ∃ x67 : Int, HV Tryz.prog (Instr.loadAt 52 (.pointer (some a3))) h62 (.agg #[(.int .i64 x63), (.string s64), (.int .u32 x65), (.int .i64 x66), (.int .i64 x67)]) ∧ K (.tuple #[(.agg #[(.int .i64 x63), (.string s64), (.int .u32 x65), (.int .i64 x66), (.int .i64 x67)]), (.bool true)]) h62)
def lex_Scanner_ends_lp (i : Nat) (Q : Qx) (tm : Tm) (h : Hp) : Prop := False
def lex_Scanner_ends_cut (i : Nat) : Option (List Nat) := none
set_option maxRecDepth 100000 in
theorem lex_Scanner_ends_eq (p1 : Option Addr) (h : Hp) (K : Value → Hp → Prop) : lex_Scanner_ends p1 h K =
    codeWp Tryz.prog 73 false lex_Scanner_ends_lp lex_Scanner_ends_cut (bodyOf Tryz.f88) 1 (endQ Tryz.prog Tryz.f88.results.toList K) (argTm [(.pointer p1)]) h := by kernel_rfl
set_option maxRecDepth 100000 in
theorem lex_Scanner_ends_ok (p1 : Option Addr) {h : Hp} {K : Value → Hp → Prop} (H : lex_Scanner_ends p1 h K) : CallsH Tryz.prog 88 #[(.pointer p1)] h K :=
  calls_of (pn := false) (args := [(.pointer p1)]) (n := 73) (lp := lex_Scanner_ends_lp) (cut := lex_Scanner_ends_cut) Tryz.func88 (c := bodyOf Tryz.f88) (by kernel_rfl) (by kernel_rfl) (by kernel_rfl) (good_by (pn := false) (c := (bodyOf Tryz.f88)) (i := 1) (l := []) (by kernel_rfl) (fun _ h => by cases h))
    (Eq.mp (lex_Scanner_ends_eq p1 h K) H)

/-! ### (*quintet/lex.Scanner).checked: function 87 -/
def lex_Scanner_checked_l3 (p84 : Option Addr) (a85 : Addr) (a86 : Addr) (a88 : Addr) (K0 : (Option Addr) → Addr → Addr → Int → Hp → Prop)  : Nat → Int → Hp → Prop
  | 0, _, _ => False
  | k + 1, x87, h =>
    HW Tryz.prog (Instr.next (.pointer (some a88)) true 0) h fun r98 h99 =>
    ((r98 = (.tuple #[.bool false]) ∧ K0 p84 a85 a86 x87 h99) ∨
    ∃ x100 x101 : Int, r98 = (.tuple #[.bool true, .int .i64 x100, .int .i32 x101]) ∧ ∃ x102 : Int, PV Tryz.prog (Builtin.min_ #[3, 3] 3 #[(.int .i64 (IntKind.i64.wrap ((IntKind.i64.wrap (10 * x87)) + (IntKind.i64.wrap (IntKind.i32.wrap (x101 - 48)))))), (.int .i64 8589934592)]) (.int .i64 x102) ∧
    lex_Scanner_checked_l3 p84 a85 a86 a88 K0 k x102 h99)
def lex_Scanner_checked_l3_L (Q : Qx) (k : Nat) (tm : Tm) (h : Hp) : Prop :=
  selP (tm 0) fun p84 =>
  selA (tm 3) fun a85 =>
  selA (tm 4) fun a86 =>
  selI .i64 (tm 6) fun x87 =>
  selA (tm 34) fun a88 =>
  lex_Scanner_checked_l3 p84 a85 a86 a88 (fun (p94 : Option Addr) (a95 : Addr) (a96 : Addr) (x97 : Int) h => Q (.exit 1) (mkTm [(0, some (.pointer p94)), (3, some (.pointer (some a95))), (4, some (.pointer (some a96))), (6, some (.int .i64 x97))]) h) k x87 h
def lex_Scanner_checked_j2 (K0 : (Option Addr) → Addr → Addr → Hp → Prop) (p13 : Option Addr) (a14 : Addr) (a15 : Addr) (b16 : Bool) (h : Hp) : Prop :=
  br b16
  (∃ x74 : Int, HV Tryz.prog (Instr.loadAt 3 (.pointer (some (a14.add 3)))) h (.int .i64 x74) ∧ 
  ∃ x75 : Int, HV Tryz.prog (Instr.loadAt 3 (.pointer (some (a14.add 4)))) h (.int .i64 x75) ∧ 
  newC h (.cells #[(.int .i64 92), (.int .i64 x74), (.int .i64 x75)] 34 (0, 0)) fun a77 h76 => 
  drf p13 fun a78 =>
  HU Tryz.prog (Instr.storeAt 27 (.pointer (some (a78.add 6))) (.pointer (some a77))) h76 fun h79 => 
  K0 p13 a14 a15 h79)
  (∃ x80 : Int, HV Tryz.prog (Instr.loadAt 49 (.pointer (some a14))) h (.int .i64 x80) ∧ 
  br (x80 == 2)
  (∃ s81 : ByteArray, HV Tryz.prog (Instr.loadAt 9 (.pointer (some (a14.add 1)))) h (.string s81) ∧ 
  newC h (.stringIter s81 0) fun a83 h82 => 
  ∃ k127, lex_Scanner_checked_l3 p13 a14 a15 a83
  (fun (p103 : Option Addr) (a104 : Addr) (a105 : Addr) (x106 : Int) (h107 : Hp) =>
  br (decide (x106 ≥ 4294967296))
  (∃ x108 : Int, HV Tryz.prog (Instr.loadAt 3 (.pointer (some (a104.add 3)))) h107 (.int .i64 x108) ∧ 
  ∃ x109 : Int, HV Tryz.prog (Instr.loadAt 3 (.pointer (some (a104.add 4)))) h107 (.int .i64 x109) ∧ 
  newC h107 (.cells #[(.int .i64 91), (.int .i64 x108), (.int .i64 x109)] 34 (0, 0)) fun a111 h110 => 
  drf p103 fun a112 =>
  HU Tryz.prog (Instr.storeAt 27 (.pointer (some (a112.add 6))) (.pointer (some a111))) h110 fun h113 => 
  HU Tryz.prog (Instr.storeAt 50 (.pointer (some (a104.add 2))) (.int .u32 (IntKind.u32.wrap (x106)))) h113 fun h114 => 
  K0 p103 a104 a105 h114)
  (∃ s115 : ByteArray, HV Tryz.prog (Instr.loadAt 9 (.pointer (some (a104.add 1)))) h107 (.string s115) ∧ 
  br (decide (((s115 : ByteArray).size : Int) > 1))
  (∃ s116 : ByteArray, HV Tryz.prog (Instr.loadAt 9 (.pointer (some (a104.add 1)))) h107 (.string s116) ∧ 
  ∃ x117 : Int, PV Tryz.prog (Instr.index 9 (.string s116) (.int .i64 0)) (.int .u8 x117) ∧
  br (x117 == 48)
  (∃ x118 : Int, HV Tryz.prog (Instr.loadAt 3 (.pointer (some (a104.add 3)))) h107 (.int .i64 x118) ∧ 
  ∃ x119 : Int, HV Tryz.prog (Instr.loadAt 3 (.pointer (some (a104.add 4)))) h107 (.int .i64 x119) ∧ 
  newC h107 (.cells #[(.int .i64 91), (.int .i64 x118), (.int .i64 x119)] 34 (0, 0)) fun a121 h120 => 
  drf p103 fun a122 =>
  HU Tryz.prog (Instr.storeAt 27 (.pointer (some (a122.add 6))) (.pointer (some a121))) h120 fun h123 => 
  HU Tryz.prog (Instr.storeAt 50 (.pointer (some (a104.add 2))) (.int .u32 (IntKind.u32.wrap (x106)))) h123 fun h124 => 
  K0 p103 a104 a105 h124)
  (HU Tryz.prog (Instr.storeAt 50 (.pointer (some (a104.add 2))) (.int .u32 (IntKind.u32.wrap (x106)))) h107 fun h125 => 
  K0 p103 a104 a105 h125))
  (HU Tryz.prog (Instr.storeAt 50 (.pointer (some (a104.add 2))) (.int .u32 (IntKind.u32.wrap (x106)))) h107 fun h126 => 
  K0 p103 a104 a105 h126)))
   k127 0 h82)
  (K0 p13 a14 a15 h))
def lex_Scanner_checked_j2_L (Q : Qx) (tm : Tm) (h : Hp) : Prop :=
  selP (tm 0) fun p13 =>
  selA (tm 3) fun a14 =>
  selA (tm 4) fun a15 =>
  selB (tm 9) fun b16 =>
  lex_Scanner_checked_j2 (fun (p71 : Option Addr) (a72 : Addr) (a73 : Addr) h => Q (.normal) (mkTm [(0, some (.pointer p71)), (3, some (.pointer (some a72))), (4, some (.pointer (some a73)))]) h) p13 a14 a15 b16 h
set_option maxRecDepth 100000 in
def lex_Scanner_checked (p1 : Option Addr) (x2 : Int) (s3 : ByteArray) (x4 : Int) (x5 : Int) (x6 : Int) (h : Hp) (K : Value → Hp → Prop) : Prop :=
  newC h (.cells #[(.int .i64 x2), (.string s3), (.int .u32 x4), (.int .i64 x5), (.int .i64 x6)] 52 (0, 0)) fun a8 h7 => 
  newC h7 (.cells #[(.int .i64 0), (.string ⟨#[]⟩), (.int .u32 0), (.int .i64 0), (.int .i64 0)] 52 (0, 0)) fun a10 h9 => 
  ∃ x128 : Int, HV Tryz.prog (Instr.loadAt 49 (.pointer (some a8))) h9 (.int .i64 x128) ∧ 
  br (x128 == 1)
  (∃ s129 : ByteArray, HV Tryz.prog (Instr.loadAt 9 (.pointer (some (a8.add 1)))) h9 (.string s129) ∧ 
  lex_Scanner_checked_j2
  (fun (p130 : Option Addr) (a131 : Addr) (a132 : Addr) (h133 : Hp) =>
  ∃ x134 : Int, ∃ s135 : ByteArray, ∃ x136 : Int, ∃ x137 : Int, ∃ x138 : Int, HV Tryz.prog (Instr.loadAt 52 (.pointer (some a131))) h133 (.agg #[(.int .i64 x134), (.string s135), (.int .u32 x136), (.int .i64 x137), (.int .i64 x138)]) ∧ 
  drf p130 fun a139 =>
  ∃ p140 : Option Addr, HV Tryz.prog (Instr.loadAt 27 (.pointer (some (a139.add 6)))) h133 (.pointer p140) ∧ 
  ∃ b141 : Bool, PV Tryz.prog (binOp .eql 27 (.pointer p140) (.pointer none)) (.bool b141) ∧
  HU Tryz.prog (Instr.storeAt 52 (.pointer (some a132)) (.agg #[(.int .i64 x134), (.string s135), (.int .u32 x136), (.int .i64 x137), (.int .i64 x138)])) h133 fun h142 => HV Tryz.prog (Instr.loadAt 27 (.pointer (some (a139.add 6)))) h142 (.pointer p140) ∧ 
  ∃ x143 : Int, ∃ s144 : ByteArray, ∃ x145 : Int, ∃ x146 : Int, ∃ x147 : Int, HV Tryz.prog (Instr.loadAt 52 (.pointer (some a132))) h142 (.agg #[(.int .i64 x143), (.string s144), (.int .u32 x145), (.int .i64 x146), (.int .i64 x147)]) ∧ K (.tuple #[(.agg #[(.int .i64 x143), (.string s144), (.int .u32 x145), (.int .i64 x146), (.int .i64 x147)]), (.bool b141)]) h142)
  p1 a8 a10 (decide (((s129 : ByteArray).size : Int) > 16)) h9)
  (lex_Scanner_checked_j2
  (fun (p148 : Option Addr) (a149 : Addr) (a150 : Addr) (h151 : Hp) =>
  ∃ x152 : Int, ∃ s153 : ByteArray, ∃ x154 : Int, ∃ x155 : Int, ∃ x156 : Int, HV Tryz.prog (Instr.loadAt 52 (.pointer (some a149))) h151 (.agg #[(.int .i64 x152), (.string s153), (.int .u32 x154), (.int .i64 x155), (.int .i64 x156)]) ∧ 
  drf p148 fun a157 =>
  ∃ p158 : Option Addr, HV Tryz.prog (Instr.loadAt 27 (.pointer (some (a157.add 6)))) h151 (.pointer p158) ∧ 
  ∃ b159 : Bool, PV Tryz.prog (binOp .eql 27 (.pointer p158) (.pointer none)) (.bool b159) ∧
  HU Tryz.prog (Instr.storeAt 52 (.pointer (some a150)) (.agg #[(.int .i64 x152), (.string s153), (.int .u32 x154), (.int .i64 x155), (.int .i64 x156)])) h151 fun h160 => HV Tryz.prog (Instr.loadAt 27 (.pointer (some (a157.add 6)))) h160 (.pointer p158) ∧ 
  ∃ x161 : Int, ∃ s162 : ByteArray, ∃ x163 : Int, ∃ x164 : Int, ∃ x165 : Int, HV Tryz.prog (Instr.loadAt 52 (.pointer (some a150))) h160 (.agg #[(.int .i64 x161), (.string s162), (.int .u32 x163), (.int .i64 x164), (.int .i64 x165)]) ∧ K (.tuple #[(.agg #[(.int .i64 x161), (.string s162), (.int .u32 x163), (.int .i64 x164), (.int .i64 x165)]), (.bool b159)]) h160)
  p1 a8 a10 false h9)
def lex_Scanner_checked_lp (i : Nat) (Q : Qx) (tm : Tm) (h : Hp) : Prop := match Nat.beq i 3306 with
  | true => ∃ k, lex_Scanner_checked_l3_L Q k tm h
  | false => match Nat.beq i 12 with
  | true => lex_Scanner_checked_j2_L Q tm h
  | false => False
def lex_Scanner_checked_cut (i : Nat) : Option (List Nat) := match Nat.beq i 12 with
  | true => some [0, 3, 4, 9]
  | false => none
set_option maxRecDepth 100000 in
theorem lex_Scanner_checked_l3_step (Q : Qx) (k : Nat) (p84 : Option Addr) (a85 : Addr) (a86 : Addr) (x87 : Int) (a88 : Addr) (h : Hp) : lex_Scanner_checked_l3_L Q (k + 1) (mkTm [(0, some (.pointer p84)), (3, some (.pointer (some a85))), (4, some (.pointer (some a86))), (6, some (.int .i64 x87)), (34, some (.pointer (some a88)))]) h =
    codeWp Tryz.prog 77 false lex_Scanner_checked_lp lex_Scanner_checked_cut (sub (bodyOf Tryz.f87) [true, false, false, true, true, true, false, true, false, true, false, false]) 6612 (thenQ (fun tm h => lex_Scanner_checked_l3_L Q k (mask [0, 3, 4, 6, 34] tm) h) (maskQ (fun e => match e with | .exit 1 => [0, 3, 4, 6] | _ => []) Q)) (mkTm [(0, some (.pointer p84)), (3, some (.pointer (some a85))), (4, some (.pointer (some a86))), (6, some (.int .i64 x87)), (34, some (.pointer (some a88)))]) h := by kernel_rfl
theorem lex_Scanner_checked_l3_mask (Q : Qx) (k : Nat) (tm : Tm) (h : Hp) : lex_Scanner_checked_l3_L Q k tm h ↔ lex_Scanner_checked_l3_L Q k (mask [0, 3, 4, 6, 34] tm) h := Iff.rfl
set_option maxRecDepth 100000 in
theorem lex_Scanner_checked_l3_snd : SndAt Tryz.prog 77 none (sub (bodyOf Tryz.f87) [true, false, false, true, true, true, false, true, false, true, false]) (lex_Scanner_checked_lp 3306) := by
  refine loop_sound (pn := false) (lp := lex_Scanner_checked_lp) (cut := lex_Scanner_checked_cut) (i := 3306) (c := (sub (bodyOf Tryz.f87) [true, false, false, true, true, true, false, true, false, true, false, false])) [0, 3, 4, 6, 34] (fun e => match e with | .exit 1 => [0, 3, 4, 6] | _ => []) lex_Scanner_checked_l3_L ?_ ?_ ?_
  · exact good_by (pn := false) (c := (sub (bodyOf Tryz.f87) [true, false, false, true, true, true, false, true, false, true, false, false])) (i := 6612) (l := []) (by kernel_rfl) (fun _ h => by cases h)
  · intro Q tm h H
    obtain ⟨p84, e0, H⟩ := selP_ex H
    obtain ⟨a85, e3, H⟩ := selA_ex H
    obtain ⟨a86, e4, H⟩ := selA_ex H
    obtain ⟨x87, e6, H⟩ := selI_ex H
    obtain ⟨a88, e34, H⟩ := selA_ex H
    exact H
  · intro Q k tm h H
    have H0 := H
    obtain ⟨p84, e0, H⟩ := selP_ex H
    obtain ⟨a85, e3, H⟩ := selA_ex H
    obtain ⟨a86, e4, H⟩ := selA_ex H
    obtain ⟨x87, e6, H⟩ := selI_ex H
    obtain ⟨a88, e34, H⟩ := selA_ex H
    have e : mask [0, 3, 4, 6, 34] tm = mkTm [(0, some (.pointer p84)), (3, some (.pointer (some a85))), (4, some (.pointer (some a86))), (6, some (.int .i64 x87)), (34, some (.pointer (some a88)))] := by simp only [mask, List.map_cons, List.map_nil, e0, e3, e4, e6, e34] <;> rfl
    rw [e]
    refine Eq.mp (lex_Scanner_checked_l3_step Q k p84 a85 a86 x87 a88 h) ?_
    rw [← e]
    exact (lex_Scanner_checked_l3_mask Q (k + 1) tm h).mp H0
set_option maxRecDepth 100000 in
theorem lex_Scanner_checked_j2_step (Q : Qx) (p13 : Option Addr) (a14 : Addr) (a15 : Addr) (b16 : Bool) (h : Hp) : lex_Scanner_checked_j2_L Q (mkTm [(0, some (.pointer p13)), (3, some (.pointer (some a14))), (4, some (.pointer (some a15))), (9, some (.bool b16))]) h =
    codeWp Tryz.prog 77 false lex_Scanner_checked_lp lex_Scanner_checked_cut (sub (bodyOf Tryz.f87) [true, false, false, true]) 25 (maskQ (fun e => match e with | .normal => [0, 3, 4] | _ => []) Q) (mkTm [(0, some (.pointer p13)), (3, some (.pointer (some a14))), (4, some (.pointer (some a15))), (9, some (.bool b16))]) h := by kernel_rfl
theorem lex_Scanner_checked_j2_mask (Q : Qx) (tm : Tm) (h : Hp) : lex_Scanner_checked_j2_L Q tm h ↔ lex_Scanner_checked_j2_L Q (mask [0, 3, 4, 9] tm) h := Iff.rfl
set_option maxRecDepth 100000 in
theorem lex_Scanner_checked_j2_snd : SndAt Tryz.prog 77 none (sub (bodyOf Tryz.f87) [true, false, false, true]) (lex_Scanner_checked_lp 12) := by
  refine join_sound (pn := false) (lp := lex_Scanner_checked_lp) (cut := lex_Scanner_checked_cut) (i := 12) (c := (sub (bodyOf Tryz.f87) [true, false, false, true])) [0, 3, 4, 9] (fun e => match e with | .normal => [0, 3, 4] | _ => []) lex_Scanner_checked_j2_L ?_ ?_
  · exact good_by (pn := false) (c := (sub (bodyOf Tryz.f87) [true, false, false, true])) (i := 25) (l := [(3306, (sub (bodyOf Tryz.f87) [true, false, false, true, true, true, false, true, false, true, false]))]) (by kernel_rfl) (List.forall_mem_cons.2 ⟨lex_Scanner_checked_l3_snd, (fun _ h => by cases h)⟩)
  · intro Q tm h H
    have H0 := H
    obtain ⟨p13, e0, H⟩ := selP_ex H
    obtain ⟨a14, e3, H⟩ := selA_ex H
    obtain ⟨a15, e4, H⟩ := selA_ex H
    obtain ⟨b16, e9, H⟩ := selB_ex H
    have e : mask [0, 3, 4, 9] tm = mkTm [(0, some (.pointer p13)), (3, some (.pointer (some a14))), (4, some (.pointer (some a15))), (9, some (.bool b16))] := by simp only [mask, List.map_cons, List.map_nil, e0, e3, e4, e9] <;> rfl
    rw [e]
    refine Eq.mp (lex_Scanner_checked_j2_step Q p13 a14 a15 b16 h) ?_
    rw [← e]
    exact (lex_Scanner_checked_j2_mask Q tm h).mp H0
set_option maxRecDepth 100000 in
theorem lex_Scanner_checked_eq (p1 : Option Addr) (x2 : Int) (s3 : ByteArray) (x4 : Int) (x5 : Int) (x6 : Int) (h : Hp) (K : Value → Hp → Prop) : lex_Scanner_checked p1 x2 s3 x4 x5 x6 h K =
    codeWp Tryz.prog 77 false lex_Scanner_checked_lp lex_Scanner_checked_cut (bodyOf Tryz.f87) 1 (endQ Tryz.prog Tryz.f87.results.toList K) (argTm [(.pointer p1), (.agg #[(.int .i64 x2), (.string s3), (.int .u32 x4), (.int .i64 x5), (.int .i64 x6)])]) h := by kernel_rfl
set_option maxRecDepth 100000 in
theorem lex_Scanner_checked_ok (p1 : Option Addr) (x2 : Int) (s3 : ByteArray) (x4 : Int) (x5 : Int) (x6 : Int) {h : Hp} {K : Value → Hp → Prop} (H : lex_Scanner_checked p1 x2 s3 x4 x5 x6 h K) : CallsH Tryz.prog 87 #[(.pointer p1), (.agg #[(.int .i64 x2), (.string s3), (.int .u32 x4), (.int .i64 x5), (.int .i64 x6)])] h K :=
  calls_of (pn := false) (args := [(.pointer p1), (.agg #[(.int .i64 x2), (.string s3), (.int .u32 x4), (.int .i64 x5), (.int .i64 x6)])]) (n := 77) (lp := lex_Scanner_checked_lp) (cut := lex_Scanner_checked_cut) Tryz.func87 (c := bodyOf Tryz.f87) (by kernel_rfl) (by kernel_rfl) (by kernel_rfl) (good_by (pn := false) (c := (bodyOf Tryz.f87)) (i := 1) (l := [(12, (sub (bodyOf Tryz.f87) [true, false, false, true]))]) (by kernel_rfl) (List.forall_mem_cons.2 ⟨lex_Scanner_checked_j2_snd, (fun _ h => by cases h)⟩))
    (Eq.mp (lex_Scanner_checked_eq p1 x2 s3 x4 x5 x6 h K) H)

/-! ### (*quintet/lex.Scanner).read: function 71 -/
def lex_Scanner_read_m1_0 (K0 : Addr → Bool → Hp → Prop)  : Nat → (Option Addr) → Addr → Hp → Prop
  | 0, _, _, _ => False
  | k + 1, p161, a162, h =>
    CallsH Tryz.prog 88 #[(.pointer p161)] h fun r299 h298 =>
    ∃ x300 : Int, ∃ s301 : ByteArray, ∃ x302 : Int, ∃ x303 : Int, ∃ x304 : Int, ∃ b305 : Bool, r299 = (.tuple #[(.agg #[(.int .i64 x300), (.string s301), (.int .u32 x302), (.int .i64 x303), (.int .i64 x304)]), (.bool b305)]) ∧ 
    HU Tryz.prog (Instr.storeAt 52 (.pointer (some a162)) (.agg #[(.int .i64 x300), (.string s301), (.int .u32 x302), (.int .i64 x303), (.int .i64 x304)])) h298 fun h306 => 
    K0 a162 b305 h306
def lex_Scanner_read_m1_0_L (Q : Qx) (k : Nat) (tm : Tm) (h : Hp) : Prop :=
  selP (tm 0) fun p161 =>
  selA (tm 2) fun a162 =>
  lex_Scanner_read_m1_0 (fun (a296 : Addr) (b297 : Bool) h => Q (.ret) (mkTm [(2, some (.pointer (some a296))), (3, some (.bool b297))]) h) k p161 a162 h
def lex_Scanner_read_m1_2 (K0 : Addr → Bool → Hp → Prop)  : Nat → (Option Addr) → Addr → Hp → Prop
  | 0, _, _, _ => False
  | k + 1, p146, a147, h =>
    drf p146 fun a307 =>
    ∃ x308 : Int, HV Tryz.prog (Instr.loadAt 3 (.pointer (some (a307.add 1)))) h (.int .i64 x308) ∧ 
    drf p146 fun a309 =>
    ∃ s310 : ByteArray, HV Tryz.prog (Instr.loadAt 9 (.pointer (some a309))) h (.string s310) ∧ 
    br (decide (x308 < ((s310 : ByteArray).size : Int)))
    (drf p146 fun a311 =>
    ∃ s312 : ByteArray, HV Tryz.prog (Instr.loadAt 9 (.pointer (some a311))) h (.string s312) ∧ 
    drf p146 fun a313 =>
    ∃ x314 : Int, HV Tryz.prog (Instr.loadAt 3 (.pointer (some (a313.add 1)))) h (.int .i64 x314) ∧ 
    ∃ x315 : Int, PV Tryz.prog (Instr.index 9 (.string s312) (.int .i64 x314)) (.int .u8 x315) ∧
    br (x315 != 10)
    (drf p146 fun a316 =>
    ∃ x317 : Int, HV Tryz.prog (Instr.loadAt 3 (.pointer (some (a316.add 1)))) h (.int .i64 x317) ∧ 
    drf p146 fun a318 =>
    HU Tryz.prog (Instr.storeAt 3 (.pointer (some (a318.add 1))) (.int .i64 (IntKind.i64.wrap (x317 + 1)))) h fun h319 => 
    lex_Scanner_read_m1_2 K0 k p146 a147 h319)
    (lex_Scanner_read_m1_0 K0 (k + 1) p146 a147 h))
    (lex_Scanner_read_m1_0 K0 (k + 1) p146 a147 h)
def lex_Scanner_read_m1_2_L (Q : Qx) (k : Nat) (tm : Tm) (h : Hp) : Prop :=
  selP (tm 0) fun p146 =>
  selA (tm 2) fun a147 =>
  lex_Scanner_read_m1_2 (fun (a296 : Addr) (b297 : Bool) h => Q (.ret) (mkTm [(2, some (.pointer (some a296))), (3, some (.bool b297))]) h) k p146 a147 h
def lex_Scanner_read_m1_3 (K0 : Addr → Bool → Hp → Prop)  : Nat → (Option Addr) → Addr → Addr → Int → Hp → Prop
  | 0, _, _, _, _, _ => False
  | k + 1, p64, a65, a66, x67, h =>
    drf p64 fun a320 =>
    ∃ x321 : Int, HV Tryz.prog (Instr.loadAt 3 (.pointer (some (a320.add 1)))) h (.int .i64 x321) ∧ 
    drf p64 fun a322 =>
    HU Tryz.prog (Instr.storeAt 3 (.pointer (some (a322.add 1))) (.int .i64 (IntKind.i64.wrap (x321 + 1)))) h fun h323 => 
    ∃ x324 : Int, HV Tryz.prog (Instr.loadAt 49 (.pointer (some a66))) h323 (.int .i64 x324) ∧ 
    br (x324 != 3)
    (drf p64 fun a325 =>
    ∃ x326 : Int, HV Tryz.prog (Instr.loadAt 3 (.pointer (some (a325.add 1)))) h323 (.int .i64 x326) ∧ 
    drf p64 fun a327 =>
    ∃ s328 : ByteArray, HV Tryz.prog (Instr.loadAt 9 (.pointer (some a327))) h323 (.string s328) ∧ 
    br (decide (x326 < ((s328 : ByteArray).size : Int)))
    (drf p64 fun a329 =>
    ∃ s330 : ByteArray, HV Tryz.prog (Instr.loadAt 9 (.pointer (some a329))) h323 (.string s330) ∧ 
    drf p64 fun a331 =>
    ∃ x332 : Int, HV Tryz.prog (Instr.loadAt 3 (.pointer (some (a331.add 1)))) h323 (.int .i64 x332) ∧ 
    ∃ x333 : Int, PV Tryz.prog (Instr.index 9 (.string s330) (.int .i64 x332)) (.int .u8 x333) ∧
    CallsH Tryz.prog 86 #[(.int .i32 (IntKind.i32.wrap (x333)))] h323 fun r335 h334 =>
    ∃ x336 : Int, r335 = (.int .i64 x336) ∧ 
    ∃ x337 : Int, HV Tryz.prog (Instr.loadAt 49 (.pointer (some a66))) h334 (.int .i64 x337) ∧ HV Tryz.prog (Instr.loadAt 49 (.pointer (some a66))) h323 (.int .i64 x337) ∧ 
    br (x336 == x337)
    (lex_Scanner_read_m1_3 K0 k p64 a65 a66 x67 h334)
    (drf p64 fun a338 =>
    ∃ s339 : ByteArray, HV Tryz.prog (Instr.loadAt 9 (.pointer (some a338))) h334 (.string s339) ∧ 
    drf p64 fun a340 =>
    ∃ x341 : Int, HV Tryz.prog (Instr.loadAt 3 (.pointer (some (a340.add 1)))) h334 (.int .i64 x341) ∧ 
    ∃ s342 : ByteArray, PV Tryz.prog (Instr.sliceAt 9 (.string s339) (some (.int .i64 x67)) (some (.int .i64 x341)) none) (.string s342) ∧
    HU Tryz.prog (Instr.storeAt 9 (.pointer (some (a66.add 1))) (.string s342)) h334 fun h343 => 
    ∃ x344 : Int, ∃ s345 : ByteArray, ∃ x346 : Int, ∃ x347 : Int, ∃ x348 : Int, HV Tryz.prog (Instr.loadAt 52 (.pointer (some a66))) h343 (.agg #[(.int .i64 x344), (.string s345), (.int .u32 x346), (.int .i64 x347), (.int .i64 x348)]) ∧ 
    CallsH Tryz.prog 87 #[(.pointer p64), (.agg #[(.int .i64 x344), (.string s345), (.int .u32 x346), (.int .i64 x347), (.int .i64 x348)])] h343 fun r350 h349 =>
    ∃ x351 : Int, ∃ s352 : ByteArray, ∃ x353 : Int, ∃ x354 : Int, ∃ x355 : Int, ∃ b356 : Bool, r350 = (.tuple #[(.agg #[(.int .i64 x351), (.string s352), (.int .u32 x353), (.int .i64 x354), (.int .i64 x355)]), (.bool b356)]) ∧ 
    HU Tryz.prog (Instr.storeAt 52 (.pointer (some a65)) (.agg #[(.int .i64 x351), (.string s352), (.int .u32 x353), (.int .i64 x354), (.int .i64 x355)])) h349 fun h357 => 
    K0 a65 b356 h357))
    (drf p64 fun a358 =>
    ∃ s359 : ByteArray, HV Tryz.prog (Instr.loadAt 9 (.pointer (some a358))) h323 (.string s359) ∧ 
    drf p64 fun a360 =>
    ∃ x361 : Int, HV Tryz.prog (Instr.loadAt 3 (.pointer (some (a360.add 1)))) h323 (.int .i64 x361) ∧ 
    ∃ s362 : ByteArray, PV Tryz.prog (Instr.sliceAt 9 (.string s359) (some (.int .i64 x67)) (some (.int .i64 x361)) none) (.string s362) ∧
    HU Tryz.prog (Instr.storeAt 9 (.pointer (some (a66.add 1))) (.string s362)) h323 fun h363 => 
    ∃ x364 : Int, ∃ s365 : ByteArray, ∃ x366 : Int, ∃ x367 : Int, ∃ x368 : Int, HV Tryz.prog (Instr.loadAt 52 (.pointer (some a66))) h363 (.agg #[(.int .i64 x364), (.string s365), (.int .u32 x366), (.int .i64 x367), (.int .i64 x368)]) ∧ 
    CallsH Tryz.prog 87 #[(.pointer p64), (.agg #[(.int .i64 x364), (.string s365), (.int .u32 x366), (.int .i64 x367), (.int .i64 x368)])] h363 fun r370 h369 =>
    ∃ x371 : Int, ∃ s372 : ByteArray, ∃ x373 : Int, ∃ x374 : Int, ∃ x375 : Int, ∃ b376 : Bool, r370 = (.tuple #[(.agg #[(.int .i64 x371), (.string s372), (.int .u32 x373), (.int .i64 x374), (.int .i64 x375)]), (.bool b376)]) ∧ 
    HU Tryz.prog (Instr.storeAt 52 (.pointer (some a65)) (.agg #[(.int .i64 x371), (.string s372), (.int .u32 x373), (.int .i64 x374), (.int .i64 x375)])) h369 fun h377 => 
    K0 a65 b376 h377))
    (drf p64 fun a378 =>
    ∃ s379 : ByteArray, HV Tryz.prog (Instr.loadAt 9 (.pointer (some a378))) h323 (.string s379) ∧ 
    drf p64 fun a380 =>
    ∃ x381 : Int, HV Tryz.prog (Instr.loadAt 3 (.pointer (some (a380.add 1)))) h323 (.int .i64 x381) ∧ 
    ∃ s382 : ByteArray, PV Tryz.prog (Instr.sliceAt 9 (.string s379) (some (.int .i64 x67)) (some (.int .i64 x381)) none) (.string s382) ∧
    HU Tryz.prog (Instr.storeAt 9 (.pointer (some (a66.add 1))) (.string s382)) h323 fun h383 => 
    ∃ x384 : Int, ∃ s385 : ByteArray, ∃ x386 : Int, ∃ x387 : Int, ∃ x388 : Int, HV Tryz.prog (Instr.loadAt 52 (.pointer (some a66))) h383 (.agg #[(.int .i64 x384), (.string s385), (.int .u32 x386), (.int .i64 x387), (.int .i64 x388)]) ∧ 
    CallsH Tryz.prog 87 #[(.pointer p64), (.agg #[(.int .i64 x384), (.string s385), (.int .u32 x386), (.int .i64 x387), (.int .i64 x388)])] h383 fun r390 h389 =>
    ∃ x391 : Int, ∃ s392 : ByteArray, ∃ x393 : Int, ∃ x394 : Int, ∃ x395 : Int, ∃ b396 : Bool, r390 = (.tuple #[(.agg #[(.int .i64 x391), (.string s392), (.int .u32 x393), (.int .i64 x394), (.int .i64 x395)]), (.bool b396)]) ∧ 
    HU Tryz.prog (Instr.storeAt 52 (.pointer (some a65)) (.agg #[(.int .i64 x391), (.string s392), (.int .u32 x393), (.int .i64 x394), (.int .i64 x395)])) h389 fun h397 => 
    K0 a65 b396 h397)
def lex_Scanner_read_m1_3_L (Q : Qx) (k : Nat) (tm : Tm) (h : Hp) : Prop :=
  selP (tm 0) fun p64 =>
  selA (tm 2) fun a65 =>
  selA (tm 4) fun a66 =>
  selI .i64 (tm 5) fun x67 =>
  lex_Scanner_read_m1_3 (fun (a296 : Addr) (b297 : Bool) h => Q (.ret) (mkTm [(2, some (.pointer (some a296))), (3, some (.bool b297))]) h) k p64 a65 a66 x67 h
def lex_Scanner_read_m1_1 (K0 : Addr → Bool → Hp → Prop)  : Nat → (Option Addr) → Addr → Addr → Hp → Prop
  | 0, _, _, _, _ => False
  | k + 1, p15, a16, a17, h =>
    drf p15 fun a398 =>
    ∃ x399 : Int, HV Tryz.prog (Instr.loadAt 3 (.pointer (some (a398.add 1)))) h (.int .i64 x399) ∧ 
    drf p15 fun a400 =>
    ∃ s401 : ByteArray, HV Tryz.prog (Instr.loadAt 9 (.pointer (some a400))) h (.string s401) ∧ 
    br (x399 == ((s401 : ByteArray).size : Int))
    (lex_Scanner_read_m1_0 K0 k p15 a16 h)
    (drf p15 fun a402 =>
    ∃ s403 : ByteArray, HV Tryz.prog (Instr.loadAt 9 (.pointer (some a402))) h (.string s403) ∧ 
    drf p15 fun a404 =>
    ∃ x405 : Int, HV Tryz.prog (Instr.loadAt 3 (.pointer (some (a404.add 1)))) h (.int .i64 x405) ∧ 
    ∃ x406 : Int, PV Tryz.prog (Instr.index 9 (.string s403) (.int .i64 x405)) (.int .u8 x406) ∧
    br (x406 == 32)
    (drf p15 fun a407 =>
    ∃ x408 : Int, HV Tryz.prog (Instr.loadAt 3 (.pointer (some (a407.add 1)))) h (.int .i64 x408) ∧ 
    drf p15 fun a409 =>
    HU Tryz.prog (Instr.storeAt 3 (.pointer (some (a409.add 1))) (.int .i64 (IntKind.i64.wrap (x408 + 1)))) h fun h410 => 
    lex_Scanner_read_m1_1 K0 k p15 a16 a17 h410)
    (br (x406 == 9)
    (drf p15 fun a411 =>
    ∃ x412 : Int, HV Tryz.prog (Instr.loadAt 3 (.pointer (some (a411.add 1)))) h (.int .i64 x412) ∧ 
    drf p15 fun a413 =>
    HU Tryz.prog (Instr.storeAt 3 (.pointer (some (a413.add 1))) (.int .i64 (IntKind.i64.wrap (x412 + 1)))) h fun h414 => 
    lex_Scanner_read_m1_1 K0 k p15 a16 a17 h414)
    (br (x406 == 13)
    (drf p15 fun a415 =>
    ∃ x416 : Int, HV Tryz.prog (Instr.loadAt 3 (.pointer (some (a415.add 1)))) h (.int .i64 x416) ∧ 
    drf p15 fun a417 =>
    HU Tryz.prog (Instr.storeAt 3 (.pointer (some (a417.add 1))) (.int .i64 (IntKind.i64.wrap (x416 + 1)))) h fun h418 => 
    lex_Scanner_read_m1_1 K0 k p15 a16 a17 h418)
    (br (x406 == 35)
    (lex_Scanner_read_m1_2 K0 k p15 a16 h)
    (br (x406 == 10)
    (lex_Scanner_read_m1_0 K0 k p15 a16 h)
    (CallsH Tryz.prog 86 #[(.int .i32 (IntKind.i32.wrap (x406)))] h fun r420 h419 =>
    ∃ x421 : Int, r420 = (.int .i64 x421) ∧ 
    drf p15 fun a422 =>
    ∃ x423 : Int, HV Tryz.prog (Instr.loadAt 3 (.pointer (some (a422.add 2)))) h419 (.int .i64 x423) ∧ HV Tryz.prog (Instr.loadAt 3 (.pointer (some (a422.add 2)))) h (.int .i64 x423) ∧ 
    drf p15 fun a424 =>
    ∃ x425 : Int, HV Tryz.prog (Instr.loadAt 3 (.pointer (some (a424.add 1)))) h419 (.int .i64 x425) ∧ HV Tryz.prog (Instr.loadAt 3 (.pointer (some (a424.add 1)))) h (.int .i64 x425) ∧ 
    drf p15 fun a426 =>
    ∃ x427 : Int, HV Tryz.prog (Instr.loadAt 3 (.pointer (some (a426.add 3)))) h419 (.int .i64 x427) ∧ HV Tryz.prog (Instr.loadAt 3 (.pointer (some (a426.add 3)))) h (.int .i64 x427) ∧ 
    HU Tryz.prog (Instr.storeAt 52 (.pointer (some a17)) (.agg #[(.int .i64 x421), (.string ⟨#[]⟩), (.int .u32 0), (.int .i64 x423), (.int .i64 (IntKind.i64.wrap ((IntKind.i64.wrap (x425 - x427)) + 1)))])) h419 fun h428 => 
    drf p15 fun a429 =>
    ∃ x430 : Int, HV Tryz.prog (Instr.loadAt 3 (.pointer (some (a429.add 1)))) h428 (.int .i64 x430) ∧ 
    ∃ x431 : Int, HV Tryz.prog (Instr.loadAt 49 (.pointer (some a17))) h428 (.int .i64 x431) ∧ 
    br (x431 == 0)
    (∃ x432 : Int, HV Tryz.prog (Instr.loadAt 3 (.pointer (some (a17.add 3)))) h428 (.int .i64 x432) ∧ 
    ∃ x433 : Int, HV Tryz.prog (Instr.loadAt 3 (.pointer (some (a17.add 4)))) h428 (.int .i64 x433) ∧ 
    newC h428 (.cells #[(.int .i64 90), (.int .i64 x432), (.int .i64 x433)] 34 (0, 0)) fun a435 h434 => 
    drf p15 fun a436 =>
    HU Tryz.prog (Instr.storeAt 27 (.pointer (some (a436.add 6))) (.pointer (some a435))) h434 fun h437 => 
    ∃ x438 : Int, ∃ s439 : ByteArray, ∃ x440 : Int, ∃ x441 : Int, ∃ x442 : Int, HV Tryz.prog (Instr.loadAt 52 (.pointer (some a17))) h437 (.agg #[(.int .i64 x438), (.string s439), (.int .u32 x440), (.int .i64 x441), (.int .i64 x442)]) ∧ 
    HU Tryz.prog (Instr.storeAt 52 (.pointer (some a16)) (.agg #[(.int .i64 x438), (.string s439), (.int .u32 x440), (.int .i64 x441), (.int .i64 x442)])) h437 fun h443 => 
    K0 a16 false h443)
    (lex_Scanner_read_m1_3 K0 (k + 1) p15 a16 a17 x430 h428)))))))
def lex_Scanner_read_m1_1_L (Q : Qx) (k : Nat) (tm : Tm) (h : Hp) : Prop :=
  selP (tm 0) fun p15 =>
  selA (tm 2) fun a16 =>
  selA (tm 4) fun a17 =>
  lex_Scanner_read_m1_1 (fun (a296 : Addr) (b297 : Bool) h => Q (.ret) (mkTm [(2, some (.pointer (some a296))), (3, some (.bool b297))]) h) k p15 a16 a17 h
set_option maxRecDepth 100000 in
def lex_Scanner_read (p1 : Option Addr) (h : Hp) (K : Value → Hp → Prop) : Prop :=
  newC h (.cells #[(.int .i64 0), (.string ⟨#[]⟩), (.int .u32 0), (.int .i64 0), (.int .i64 0)] 52 (0, 0)) fun a3 h2 => 
  ∃ k444, newC h2 (.cells #[(.int .i64 0), (.string ⟨#[]⟩), (.int .u32 0), (.int .i64 0), (.int .i64 0)] 52 (0, 0)) fun a446 h445 => 
  drf p1 fun a447 =>
  ∃ p448 : Option Addr, HV Tryz.prog (Instr.loadAt 27 (.pointer (some (a447.add 6)))) h445 (.pointer p448) ∧ 
  ∃ b449 : Bool, PV Tryz.prog (binOp .neq 27 (.pointer p448) (.pointer none)) (.bool b449) ∧
  br b449
  (∃ x450 : Int, ∃ s451 : ByteArray, ∃ x452 : Int, ∃ x453 : Int, ∃ x454 : Int, HV Tryz.prog (Instr.loadAt 52 (.pointer (some a446))) h445 (.agg #[(.int .i64 x450), (.string s451), (.int .u32 x452), (.int .i64 x453), (.int .i64 x454)]) ∧ 
  HU Tryz.prog (Instr.storeAt 52 (.pointer (some a3)) (.agg #[(.int .i64 x450), (.string s451), (.int .u32 x452), (.int .i64 x453), (.int .i64 x454)])) h445 fun h455 => 
  ∃ x456 : Int, ∃ s457 : ByteArray, ∃ x458 : Int, ∃ x459 : Int, ∃ x460 : Int, HV Tryz.prog (Instr.loadAt 52 (.pointer (some a3))) h455 (.agg #[(.int .i64 x456), (.string s457), (.int .u32 x458), (.int .i64 x459), (.int .i64 x460)]) ∧ K (.tuple #[(.agg #[(.int .i64 x456), (.string s457), (.int .u32 x458), (.int .i64 x459), (.int .i64 x460)]), (.bool false)]) h455)
  (lex_Scanner_read_m1_1
  (fun (a461 : Addr) (b462 : Bool) (h463 : Hp) =>
  ∃ x464 : Int, ∃ s465 : ByteArray, ∃ x466 : Int, ∃ x467 : Int, ∃ x468 : Int, HV Tryz.prog (Instr.loadAt 52 (.pointer (some a461))) h463 (.agg #[(.int .i64 x464), (.string s465), (.int .u32 x466), (.int .i64 x467), (.int .i64 x468)]) ∧ K (.tuple #[(.agg #[(.int .i64 x464), (.string s465), (.int .u32 x466), (.int .i64 x467), (.int .i64 x468)]), (.bool b462)]) h463)
   (k444 + 1) p1 a3 a446 h445)
noncomputable def lex_Scanner_read_m1_ls : List Lab := [⟨1, (Code.seq .skip (sub (bodyOf Tryz.f71) [true, false, true, true, true, true])), 1, [0, 2, 4], (fun e => match e with | .ret => [2, 3] | _ => [])⟩, ⟨3, (Code.seq .skip (sub (bodyOf Tryz.f71) [true, false, true, true, true, true, true, true, true, true, true])), 1, [0, 2, 4, 5], (fun e => match e with | .ret => [2, 3] | _ => [])⟩, ⟨2, (Code.seq .skip (sub (bodyOf Tryz.f71) [true, false, true, true, true, true, true, true, true, true, true, true, true, true, true, true])), 1, [0, 2], (fun e => match e with | .ret => [2, 3] | _ => [])⟩, ⟨0, (Code.seq .skip (sub (bodyOf Tryz.f71) [true, false, true, true, true, true, true, true, true, true, true, true, true, true, true, true, true, true])), 1, [0, 2], (fun e => match e with | .ret => [2, 3] | _ => [])⟩]
def lex_Scanner_read_m1_G (l : Nat) (Q : Qx) (k : Nat) (tm : Tm) (h : Hp) : Prop := match Nat.beq l 1 with
  | true => lex_Scanner_read_m1_1_L Q k tm h
  | false => match Nat.beq l 3 with
  | true => lex_Scanner_read_m1_3_L Q k tm h
  | false => match Nat.beq l 2 with
  | true => lex_Scanner_read_m1_2_L Q k tm h
  | false => match Nat.beq l 0 with
  | true => lex_Scanner_read_m1_0_L Q k tm h
  | false => False
def lex_Scanner_read_m1_S (Q : Qx) (tm : Tm) (h : Hp) : Prop := ∃ k, codeWp Tryz.prog 170 false lp0 cut0 (sub (bodyOf Tryz.f71) [true, false]) 6 (gotoM lex_Scanner_read_m1_ls (fun l tm h => lex_Scanner_read_m1_G l Q k tm h) Q) tm h
def lex_Scanner_read_lp (i : Nat) (Q : Qx) (tm : Tm) (h : Hp) : Prop := match Nat.beq i 3 with
  | true => lex_Scanner_read_m1_S Q tm h
  | false => False
def lex_Scanner_read_cut (i : Nat) : Option (List Nat) := match Nat.beq i 3 with
  | true => some []
  | false => none
set_option maxRecDepth 100000 in
theorem lex_Scanner_read_m1_1_step (Q : Qx) (k : Nat) (p15 : Option Addr) (a16 : Addr) (a17 : Addr) (h : Hp) : lex_Scanner_read_m1_G 1 Q (k + 1) (mkTm [(0, some (.pointer p15)), (2, some (.pointer (some a16))), (4, some (.pointer (some a17)))]) h =
    codeWp Tryz.prog 170 false lp0 cut0 (Code.seq .skip (sub (bodyOf Tryz.f71) [true, false, true, true, true, true])) 1 (gotoM lex_Scanner_read_m1_ls (fun l tm h => lex_Scanner_read_m1_G l Q k tm h) (maskQ (fun e => match e with | .ret => [2, 3] | _ => []) Q)) (mkTm [(0, some (.pointer p15)), (2, some (.pointer (some a16))), (4, some (.pointer (some a17)))]) h := by kernel_rfl
theorem lex_Scanner_read_m1_1_mask (Q : Qx) (k : Nat) (tm : Tm) (h : Hp) : lex_Scanner_read_m1_1_L Q k tm h ↔ lex_Scanner_read_m1_1_L Q k (mask [0, 2, 4] tm) h := Iff.rfl
set_option maxRecDepth 100000 in
theorem lex_Scanner_read_m1_1_ok : findLabel (sub (bodyOf Tryz.f71) [true, false]) 1 = some (Code.seq .skip (sub (bodyOf Tryz.f71) [true, false, true, true, true, true])) ∧ Good Tryz.prog 170 none false lp0 cut0 (Code.seq .skip (sub (bodyOf Tryz.f71) [true, false, true, true, true, true])) 1 ∧ (∀ Q tm h, ¬ lex_Scanner_read_m1_G 1 Q 0 tm h) ∧
      ∀ Q k tm h, lex_Scanner_read_m1_G 1 Q (k + 1) tm h → codeWp Tryz.prog 170 false lp0 cut0 (Code.seq .skip (sub (bodyOf Tryz.f71) [true, false, true, true, true, true])) 1 (gotoM lex_Scanner_read_m1_ls (fun l tm h => lex_Scanner_read_m1_G l Q k tm h) (maskQ (fun e => match e with | .ret => [2, 3] | _ => []) Q)) (mask [0, 2, 4] tm) h := by
  refine ⟨by kernel_rfl, good_by (pn := false) (c := (Code.seq .skip (sub (bodyOf Tryz.f71) [true, false, true, true, true, true]))) (i := 1) (l := []) (by kernel_rfl) (fun _ h => by cases h), ?_, ?_⟩
  · intro Q tm h H
    have H : lex_Scanner_read_m1_1_L Q 0 tm h := H
    obtain ⟨p15, e0, H⟩ := selP_ex H
    obtain ⟨a16, e2, H⟩ := selA_ex H
    obtain ⟨a17, e4, H⟩ := selA_ex H
    exact H
  · intro Q k tm h H
    have H : lex_Scanner_read_m1_1_L Q (k + 1) tm h := H
    have H0 := H
    obtain ⟨p15, e0, H⟩ := selP_ex H
    obtain ⟨a16, e2, H⟩ := selA_ex H
    obtain ⟨a17, e4, H⟩ := selA_ex H
    have e : mask [0, 2, 4] tm = mkTm [(0, some (.pointer p15)), (2, some (.pointer (some a16))), (4, some (.pointer (some a17)))] := by simp only [mask, List.map_cons, List.map_nil, e0, e2, e4] <;> rfl
    rw [e]
    refine Eq.mp (lex_Scanner_read_m1_1_step Q k p15 a16 a17 h) ?_
    rw [← e]
    exact (lex_Scanner_read_m1_1_mask Q (k + 1) tm h).mp H0
set_option maxRecDepth 100000 in
theorem lex_Scanner_read_m1_3_step (Q : Qx) (k : Nat) (p64 : Option Addr) (a65 : Addr) (a66 : Addr) (x67 : Int) (h : Hp) : lex_Scanner_read_m1_G 3 Q (k + 1) (mkTm [(0, some (.pointer p64)), (2, some (.pointer (some a65))), (4, some (.pointer (some a66))), (5, some (.int .i64 x67))]) h =
    codeWp Tryz.prog 170 false lp0 cut0 (Code.seq .skip (sub (bodyOf Tryz.f71) [true, false, true, true, true, true, true, true, true, true, true])) 1 (gotoM lex_Scanner_read_m1_ls (fun l tm h => lex_Scanner_read_m1_G l Q k tm h) (maskQ (fun e => match e with | .ret => [2, 3] | _ => []) Q)) (mkTm [(0, some (.pointer p64)), (2, some (.pointer (some a65))), (4, some (.pointer (some a66))), (5, some (.int .i64 x67))]) h := by kernel_rfl
theorem lex_Scanner_read_m1_3_mask (Q : Qx) (k : Nat) (tm : Tm) (h : Hp) : lex_Scanner_read_m1_3_L Q k tm h ↔ lex_Scanner_read_m1_3_L Q k (mask [0, 2, 4, 5] tm) h := Iff.rfl
set_option maxRecDepth 100000 in
theorem lex_Scanner_read_m1_3_ok : findLabel (sub (bodyOf Tryz.f71) [true, false]) 3 = some (Code.seq .skip (sub (bodyOf Tryz.f71) [true, false, true, true, true, true, true, true, true, true, true])) ∧ Good Tryz.prog 170 none false lp0 cut0 (Code.seq .skip (sub (bodyOf Tryz.f71) [true, false, true, true, true, true, true, true, true, true, true])) 1 ∧ (∀ Q tm h, ¬ lex_Scanner_read_m1_G 3 Q 0 tm h) ∧
      ∀ Q k tm h, lex_Scanner_read_m1_G 3 Q (k + 1) tm h → codeWp Tryz.prog 170 false lp0 cut0 (Code.seq .skip (sub (bodyOf Tryz.f71) [true, false, true, true, true, true, true, true, true, true, true])) 1 (gotoM lex_Scanner_read_m1_ls (fun l tm h => lex_Scanner_read_m1_G l Q k tm h) (maskQ (fun e => match e with | .ret => [2, 3] | _ => []) Q)) (mask [0, 2, 4, 5] tm) h := by
  refine ⟨by kernel_rfl, good_by (pn := false) (c := (Code.seq .skip (sub (bodyOf Tryz.f71) [true, false, true, true, true, true, true, true, true, true, true]))) (i := 1) (l := []) (by kernel_rfl) (fun _ h => by cases h), ?_, ?_⟩
  · intro Q tm h H
    have H : lex_Scanner_read_m1_3_L Q 0 tm h := H
    obtain ⟨p64, e0, H⟩ := selP_ex H
    obtain ⟨a65, e2, H⟩ := selA_ex H
    obtain ⟨a66, e4, H⟩ := selA_ex H
    obtain ⟨x67, e5, H⟩ := selI_ex H
    exact H
  · intro Q k tm h H
    have H : lex_Scanner_read_m1_3_L Q (k + 1) tm h := H
    have H0 := H
    obtain ⟨p64, e0, H⟩ := selP_ex H
    obtain ⟨a65, e2, H⟩ := selA_ex H
    obtain ⟨a66, e4, H⟩ := selA_ex H
    obtain ⟨x67, e5, H⟩ := selI_ex H
    have e : mask [0, 2, 4, 5] tm = mkTm [(0, some (.pointer p64)), (2, some (.pointer (some a65))), (4, some (.pointer (some a66))), (5, some (.int .i64 x67))] := by simp only [mask, List.map_cons, List.map_nil, e0, e2, e4, e5] <;> rfl
    rw [e]
    refine Eq.mp (lex_Scanner_read_m1_3_step Q k p64 a65 a66 x67 h) ?_
    rw [← e]
    exact (lex_Scanner_read_m1_3_mask Q (k + 1) tm h).mp H0
set_option maxRecDepth 100000 in
theorem lex_Scanner_read_m1_2_step (Q : Qx) (k : Nat) (p146 : Option Addr) (a147 : Addr) (h : Hp) : lex_Scanner_read_m1_G 2 Q (k + 1) (mkTm [(0, some (.pointer p146)), (2, some (.pointer (some a147)))]) h =
    codeWp Tryz.prog 170 false lp0 cut0 (Code.seq .skip (sub (bodyOf Tryz.f71) [true, false, true, true, true, true, true, true, true, true, true, true, true, true, true, true])) 1 (gotoM lex_Scanner_read_m1_ls (fun l tm h => lex_Scanner_read_m1_G l Q k tm h) (maskQ (fun e => match e with | .ret => [2, 3] | _ => []) Q)) (mkTm [(0, some (.pointer p146)), (2, some (.pointer (some a147)))]) h := by kernel_rfl
theorem lex_Scanner_read_m1_2_mask (Q : Qx) (k : Nat) (tm : Tm) (h : Hp) : lex_Scanner_read_m1_2_L Q k tm h ↔ lex_Scanner_read_m1_2_L Q k (mask [0, 2] tm) h := Iff.rfl
set_option maxRecDepth 100000 in
theorem lex_Scanner_read_m1_2_ok : findLabel (sub (bodyOf Tryz.f71) [true, false]) 2 = some (Code.seq .skip (sub (bodyOf Tryz.f71) [true, false, true, true, true, true, true, true, true, true, true, true, true, true, true, true])) ∧ Good Tryz.prog 170 none false lp0 cut0 (Code.seq .skip (sub (bodyOf Tryz.f71) [true, false, true, true, true, true, true, true, true, true, true, true, true, true, true, true])) 1 ∧ (∀ Q tm h, ¬ lex_Scanner_read_m1_G 2 Q 0 tm h) ∧
      ∀ Q k tm h, lex_Scanner_read_m1_G 2 Q (k + 1) tm h → codeWp Tryz.prog 170 false lp0 cut0 (Code.seq .skip (sub (bodyOf Tryz.f71) [true, false, true, true, true, true, true, true, true, true, true, true, true, true, true, true])) 1 (gotoM lex_Scanner_read_m1_ls (fun l tm h => lex_Scanner_read_m1_G l Q k tm h) (maskQ (fun e => match e with | .ret => [2, 3] | _ => []) Q)) (mask [0, 2] tm) h := by
  refine ⟨by kernel_rfl, good_by (pn := false) (c := (Code.seq .skip (sub (bodyOf Tryz.f71) [true, false, true, true, true, true, true, true, true, true, true, true, true, true, true, true]))) (i := 1) (l := []) (by kernel_rfl) (fun _ h => by cases h), ?_, ?_⟩
  · intro Q tm h H
    have H : lex_Scanner_read_m1_2_L Q 0 tm h := H
    obtain ⟨p146, e0, H⟩ := selP_ex H
    obtain ⟨a147, e2, H⟩ := selA_ex H
    exact H
  · intro Q k tm h H
    have H : lex_Scanner_read_m1_2_L Q (k + 1) tm h := H
    have H0 := H
    obtain ⟨p146, e0, H⟩ := selP_ex H
    obtain ⟨a147, e2, H⟩ := selA_ex H
    have e : mask [0, 2] tm = mkTm [(0, some (.pointer p146)), (2, some (.pointer (some a147)))] := by simp only [mask, List.map_cons, List.map_nil, e0, e2] <;> rfl
    rw [e]
    refine Eq.mp (lex_Scanner_read_m1_2_step Q k p146 a147 h) ?_
    rw [← e]
    exact (lex_Scanner_read_m1_2_mask Q (k + 1) tm h).mp H0
set_option maxRecDepth 100000 in
theorem lex_Scanner_read_m1_0_step (Q : Qx) (k : Nat) (p161 : Option Addr) (a162 : Addr) (h : Hp) : lex_Scanner_read_m1_G 0 Q (k + 1) (mkTm [(0, some (.pointer p161)), (2, some (.pointer (some a162)))]) h =
    codeWp Tryz.prog 170 false lp0 cut0 (Code.seq .skip (sub (bodyOf Tryz.f71) [true, false, true, true, true, true, true, true, true, true, true, true, true, true, true, true, true, true])) 1 (gotoM lex_Scanner_read_m1_ls (fun l tm h => lex_Scanner_read_m1_G l Q k tm h) (maskQ (fun e => match e with | .ret => [2, 3] | _ => []) Q)) (mkTm [(0, some (.pointer p161)), (2, some (.pointer (some a162)))]) h := by kernel_rfl
theorem lex_Scanner_read_m1_0_mask (Q : Qx) (k : Nat) (tm : Tm) (h : Hp) : lex_Scanner_read_m1_0_L Q k tm h ↔ lex_Scanner_read_m1_0_L Q k (mask [0, 2] tm) h := Iff.rfl
set_option maxRecDepth 100000 in
theorem lex_Scanner_read_m1_0_ok : findLabel (sub (bodyOf Tryz.f71) [true, false]) 0 = some (Code.seq .skip (sub (bodyOf Tryz.f71) [true, false, true, true, true, true, true, true, true, true, true, true, true, true, true, true, true, true])) ∧ Good Tryz.prog 170 none false lp0 cut0 (Code.seq .skip (sub (bodyOf Tryz.f71) [true, false, true, true, true, true, true, true, true, true, true, true, true, true, true, true, true, true])) 1 ∧ (∀ Q tm h, ¬ lex_Scanner_read_m1_G 0 Q 0 tm h) ∧
      ∀ Q k tm h, lex_Scanner_read_m1_G 0 Q (k + 1) tm h → codeWp Tryz.prog 170 false lp0 cut0 (Code.seq .skip (sub (bodyOf Tryz.f71) [true, false, true, true, true, true, true, true, true, true, true, true, true, true, true, true, true, true])) 1 (gotoM lex_Scanner_read_m1_ls (fun l tm h => lex_Scanner_read_m1_G l Q k tm h) (maskQ (fun e => match e with | .ret => [2, 3] | _ => []) Q)) (mask [0, 2] tm) h := by
  refine ⟨by kernel_rfl, good_by (pn := false) (c := (Code.seq .skip (sub (bodyOf Tryz.f71) [true, false, true, true, true, true, true, true, true, true, true, true, true, true, true, true, true, true]))) (i := 1) (l := []) (by kernel_rfl) (fun _ h => by cases h), ?_, ?_⟩
  · intro Q tm h H
    have H : lex_Scanner_read_m1_0_L Q 0 tm h := H
    obtain ⟨p161, e0, H⟩ := selP_ex H
    obtain ⟨a162, e2, H⟩ := selA_ex H
    exact H
  · intro Q k tm h H
    have H : lex_Scanner_read_m1_0_L Q (k + 1) tm h := H
    have H0 := H
    obtain ⟨p161, e0, H⟩ := selP_ex H
    obtain ⟨a162, e2, H⟩ := selA_ex H
    have e : mask [0, 2] tm = mkTm [(0, some (.pointer p161)), (2, some (.pointer (some a162)))] := by simp only [mask, List.map_cons, List.map_nil, e0, e2] <;> rfl
    rw [e]
    refine Eq.mp (lex_Scanner_read_m1_0_step Q k p161 a162 h) ?_
    rw [← e]
    exact (lex_Scanner_read_m1_0_mask Q (k + 1) tm h).mp H0
set_option maxRecDepth 100000 in
theorem lex_Scanner_read_m1_snd : SndAt Tryz.prog 170 none (sub (bodyOf Tryz.f71) [true]) (lex_Scanner_read_lp 3) :=
  scopes_sound (lp := lp0) (cut := cut0) (c := (sub (bodyOf Tryz.f71) [true, false])) (i := 6) lex_Scanner_read_m1_ls lex_Scanner_read_m1_G (good_by (pn := false) (c := (sub (bodyOf Tryz.f71) [true, false])) (i := 6) (l := []) (by kernel_rfl) (fun _ h => by cases h)) (List.forall_mem_cons.2 ⟨lex_Scanner_read_m1_1_ok, (List.forall_mem_cons.2 ⟨lex_Scanner_read_m1_3_ok, (List.forall_mem_cons.2 ⟨lex_Scanner_read_m1_2_ok, (List.forall_mem_cons.2 ⟨lex_Scanner_read_m1_0_ok, (fun _ h => by cases h)⟩)⟩)⟩)⟩)
set_option maxRecDepth 100000 in
theorem lex_Scanner_read_eq (p1 : Option Addr) (h : Hp) (K : Value → Hp → Prop) : lex_Scanner_read p1 h K =
    codeWp Tryz.prog 170 false lex_Scanner_read_lp lex_Scanner_read_cut (bodyOf Tryz.f71) 1 (endQ Tryz.prog Tryz.f71.results.toList K) (argTm [(.pointer p1)]) h := by kernel_rfl
set_option maxRecDepth 100000 in
theorem lex_Scanner_read_ok (p1 : Option Addr) {h : Hp} {K : Value → Hp → Prop} (H : lex_Scanner_read p1 h K) : CallsH Tryz.prog 71 #[(.pointer p1)] h K :=
  calls_of (pn := false) (args := [(.pointer p1)]) (n := 170) (lp := lex_Scanner_read_lp) (cut := lex_Scanner_read_cut) Tryz.func71 (c := bodyOf Tryz.f71) (by kernel_rfl) (by kernel_rfl) (by kernel_rfl) (good_by (pn := false) (c := (bodyOf Tryz.f71)) (i := 1) (l := [(3, (sub (bodyOf Tryz.f71) [true]))]) (by kernel_rfl) (List.forall_mem_cons.2 ⟨lex_Scanner_read_m1_snd, (fun _ h => by cases h)⟩))
    (Eq.mp (lex_Scanner_read_eq p1 h K) H)

/-! ### quintet/lex.New: function 39 -/
set_option maxRecDepth 100000 in
def lex_New (s1 : ByteArray) (h : Hp) (K : Value → Hp → Prop) : Prop :=
  newC h (.cells #[(.string s1), (.int .i64 0), (.int .i64 1), (.int .i64 0), (.slice none 0 0), (.int .i64 0), (.pointer none)] 173 (0, 0)) fun a3 h2 => 
  br (decide (((s1 : ByteArray).size : Int) > 65536))
  (newC h2 (.cells #[(.int .i64 2), (.int .i64 0), (.int .i64 0)] 34 (0, 0)) fun a5 h4 => 
  HU Tryz.prog (Instr.storeAt 27 (.pointer (some (a3.add 6))) (.pointer (some a5))) h4 fun h6 => 
  K (.pointer (some a3)) h6)
  (CallsH Tryz.prog 70 #[(.pointer (some a3))] h2 fun r8 h7 =>
  r8 = (.tuple #[]) ∧ 
  K (.pointer (some a3)) h7)
def lex_New_lp (i : Nat) (Q : Qx) (tm : Tm) (h : Hp) : Prop := False
def lex_New_cut (i : Nat) : Option (List Nat) := none
set_option maxRecDepth 100000 in
theorem lex_New_eq (s1 : ByteArray) (h : Hp) (K : Value → Hp → Prop) : lex_New s1 h K =
    codeWp Tryz.prog 18 false lex_New_lp lex_New_cut (bodyOf Tryz.f39) 1 (endQ Tryz.prog Tryz.f39.results.toList K) (argTm [(.string s1)]) h := by kernel_rfl
set_option maxRecDepth 100000 in
theorem lex_New_ok (s1 : ByteArray) {h : Hp} {K : Value → Hp → Prop} (H : lex_New s1 h K) : CallsH Tryz.prog 39 #[(.string s1)] h K :=
  calls_of (pn := false) (args := [(.string s1)]) (n := 18) (lp := lex_New_lp) (cut := lex_New_cut) Tryz.func39 (c := bodyOf Tryz.f39) (by kernel_rfl) (by kernel_rfl) (by kernel_rfl) (good_by (pn := false) (c := (bodyOf Tryz.f39)) (i := 1) (l := []) (by kernel_rfl) (fun _ h => by cases h))
    (Eq.mp (lex_New_eq s1 h K) H)

/-! ### (*quintet/lex.Scanner).Next: function 40 -/
def lex_Scanner_Next_j1 (K0 : Addr → Bool → Value → Hp → Prop) (p44 : Option Addr) (a45 : Addr) (h : Hp) : Prop :=
  drf p44 fun a64 =>
  ∃ x65 : Int, HV Tryz.prog (Instr.loadAt 3 (.pointer (some (a64.add 5)))) h (.int .i64 x65) ∧ 
  drf p44 fun a66 =>
  HU Tryz.prog (Instr.storeAt 3 (.pointer (some (a66.add 5))) (.int .i64 (IntKind.i64.wrap (x65 + 1)))) h fun h67 => 
  drf p44 fun a68 =>
  ∃ A69 : Option Addr, ∃ l69 : Nat, ∃ c69 : Nat, HV Tryz.prog (Instr.loadAt 46 (.pointer (some (a68.add 4)))) h67 (.slice A69 l69 c69) ∧ 
  drf p44 fun a70 =>
  ∃ x71 : Int, HV Tryz.prog (Instr.loadAt 3 (.pointer (some (a70.add 5)))) h67 (.int .i64 x71) ∧ 
  ∃ a72 : Addr, PV Tryz.prog (Instr.indexAt 46 (.slice A69 l69 c69) (.int .i64 (IntKind.i64.wrap (x71 - 1)))) (.pointer (some a72)) ∧
  ∃ x73 : Int, ∃ s74 : ByteArray, ∃ x75 : Int, ∃ x76 : Int, ∃ x77 : Int, HV Tryz.prog (Instr.loadAt 52 (.pointer (some a72))) h67 (.agg #[(.int .i64 x73), (.string s74), (.int .u32 x75), (.int .i64 x76), (.int .i64 x77)]) ∧ 
  HU Tryz.prog (Instr.storeAt 52 (.pointer (some a45)) (.agg #[(.int .i64 x73), (.string s74), (.int .u32 x75), (.int .i64 x76), (.int .i64 x77)])) h67 fun h78 => 
  K0 a45 true .nilIface h78
def lex_Scanner_Next_j1_L (Q : Qx) (tm : Tm) (h : Hp) : Prop :=
  selP (tm 0) fun p44 =>
  selA (tm 2) fun a45 =>
  lex_Scanner_Next_j1 (fun (a61 : Addr) (b62 : Bool) (v63 : Value) h => Q (.ret) (mkTm [(2, some (.pointer (some a61))), (3, some (.bool b62)), (4, some v63)]) h) p44 a45 h
set_option maxRecDepth 100000 in
def lex_Scanner_Next (p1 : Option Addr) (h : Hp) (K : Value → Hp → Prop) : Prop :=
  newC h (.cells #[(.int .i64 0), (.string ⟨#[]⟩), (.int .u32 0), (.int .i64 0), (.int .i64 0)] 52 (0, 0)) fun a3 h2 => 
  ∃ b4 : Bool, PV Tryz.prog (binOp .eql 118 (.pointer p1) (.pointer none)) (.bool b4) ∧
  br b4
  (HU Tryz.prog (Instr.storeAt 52 (.pointer (some a3)) (.agg #[(.int .i64 0), (.string ⟨#[]⟩), (.int .u32 0), (.int .i64 0), (.int .i64 0)])) h2 fun h5 => 
  ∃ x6 : Int, ∃ s7 : ByteArray, ∃ x8 : Int, ∃ x9 : Int, ∃ x10 : Int, HV Tryz.prog (Instr.loadAt 52 (.pointer (some a3))) h5 (.agg #[(.int .i64 x6), (.string s7), (.int .u32 x8), (.int .i64 x9), (.int .i64 x10)]) ∧ K (.tuple #[(.agg #[(.int .i64 x6), (.string s7), (.int .u32 x8), (.int .i64 x9), (.int .i64 x10)]), (.bool false), .nilIface]) h5)
  (drf p1 fun a79 =>
  ∃ x80 : Int, HV Tryz.prog (Instr.loadAt 3 (.pointer (some (a79.add 5)))) h2 (.int .i64 x80) ∧ 
  drf p1 fun a81 =>
  ∃ A82 : Option Addr, ∃ l82 : Nat, ∃ c82 : Nat, HV Tryz.prog (Instr.loadAt 46 (.pointer (some (a81.add 4)))) h2 (.slice A82 l82 c82) ∧ 
  br (x80 == (l82 : Int))
  (CallsH Tryz.prog 71 #[(.pointer p1)] h2 fun r84 h83 =>
  ∃ x85 : Int, ∃ s86 : ByteArray, ∃ x87 : Int, ∃ x88 : Int, ∃ x89 : Int, ∃ b90 : Bool, r84 = (.tuple #[(.agg #[(.int .i64 x85), (.string s86), (.int .u32 x87), (.int .i64 x88), (.int .i64 x89)]), (.bool b90)]) ∧ 
  newC h83 (.cells #[(.int .i64 0), (.string ⟨#[]⟩), (.int .u32 0), (.int .i64 0), (.int .i64 0)] 52 (0, 0)) fun a92 h91 => 
  HU Tryz.prog (Instr.storeAt 52 (.pointer (some a92)) (.agg #[(.int .i64 x85), (.string s86), (.int .u32 x87), (.int .i64 x88), (.int .i64 x89)])) h91 fun h93 => 
  br (!b90)
  (CallsH Tryz.prog 72 #[(.pointer p1)] h93 fun r95 h94 =>
  ∃ v96 : Value, r95 = v96 ∧ 
  HU Tryz.prog (Instr.storeAt 52 (.pointer (some a3)) (.agg #[(.int .i64 0), (.string ⟨#[]⟩), (.int .u32 0), (.int .i64 0), (.int .i64 0)])) h94 fun h97 => 
  ∃ x98 : Int, ∃ s99 : ByteArray, ∃ x100 : Int, ∃ x101 : Int, ∃ x102 : Int, HV Tryz.prog (Instr.loadAt 52 (.pointer (some a3))) h97 (.agg #[(.int .i64 x98), (.string s99), (.int .u32 x100), (.int .i64 x101), (.int .i64 x102)]) ∧ K (.tuple #[(.agg #[(.int .i64 x98), (.string s99), (.int .u32 x100), (.int .i64 x101), (.int .i64 x102)]), (.bool false), v96]) h97)
  (drf p1 fun a103 =>
  ∃ A104 : Option Addr, ∃ l104 : Nat, ∃ c104 : Nat, HV Tryz.prog (Instr.loadAt 46 (.pointer (some (a103.add 4)))) h93 (.slice A104 l104 c104) ∧ 
  ∃ x105 : Int, ∃ s106 : ByteArray, ∃ x107 : Int, ∃ x108 : Int, ∃ x109 : Int, HV Tryz.prog (Instr.loadAt 52 (.pointer (some a92))) h93 (.agg #[(.int .i64 x105), (.string s106), (.int .u32 x107), (.int .i64 x108), (.int .i64 x109)]) ∧ 
  newC h93 (.cells #[(.int .i64 x105), (.string s106), (.int .u32 x107), (.int .i64 x108), (.int .i64 x109)] 52 (0, 0)) fun a111 h110 => HV Tryz.prog (Instr.loadAt 46 (.pointer (some (a103.add 4)))) h110 (.slice A104 l104 c104) ∧ 
  HW Tryz.prog (Builtin.append_ #[46, 46] 46 #[(.slice A104 l104 c104), (.slice (some a111) 1 1)]) h110 fun r113 h112 =>
  ∃ A114 : Option Addr, ∃ l114 : Nat, ∃ c114 : Nat, r113 = (.slice A114 l114 c114) ∧ 
  drf p1 fun a115 =>
  HU Tryz.prog (Instr.storeAt 46 (.pointer (some (a115.add 4))) (.slice A114 l114 c114)) h112 fun h116 => 
  lex_Scanner_Next_j1
  (fun (a117 : Addr) (b118 : Bool) (v119 : Value) (h120 : Hp) =>
  ∃ x121 : Int, ∃ s122 : ByteArray, ∃ x123 : Int, ∃ x124 : Int, ∃ x125 : Int, HV Tryz.prog (Instr.loadAt 52 (.pointer (some a117))) h120 (.agg #[(.int .i64 x121), (.string s122), (.int .u32 x123), (.int .i64 x124), (.int .i64 x125)]) ∧ K (.tuple #[(.agg #[(.int .i64 x121), (.string s122), (.int .u32 x123), (.int .i64 x124), (.int .i64 x125)]), (.bool b118), v119]) h120)
  p1 a3 h116))
  (lex_Scanner_Next_j1
  (fun (a126 : Addr) (b127 : Bool) (v128 : Value) (h129 : Hp) =>
  ∃ x130 : Int, ∃ s131 : ByteArray, ∃ x132 : Int, ∃ x133 : Int, ∃ x134 : Int, HV Tryz.prog (Instr.loadAt 52 (.pointer (some a126))) h129 (.agg #[(.int .i64 x130), (.string s131), (.int .u32 x132), (.int .i64 x133), (.int .i64 x134)]) ∧ K (.tuple #[(.agg #[(.int .i64 x130), (.string s131), (.int .u32 x132), (.int .i64 x133), (.int .i64 x134)]), (.bool b127), v128]) h129)
  p1 a3 h2))
def lex_Scanner_Next_lp (i : Nat) (Q : Qx) (tm : Tm) (h : Hp) : Prop := match Nat.beq i 7 with
  | true => lex_Scanner_Next_j1_L Q tm h
  | false => False
def lex_Scanner_Next_cut (i : Nat) : Option (List Nat) := match Nat.beq i 7 with
  | true => some [0, 2]
  | false => none
set_option maxRecDepth 100000 in
theorem lex_Scanner_Next_j1_step (Q : Qx) (p44 : Option Addr) (a45 : Addr) (h : Hp) : lex_Scanner_Next_j1_L Q (mkTm [(0, some (.pointer p44)), (2, some (.pointer (some a45)))]) h =
    codeWp Tryz.prog 58 false lex_Scanner_Next_lp lex_Scanner_Next_cut (sub (bodyOf Tryz.f40) [true, true, true]) 15 (maskQ (fun e => match e with | .ret => [2, 3, 4] | _ => []) Q) (mkTm [(0, some (.pointer p44)), (2, some (.pointer (some a45)))]) h := by kernel_rfl
theorem lex_Scanner_Next_j1_mask (Q : Qx) (tm : Tm) (h : Hp) : lex_Scanner_Next_j1_L Q tm h ↔ lex_Scanner_Next_j1_L Q (mask [0, 2] tm) h := Iff.rfl
set_option maxRecDepth 100000 in
theorem lex_Scanner_Next_j1_snd : SndAt Tryz.prog 58 none (sub (bodyOf Tryz.f40) [true, true, true]) (lex_Scanner_Next_lp 7) := by
  refine join_sound (pn := false) (lp := lex_Scanner_Next_lp) (cut := lex_Scanner_Next_cut) (i := 7) (c := (sub (bodyOf Tryz.f40) [true, true, true])) [0, 2] (fun e => match e with | .ret => [2, 3, 4] | _ => []) lex_Scanner_Next_j1_L ?_ ?_
  · exact good_by (pn := false) (c := (sub (bodyOf Tryz.f40) [true, true, true])) (i := 15) (l := []) (by kernel_rfl) (fun _ h => by cases h)
  · intro Q tm h H
    have H0 := H
    obtain ⟨p44, e0, H⟩ := selP_ex H
    obtain ⟨a45, e2, H⟩ := selA_ex H
    have e : mask [0, 2] tm = mkTm [(0, some (.pointer p44)), (2, some (.pointer (some a45)))] := by simp only [mask, List.map_cons, List.map_nil, e0, e2] <;> rfl
    rw [e]
    refine Eq.mp (lex_Scanner_Next_j1_step Q p44 a45 h) ?_
    rw [← e]
    exact (lex_Scanner_Next_j1_mask Q tm h).mp H0
set_option maxRecDepth 100000 in
theorem lex_Scanner_Next_eq (p1 : Option Addr) (h : Hp) (K : Value → Hp → Prop) : lex_Scanner_Next p1 h K =
    codeWp Tryz.prog 58 false lex_Scanner_Next_lp lex_Scanner_Next_cut (bodyOf Tryz.f40) 1 (endQ Tryz.prog Tryz.f40.results.toList K) (argTm [(.pointer p1)]) h := by kernel_rfl
set_option maxRecDepth 100000 in
theorem lex_Scanner_Next_ok (p1 : Option Addr) {h : Hp} {K : Value → Hp → Prop} (H : lex_Scanner_Next p1 h K) : CallsH Tryz.prog 40 #[(.pointer p1)] h K :=
  calls_of (pn := false) (args := [(.pointer p1)]) (n := 58) (lp := lex_Scanner_Next_lp) (cut := lex_Scanner_Next_cut) Tryz.func40 (c := bodyOf Tryz.f40) (by kernel_rfl) (by kernel_rfl) (by kernel_rfl) (good_by (pn := false) (c := (bodyOf Tryz.f40)) (i := 1) (l := [(7, (sub (bodyOf Tryz.f40) [true, true, true]))]) (by kernel_rfl) (List.forall_mem_cons.2 ⟨lex_Scanner_Next_j1_snd, (fun _ h => by cases h)⟩))
    (Eq.mp (lex_Scanner_Next_eq p1 h K) H)

/-! ### quintet/lex.All: function 14 -/
def lex_All_l1 (p5 : Option Addr) (K0 : (Option Addr) → Nat → Nat → Value → Hp → Prop)  : Nat → (Option Addr) → Nat → Nat → Hp → Prop
  | 0, _, _, _, _ => False
  | k + 1, A6, l6, c6, h =>
    CallsH Tryz.prog 40 #[(.pointer p5)] h fun r33 h32 =>
    ∃ x34 : Int, ∃ s35 : ByteArray, ∃ x36 : Int, ∃ x37 : Int, ∃ x38 : Int, ∃ b39 : Bool, ∃ v40 : Value, r33 = (.tuple #[(.agg #[(.int .i64 x34), (.string s35), (.int .u32 x36), (.int .i64 x37), (.int .i64 x38)]), (.bool b39), v40]) ∧ 
    newC h32 (.cells #[(.int .i64 0), (.string ⟨#[]⟩), (.int .u32 0), (.int .i64 0), (.int .i64 0)] 52 (0, 0)) fun a42 h41 => 
    HU Tryz.prog (Instr.storeAt 52 (.pointer (some a42)) (.agg #[(.int .i64 x34), (.string s35), (.int .u32 x36), (.int .i64 x37), (.int .i64 x38)])) h41 fun h43 => 
    ∃ b44 : Bool, PV Tryz.prog (binOp .neq 24 v40 .nilIface) (.bool b44) ∧
    br b44
    (K0 none 0 0 v40 h43)
    (br (!b39)
    (K0 A6 l6 c6 .nilIface h43)
    (∃ x45 : Int, ∃ s46 : ByteArray, ∃ x47 : Int, ∃ x48 : Int, ∃ x49 : Int, HV Tryz.prog (Instr.loadAt 52 (.pointer (some a42))) h43 (.agg #[(.int .i64 x45), (.string s46), (.int .u32 x47), (.int .i64 x48), (.int .i64 x49)]) ∧ 
    newC h43 (.cells #[(.int .i64 x45), (.string s46), (.int .u32 x47), (.int .i64 x48), (.int .i64 x49)] 52 (0, 0)) fun a51 h50 => 
    HW Tryz.prog (Builtin.append_ #[46, 46] 46 #[(.slice A6 l6 c6), (.slice (some a51) 1 1)]) h50 fun r53 h52 =>
    ∃ A54 : Option Addr, ∃ l54 : Nat, ∃ c54 : Nat, r53 = (.slice A54 l54 c54) ∧ 
    lex_All_l1 p5 K0 k A54 l54 c54 h52))
def lex_All_l1_L (Q : Qx) (k : Nat) (tm : Tm) (h : Hp) : Prop :=
  selP (tm 4) fun p5 =>
  selS (tm 5) fun A6 l6 c6 =>
  lex_All_l1 p5 (fun (A30 : Option Addr) (l30 : Nat) (c30 : Nat) (v31 : Value) h => Q (.ret) (mkTm [(2, some (.slice A30 l30 c30)), (3, some v31)]) h) k A6 l6 c6 h
set_option maxRecDepth 100000 in
def lex_All (s1 : ByteArray) (h : Hp) (K : Value → Hp → Prop) : Prop :=
  CallsH Tryz.prog 39 #[(.string s1)] h fun r3 h2 =>
  ∃ p4 : Option Addr, r3 = (.pointer p4) ∧ 
  ∃ k58, lex_All_l1 p4
  (fun (A55 : Option Addr) (l55 : Nat) (c55 : Nat) (v56 : Value) (h57 : Hp) =>
  K (.tuple #[(.slice A55 l55 c55), v56]) h57)
   k58 none 0 0 h2
def lex_All_lp (i : Nat) (Q : Qx) (tm : Tm) (h : Hp) : Prop := match Nat.beq i 30 with
  | true => ∃ k, lex_All_l1_L Q k tm h
  | false => False
def lex_All_cut (i : Nat) : Option (List Nat) := none
set_option maxRecDepth 100000 in
theorem lex_All_l1_step (Q : Qx) (k : Nat) (p5 : Option Addr) (A6 : Option Addr) (l6 : Nat) (c6 : Nat) (h : Hp) : lex_All_l1_L Q (k + 1) (mkTm [(4, some (.pointer p5)), (5, some (.slice A6 l6 c6))]) h =
    codeWp Tryz.prog 27 false lex_All_lp lex_All_cut (sub (bodyOf Tryz.f14) [true, true, true, false, false]) 60 (thenQ (fun tm h => lex_All_l1_L Q k (mask [4, 5] tm) h) (maskQ (fun e => match e with | .ret => [2, 3] | _ => []) Q)) (mkTm [(4, some (.pointer p5)), (5, some (.slice A6 l6 c6))]) h := by kernel_rfl
theorem lex_All_l1_mask (Q : Qx) (k : Nat) (tm : Tm) (h : Hp) : lex_All_l1_L Q k tm h ↔ lex_All_l1_L Q k (mask [4, 5] tm) h := Iff.rfl
set_option maxRecDepth 100000 in
theorem lex_All_l1_snd : SndAt Tryz.prog 27 none (sub (bodyOf Tryz.f14) [true, true, true, false]) (lex_All_lp 30) := by
  refine loop_sound (pn := false) (lp := lex_All_lp) (cut := lex_All_cut) (i := 30) (c := (sub (bodyOf Tryz.f14) [true, true, true, false, false])) [4, 5] (fun e => match e with | .ret => [2, 3] | _ => []) lex_All_l1_L ?_ ?_ ?_
  · exact good_by (pn := false) (c := (sub (bodyOf Tryz.f14) [true, true, true, false, false])) (i := 60) (l := []) (by kernel_rfl) (fun _ h => by cases h)
  · intro Q tm h H
    obtain ⟨p5, e4, H⟩ := selP_ex H
    obtain ⟨A6, l6, c6, e5, H⟩ := selS_ex H
    exact H
  · intro Q k tm h H
    have H0 := H
    obtain ⟨p5, e4, H⟩ := selP_ex H
    obtain ⟨A6, l6, c6, e5, H⟩ := selS_ex H
    have e : mask [4, 5] tm = mkTm [(4, some (.pointer p5)), (5, some (.slice A6 l6 c6))] := by simp only [mask, List.map_cons, List.map_nil, e4, e5] <;> rfl
    rw [e]
    refine Eq.mp (lex_All_l1_step Q k p5 A6 l6 c6 h) ?_
    rw [← e]
    exact (lex_All_l1_mask Q (k + 1) tm h).mp H0
set_option maxRecDepth 100000 in
theorem lex_All_eq (s1 : ByteArray) (h : Hp) (K : Value → Hp → Prop) : lex_All s1 h K =
    codeWp Tryz.prog 27 false lex_All_lp lex_All_cut (bodyOf Tryz.f14) 1 (endQ Tryz.prog Tryz.f14.results.toList K) (argTm [(.string s1)]) h := by kernel_rfl
set_option maxRecDepth 100000 in
theorem lex_All_ok (s1 : ByteArray) {h : Hp} {K : Value → Hp → Prop} (H : lex_All s1 h K) : CallsH Tryz.prog 14 #[(.string s1)] h K :=
  calls_of (pn := false) (args := [(.string s1)]) (n := 27) (lp := lex_All_lp) (cut := lex_All_cut) Tryz.func14 (c := bodyOf Tryz.f14) (by kernel_rfl) (by kernel_rfl) (by kernel_rfl) (good_by (pn := false) (c := (bodyOf Tryz.f14)) (i := 1) (l := [(30, (sub (bodyOf Tryz.f14) [true, true, true, false]))]) (by kernel_rfl) (List.forall_mem_cons.2 ⟨lex_All_l1_snd, (fun _ h => by cases h)⟩))
    (Eq.mp (lex_All_eq s1 h K) H)

end Go.Proofs.YtfdpccbajaiepaaGreatDoor.Sxp.Fx

/- The lexer's small functions: kind, measure, ends, checked. -/
namespace Go.Proofs.YtfdpccbajaiepaaGreatDoor.Lx
open Go Go.RowKit Go.Proofs.YtfdpccbajaiepaaGreatDoor.Sx Go.Proofs.YtfdpccbajaiepaaGreatDoor.Sxp.Fx
set_option linter.unusedVariables false
set_option linter.unusedSimpArgs false
set_option maxRecDepth 10000
def bs (l : List UInt8) : ByteArray := ⟨l.toArray⟩
theorem bs_size (l : List UInt8) : (bs l).size = l.length := by simp [bs, ByteArray.size]
theorem und_str : Tryz.prog.underlying 9 = some .string := by kernel_rfl
theorem bs_get (l : List UInt8) (i : Nat) (h : i < l.length) (h' : i < (bs l).size) : (bs l)[i] = l[i] := by
  have e : (bs l).data = l.toArray := rfl
  show (bs l).data[i]'(by rw [e]; simpa using h) = l[i]
  simp only [e, List.getElem_toArray]
  rfl
theorem ixS {l : List UInt8} {i : Nat} {c : UInt8} (h : l[i]? = some c) {x : Int} (hx : x = i) : PV Tryz.prog (Instr.index 9 (.string (bs l)) (.int .i64 x)) (.int .u8 (c.toNat : Int)) := by
  subst hx
  obtain ⟨hlt, he⟩ := List.getElem?_eq_some_iff.1 h
  intro w
  rw [run_index_string (h := und_str)]
  have hs := bs_size l
  rw [dif_pos (by omega)]
  have : ((i : Int)).toNat = i := by omega
  congr 2
  simp only [this]
  rw [bs_get l i hlt]
  exact congrArg (fun c : UInt8 => ((c.toNat : Nat) : Int)) he
/-- A scanner. -/
structure Sn where
  s : List UInt8
  at_ : Int
  line : Int
  beg : Int
  A : Option Addr
  l : Nat
  c : Nat
  nx : Int
  w : Option Addr
def Sn.enc (x : Sn) : List Value := [.string (bs x.s), .int .i64 x.at_, .int .i64 x.line, .int .i64 x.beg, .slice x.A x.l x.c, .int .i64 x.nx, .pointer x.w]
def SnAt (h : Hp) (b : Nat) (x : Sn) : Prop := h[b]? = some (.cells x.enc.toArray 173 (0, 0))
theorem SnAt.cl {h : Hp} {b : Nat} {x : Sn} (q : SnAt h b x) : Cl h ⟨b, 0, none⟩ x.enc := Cl.of_block q fun j v hj => by rw [Nat.zero_add]; exact hj
theorem SnAt.ext {h h' : Hp} {b : Nat} {x : Sn} (q : SnAt h b x) (e : Ext h h') : SnAt h' b x := by unfold SnAt; rw [e.old _ (lt_of_get q)]; exact q
theorem SnAt.st {h : Hp} {b : Nat} {x x' : Sn} (q : SnAt h b x) (o : Nat) {T : TypeId} {v : Value} (hv : v.cells = #[v]) (hz : (Tryz.prog.info? T).map (·.size) = some 1) (ho : o + 1 ≤ 7) (hf : flatV v = true)
    (he : x.enc.take o ++ [v] ++ x.enc.drop (o + 1) = x'.enc) {K : Hp → Prop} (H : ∀ h', SnAt h' b x' → Fr (fun k => k = b) h h' → h'.size = h.size → K h') : HU Tryz.prog (Instr.storeAt T (.pointer (some ((⟨b, 0, none⟩ : Addr).add o))) v) h K := by
  rw [add_eq0]
  refine HU_st (us := [v]) q hv hz (by simpa [Sn.enc] using ho) (by simp [hf]) ?_
  have : x.enc.take o ++ [v] ++ x.enc.drop (o + [v].length) = x'.enc := he
  rw [this]
  exact H _ (setB_get (lt_of_get q)) (setB_fr rfl) setB_size
theorem kind_s (c : UInt8) {x : Int} (hx : x = (c.toNat : Int)) {h : Hp} {K : Value → Hp → Prop} (H : K (.int .i64 (kindB c : Nat)) h) : CallsH Tryz.prog 86 #[.int .i32 x] h K := by
  subst hx
  refine lex_kind_ok _ ?_
  unfold lex_kind
  unfold kindB at H
  have hc := c.toNat_lt
  obtain ⟨n, hn⟩ : ∃ n, c.toNat = n := ⟨_, rfl⟩
  rw [hn] at H hc ⊢
  have key : ∀ v : Nat, (if 97 ≤ n ∧ n ≤ 122 then 1 else if 48 ≤ n ∧ n ≤ 57 then 2 else if n = 46 ∨ n = 47 ∨ n = 58 ∨ n = 42 then 3 else 0) = v → K (.int .i64 (v : Nat)) h := fun v e => by rw [← e]; exact H
  have tail : ¬ (97 ≤ n ∧ n ≤ 122) → ¬ (48 ≤ n ∧ n ≤ 57) → br ((n : Int) == 46) (K (.int .i64 3) h) (br ((n : Int) == 47) (K (.int .i64 3) h) (br ((n : Int) == 58) (K (.int .i64 3) h) (br ((n : Int) == 42) (K (.int .i64 3) h) (K (.int .i64 0) h)))) := fun a b => by
    refine br_i (fun d => ?_) (fun d1 => br_i (fun d => ?_) (fun d2 => br_i (fun d => ?_) (fun d3 => br_i (fun d => ?_) (fun d4 => ?_))))
    · simp at d; exact key 3 (by rw [if_neg a, if_neg b, if_pos (by omega)])
    · simp at d; exact key 3 (by rw [if_neg a, if_neg b, if_pos (by omega)])
    · simp at d; exact key 3 (by rw [if_neg a, if_neg b, if_pos (by omega)])
    · simp at d; exact key 3 (by rw [if_neg a, if_neg b, if_pos (by omega)])
    · simp at d1 d2 d3 d4; exact key 0 (by rw [if_neg a, if_neg b, if_neg (by omega)])
  refine br_i (fun c1 => br_i (fun c2 => ?_) (fun c2 => br_i (fun c3 => br_i (fun c4 => ?_) (fun c4 => ?_)) (fun c3 => ?_))) (fun c1 => br_i (fun c3 => br_i (fun c4 => ?_) (fun c4 => ?_)) (fun c3 => ?_))
  · simp at c1 c2; exact key 1 (by rw [if_pos (by omega)])
  · simp at c1 c2 c3 c4; exact key 2 (by rw [if_neg (by omega), if_pos (by omega)])
  · simp at c1 c2 c3 c4; exact tail (by omega) (by omega)
  · simp at c1 c2 c3; exact tail (by omega) (by omega)
  · simp at c1 c3 c4; exact key 2 (by rw [if_neg (by omega), if_pos (by omega)])
  · simp at c1 c3 c4; exact tail (by omega) (by omega)
  · simp at c1 c3; exact tail (by omega) (by omega)
/-! ### measure -/
theorem takeWhile_at {α : Type} (p : α → Bool) : ∀ (l : List α) (i : Nat), i < (l.takeWhile p).length → ∃ c, l[i]? = some c ∧ p c = true
  | [], i, h => by simp at h
  | a :: l, i, h => by
    rw [List.takeWhile_cons] at h
    by_cases ha : p a = true
    · rw [if_pos ha] at h
      cases i with
      | zero => exact ⟨a, rfl, ha⟩
      | succ i => exact takeWhile_at p l i (by simpa using h)
    · rw [if_neg ha] at h; simp at h
theorem takeWhile_end {α : Type} (p : α → Bool) : ∀ (l : List α), (∃ c, l[(l.takeWhile p).length]? = some c ∧ p c = false) ∨ (l.takeWhile p).length = l.length
  | [] => .inr rfl
  | a :: l => by
    rw [List.takeWhile_cons]
    by_cases ha : p a = true
    · rw [if_pos ha]
      rcases takeWhile_end p l with ⟨c, h1, h2⟩ | h
      · exact .inl ⟨c, by simpa using h1, h2⟩
      · exact .inr (by simp [h])
    · rw [if_neg ha]
      exact .inl ⟨a, rfl, by simpa using ha⟩
theorem takeWhile_le {α : Type} (p : α → Bool) (l : List α) : (l.takeWhile p).length ≤ l.length := List.Sublist.length_le (List.takeWhile_sublist p)
/-- Between its calls: what is left of the text is r. -/
structure LxS (x : Sn) (r : List UInt8) (line col : Nat) : Prop where
  suf : ∃ pre, x.s = pre ++ r ∧ x.at_ = pre.length ∧ x.beg = pre.length - col ∧ col ≤ pre.length
  lin : x.line = (line : Int)
  len : x.s.length ≤ 65536
  ln : line ≤ 200001
theorem measure_s {h : Hp} {b : Nat} {x : Sn} (q : SnAt h b x) {r : List UInt8} {line col : Nat} (s : LxS x r line col) {K : Value → Hp → Prop}
    (H : ∀ h' x', SnAt h' b x' → Fr (fun k => k = b) h h' → h.size ≤ h'.size → (if lineLen r > 200 then ∃ g, x' = { x with w := some ⟨g, 0, none⟩ } ∧ g ≠ b ∧ h.size ≤ g ∧ h'[g]? = some (.cells #[.int .i64 93, .int .i64 line, .int .i64 1] 34 (0, 0)) else x' = x) → K (.tuple #[]) h') :
    CallsH Tryz.prog 70 #[.pointer (some ⟨b, 0, none⟩)] h K := by
  refine lex_Scanner_measure_ok _ ?_
  unfold lex_Scanner_measure
  have hc := q.cl
  obtain ⟨⟨pre, hpre, hat, hbeg, hcol⟩, hline, hlen, hln⟩ := s
  refine ⟨_, ld (hc.at_ 1 _ rfl) (by kernel_rfl), lineLen r + 1, ?_⟩
  have hrl : pre.length + r.length ≤ 65536 := by rw [hpre] at hlen; simpa using hlen
  have hll : lineLen r ≤ r.length := takeWhile_le _ _
  -- behind the loop
  have fin : lex_Scanner_measure_j2 (fun h57 => K (.tuple #[]) h57) (some ⟨b, 0, none⟩) ((pre.length + lineLen r : Nat) : Int) h := by
    unfold lex_Scanner_measure_j2
    refine ⟨_, ld (hc.at_ 1 _ rfl) (by kernel_rfl), ?_⟩
    have e : IntKind.i64.wrap (((pre.length + lineLen r : Nat) : Int) - x.at_) = lineLen r := by rw [hat, wrap_in (by omega) (by omega)]; omega
    rw [e]
    refine br_i (fun c => ?_) (fun c => ?_)
    · simp at c
      refine ⟨_, ld (hc.at_ 2 _ rfl) (by kernel_rfl), newC_i (cs := [.int .i64 93, .int .i64 x.line, .int .i64 1]) fun h1 e1 c1 b1 z1 => ?_⟩
      have hb := lt_of_get q
      refine (q.ext e1).st (x' := { x with w := some ⟨h.size, 0, none⟩ }) 6 rfl (by kernel_rfl) (by omega) rfl rfl fun h2 q2 f2 z2 => ?_
      refine H h2 _ q2 ((e1.fr _).trans f2) (by omega) ?_
      rw [if_pos (by omega)]
      refine ⟨h.size, rfl, by omega, Nat.le_refl _, ?_⟩
      rw [f2.keep _ (by omega) (by omega), b1, hline]
    · simp at c
      exact H h x q (Fr.refl _ _) (Nat.le_refl _) (by rw [if_neg (by omega)])
  suffices ∀ (k j : Nat), j + k = lineLen r + 1 → j ≤ lineLen r → lex_Scanner_measure_l3 (some ⟨b, 0, none⟩) (fun p54 x55 h56 => lex_Scanner_measure_j2 (fun h57 => K (.tuple #[]) h57) p54 x55 h56) k ((pre.length + j : Nat) : Int) h by
    have := this (lineLen r + 1) 0 (by omega) (by omega)
    rw [hat]
    exact this
  intro k
  induction k with
  | zero => intro j hj hl; omega
  | succ k ih =>
    intro j hj hl
    unfold lex_Scanner_measure_l3
    refine ⟨_, ld hc.head (by kernel_rfl), ?_⟩
    rw [bs_size]
    have hsl : x.s.length = pre.length + r.length := by rw [hpre]; simp
    have hgt : ∀ i : Nat, x.s[pre.length + i]? = r[i]? := fun i => by rw [hpre, List.getElem?_append_right (by omega)]; congr 1; omega
    by_cases hjl : j < lineLen r
    · obtain ⟨c, hc1, hc2⟩ := takeWhile_at _ r j hjl
      refine br_t (by simp; omega) ⟨_, ld hc.head (by kernel_rfl), _, ixS (c := c) (i := pre.length + j) (by rw [hgt]; exact hc1) rfl, br_t (by simp at hc2 ⊢; omega) ?_⟩
      rw [wrap_in (by omega) (by omega), show ((pre.length + j : Nat) : Int) + 1 = ((pre.length + (j + 1) : Nat) : Int) by omega]
      exact ih (j + 1) (by omega) (by omega)
    · have hjl : j = lineLen r := by omega
      subst hjl
      rcases takeWhile_end (fun c : UInt8 => c.toNat != 10) r with ⟨c, h1, h2⟩ | h1
      · have hlt := (List.getElem?_eq_some_iff.1 h1).1
        refine br_t (by have e : lineLen r = (r.takeWhile fun c : UInt8 => c.toNat != 10).length := rfl; simp; omega) ⟨_, ld hc.head (by kernel_rfl), _, ixS (c := c) (i := pre.length + lineLen r) (by rw [hgt]; exact h1) rfl, br_f (by simp at h2 ⊢; omega) fin⟩
      · refine br_f (by have e : lineLen r = (r.takeWhile fun c : UInt8 => c.toNat != 10).length := rfl; simp; omega) fin
end Go.Proofs.YtfdpccbajaiepaaGreatDoor.Lx

/- Printing: strconv.AppendUint over a row of bytes; number. -/
namespace Go.Proofs.YtfdpccbajaiepaaGreatDoor.Pr
open Go Go.RowKit Go.Proofs.YtfdpccbajaiepaaGreatDoor.Sx Go.Proofs.YtfdpccbajaiepaaGreatDoor.Sxp Go.Proofs.YtfdpccbajaiepaaGreatDoor.Sxp.Fx Go.Proofs.YtfdpccbajaiepaaGreatDoor.Lx
set_option linter.unusedVariables false
set_option linter.unusedSimpArgs false
set_option maxRecDepth 10000
abbrev ByT (h : Hp) (A : Option Addr) (c : Nat) (l : List UInt8) : Prop := ByR h 5 A c l
abbrev OthT (h h' : Hp) : Prop := OthK 5 h h'
noncomputable def powCells : Array Value := (Lib.pow10Tab.map fun z => Value.int .u64 z).toArray
/-- The table of the powers of ten lies in the heap. -/
def Tab (h : Hp) : Prop := ∃ t f, h[1]? = some (.cells powCells t f)
theorem Tab.ext {h h' : Hp} (t : Tab h) (e : Ext h h') : Tab h' := by
  obtain ⟨T, f, hb⟩ := t
  exact ⟨T, f, by rw [e.old _ (lt_of_get hb)]; exact hb⟩
theorem glob : Tryz.prog.globalNamed "internal/strconv.uint64pow10" = some 1 := by kernel_rfl
theorem tab_of {w : World} (h : Lib.TabIs Tryz.prog w "internal/strconv.uint64pow10" .u64 Lib.pow10Tab) : Tab w.heap := by
  unfold Lib.TabIs World.var? at h
  rw [glob] at h
  simp only [Option.bind_some] at h
  split at h
  · rename_i cs T f hb
    injection h with h
    rw [h] at hb
    exact ⟨T, f, hb⟩
  · cases h
theorem of_tab {w : World} (h : Tab w.heap) : Lib.TabIs Tryz.prog w "internal/strconv.uint64pow10" .u64 Lib.pow10Tab := by
  obtain ⟨T, f, hb⟩ := h
  unfold Lib.TabIs World.var?
  rw [glob]
  simp only [Option.bind_some]
  rw [hb]
  rfl
/-- What a printing function leaves: a fresh row of these bytes. -/
def PrK (h0 h : Hp) (l : List UInt8) (K : Value → Hp → Prop) : Prop := ∀ h' A' c', Ext h0 h' → OthT h h' → ByT h' A' c' l → Fresh h0 A' → K (.slice A' l.length c') h'
theorem uint_s {h0 h : Hp} {A : Option Addr} {c : Nat} {l : List UInt8} (t : Tab h0) (n : Nat) (hn : n < 18446744073709551616) (e : Ext h0 h) (r : ByT h A c l) (hF : Fresh h0 A) (hl : l.length ≤ 1000000000) {K : Value → Hp → Prop} (H : PrK h0 h (l ++ Lib.decDigits n) K) :
    CallsH Tryz.prog 89 #[.slice A l.length c, .int .u64 (n : Int), .int .i64 10] h K := fun w hw => by
  subst hw
  have own : w.ownsRow h0.size 5 1 (.slice A l.length c) l.length (Lib.byteCells l) := by
    have r1 := r.row
    unfold Row at r1
    rw [flatB] at r1
    refine ⟨by rw [Lib.byteCells_length, Nat.mul_one], ?_⟩
    rcases r1 with ⟨rfl, h1, rfl, h2⟩ | ⟨g, rest, rfl, hb, h1, h2, h3⟩
    · left
      exact ⟨by rw [h1], h1⟩
    · right
      refine ⟨g, c, (Lib.byteCells l ++ rest).toArray, rfl, hF g ⟨_, rfl, rfl⟩, hb, h3, ?_, by simpa using h2, ?_⟩
      · have := r.cap
        unfold maxLen
        omega
      · simp only [Nat.mul_one]
        rw [← Lib.byteCells_length l]
        simp
  refine (Tryz.internal_strconv_AppendUint_10 h0.size l.length n hn (.slice A l.length c) (Lib.byteCells l) w own e.size (by omega) (of_tab (t.ext e))).mono fun en w' hh => ?_
  obtain ⟨v', rfl, ow, bl, ok⟩ := hh
  refine ⟨v', rfl, ⟨bl.os, bl.tape, bl.output, trivial⟩, ?_⟩
  have e' : Ext h0 w'.heap := ⟨Nat.le_trans e.size bl.size, fun k hk => by rw [bl.block k hk, e.old k hk]⟩
  have ot : OthT w.heap w'.heap := fun k o ho hn => ok k o ho (by simp) hn
  obtain ⟨hxl, hv⟩ := ow
  have hlen : (l ++ Lib.decDigits n).length = l.length + (Lib.decDigits n).length := List.length_append
  rcases hv with ⟨rfl, h0n⟩ | ⟨g, cap, cur, rfl, hg, hb, h3, h4, h5, h6⟩
  · have h1 : l ++ Lib.decDigits n = [] := List.eq_nil_of_length_eq_zero (by omega)
    have := H w'.heap none 0 e' ot (by rw [h1]; exact ByR.nil) (Fresh.none _)
    rw [h1] at this
    exact this
  · have := H w'.heap (some ⟨g, 0, none⟩) cap e' ot ?_ (Fresh.some hg)
    · rw [hlen] at this
      exact this
    · refine ⟨?_, by unfold maxLen at h4; omega⟩
      unfold Row
      rw [flatB, hlen, Lib.byteCells_append]
      refine .inr ⟨g, cur.toList.drop (Lib.byteCells l ++ Lib.byteCells (Lib.decDigits n)).length, rfl, ?_, hxl, ?_, h3⟩
      · have hc : Lib.byteCells l ++ Lib.byteCells (Lib.decDigits n) ++ cur.toList.drop (Lib.byteCells l ++ Lib.byteCells (Lib.decDigits n)).length = cur.toList := by
          rw [hxl, ← h6]
          exact List.take_append_drop _ _
        rw [hc]
        exact hb
      · have hc : Lib.byteCells l ++ Lib.byteCells (Lib.decDigits n) ++ cur.toList.drop (Lib.byteCells l ++ Lib.byteCells (Lib.decDigits n)).length = cur.toList := by
          rw [hxl, ← h6]
          exact List.take_append_drop _ _
        rw [hc]
        simpa using h5
theorem undBy : Tryz.prog.underlying 58 = some (.slice 5) := by kernel_rfl
theorem undStr : Tryz.prog.underlying 9 = some .string := by kernel_rfl
theorem byInfo : ∃ i z, Tryz.prog.info? 5 = some i ∧ i.zero = some z ∧ z.cells.size = i.size ∧ i.size = 1 ∧ i.bytes = 1 := ⟨_, _, rfl, rfl, rfl, rfl, rfl⟩
theorem app_s {h0 h : Hp} {A : Option Addr} {c : Nat} {l : List UInt8} (s : List UInt8) (e : Ext h0 h) (r : ByT h A c l) (hF : Fresh h0 A) (hl : l.length + s.length ≤ 1000000000) {K : Value → Hp → Prop} (H : PrK h0 h (l ++ s) K) :
    HW Tryz.prog (Builtin.append_ #[58, 9] 58 #[.slice A l.length c, .string (bs s)]) h K := by
  obtain ⟨i, z, hi, hz, hzl, hi1, hb⟩ := byInfo
  exact appStr undBy undStr hi hz hzl hi1 hb e r hF hl H
theorem number_s {h0 h : Hp} {A : Option Addr} {c : Nat} {l : List UInt8} (t : Tab h0) (sign : List UInt8) (n : Nat) (hn : n < 18446744073709551616) (e : Ext h0 h) (r : ByT h A c l) (hF : Fresh h0 A) (hl : l.length + sign.length ≤ 1000000000) {K : Value → Hp → Prop}
    (H : PrK h0 h (l ++ sign ++ Lib.decDigits n) K) :
    CallsH Tryz.prog 45 #[.slice A l.length c, .string (bs sign), .int .u64 (n : Int)] h K := by
  refine syntax_number_ok _ _ _ _ _ ?_
  unfold syntax_number
  refine app_s sign e r hF hl fun h1 A1 c1 e1 o1 r1 F1 => ⟨_, _, _, rfl, ?_⟩
  refine strconv_AppendUint_ok _ _ _ _ _ ?_
  unfold strconv_AppendUint
  refine uint_s t n hn e1 r1 F1 (by rw [List.length_append]; exact hl) fun h2 A2 c2 e2 o2 r2 F2 => ⟨_, _, _, rfl, _, _, _, rfl, ?_⟩
  exact H h2 A2 c2 e2 (o1.trans o2) r2 F2
end Go.Proofs.YtfdpccbajaiepaaGreatDoor.Pr

/- Every text is lexed: lexM is total. -/
namespace Go.Proofs.YtfdpccbajaiepaaGreatDoor.Lx
open Go
set_option linter.unusedVariables false
def todo (r : List UInt8) (col : Nat) : Nat := 2 * r.length + (if col = 0 then 0 else 1)
theorem todo_lt {r : List UInt8} {u col col' : Nat} (hu : 0 < u) (hl : u ≤ r.length) : todo (r.drop u) col' < todo r col := by
  unfold todo
  rw [List.length_drop]
  split <;> split <;> omega
theorem ends_todo {r0 r : List UInt8} {u line col c0 : Nat} (hr : r = r0.drop u) (hu : u ≤ r0.length) (hc : u = 0 → col = c0) {t : TokM} {u' line' col' : Nat} {w : Option Flt} (h : endsM r u line col = .tok t u' line' col' w) : todo (r0.drop u') col' < todo r0 c0 := by
  cases r with
  | nil =>
    simp only [endsM] at h
    split at h
    · cases h
    · rename_i hcol
      injection h with _ h1 _ h2 _
      subst h1 h2
      rcases Nat.eq_zero_or_pos u with h0 | h0
      · have := hc h0
        subst h0 this
        unfold todo
        rw [if_neg hcol]
        simp
      · exact todo_lt h0 hu
  | cons c r' =>
    simp only [endsM] at h
    injection h with _ h1 _ h2 _
    subst h1 h2
    have : (r0.drop u).length = r'.length + 1 := by rw [← hr]; rfl
    rw [List.length_drop] at this
    exact todo_lt (by omega) (by omega)
theorem check_u {k : Nat} {tx : List UInt8} {u line col c2 : Nat} {t : TokM} {u' line' col' : Nat} {w : Option Flt} (h : checkM k tx u line col c2 = .tok t u' line' col' w) : u' = u := by
  unfold checkM at h
  split at h
  · cases h
  · split at h
    · split at h
      · cases h
      · injection h with _ h1; exact h1.symm
    · injection h with _ h1; exact h1.symm
theorem tw_le (p : UInt8 → Bool) (r : List UInt8) : (r.takeWhile p).length ≤ r.length := (List.takeWhile_sublist p).length_le
theorem read_todo {r : List UInt8} {line col : Nat} {t : TokM} {u' line' col' : Nat} {w : Option Flt} (h : readM r line col = .tok t u' line' col' w) : todo (r.drop u') col' < todo r col := by
  have hb : blanks r ≤ r.length := tw_le _ _
  simp only [readM] at h
  split at h
  · rename_i he
    exact ends_todo (r0 := r) he.symm hb (fun h0 => by omega) h
  · rename_i c rr he
    have hlen : (r.drop (blanks r)).length = rr.length + 1 := by rw [he]; rfl
    rw [List.length_drop] at hlen
    have hll : lineLen (r.drop (blanks r)) ≤ (r.drop (blanks r)).length := tw_le _ _
    rw [List.length_drop] at hll
    split at h
    · exact ends_todo (r0 := r) (by rw [List.drop_drop]) (by omega) (fun h0 => by omega) h
    · split at h
      · exact ends_todo (r0 := r) rfl hb (fun h0 => by omega) h
      · split at h
        · cases h
        · have hu := check_u h
          have hm : 0 < (if kindB c = 3 then 1 else rowLen (kindB c) (r.drop (blanks r))) ∧ (if kindB c = 3 then 1 else rowLen (kindB c) (r.drop (blanks r))) ≤ r.length - blanks r := by
            split
            · omega
            · have h1 : rowLen (kindB c) (r.drop (blanks r)) ≤ (r.drop (blanks r)).length := tw_le _ _
              rw [List.length_drop] at h1
              refine ⟨?_, h1⟩
              rw [he]
              simp [rowLen]
          rw [hu]
          exact todo_lt (by omega) (by omega)
theorem lexL_some (f : Nat) : ∀ (r : List UInt8) (line col : Nat), todo r col < f → ∃ R, lexL f r line col = some R := by
  induction f with
  | zero => intro r line col h; omega
  | succ f ih =>
    intro r line col h
    unfold lexL
    cases hR : readM r line col with
    | stop => exact ⟨_, rfl⟩
    | bad e => exact ⟨_, rfl⟩
    | tok t u line' col' w =>
      cases w with
      | some w => exact ⟨_, rfl⟩
      | none =>
        have := read_todo hR
        obtain ⟨R, hR2⟩ := ih (r.drop u) line' col' (by omega)
        simp only [hR2]
        cases R with
        | error e => exact ⟨_, rfl⟩
        | ok l => exact ⟨_, rfl⟩
theorem lexM_some (s : List UInt8) : ∃ R, lexM s = some R := by
  unfold lexM
  split
  · exact ⟨_, rfl⟩
  · split
    · exact ⟨_, rfl⟩
    · exact lexL_some _ _ _ _ (by unfold todo; simp)
end Go.Proofs.YtfdpccbajaiepaaGreatDoor.Lx

/- Numerals: their digits, their length, what they are worth to the lexer. -/
namespace Go.Proofs.YtfdpccbajaiepaaGreatDoor.Lx
open Go
set_option linter.unusedVariables false
abbrev dec (u : Nat) : List UInt8 := Lib.decDigits u
theorem dec_one {u : Nat} (h : u < 10) : dec u = [UInt8.ofNat (48 + u)] := Lib.decDigits_one h
theorem dec_step {u : Nat} (h : ¬ u < 10) : dec u = dec (u / 10) ++ [UInt8.ofNat (48 + u % 10)] := by
  show Lib.decDigits u = _
  rw [Lib.decDigits, dif_neg h]
theorem dg_toNat {d : Nat} (h : d < 10) : (UInt8.ofNat (48 + d)).toNat = 48 + d := by
  rw [UInt8.toNat_ofNat']
  omega
theorem kind_dg {d : Nat} (h : d < 10) : kindB (UInt8.ofNat (48 + d)) = 2 := by
  unfold kindB
  rw [dg_toNat h, if_neg (by omega), if_pos (by omega)]
theorem dec_ne (u : Nat) : dec u ≠ [] := by
  by_cases h : u < 10
  · rw [dec_one h]; simp
  · rw [dec_step h]; simp
theorem dec_kind (u : Nat) : ∀ c ∈ dec u, kindB c = 2 := by
  induction u using Nat.strongRecOn with
  | _ u ih =>
    by_cases h : u < 10
    · rw [dec_one h]
      intro c hc
      simp only [List.mem_singleton] at hc
      subst hc
      exact kind_dg h
    · rw [dec_step h]
      intro c hc
      rcases List.mem_append.1 hc with hc | hc
      · exact ih (u / 10) (by omega) c hc
      · simp only [List.mem_singleton] at hc
        subst hc
        exact kind_dg (Nat.mod_lt _ (by omega))
theorem dec_len : ∀ (k u : Nat), u < 10 ^ (k + 1) → (dec u).length ≤ k + 1
  | k, u, hu => by
    by_cases h : u < 10
    · rw [dec_one h]; simp
    · rw [dec_step h]
      cases k with
      | zero => simp at hu; omega
      | succ k =>
        have hu' : u / 10 < 10 ^ (k + 1) := by rw [Nat.pow_succ 10 (k + 1)] at hu; omega
        have := dec_len k (u / 10) hu'
        simp
        omega
theorem dec_len10 {u : Nat} (h : u < 4294967296) : (dec u).length ≤ 10 := dec_len 9 u (Nat.lt_trans h (by decide))
theorem numV_app (l : List UInt8) (c : UInt8) : ∀ v : Int, numV (l ++ [c]) v = min (10 * numV l v + ((c.toNat : Int) - 48)) 8589934592 := by
  induction l with
  | nil => intro v; rfl
  | cons x l ih => intro v; exact ih _
theorem dec_val (u : Nat) (h : u < 4294967296) : numV (dec u) 0 = (u : Int) := by
  induction u using Nat.strongRecOn with
  | _ u ih =>
    by_cases h1 : u < 10
    · rw [dec_one h1]
      show min (10 * 0 + (((UInt8.ofNat (48 + u)).toNat : Int) - 48)) 8589934592 = _
      rw [dg_toNat h1]
      omega
    · rw [dec_step h1, numV_app, ih (u / 10) (by omega) (by omega), dg_toNat (Nat.mod_lt _ (by omega))]
      omega
theorem dec_head (u : Nat) (h : 1 ≤ u) : (dec u).head? ≠ some 48 := by
  induction u using Nat.strongRecOn with
  | _ u ih =>
    by_cases h1 : u < 10
    · rw [dec_one h1]
      simp only [List.head?_cons, ne_eq, Option.some.injEq]
      intro e
      have := congrArg UInt8.toNat e
      rw [dg_toNat h1] at this
      have : (48 : UInt8).toNat = 48 := rfl
      omega
    · rw [dec_step h1]
      have hi := ih (u / 10) (by omega) (by omega)
      cases hd : dec (u / 10) with
      | nil => exact absurd hd (dec_ne _)
      | cons c l => rw [hd] at hi; exact hi
theorem dec_good (u : Nat) (h : u < 4294967296) : badNum (dec u) = false := by
  unfold badNum
  rw [dec_val u h]
  have e1 : decide ((u : Int) ≥ 4294967296) = false := by simp; omega
  rw [e1]
  by_cases h0 : u < 10
  · rw [dec_one h0]; simp
  · have := dec_head u (by omega)
    simp [this]
end Go.Proofs.YtfdpccbajaiepaaGreatDoor.Lx
