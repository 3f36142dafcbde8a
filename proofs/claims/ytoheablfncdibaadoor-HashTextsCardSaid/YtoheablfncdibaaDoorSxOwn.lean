/- Laws of memory over the heap alone: rows of the call's own, written, appended to, copied. -/
import Derived.Test.YtoheablfncdibaaDoorSxMem
namespace Go.Proofs.YtoheablfncdibaaDoor.Sx
open Go Go.RowKit
set_option linter.unusedVariables false
set_option linter.unusedSimpArgs false
/-- What changes lies in S. -/
structure Fr (S : Nat → Prop) (h h' : Hp) : Prop where
  size : h.size ≤ h'.size
  keep : ∀ k, k < h.size → ¬ S k → h'[k]? = h[k]?
theorem Ext.fr {h h' : Hp} (e : Ext h h') (S : Nat → Prop) : Fr S h h' := ⟨e.size, fun k hk _ => e.old k hk⟩
theorem Fr.refl (S : Nat → Prop) (h : Hp) : Fr S h h := (Ext.refl h).fr S
theorem Fr.mono {S S' : Nat → Prop} {h h' : Hp} (f : Fr S h h') (hs : ∀ k, S k → S' k) : Fr S' h h' := ⟨f.size, fun k hk hn => f.keep k hk (fun hS => hn (hs k hS))⟩
theorem Fr.trans {S : Nat → Prop} {a b c : Hp} (f : Fr S a b) (g : Fr S b c) : Fr S a c := ⟨Nat.le_trans f.size g.size, fun k hk hn => (g.keep k (Nat.lt_of_lt_of_le hk f.size) hn).trans (f.keep k hk hn)⟩
/-- Blocks made on the way may change later. -/
theorem Fr.then_ {S S' : Nat → Prop} {a b c : Hp} (f : Fr S a b) (g : Fr S' b c) (hs : ∀ k, S' k → S k ∨ a.size ≤ k) : Fr S a c :=
  ⟨Nat.le_trans f.size g.size, fun k hk hn => (g.keep k (Nat.lt_of_lt_of_le hk f.size) (fun h => by rcases hs k h with h | h; exact hn h; omega)).trans (f.keep k hk hn)⟩
theorem Fr.get {S : Nat → Prop} {h h' : Hp} (f : Fr S h h') {b : Nat} {o : Obj} (hb : h[b]? = some o) (hn : ¬ S b) : h'[b]? = some o := (f.keep b (lt_of_get hb) hn).trans hb
theorem Fr.cl {S : Nat → Prop} {h h' : Hp} (f : Fr S h h') {a : Addr} {vs : List Value} (c : Cl h a vs) (hn : ¬ S a.block) : Cl h' a vs :=
  ⟨c.spot, fun j v hj => by
    have := c.at_ j v hj
    rw [cell_same]
    · exact this
    · have hb : (a.add j).block = a.block := by rw [add_off c.spot]
      rw [hb]
      have := cell_lt this
      rw [hb] at this
      exact f.keep _ this hn⟩
def setB (h : Hp) (b : Nat) (cs : List Value) (T : TypeId) : Hp := h.setIfInBounds b (.cells cs.toArray T (0, 0))
theorem setB_get {h : Hp} {b : Nat} {cs : List Value} {T : TypeId} (hb : b < h.size) : (setB h b cs T)[b]? = some (.cells cs.toArray T (0, 0)) := by simp [setB, hb]
theorem setB_ne {h : Hp} {b k : Nat} {cs : List Value} {T : TypeId} (hk : k ≠ b) : (setB h b cs T)[k]? = h[k]? := by
  unfold setB; rw [Array.getElem?_setIfInBounds_ne (Ne.symm hk)]
theorem setB_size {h : Hp} {b : Nat} {cs : List Value} {T : TypeId} : (setB h b cs T).size = h.size := by simp [setB]
theorem setB_fr {h : Hp} {b : Nat} {cs : List Value} {T : TypeId} {S : Nat → Prop} (hS : S b) : Fr S h (setB h b cs T) :=
  ⟨by rw [setB_size]; exact Nat.le_refl _, fun k hk hn => setB_ne (fun e => hn (e ▸ hS))⟩
theorem setB_setB {h : Hp} {b : Nat} {cs cs' : List Value} {T : TypeId} : setB (setB h b cs T) b cs' T = setB h b cs' T := by simp [setB]
theorem setB_self {h : Hp} {b : Nat} {cs : List Value} {T : TypeId} (hb : h[b]? = some (.cells cs.toArray T (0, 0))) : setB h b cs T = h := by
  unfold setB
  apply Array.ext_getElem?
  intro i
  by_cases hi : b = i
  · subst hi
    rw [hb, Array.getElem?_setIfInBounds_self_of_lt (lt_of_get hb)]
  · rw [Array.getElem?_setIfInBounds_ne hi]
theorem setCell_heap {h : Hp} {b o : Nat} {cs : List Value} {T : TypeId} {v : Value} (hb : h[b]? = some (.cells cs.toArray T (0, 0))) : ((W h).setCell ⟨b, o, none⟩ v).heap = setB h b (cs.set o v) T := by
  unfold World.setCell setB W
  simp only
  apply Array.ext_getElem?
  intro i
  rw [Array.getElem?_modify]
  by_cases hi : b = i
  · subst hi
    rw [if_pos rfl, hb, Array.getElem?_setIfInBounds_self_of_lt (lt_of_get hb)]
    simp
  · rw [if_neg hi, Array.getElem?_setIfInBounds_ne hi]
theorem frozen_false {h : Hp} {b o : Nat} {cs : List Value} {T : TypeId} (hb : h[b]? = some (.cells cs.toArray T (0, 0))) : (W h).frozen? ⟨b, o, none⟩ = false := by
  show (match h[b]? with | some (.cells _ _ (lo, hi)) => decide (lo ≤ o) && decide (o < hi) | _ => false) = false
  rw [hb]; simp
section
variable (P : Program)
theorem wp_bind {α β : Type} {s : Sem α} {f : α → Sem β} {h : Hp} {K : β → Hp → Prop} (hh : semWp P s h (fun a h' => semWp P (f a) h' K)) : semWp P (s >>= f) h K := semWp_bind P s f h K hh
theorem wp_underlying {t : TypeId} {d : TypeDesc} {h : Hp} {K : TypeDesc → Hp → Prop} (hu : P.underlying t = some d) (hk : K d h) : semWp P (underlying t) h K := by
  unfold underlying
  refine wp_bind P ?_
  show semWp P (match P.underlying t with | some d => pure d | none => stuck "no such type") h K
  rw [hu]; exact hk
theorem wp_info {t : TypeId} {i : TypeInfo} {h : Hp} {K : TypeInfo → Hp → Prop} (hi : P.info? t = some i) (hk : K i h) : semWp P (typeInfo t) h K := by
  unfold typeInfo
  refine wp_bind P ?_
  show semWp P (match P.info? t with | some i => pure i | none => stuck "no such type") h K
  rw [hi]; exact hk
theorem wp_size {t : TypeId} {i : TypeInfo} {h : Hp} {K : Nat → Hp → Prop} (hi : P.info? t = some i) (hk : K i.size h) : semWp P (sizeOf t) h K := by
  unfold sizeOf
  exact wp_bind P (wp_info P hi hk)
theorem wp_zero {t : TypeId} {i : TypeInfo} {z : Value} {h : Hp} {K : Value → Hp → Prop} (hi : P.info? t = some i) (hz : i.zero = some z) (hk : K z h) : semWp P (zeroValue t) h K := by
  unfold zeroValue
  refine wp_bind P (wp_info P hi ?_)
  rw [hz]; exact hk
theorem wp_loadCells {a : Addr} {us : List Value} {h : Hp} {K : Array Value → Hp → Prop} (hc : Cl h a us) (hk : K us.toArray h) : semWp P (loadCells a us.length) h K := by
  have key : ∀ (n i : Nat) (acc : Array Value), n + i = us.length → acc.toList = us.take i → semWp P (loadCellsFrom a i n acc) h K := by
    intro n
    induction n with
    | zero =>
      intro i acc hn hacc
      have : acc = us.toArray := by apply Array.ext'; rw [hacc, List.take_of_length_le (by omega)]
      rw [loadCellsFrom, this]; exact hk
    | succ n ih =>
      intro i acc hn hacc
      have hlt : i < us.length := by omega
      have hi : us[i]? = some us[i] := List.getElem?_eq_getElem hlt
      rw [loadCellsFrom]
      refine wp_bind P ⟨us[i], hc.at_ i _ hi, ?_⟩
      refine ih (i + 1) _ (by omega) ?_
      rw [Array.toList_push, hacc, List.take_succ_eq_append_getElem hlt]
  exact key us.length 0 #[] (by omega) (by simp)
theorem wp_storeCells {b o : Nat} {T : TypeId} {K : Unit → Hp → Prop} : ∀ (us : List Value) (i : Nat) (cs : List Value) (h : Hp), h[b]? = some (.cells cs.toArray T (0, 0)) → o + i + us.length ≤ cs.length → (∀ u ∈ us, flatV u = true) →
    K () (setB h b (cs.take (o + i) ++ us ++ cs.drop (o + i + us.length)) T) → semWp P (storeCells ⟨b, o, none⟩ us i) h K
  | [], i, cs, h, hb, hl, hf, hk => by
    rw [storeCells]
    simp only [List.append_nil, List.length_nil, Nat.add_zero, List.take_append_drop] at hk
    rw [setB_self hb] at hk
    exact hk
  | u :: us, i, cs, h, hb, hl, hf, hk => by
    rw [storeCells]
    have hlt : o + i < cs.length := by simp at hl; omega
    have hadd : (⟨b, o, none⟩ : Addr).add i = ⟨b, o + i, none⟩ := add_off rfl i
    refine wp_bind P ?_
    rw [hadd]
    refine ⟨hf u (List.mem_cons_self ..), ⟨cs[o + i], ?_⟩, frozen_false hb, ?_⟩
    · show cell h _ = _
      rw [cell_of hb, List.getElem?_eq_getElem hlt]
    · rw [setCell_heap hb]
      have hb2 : (setB h b (cs.set (o + i) u) T)[b]? = some (.cells (cs.set (o + i) u).toArray T (0, 0)) := setB_get (lt_of_get hb)
      refine wp_storeCells us (i + 1) (cs.set (o + i) u) _ hb2 (by simp at hl ⊢; omega) (fun x hx => hf x (List.mem_cons_of_mem _ hx)) ?_
      rw [setB_setB]
      have e : (cs.set (o + i) u).take (o + (i + 1)) ++ us ++ (cs.set (o + i) u).drop (o + (i + 1) + us.length) = cs.take (o + i) ++ (u :: us) ++ cs.drop (o + i + (u :: us).length) := by
        have h1 : (cs.set (o + i) u).take (o + (i + 1)) = cs.take (o + i) ++ [u] := by
          rw [← Nat.add_assoc, List.take_succ_eq_append_getElem (by simpa using hlt)]
          simp [List.take_set_of_le]
        have h2 : (cs.set (o + i) u).drop (o + (i + 1) + us.length) = cs.drop (o + i + (u :: us).length) := by
          rw [List.drop_set_of_lt (by omega)]
          congr 1
          simp; omega
        rw [h1, h2]; simp
      rw [e]; exact hk
end
/-- A store into a block that is known whole. -/
theorem HU_st {P : Program} {t : TypeId} {b o : Nat} {T : TypeId} {cs us : List Value} {v : Value} {h : Hp} {K : Hp → Prop} (hb : h[b]? = some (.cells cs.toArray T (0, 0))) (hv : v.cells = us.toArray) (hsz : (P.info? t).map (·.size) = some us.length)
    (hl : o + us.length ≤ cs.length) (hf : us.all flatV = true) (hk : K (setB h b (cs.take o ++ us ++ cs.drop (o + us.length)) T)) : HU P (Instr.storeAt t (.pointer (some ⟨b, o, none⟩)) v) h K := by
  unfold HU Instr.storeAt Instr.sureAddr
  refine wp_bind P ?_
  unfold storeVar
  cases hi : P.info? t with
  | none => rw [hi] at hsz; cases hsz
  | some i =>
    rw [hi] at hsz
    simp only [Option.map_some, Option.some.injEq] at hsz
    refine wp_bind P (wp_size P hi ?_)
    have : ¬ (v.cells.size ≠ i.size) := by rw [hv, hsz]; simp
    rw [if_neg this]
    rw [hv]
    refine wp_storeCells P us 0 cs h hb (by omega) (fun u hu => List.all_eq_true.1 hf u hu) ?_
    simpa using hk
/-- A row of the call's own: nil, or the head of a block. -/
def OSl (h : Hp) (E sz : Nat) (A : Option Addr) (n c : Nat) (cs : List Value) : Prop :=
  (A = none ∧ n = 0 ∧ c = 0 ∧ cs = []) ∨ ∃ g rest, A = some ⟨g, 0, none⟩ ∧ h[g]? = some (.cells (cs ++ rest).toArray E (0, 0)) ∧ cs.length = n * sz ∧ (cs ++ rest).length = c * sz ∧ n ≤ c
def blk (A : Option Addr) (k : Nat) : Prop := ∃ a, A = some a ∧ a.block = k
theorem OSl.read {h : Hp} {E sz : Nat} {A : Option Addr} {n c : Nat} {cs : List Value} (r : OSl h E sz A n c cs) : RSl h A n sz cs := by
  rcases r with ⟨rfl, rfl, rfl, rfl⟩ | ⟨g, rest, rfl, hb, h1, h2, h3⟩
  · exact ⟨by simp, .inl rfl⟩
  · refine ⟨h1, .inr ⟨_, rfl, Cl.of_block hb fun j v hj => ?_⟩⟩
    rw [Nat.zero_add, List.getElem?_append_left (List.getElem?_eq_some_iff.1 hj).1]; exact hj
theorem OSl.keep {h h' : Hp} {E sz : Nat} {A : Option Addr} {n c : Nat} {cs : List Value} {S : Nat → Prop} (r : OSl h E sz A n c cs) (f : Fr S h h') (hn : ∀ k, blk A k → ¬ S k) : OSl h' E sz A n c cs := by
  rcases r with r | ⟨g, rest, rfl, hb, h1, h2, h3⟩
  · exact .inl r
  · exact .inr ⟨g, rest, rfl, f.get hb (hn g ⟨_, rfl, rfl⟩), h1, h2, h3⟩
theorem OSl.blk_lt {h : Hp} {E sz : Nat} {A : Option Addr} {n c : Nat} {cs : List Value} (r : OSl h E sz A n c cs) {k : Nat} (hk : blk A k) : k < h.size := by
  rcases r with ⟨rfl, _⟩ | ⟨g, rest, rfl, hb, _⟩
  · obtain ⟨a, ha, _⟩ := hk; cases ha
  · obtain ⟨a, ha, rfl⟩ := hk
    injection ha with ha
    subst ha
    exact lt_of_get hb
/-! ### append -/
def zcells (zero : List Value) (n : Nat) : List Value := (Builtin.zeroCells zero.toArray n).toList
theorem zcells_len (zero : List Value) (n : Nat) : (zcells zero n).length = n * zero.length := by simp [zcells, Builtin.zeroCells]
theorem growBy_le (need : Nat) : ∀ (r c : Nat), c < need → Builtin.growBy need r c ≤ 2 * need + 768
  | 0, c, h => by simp [Builtin.growBy]; omega
  | r + 1, c, h => by
    rw [Builtin.growBy]
    split
    · omega
    · by_cases h2 : c + (c + 768) / 4 < need
      · exact growBy_le need r _ h2
      · have : ∀ r', Builtin.growBy need r' (c + (c + 768) / 4) = c + (c + 768) / 4 := by
          intro r'
          cases r' with
          | zero => rfl
          | succ r' => rw [Builtin.growBy, if_pos (by omega)]
        rw [this]; omega
theorem nextcap_le {need cap : Nat} (h : cap < need) : Builtin.nextslicecap need cap ≤ 2 * need + 768 := by
  unfold Builtin.nextslicecap
  split
  · omega
  · split
    · omega
    · exact growBy_le need 4 cap h
theorem wp_askRoom {P : Program} {n : Nat} {h : Hp} {K : Unit → Hp → Prop} (hk : K () h) : semWp P (askRoom n) h K := by
  unfold askRoom
  split
  · exact hk
  · exact hk
theorem add_eq0 (g : Nat) (n : Nat) : (⟨g, 0, none⟩ : Addr).add n = ⟨g, n, none⟩ := by rw [add_off rfl]; simp
theorem wp_firstCells {P : Program} {A : Option Addr} {n c sz : Nat} {cs : List Value} {h : Hp} {K : Array Value → Hp → Prop} (r : RSl h A n sz cs) (hk : K cs.toArray h) : semWp P (Builtin.firstCells sz n (.slice A n c)) h K := by
  obtain ⟨hl, r⟩ := r
  cases A with
  | none =>
    rcases r with r | ⟨a, ha, _⟩
    · subst r
      have : cs = [] := List.eq_nil_of_length_eq_zero (by rw [hl]; simp)
      subst this
      exact hk
    · cases ha
  | some a =>
    show semWp P (loadCells a (n * sz)) h K
    rcases r with r | ⟨a', ha, c⟩
    · subst r
      have : cs = [] := List.eq_nil_of_length_eq_zero (by rw [hl]; simp)
      subst this
      rw [Nat.zero_mul]
      exact hk
    · rw [← hl]
      injection ha with ha; subst ha; exact wp_loadCells P c hk
theorem semWp_bind_eq (P : Program) {α β : Type} (s : Sem α) (f : α → Sem β) : ∀ (h : Hp) (K : β → Hp → Prop), semWp P (s >>= f) h K = semWp P s h (fun a h' => semWp P (f a) h' K) := by
  show ∀ (h : Hp) (K : β → Hp → Prop), semWp P (Sem.bind s f) h K = _
  induction s with
  | pure a => intro h K; rfl
  | load m a k ih => intro h K; simp only [Sem.bind, semWp, ih]
  | store m a v k ih => intro h K; simp only [Sem.bind, semWp, ih]
  | new o k ih => intro h K; simp only [Sem.bind, semWp, ih]
  | shape r k ih => intro h K; simp only [Sem.bind, semWp, ih]
  | freeze a n k ih => intro h K; simp only [Sem.bind, semWp, ih]
  | frozen a k ih => intro h K; simp only [Sem.bind, semWp, ih]
  | getObj r k ih => intro h K; simp only [Sem.bind, semWp, ih]
  | setObj r o k ih => intro h K; simp only [Sem.bind, semWp, ih]
  | choose q k ih => intro h K; simp only [Sem.bind, semWp, ih]
  | sys c k ih => intro h K; rfl
  | program k ih => intro h K; simp only [Sem.bind, semWp, ih]
  | mark m k ih => intro h K; simp only [Sem.bind, semWp, ih]
  | halt x => intro h K; rfl
theorem semWp_pure_eq (P : Program) {α : Type} (a : α) (h : Hp) (K : α → Hp → Prop) : semWp P (pure a : Sem α) h K = K a h := rfl
theorem underlying_eq {P : Program} {t : TypeId} {d : TypeDesc} (hu : P.underlying t = some d) (h : Hp) (K : TypeDesc → Hp → Prop) : semWp P (underlying t) h K = K d h := by
  unfold underlying
  rw [semWp_bind_eq]
  show semWp P (match P.underlying t with | some d => pure d | none => stuck "no such type") h K = _
  rw [hu]; rfl
theorem info_eq {P : Program} {t : TypeId} {i : TypeInfo} (hi : P.info? t = some i) (h : Hp) (K : TypeInfo → Hp → Prop) : semWp P (typeInfo t) h K = K i h := by
  unfold typeInfo
  rw [semWp_bind_eq]
  show semWp P (match P.info? t with | some i => pure i | none => stuck "no such type") h K = _
  rw [hi]; rfl
theorem size_eq {P : Program} {t : TypeId} {i : TypeInfo} (hi : P.info? t = some i) (h : Hp) (K : Nat → Hp → Prop) : semWp P (sizeOf t) h K = K i.size h := by
  unfold sizeOf
  rw [semWp_bind_eq, info_eq hi]; rfl
theorem zero_eq {P : Program} {t : TypeId} {i : TypeInfo} {z : Value} (hi : P.info? t = some i) (hz : i.zero = some z) (h : Hp) (K : Value → Hp → Prop) : semWp P (zeroValue t) h K = K z h := by
  unfold zeroValue
  rw [semWp_bind_eq, info_eq hi, hz]; rfl
theorem askRoom_eq {P : Program} {n : Nat} (h : Hp) (K : Unit → Hp → Prop) : semWp P (askRoom n) h K = K () h := by
  unfold askRoom
  split <;> rfl
theorem semWp_map_eq (P : Program) {α β : Type} (f : α → β) (s : Sem α) (h : Hp) (K : β → Hp → Prop) : semWp P (f <$> s) h K = semWp P s h (fun a h' => K (f a) h') := by
  show semWp P (s >>= fun a => pure (f a)) h K = _
  rw [semWp_bind_eq]; rfl
/-- append(s, x...), s a row of the call's own, x a slice that is read. -/
theorem HW_appendC {P : Program} {T E : TypeId} {i : TypeInfo} {z : Value} {h : Hp} {A : Option Addr} {n c m cx : Nat} {ax : Addr} {cs ns : List Value} {K : Value → Hp → Prop}
    (hu : P.underlying T = some (.slice E)) (hi : P.info? E = some i) (hz : i.zero = some z) (hzl : z.cells.size = i.size) (hb0 : 0 < i.bytes)
    (r : OSl h E i.size A n c cs) (hx : Cl h ax ns) (hm : ns.length = m * i.size) (hm0 : 0 < m) (hf : ns.all flatV = true) (hbound : (2 * (n + m) + 768) * i.bytes ≤ 2 ^ 48)
    (H : ∀ h' A' c', OSl h' E i.size A' (n + m) c' (cs ++ ns) → (A' = A ∨ ∀ k, blk A' k → h.size ≤ k) → A'.isSome = true → Fr (blk A) h h' → (c' = c ∨ c' < 2 ^ 63) → K (.slice A' (n + m) c') h') :
    HW P (Builtin.append_ #[T, T] T #[.slice A n c, .slice (some ax) m cx]) h K := by
  unfold HW
  have hub : n + m < 2 ^ 62 := by
    have : (2 * (n + m) + 768) * 1 ≤ (2 * (n + m) + 768) * i.bytes := Nat.mul_le_mul_left _ hb0
    omega
  simp [Builtin.append_, semWp_bind_eq, underlying_eq hu, size_eq hi, Builtin.lenOf, semWp_pure_eq]
  have hrx : RSl h (some ax) m i.size ns := ⟨hm, .inr ⟨ax, rfl, hx⟩⟩
  by_cases hroom : n + m ≤ c
  · rw [if_pos hroom, semWp_bind_eq]
    refine wp_firstCells hrx ?_
    rcases r with ⟨rfl, rfl, rfl, rfl⟩ | ⟨g, rest, rfl, hb, h1, h2, h3⟩
    · omega
    · simp only [semWp_map_eq]
      rw [add_eq0]
      have hlen : n * i.size + ns.length ≤ (cs ++ rest).length := by
        rw [h2, hm, ← Nat.add_mul]; exact Nat.mul_le_mul_right _ hroom
      refine wp_storeCells P ns 0 (cs ++ rest) h hb (by simpa using hlen) (fun u hu => List.all_eq_true.1 hf u hu) ?_
      have e : (cs ++ rest).take (n * i.size + 0) ++ ns ++ (cs ++ rest).drop (n * i.size + 0 + ns.length) = (cs ++ ns) ++ rest.drop ns.length := by
        rw [Nat.add_zero, ← h1, List.take_left, List.drop_append, List.drop_of_length_le (by omega)]
        simp
      rw [e]
      refine H _ _ c (.inr ⟨g, rest.drop ns.length, rfl, setB_get (lt_of_get hb), ?_, ?_, hroom⟩) (.inl rfl) rfl (setB_fr ⟨_, rfl, rfl⟩) (.inl rfl)
      · rw [List.length_append, h1, hm, Nat.add_mul]
      · simp only [List.length_append, List.length_drop] at h2 hlen ⊢
        omega
  · rw [if_neg hroom]
    have hne : ¬ (i.bytes = 0) := by omega
    have hcap := nextcap_le (need := n + m) (cap := c) (by omega)
    have hok : ¬ (281474976710656 < Builtin.nextslicecap (n + m) c * i.bytes) := by
      have := Nat.mul_le_mul_right i.bytes hcap
      omega
    simp only [semWp_bind_eq, info_eq hi, hne, and_false, if_false, hok]
    refine ⟨fun hq => by simp [Question.forced] at hq, fun _ t => ?_⟩
    show semWp P (pure _ : Sem Nat) h _
    rw [semWp_pure_eq]
    have hcapn : n + m ≤ Question.cut (.appendCap (n + m) c E) t := by simp [Question.cut]
    have hcapu : Question.cut (.appendCap (n + m) c E) t < 2 ^ 63 := by
      simp only [Question.cut]
      have := Nat.mod_lt t (show 0 < 2 ^ 63 - (n + m) by omega)
      omega
    revert hcapu
    generalize Question.cut (.appendCap (n + m) c E) t = nc at hcapn
    intro hcapu
    simp only [askRoom_eq]
    refine wp_firstCells r.read ?_
    refine wp_firstCells hrx ?_
    simp only [zero_eq hi hz, semWp_map_eq]
    show K (.slice (some ⟨h.size, 0, none⟩) (n + m) nc) (h.push _)
    have hzc : (cs.toArray ++ (ns.toArray ++ Builtin.zeroCells z.cells (nc - (n + m)))) = ((cs ++ ns) ++ zcells z.cells.toList (nc - (n + m))).toArray := by
      apply Array.ext'
      simp [zcells]
    rw [hzc]
    refine H _ _ nc (.inr ⟨h.size, zcells z.cells.toList (nc - (n + m)), rfl, by simp, ?_, ?_, hcapn⟩) (.inr ?_) rfl ((Ext.push h _).fr _) (.inr hcapu)
    · rw [List.length_append, r.read.1, hm, Nat.add_mul]
    · rw [List.length_append, List.length_append, r.read.1, hm, zcells_len, ← Nat.add_mul]
      have : z.cells.toList.length = i.size := by simpa using hzl
      rw [this, ← Nat.add_mul]
      congr 1
      omega
    · rintro k ⟨a, ha, rfl⟩
      injection ha with ha
      subst ha
      exact Nat.le_refl _
theorem HW_append {P : Program} {T E : TypeId} {i : TypeInfo} {z : Value} {h : Hp} {A : Option Addr} {n c m cx : Nat} {ax : Addr} {cs ns : List Value} {K : Value → Hp → Prop}
    (hu : P.underlying T = some (.slice E)) (hi : P.info? E = some i) (hz : i.zero = some z) (hzl : z.cells.size = i.size) (hb0 : 0 < i.bytes)
    (r : OSl h E i.size A n c cs) (hx : Cl h ax ns) (hm : ns.length = m * i.size) (hm0 : 0 < m) (hf : ns.all flatV = true) (hbound : (2 * (n + m) + 768) * i.bytes ≤ 2 ^ 48)
    (H : ∀ h' A' c', OSl h' E i.size A' (n + m) c' (cs ++ ns) → (A' = A ∨ ∀ k, blk A' k → h.size ≤ k) → A'.isSome = true → Fr (blk A) h h' → K (.slice A' (n + m) c') h') :
    HW P (Builtin.append_ #[T, T] T #[.slice A n c, .slice (some ax) m cx]) h K := HW_appendC hu hi hz hzl hb0 r hx hm hm0 hf hbound fun h' A' c' a b d e _ => H h' A' c' a b d e
/-! ### Cuts -/
theorem slLo {P : Program} {T E : TypeId} {i : TypeInfo} {A : Option Addr} {l c : Nat} {x : Int} (hu : P.underlying T = some (.slice E)) (hi : P.info? E = some i) (h0 : 0 ≤ x) (h1 : x ≤ l) :
    PV P (Instr.sliceAt T (.slice A l c) (some (.int .i64 x)) none none) (.slice (if c = x.toNat then A else A.map (·.add (x.toNat * i.size))) (l - x.toNat) (c - x.toNat)) := by
  intro w
  simp [Instr.sliceAt, Instr.slice, run_underlying hu, Instr.sliceBounds, Instr.sliceBound, asIntOf, h0, h1, sizeOf, typeInfo, hi]
theorem slHi {P : Program} {T E : TypeId} {i : TypeInfo} {A : Option Addr} {l c : Nat} {x : Int} (hu : P.underlying T = some (.slice E)) (hi : P.info? E = some i) (h0 : 0 ≤ x) (h1 : x ≤ c) :
    PV P (Instr.sliceAt T (.slice A l c) none (some (.int .i64 x)) none) (.slice A x.toNat c) := by
  intro w
  simp [Instr.sliceAt, Instr.slice, run_underlying hu, Instr.sliceBounds, Instr.sliceBound, asIntOf, h0, h1, sizeOf, typeInfo, hi, add_zero]
/-! ### copy -/
theorem HW_copy0 {P : Program} {T E ty : TypeId} {i : TypeInfo} {h : Hp} {dA sA : Option Addr} {dn dc sn sc : Nat} {K : Value → Hp → Prop}
    (hu : P.underlying T = some (.slice E)) (hi : P.info? E = some i) (hn : Nat.min sn dn = 0) (H : K (.int .i64 0) h) :
    HW P (Builtin.copy_ #[T, T] ty #[.slice dA dn dc, .slice sA sn sc]) h K := by
  unfold HW
  simp [Builtin.copy_, semWp_bind_eq, underlying_eq hu, size_eq hi, Builtin.lenOf, semWp_pure_eq, hn]
  have hf : ∀ (K : Array Value → Hp → Prop), K #[] h → semWp P (Builtin.firstCells i.size 0 (.slice sA sn sc)) h K := by
    intro K hk
    cases sA with
    | none => exact hk
    | some a => show semWp P (loadCells a (0 * i.size)) h K; rw [Nat.zero_mul]; exact hk
  refine hf _ ?_
  cases dA with
  | none => exact H
  | some a => simp only [semWp_map_eq]; exact H
theorem HW_copy {P : Program} {T E ty : TypeId} {i : TypeInfo} {h : Hp} {g o dn dc sn sc : Nat} {sa : Addr} {cs us : List Value} {K : Value → Hp → Prop}
    (hu : P.underlying T = some (.slice E)) (hi : P.info? E = some i) (hb : h[g]? = some (.cells cs.toArray E (0, 0))) (hc : Cl h sa us) (hl : us.length = Nat.min sn dn * i.size) (ho : o + us.length ≤ cs.length) (hf : us.all flatV = true)
    (H : K (.int .i64 (Nat.min sn dn : Nat)) (setB h g (cs.take o ++ us ++ cs.drop (o + us.length)) E)) :
    HW P (Builtin.copy_ #[T, T] ty #[.slice (some ⟨g, o, none⟩) dn dc, .slice (some sa) sn sc]) h K := by
  unfold HW
  simp [Builtin.copy_, semWp_bind_eq, underlying_eq hu, size_eq hi, Builtin.lenOf, semWp_pure_eq]
  show semWp P (loadCells sa (Nat.min sn dn * i.size)) h _
  rw [← hl]
  refine wp_loadCells P hc ?_
  simp only [semWp_map_eq]
  refine wp_storeCells P us 0 cs h hb (by omega) (fun u hu => List.all_eq_true.1 hf u hu) ?_
  simpa [goInt] using H
/-! ### make -/
theorem zcells_eq (z : List Value) (k : Nat) (hz : 0 < z.length) : zcells z k = (List.replicate k z).flatten := by
  apply List.ext_getElem?
  intro j
  by_cases hj : j < k * z.length
  · have h1 : (zcells z k)[j]? = z[j % z.length]? := by
      have hlt := Nat.mod_lt j hz
      simp [zcells, Builtin.zeroCells, hj, hlt]
    rw [h1]
    clear h1
    induction k generalizing j with
    | zero => simp at hj
    | succ k ih =>
      rw [List.replicate_succ, List.flatten_cons]
      by_cases hlt : j < z.length
      · rw [List.getElem?_append_left hlt, Nat.mod_eq_of_lt hlt]
      · rw [List.getElem?_append_right (by omega), ← ih (j - z.length) (by rw [Nat.add_mul] at hj; omega)]
        rw [← Nat.mod_eq_sub_mod (by omega)]
  · rw [List.getElem?_eq_none (by rw [zcells_len]; omega), List.getElem?_eq_none (by simp; omega)]
theorem HW_make {P : Program} {T E : TypeId} {i : TypeInfo} {z : Value} {h : Hp} {n c : Int} {K : Value → Hp → Prop}
    (hu : P.underlying T = some (.slice E)) (hi : P.info? E = some i) (hz : i.zero = some z) (hzl : z.cells.size = i.size) (hz0 : 0 < i.size) (h0 : 0 ≤ n) (h1 : n ≤ c) (hb : i.bytes * c ≤ 2 ^ 48) (hc : c < 2 ^ 62)
    (H : ∀ h', h' = h.push (.cells (List.replicate c.toNat z.cells.toList).flatten.toArray E (0, 0)) → OSl h' E i.size (some ⟨h.size, 0, none⟩) n.toNat c.toNat ((List.replicate n.toNat z.cells.toList).flatten) → K (.slice (some ⟨h.size, 0, none⟩) n.toNat c.toNat) h') :
    HW P (Instr.makeSlice T (.int .i64 n) (.int .i64 c)) h K := by
  unfold HW
  have w1 : IntKind.i64.wrap n = n := wrap_in (by omega) (by omega)
  have w2 : IntKind.i64.wrap c = c := wrap_in (by omega) (by omega)
  have hb' : ¬ ((i.bytes : Int) * c > 281474976710656) := by omega
  have hno : ((decide (c < 0) || decide ((i.bytes : Int) * c > 2 ^ 48)) || decide (n < 0) || decide (n > c)) = false := by
    simp; omega
  simp only [Instr.makeSlice, semWp_bind_eq, underlying_eq hu, info_eq hi, size_eq hi, asInt, asIntOf, semWp_pure_eq, w1, w2]
  rw [if_neg (by simp at hno ⊢; omega)]
  simp only [semWp_bind_eq, askRoom_eq, size_eq hi]
  have hzl' : z.cells.toList.length = i.size := by simpa using hzl
  have hcells : ∀ (zc : Array Value), (c.toNat * i.size = 0 ∧ zc = #[]) ∨ (c.toNat * i.size ≠ 0 ∧ zc = z.cells) → (Array.range (c.toNat * i.size)).map (fun j => zc[j % zc.size]!) = (List.replicate c.toNat z.cells.toList).flatten.toArray := by
    intro zc hzc
    rw [← zcells_eq _ _ (by omega)]
    rcases hzc with ⟨h2, rfl⟩ | ⟨h2, rfl⟩
    · apply Array.ext'
      simp [zcells, Builtin.zeroCells, h2]
      rw [hzl]; exact h2
    · apply Array.ext'
      simp [zcells, Builtin.zeroCells, hzl]
  have fin : ∀ zc : Array Value, ((c.toNat * i.size = 0 ∧ zc = #[]) ∨ (c.toNat * i.size ≠ 0 ∧ zc = z.cells)) → K (.slice (some ⟨h.size, 0, none⟩) n.toNat c.toNat) (h.push (.cells ((Array.range (c.toNat * i.size)).map (fun j => zc[j % zc.size]!)) E)) := by
    intro zc hzc
    rw [hcells zc hzc]
    refine H _ rfl (.inr ⟨h.size, (List.replicate (c.toNat - n.toNat) z.cells.toList).flatten, rfl, ?_, ?_, ?_, by omega⟩)
    · rw [← List.flatten_append, List.replicate_append_replicate]
      have : n.toNat + (c.toNat - n.toNat) = c.toNat := by omega
      rw [this]; simp
    · simp [hzl]
    · rw [← List.flatten_append, List.replicate_append_replicate]
      have : n.toNat + (c.toNat - n.toNat) = c.toNat := by omega
      rw [this]; simp [hzl]
  split
  · rename_i h2
    exact fin #[] (.inl ⟨h2, rfl⟩)
  · rename_i h2
    simp only [semWp_bind_eq, zero_eq hi hz, semWp_pure_eq]
    exact fin z.cells (.inr ⟨h2, rfl⟩)
end Go.Proofs.YtoheablfncdibaaDoor.Sx
