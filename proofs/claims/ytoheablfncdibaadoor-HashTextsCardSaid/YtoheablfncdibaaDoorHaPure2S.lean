/- Probing: a put, a delete, the slots laid anew (plain laws). -/
import Derived.Test.YtoheablfncdibaaDoorHaPureS
namespace Go.Proofs.YtoheablfncdibaaDoor.FsS
open Go Go.RowKit Go.Proofs.YtoheablfncdibaaDoor.Sx Go.Proofs.YtoheablfncdibaaDoor.Fs
set_option linter.unusedVariables false
set_option linter.unusedSimpArgs false
set_option maxRecDepth 10000
theorem filter_set {α : Type} (p : α → Bool) : ∀ (l : List α) (i : Nat) (x y : α), l[i]? = some y → ((l.set i x).filter p).length + (if p y = true then 1 else 0) = (l.filter p).length + (if p x = true then 1 else 0)
  | [], i, x, y, h => by simp at h
  | a :: l, 0, x, y, h => by
    have : a = y := by simpa using h
    subst this
    rw [List.set_cons_zero, List.filter_cons, List.filter_cons]
    by_cases h1 : p x = true <;> by_cases h2 : p a = true <;> simp [h1, h2]
  | a :: l, i + 1, x, y, h => by
    have ih := filter_set p l i x y (by simpa using h)
    rw [List.set_cons_succ, List.filter_cons, List.filter_cons]
    by_cases h2 : p a = true <;> simp [h2] <;> omega
theorem stOf_set (ss : List Slot) (i : Nat) (x : Slot) (k : Hdr) : stOf (ss.set i x) k = stOf ss k := by unfold stOf; rw [List.length_set]
theorem mem_set {ss : List Slot} {i : Nat} (hi : i < ss.length) (x y : Slot) : y ∈ ss.set i x ↔ y = x ∨ ∃ j, j ≠ i ∧ ss[j]? = some y := by
  rw [List.mem_iff_getElem?]
  constructor
  · rintro ⟨j, hj⟩
    by_cases e : i = j
    · subst e
      rw [List.getElem?_set_self hi] at hj
      exact .inl (by simpa using hj.symm)
    · rw [List.getElem?_set_ne e] at hj
      exact .inr ⟨j, fun h => e h.symm, hj⟩
  · rintro (rfl | ⟨j, hj, h⟩)
    · exact ⟨i, List.getElem?_set_self hi⟩
    · exact ⟨j, by rw [List.getElem?_set_ne (fun h => hj h.symm)]; exact h⟩
/-- One slot is laid anew: the slots stay as they should be. -/
theorem HI.set {ss : List Slot} (I : HI ss) {i : Nat} {y : Slot} (hi : ss[i]? = some y) {x : Slot} (hx : x.is = 1 ∨ x.is = 2) (hu : x.is = 1 → ∀ (j : Nat) (s : Slot), j ≠ i → ss[j]? = some s → s.is = 1 → s.k ≠ x.k)
    (hp : x.is = 1 → ∃ d, d < ss.length ∧ i = FsS.pos ss.length (stOf ss x.k) d ∧ ∀ (j : Nat), j < d → ∀ (s : Slot), ss[FsS.pos ss.length (stOf ss x.k) j]? = some s → s.is ≠ 0) : HI (ss.set i x) := by
  obtain ⟨hlt, _⟩ := List.getElem?_eq_some_iff.1 hi
  have hget : ∀ (j : Nat) (s : Slot), (ss.set i x)[j]? = some s → (j = i ∧ s = x) ∨ (j ≠ i ∧ ss[j]? = some s) := by
    intro j s hj
    by_cases e : i = j
    · subst e
      rw [List.getElem?_set_self hlt] at hj
      exact .inl ⟨rfl, by simpa using hj.symm⟩
    · rw [List.getElem?_set_ne e] at hj
      exact .inr ⟨fun h => e h.symm, hj⟩
  have hne : ∀ (d : Nat) (st : Nat), (∀ (j : Nat), j < d → ∀ (s : Slot), ss[FsS.pos ss.length st j]? = some s → s.is ≠ 0) → ∀ (j : Nat), j < d → ∀ (s : Slot), (ss.set i x)[FsS.pos (ss.set i x).length st j]? = some s → s.is ≠ 0 := by
    intro d st h j hj s hs
    rw [List.length_set] at hs
    rcases hget _ _ hs with ⟨_, rfl⟩ | ⟨_, h2⟩
    · omega
    · exact h j hj s h2
  refine ⟨by rw [List.length_set]; exact I.pos, fun s hs => ?_, fun j j' s s' hj hj' h1 h1' hk => ?_, fun j s hj h1 => ?_⟩
  · rcases (mem_set hlt x s).1 hs with rfl | ⟨j, _, h⟩
    · rcases hx with h | h
      · exact .inr (.inl h)
      · exact .inr (.inr h)
    · exact I.kinds s (List.mem_of_getElem? h)
  · rcases hget _ _ hj with ⟨e, rfl⟩ | ⟨e, h⟩ <;> rcases hget _ _ hj' with ⟨e', rfl⟩ | ⟨e', h'⟩
    · omega
    · exact absurd hk.symm (hu h1 j' s' e' h' h1')
    · exact absurd hk (hu h1' j s e h h1)
    · exact I.uniq j j' s s' h h' h1 h1' hk
  · rcases hget _ _ hj with ⟨e, rfl⟩ | ⟨e, h⟩
    · obtain ⟨d, hd, hid, hb⟩ := hp h1
      refine ⟨d, by rw [List.length_set]; exact hd, by rw [List.length_set, stOf_set, e]; exact hid, ?_⟩
      rw [stOf_set]
      exact hne d _ hb
    · obtain ⟨d, hd, hid, hb⟩ := I.probe j s h h1
      refine ⟨d, by rw [List.length_set]; exact hd, by rw [List.length_set, stOf_set]; exact hid, ?_⟩
      rw [stOf_set]
      exact hne d _ hb
theorem held_get {ss : List Slot} {k : Hdr} {v : ByteArray} (h : (⟨1, k, v⟩ : Slot) ∈ ss) : ∃ i : Nat, ss[i]? = some (⟨1, k, v⟩ : Slot) := List.mem_iff_getElem?.1 h
theorem HI.fun_ {ss : List Slot} (I : HI ss) {k : Hdr} {v v' : ByteArray} (h : (⟨1, k, v⟩ : Slot) ∈ ss) (h' : (⟨1, k, v'⟩ : Slot) ∈ ss) : v = v' := by
  obtain ⟨i, hi⟩ := held_get h
  obtain ⟨j, hj⟩ := held_get h'
  have := I.uniq i j _ _ hi hj rfl rfl rfl
  subst this
  rw [hi] at hj
  injection hj with hj
  injection hj
theorem slot_eta {s : Slot} (h : s.is = 1) : s = ⟨1, s.k, s.v⟩ := by cases s; simp_all
/-- A key that is not held is laid in a free slot. -/
theorem lay_new {ss : List Slot} (I : HI ss) {k : Hdr} {v : ByteArray} (hno : ∀ u, (⟨1, k, u⟩ : Slot) ∉ ss) {d : Nat} {s : Slot} (hd : d < ss.length) (hs : ss[pos ss.length (stOf ss k) d]? = some s) (hf : s.is = 2 ∨ s.is = 0) (hb : ∀ (j : Nat), j < d → ∀ (s' : Slot), ss[pos ss.length (stOf ss k) j]? = some s' → s'.is ≠ 0) :
    HI (ss.set (pos ss.length (stOf ss k) d) ⟨1, k, v⟩) ∧ fulls (ss.set (pos ss.length (stOf ss k) d) ⟨1, k, v⟩) = fulls ss + 1 ∧ lefts (ss.set (pos ss.length (stOf ss k) d) ⟨1, k, v⟩) + (if s.is = 2 then 1 else 0) = lefts ss ∧ ∀ k' v', (⟨1, k', v'⟩ : Slot) ∈ ss.set (pos ss.length (stOf ss k) d) ⟨1, k, v⟩ ↔ (k' = k ∧ v' = v) ∨ (⟨1, k', v'⟩ : Slot) ∈ ss := by
  have hlt := (List.getElem?_eq_some_iff.1 hs).1
  refine ⟨I.set hs (.inl rfl) (fun _ j s' hj hs' h1 hk => ?_) (fun _ => ⟨d, hd, rfl, hb⟩), ?_, ?_, fun k' v' => ?_⟩
  · refine hno s'.v ?_
    have := slot_eta h1
    rw [hk] at this
    show (⟨1, k, s'.v⟩ : Slot) ∈ ss
    have hm := List.mem_of_getElem? hs'
    rw [this] at hm
    exact hm
  · have := filter_set (fun s : Slot => s.is == 1) ss _ ⟨1, k, v⟩ s hs
    unfold fulls
    have h1 : ((s.is == 1) = true) = False := by rcases hf with h | h <;> simp [h]
    simp only [h1, if_false] at this
    simpa using this
  · have := filter_set (fun s : Slot => s.is == 2) ss _ ⟨1, k, v⟩ s hs
    unfold lefts
    by_cases h2 : s.is = 2 <;> simp [h2] at this ⊢ <;> omega
  · rw [mem_set hlt]
    constructor
    · rintro (h | ⟨j, _, h⟩)
      · injection h with _ h1 h2
        exact .inl ⟨h1, h2⟩
      · exact .inr (List.mem_of_getElem? h)
    · rintro (⟨rfl, rfl⟩ | h)
      · exact .inl rfl
      · obtain ⟨j, hj⟩ := held_get h
        refine .inr ⟨j, fun e => ?_, hj⟩
        rw [e, hs] at hj
        injection hj with hj
        rw [hj] at hf
        rcases hf with h | h <;> cases h
/-- A key that is held gets another value. -/
theorem lay_old {ss : List Slot} (I : HI ss) {i : Nat} {s : Slot} (hi : ss[i]? = some s) (h1 : s.is = 1) (v : ByteArray) :
    HI (ss.set i { s with v := v }) ∧ fulls (ss.set i { s with v := v }) = fulls ss ∧ lefts (ss.set i { s with v := v }) = lefts ss ∧ ∀ k' v', (⟨1, k', v'⟩ : Slot) ∈ ss.set i { s with v := v } ↔ (k' = s.k ∧ v' = v) ∨ (k' ≠ s.k ∧ (⟨1, k', v'⟩ : Slot) ∈ ss) := by
  have hlt := (List.getElem?_eq_some_iff.1 hi).1
  refine ⟨I.set hi (.inl h1) (fun _ j s' hj hs' h1' hk => hj (I.uniq j i s' s hs' hi h1' h1 hk)) (fun _ => I.probe i s hi h1), ?_, ?_, fun k' v' => ?_⟩
  · have := filter_set (fun s : Slot => s.is == 1) ss i { s with v := v } s hi
    unfold fulls
    simp only [h1] at this ⊢
    simpa using this
  · have := filter_set (fun s : Slot => s.is == 2) ss i { s with v := v } s hi
    unfold lefts
    simp only [h1] at this ⊢
    simpa using this
  · rw [mem_set hlt]
    constructor
    · rintro (h | ⟨j, hj, h⟩)
      · injection h with _ h2 h3
        exact .inl ⟨h2, h3⟩
      · exact .inr ⟨fun e => hj (I.uniq j i _ s h hi rfl h1 e), List.mem_of_getElem? h⟩
    · rintro (⟨rfl, rfl⟩ | ⟨hk, h⟩)
      · left
        cases s; simp_all
      · obtain ⟨j, hj⟩ := held_get h
        refine .inr ⟨j, fun e => ?_, hj⟩
        rw [e, hi] at hj
        injection hj with hj
        rw [hj] at hk
        exact hk rfl
/-- A key goes. -/
theorem lay_del {ss : List Slot} (I : HI ss) {i : Nat} {s : Slot} (hi : ss[i]? = some s) (h1 : s.is = 1) :
    HI (ss.set i ⟨2, h0, zb⟩) ∧ fulls (ss.set i ⟨2, h0, zb⟩) + 1 = fulls ss ∧ lefts (ss.set i ⟨2, h0, zb⟩) = lefts ss + 1 ∧ ∀ k' v', (⟨1, k', v'⟩ : Slot) ∈ ss.set i ⟨2, h0, zb⟩ ↔ (k' ≠ s.k ∧ (⟨1, k', v'⟩ : Slot) ∈ ss) := by
  have hlt := (List.getElem?_eq_some_iff.1 hi).1
  refine ⟨I.set hi (.inr rfl) (fun h => by cases h) (fun h => by cases h), ?_, ?_, fun k' v' => ?_⟩
  · have := filter_set (fun s : Slot => s.is == 1) ss i ⟨2, h0, zb⟩ s hi
    unfold fulls
    simp only [h1] at this ⊢
    simpa using this
  · have := filter_set (fun s : Slot => s.is == 2) ss i ⟨2, h0, zb⟩ s hi
    unfold lefts
    simp only [h1] at this ⊢
    simpa using this
  · rw [mem_set hlt]
    constructor
    · rintro (h | ⟨j, hj, h⟩)
      · injection h with h2 _ _
        cases h2
      · exact ⟨fun e => hj (I.uniq j i _ s h hi rfl h1 e), List.mem_of_getElem? h⟩
    · rintro ⟨hk, h⟩
      obtain ⟨j, hj⟩ := held_get h
      refine .inr ⟨j, fun e => ?_, hj⟩
      rw [e, hi] at hj
      injection hj with hj
      rw [hj] at hk
      exact hk rfl
def zSl : Slot := ⟨0, h0, zb⟩
theorem HI.fresh (n : Nat) (h : 0 < n) : HI (List.replicate n zSl) ∧ fulls (List.replicate n zSl) = 0 ∧ lefts (List.replicate n zSl) = 0 ∧ ∀ k v, (⟨1, k, v⟩ : Slot) ∉ List.replicate n zSl := by
  have hz : ∀ (i : Nat) (s : Slot), (List.replicate n zSl)[i]? = some s → s = zSl := fun i s hs => by
    have := List.mem_of_getElem? hs
    exact (List.mem_replicate.1 this).2
  refine ⟨⟨by rw [List.length_replicate]; exact h, fun s hs => .inl (by rw [(List.mem_replicate.1 hs).2]; rfl), fun i j s s' hi _ h1 _ _ => ?_, fun i s hi h1 => ?_⟩, ?_, ?_, fun k v hm => ?_⟩
  · rw [hz i s hi] at h1; cases h1
  · rw [hz i s hi] at h1; cases h1
  · unfold fulls
    rw [List.filter_replicate]
    rfl
  · unfold lefts
    rw [List.filter_replicate]
    rfl
  · have := (List.mem_replicate.1 hm).2
    injection this with h1 _ _
    cases h1
/-- The slots laid anew, as the program does it. -/
def layI : List Slot → List Slot → Option (List Slot)
  | [], ss => some ss
  | s :: el, ss => if s.is = 1 then (match seekT ss s.k with
      | none => none
      | some (_, fr, _) => if 0 ≤ fr ∧ fr < ss.length then layI el (ss.set fr.toNat s) else none)
    else layI el ss
theorem layI_go : ∀ (el ss : List Slot), HI ss → lefts ss = 0 → fulls ss + fulls el < ss.length → (∀ s, s ∈ el → s.is = 1 → ∀ u, (⟨1, s.k, u⟩ : Slot) ∉ ss) → el.Pairwise (fun a b => a.is = 1 → b.is = 1 → a.k ≠ b.k) →
    ∃ ss', layI el ss = some ss' ∧ HI ss' ∧ ss'.length = ss.length ∧ lefts ss' = 0 ∧ fulls ss' = fulls ss + fulls el ∧ ∀ k v, (⟨1, k, v⟩ : Slot) ∈ ss' ↔ (⟨1, k, v⟩ : Slot) ∈ ss ∨ (⟨1, k, v⟩ : Slot) ∈ el
  | [], ss, I, hl, hr, _, _ => ⟨ss, rfl, I, rfl, hl, rfl, fun k v => by simp⟩
  | s :: el, ss, I, hl, hr, hno, hpw => by
    rw [List.pairwise_cons] at hpw
    by_cases h1 : s.is = 1
    · have hfe : fulls (s :: el) = fulls el + 1 := by unfold fulls; simp [h1]
      rw [hfe] at hr ⊢
      have hns := hno s (by simp) h1
      obtain ⟨d, y, p, hd, hsk, _, _, hy, hyf, hb⟩ := seek_miss I (by omega) (k := s.k) (fun i x hi hh => hns x.v (by
        have := slot_eta hh.1
        rw [hh.2] at this
        have hm := List.mem_of_getElem? hi
        rw [this] at hm
        exact hm))
      obtain ⟨I2, f2, l2, m2⟩ := lay_new I (v := s.v) hns hd hy hyf hb
      have hse : (⟨1, s.k, s.v⟩ : Slot) = s := (slot_eta h1).symm
      rw [hse] at I2 f2 l2 m2
      obtain ⟨ss', e1, I', hl', l', f', m'⟩ := layI_go el (ss.set (pos ss.length (stOf ss s.k) d) s) I2 (by omega) (by rw [f2, List.length_set]; omega) (fun x hx hx1 u hm => by
        rcases (m2 x.k u).1 hm with ⟨e, _⟩ | hm
        · exact hpw.1 x hx h1 hx1 e.symm
        · exact hno x (by simp [hx]) hx1 u hm) hpw.2
      refine ⟨ss', ?_, I', by rw [hl', List.length_set], l', by rw [f', f2]; omega, fun k v => ?_⟩
      · have hp := pos_lt (st := stOf ss s.k) (j := d) I.pos
        rw [layI, if_pos h1, hsk]
        simp only
        rw [if_pos (by omega), Int.toNat_natCast]
        exact e1
      · rw [m', m2, List.mem_cons]
        constructor
        · rintro ((⟨rfl, rfl⟩ | h) | h)
          · exact .inr (.inl hse)
          · exact .inl h
          · exact .inr (.inr h)
        · rintro (h | h | h)
          · exact .inl (.inr h)
          · rw [← hse] at h
            injection h with _ h2 h3
            exact .inl (.inl ⟨h2, h3⟩)
          · exact .inr h
    · have hfe : fulls (s :: el) = fulls el := by unfold fulls; simp [h1]
      rw [hfe] at hr ⊢
      obtain ⟨ss', e1, I', hl', l', f', m'⟩ := layI_go el ss I hl hr (fun x hx => hno x (by simp [hx])) hpw.2
      refine ⟨ss', by rw [layI, if_neg h1]; exact e1, I', hl', l', f', fun k v => ?_⟩
      rw [m', List.mem_cons]
      constructor
      · rintro (h | h)
        · exact .inl h
        · exact .inr (.inr h)
      · rintro (h | h | h)
        · exact .inl h
        · rw [← h] at h1; exact absurd rfl h1
        · exact .inr h
theorem HI.apart {ss : List Slot} (I : HI ss) : ss.Pairwise (fun a b => a.is = 1 → b.is = 1 → a.k ≠ b.k) := by
  rw [List.pairwise_iff_getElem]
  intro i j hi hj hij h1 h2 hk
  have := I.uniq i j _ _ (List.getElem?_eq_getElem hi) (List.getElem?_eq_getElem hj) h1 h2 hk
  omega
/-- All laid anew: the same is held, nothing is left. -/
theorem lay_all {ss : List Slot} (I : HI ss) {n : Nat} (h0n : 0 < n) (hn : fulls ss < n) : ∃ ss', layI ss (List.replicate n zSl) = some ss' ∧ HI ss' ∧ ss'.length = n ∧ lefts ss' = 0 ∧ fulls ss' = fulls ss ∧ ∀ k v, (⟨1, k, v⟩ : Slot) ∈ ss' ↔ (⟨1, k, v⟩ : Slot) ∈ ss := by
  obtain ⟨I0, f0, l0, m0⟩ := HI.fresh n h0n
  obtain ⟨ss', e1, I', hl', l', f', m'⟩ := layI_go ss _ I0 l0 (by rw [f0, List.length_replicate]; omega) (fun s _ _ u => m0 s.k u) I.apart
  refine ⟨ss', e1, I', by rw [hl', List.length_replicate], l', by rw [f', f0]; omega, fun k v => ?_⟩
  rw [m']
  exact ⟨fun h => h.resolve_left (m0 k v), .inr⟩
end Go.Proofs.YtoheablfncdibaaDoor.FsS
