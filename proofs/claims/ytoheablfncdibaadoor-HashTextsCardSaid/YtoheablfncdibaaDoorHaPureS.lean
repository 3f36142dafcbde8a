/- Probing: what a walk through the slots finds; what a put, a delete leave (plain laws over the model's slots). -/
import Derived.Test.YtoheablfncdibaaDoorHSpecS
namespace Go.Proofs.YtoheablfncdibaaDoor.FsS
open Go Go.RowKit Go.Proofs.YtoheablfncdibaaDoor.Sx Go.Proofs.YtoheablfncdibaaDoor.Fs
set_option linter.unusedVariables false
set_option linter.unusedSimpArgs false
set_option maxRecDepth 10000
theorem least {P : Nat → Prop} (h : ∃ n, P n) : ∃ n, P n ∧ ∀ m, m < n → ¬ P m := by
  obtain ⟨n, hn⟩ := h
  induction n using Nat.strongRecOn with
  | _ n ih =>
    by_cases hm : ∃ m, m < n ∧ P m
    · obtain ⟨m, hlt, hp⟩ := hm
      exact ih m hlt hp
    · exact ⟨n, hn, fun m hlt hp => hm ⟨m, hlt, hp⟩⟩
/-- The j-th slot of a walk. -/
def pos (l st j : Nat) : Nat := (st + j) % l
theorem pos_lt {l st j : Nat} (h : 0 < l) : pos l st j < l := Nat.mod_lt _ h
theorem pos_0 {l st : Nat} (h : st < l) : pos l st 0 = st := by rw [pos, Nat.add_zero, Nat.mod_eq_of_lt h]
theorem pos_nxt {l st j : Nat} (h : 0 < l) : nxt l (pos l st j) = pos l st (j + 1) := by
  unfold nxt pos
  have h1 := Nat.mod_lt (st + j) h
  have h2 : (st + (j + 1)) % l = ((st + j) % l + 1) % l := by rw [← Nat.add_assoc, Nat.mod_add_mod]
  rw [h2]
  split
  · rename_i h3; rw [Nat.mod_eq_of_lt h3]
  · rename_i h3
    have : (st + j) % l + 1 = l := by omega
    rw [this, Nat.mod_self]
theorem pos_at {l st i : Nat} (hst : st < l) (hi : i < l) : ∃ d, d < l ∧ pos l st d = i := by
  by_cases h : st ≤ i
  · exact ⟨i - st, by omega, by rw [pos, show st + (i - st) = i by omega, Nat.mod_eq_of_lt hi]⟩
  · exact ⟨i + l - st, by omega, by rw [pos, show st + (i + l - st) = i + l by omega, Nat.add_mod_right, Nat.mod_eq_of_lt hi]⟩
theorem pos_inj {l st j j' : Nat} (hl : 0 < l) (hj : j < l) (hj' : j' < l) (hst : st < l) (h : pos l st j = pos l st j') : j = j' := by
  unfold pos at h
  have key : ∀ x, x < l → (st + x) % l = if st + x < l then st + x else st + x - l := fun x hx => by
    split
    · rename_i h1; exact Nat.mod_eq_of_lt h1
    · rename_i h1
      rw [Nat.mod_eq_sub_mod (by omega), Nat.mod_eq_of_lt (by omega)]
  rw [key j hj, key j' hj'] at h
  split at h <;> split at h <;> omega
def hit (s : Slot) (k : Hdr) : Prop := s.is = 1 ∧ s.k = k
instance (s : Slot) (k : Hdr) : Decidable (hit s k) := inferInstanceAs (Decidable (s.is = 1 ∧ s.k = k))
theorem seek_run {ss : List Slot} {k : Hdr} {st d : Nat} (hl : 0 < ss.length) {sd : Slot} (hd : ss[pos ss.length st d]? = some sd) (hend : hit sd k ∨ sd.is = 0) (hbef : ∀ j, j < d → ∀ s, ss[pos ss.length st j]? = some s → ¬ hit s k ∧ s.is ≠ 0) :
    ∀ (x j f : Nat) (free pr : Int), j + x = d → x < f → ∃ fr : Int, seekI ss k f free pr (pos ss.length st j) = some ((if hit sd k then ((pos ss.length st d : Nat) : Int) else -1), fr, pr + x + 1) ∧ (0 ≤ free → fr = free) ∧ (free < 0 → ¬ hit sd k → ∃ j' s, j ≤ j' ∧ j' ≤ d ∧ fr = ((pos ss.length st j' : Nat) : Int) ∧ ss[pos ss.length st j']? = some s ∧ (s.is = 2 ∨ s.is = 0)) := by
  intro x
  induction x with
  | zero =>
    intro j f free pr hj hf
    obtain ⟨f, rfl⟩ : ∃ f', f = f' + 1 := ⟨f - 1, by omega⟩
    have : j = d := by omega
    subst this
    rw [seekI, hd]
    simp only
    by_cases hh : hit sd k
    · rw [if_pos (show sd.is = 1 ∧ sd.k = k from hh), if_pos hh]
      exact ⟨free, by simp, fun _ => rfl, fun _ hn => absurd hh hn⟩
    · have h0 : sd.is = 0 := hend.resolve_left hh
      rw [if_neg (show ¬ (sd.is = 1 ∧ sd.k = k) from hh), if_neg hh, if_neg (by omega), if_pos h0]
      refine ⟨if free < 0 then ((pos ss.length st j : Nat) : Int) else free, by simp, fun hf => by rw [if_neg (by omega)], fun hf _ => ⟨j, sd, Nat.le_refl _, Nat.le_refl _, by rw [if_pos hf], hd, .inr h0⟩⟩
  | succ x ih =>
    intro j f free pr hj hf
    obtain ⟨f, rfl⟩ : ∃ f', f = f' + 1 := ⟨f - 1, by omega⟩
    obtain ⟨s, hs⟩ : ∃ s, ss[pos ss.length st j]? = some s := ⟨_, List.getElem?_eq_getElem (pos_lt hl)⟩
    obtain ⟨h1, h2⟩ := hbef j (by omega) s hs
    rw [seekI, hs]
    simp only
    have h1' : ¬ (s.is = 1 ∧ s.k = k) := h1
    rw [if_neg h1', pos_nxt hl]
    by_cases h3 : s.is = 2
    · rw [if_pos h3]
      obtain ⟨fr, e1, e2, e3⟩ := ih (j + 1) f (if free < 0 then ((pos ss.length st j : Nat) : Int) else free) (pr + 1) (by omega) (by omega)
      refine ⟨fr, ?_, fun hf => ?_, fun hf hn => ?_⟩
      · rw [e1]
        congr 3
        omega
      · rw [if_neg (by omega)] at e2
        exact e2 hf
      · rw [if_pos hf] at e2
        exact ⟨j, s, Nat.le_refl _, by omega, e2 (by omega), hs, .inl h3⟩
    · rw [if_neg h3, if_neg h2]
      obtain ⟨fr, e1, e2, e3⟩ := ih (j + 1) f free (pr + 1) (by omega) (by omega)
      refine ⟨fr, ?_, e2, fun hf hn => ?_⟩
      · rw [e1]
        congr 3
        omega
      · obtain ⟨j', s', q1, q2, q3⟩ := e3 hf hn
        exact ⟨j', s', by omega, q2, q3⟩
def fulls (ss : List Slot) : Nat := (ss.filter fun s => s.is == 1).length
def lefts (ss : List Slot) : Nat := (ss.filter fun s => s.is == 2).length
def stOf (ss : List Slot) (k : Hdr) : Nat := (scat k % ss.length).toNat
theorem stOf_lt {ss : List Slot} (h : 0 < ss.length) (k : Hdr) : stOf ss k < ss.length := by
  have h1 : 0 ≤ scat k % (ss.length : Int) := Int.emod_nonneg _ (by omega)
  have h2 : scat k % (ss.length : Int) < ss.length := Int.emod_lt_of_pos _ (by omega)
  unfold stOf
  omega
/-- The slots as they should be. -/
structure HI (ss : List Slot) : Prop where
  pos : 0 < ss.length
  kinds : ∀ s, s ∈ ss → s.is = 0 ∨ s.is = 1 ∨ s.is = 2
  uniq : ∀ (i j : Nat) (s s' : Slot), ss[i]? = some s → ss[j]? = some s' → s.is = 1 → s'.is = 1 → s.k = s'.k → i = j
  probe : ∀ (i : Nat) (s : Slot), ss[i]? = some s → s.is = 1 → ∃ d, d < ss.length ∧ i = FsS.pos ss.length (stOf ss s.k) d ∧ ∀ j, j < d → ∀ s', ss[FsS.pos ss.length (stOf ss s.k) j]? = some s' → s'.is ≠ 0
theorem cnt3 : ∀ (ss : List Slot), (∀ s, s ∈ ss → s.is = 0 ∨ s.is = 1 ∨ s.is = 2) → fulls ss + lefts ss + (ss.filter fun s => s.is == 0).length = ss.length
  | [], _ => rfl
  | s :: ss, h => by
    have ih := cnt3 ss fun x hx => h x (by simp [hx])
    unfold fulls lefts at ih ⊢
    rcases h s (by simp) with h1 | h1 | h1 <;> simp [h1] <;> omega
theorem HI.empty {ss : List Slot} (I : HI ss) (h : fulls ss + lefts ss < ss.length) : ∃ (i : Nat) (s : Slot), ss[i]? = some s ∧ s.is = 0 := by
  have h3 := cnt3 ss I.kinds
  have hpos : 0 < (ss.filter fun s => s.is == 0).length := by omega
  obtain ⟨s, hs⟩ := List.exists_mem_of_length_pos hpos
  rw [List.mem_filter] at hs
  obtain ⟨i, hi, rfl⟩ := List.mem_iff_getElem.1 hs.1
  exact ⟨i, _, List.getElem?_eq_getElem hi, by simpa using hs.2⟩
/-- Slots that are passed by are no more than those that are not empty. -/
theorem walk_le {ss : List Slot} (I : HI ss) {st d : Nat} (hst : st < ss.length) (hd : d < ss.length) (h : ∀ (j : Nat), j < d → ∀ (s : Slot), ss[FsS.pos ss.length st j]? = some s → s.is ≠ 0) : d ≤ fulls ss + lefts ss := by
  have h3 := cnt3 ss I.kinds
  have hrot : ∀ (j : Nat) (s : Slot), j < d → (ss.drop st ++ ss.take st)[j]? = some s → s.is ≠ 0 := by
    intro j s hj hs
    refine h j hj s ?_
    by_cases hc : st + j < ss.length
    · rw [List.getElem?_append_left (by rw [List.length_drop]; omega), List.getElem?_drop] at hs
      rw [FsS.pos, Nat.mod_eq_of_lt hc]
      exact hs
    · rw [List.getElem?_append_right (by rw [List.length_drop]; omega), List.length_drop, List.getElem?_take_of_lt (by omega)] at hs
      rw [FsS.pos, Nat.mod_eq_sub_mod (by omega), Nat.mod_eq_of_lt (by omega), show st + j - ss.length = j - (ss.length - st) by omega]
      exact hs
  have hz : ((ss.drop st ++ ss.take st).filter fun s => s.is == 0).length = (ss.filter fun s => s.is == 0).length := by
    have hp : (ss.drop st ++ ss.take st).Perm ss := (List.perm_append_comm).trans (by rw [List.take_append_drop])
    exact (hp.filter _).length_eq
  have htk : ((ss.drop st ++ ss.take st).filter fun s => s.is == 0).length ≤ ss.length - d := by
    have hsplit : ss.drop st ++ ss.take st = (ss.drop st ++ ss.take st).take d ++ (ss.drop st ++ ss.take st).drop d := (List.take_append_drop ..).symm
    rw [hsplit, List.filter_append]
    have h0 : ((ss.drop st ++ ss.take st).take d).filter (fun s => s.is == 0) = [] := by
      rw [List.filter_eq_nil_iff]
      intro s hs
      obtain ⟨j, hj, rfl⟩ := List.mem_iff_getElem.1 hs
      rw [List.length_take] at hj
      rw [List.getElem_take]
      have := hrot j _ (by omega) (List.getElem?_eq_getElem (by omega))
      simpa using this
    rw [h0, List.nil_append]
    refine Nat.le_trans (List.length_filter_le _ _) ?_
    rw [List.length_drop, List.length_append, List.length_drop, List.length_take]
    omega
  omega
/-- What a seek finds: it is held. -/
theorem seek_hit {ss : List Slot} (I : HI ss) {i : Nat} {s : Slot} (hi : ss[i]? = some s) (hs : s.is = 1) : ∃ fr p, seekT ss s.k = some ((i : Int), fr, p) ∧ 1 ≤ p ∧ p ≤ fulls ss + lefts ss + 1 := by
  obtain ⟨d, hd, hid, hbef⟩ := I.probe i s hi hs
  have hst := stOf_lt I.pos s.k
  obtain ⟨fr, e1, _, _⟩ := seek_run (k := s.k) (st := stOf ss s.k) (d := d) I.pos (sd := s) (by rw [← hid]; exact hi) (.inl ⟨hs, rfl⟩) (fun j hj s' hs' => ⟨fun hh => by
    have := I.uniq _ _ s' s hs' hi hh.1 hs hh.2
    have h2 := pos_inj I.pos (by omega) hd hst (this.trans hid)
    omega, hbef j hj s' hs'⟩) d 0 (ss.length + 2) (-1) 0 (by omega) (by omega)
  rw [pos_0 hst, if_pos ⟨hs, rfl⟩, ← hid] at e1
  refine ⟨fr, _, e1, by omega, ?_⟩
  have := walk_le I hst hd hbef
  omega
/-- What a seek finds: it is not held; where it may be laid. -/
theorem seek_miss {ss : List Slot} (I : HI ss) (hroom : fulls ss + lefts ss < ss.length) {k : Hdr} (hno : ∀ (i : Nat) (s : Slot), ss[i]? = some s → ¬ hit s k) : ∃ (d : Nat) (s : Slot) (p : Int), d < ss.length ∧ seekT ss k = some (-1, ((pos ss.length (stOf ss k) d : Nat) : Int), p) ∧ 1 ≤ p ∧ p ≤ fulls ss + lefts ss + 1 ∧ ss[pos ss.length (stOf ss k) d]? = some s ∧ (s.is = 2 ∨ s.is = 0) ∧ ∀ (j : Nat), j < d → ∀ (s' : Slot), ss[pos ss.length (stOf ss k) j]? = some s' → s'.is ≠ 0 := by
  have hst := stOf_lt I.pos k
  obtain ⟨i, s0, hi, hs0⟩ := I.empty hroom
  obtain ⟨d0, hd0, hpi⟩ := pos_at hst (List.getElem?_eq_some_iff.1 hi).1
  obtain ⟨d, ⟨hdl, sd, hsd, hse⟩, hmin⟩ := least (P := fun d => d < ss.length ∧ ∃ s : Slot, ss[pos ss.length (stOf ss k) d]? = some s ∧ s.is = 0) ⟨d0, hd0, s0, by rw [hpi]; exact hi, hs0⟩
  have hbef : ∀ (j : Nat), j < d → ∀ (s : Slot), ss[pos ss.length (stOf ss k) j]? = some s → s.is ≠ 0 := fun j hj s hs h0 => hmin j hj ⟨by omega, s, hs, h0⟩
  have hnh : ¬ hit sd k := hno _ sd hsd
  obtain ⟨fr, e1, _, e3⟩ := seek_run (k := k) (st := stOf ss k) (d := d) I.pos hsd (.inr hse) (fun j hj s hs => ⟨hno _ s hs, hbef j hj s hs⟩) d 0 (ss.length + 2) (-1) 0 (by omega) (by omega)
  obtain ⟨j', s', _, hj', hfr, hs', his'⟩ := e3 (by omega) hnh
  rw [pos_0 hst, if_neg hnh, hfr] at e1
  refine ⟨j', s', _, by omega, e1, by omega, ?_, hs', his', fun j hj => hbef j (by omega)⟩
  have := walk_le I hst hdl hbef
  omega
end Go.Proofs.YtoheablfncdibaaDoor.FsS
