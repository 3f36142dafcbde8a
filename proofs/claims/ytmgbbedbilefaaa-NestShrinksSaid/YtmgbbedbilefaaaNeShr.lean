/- Sizes fall when a rule is taken out, and do not hang on the order (plain laws). -/
import Derived.Test.YtmgbbedbilefaaaNeSz
import Derived.Test.YtmgbbedbilefaaaRuRef
namespace Go.Proofs.Ytmgbbedbilefaaa.Fs
open Go Go.Proofs.Ytmgbbedbilefaaa.Sx Go.Proofs.Ytmgbbedbilefaaa.Sp Go.Proofs.Ytmgbbedbilefaaa.Uq
set_option linter.unusedVariables false
set_option linter.unusedSimpArgs false
theorem within_self {p : Pf} (h0 : 0 ≤ p.addr) (h1 : p.addr ≤ 4294967295) (hc : prefixCheck p.addr p.len = 0) : withinB p p = true := by
  unfold withinB prefixHas
  obtain ⟨l0, l1⟩ := prefixCheck_len hc
  obtain ⟨m, hm⟩ := Int.eq_ofNat_of_zero_le l0
  have hn : bAndNot .u32 p.addr (careV m) = 0 := by
    have hc' := hc
    unfold prefixCheck at hc'
    rw [if_neg (by omega), if_neg (by omega), hm] at hc'
    split at hc'
    · cases hc'
    · rename_i hq; simpa using hq
  have hb := (has_bits p.addr p.addr h0 h1 m (by omega) hn).2 fun _ _ => rfl
  rw [hc, hm, hb]
  simp
/-- Of prefixes: how many pairs (one of them, each once; one that it is within). -/
def gL (D : List Pf) : Nat := ((uq D).map fun s => D.countP fun q => withinB s q).sum
theorem gL_perm {D E : List Pf} (h : D.Perm E) : gL D = gL E := by
  unfold gL
  have h1 : (fun s => D.countP fun q => withinB s q) = (fun s => E.countP fun q => withinB s q) := by
    funext s
    exact h.countP_eq _
  rw [h1]
  exact sum_uq (uq_nodup D) (fun z => (uq_mem D z).trans h.mem_iff) _
theorem sum_le {α : Type} (f g : α → Nat) : ∀ (l : List α), (∀ x ∈ l, f x ≤ g x) → (l.map f).sum ≤ (l.map g).sum
  | [], _ => by simp
  | x :: l, h => by
    have h1 := h x (by simp)
    have h2 := sum_le f g l fun y hy => h y (List.mem_cons_of_mem _ hy)
    simp only [List.map_cons, List.sum_cons]
    omega
theorem sum_lt {α : Type} (f g : α → Nat) : ∀ (l : List α), (∀ x ∈ l, f x ≤ g x) → (∃ x ∈ l, f x < g x) → (l.map f).sum < (l.map g).sum
  | [], _, h => by obtain ⟨x, hx, _⟩ := h; cases hx
  | x :: l, h, hs => by
    have h1 := h x (by simp)
    have h2 := sum_le f g l fun y hy => h y (List.mem_cons_of_mem _ hy)
    simp only [List.map_cons, List.sum_cons]
    obtain ⟨y, hy, hlt⟩ := hs
    rcases List.mem_cons.1 hy with rfl | hy
    · omega
    · have := sum_lt f g l (fun y hy => h y (List.mem_cons_of_mem _ hy)) ⟨y, hy, hlt⟩
      omega
/-- One more at the head. -/
theorem sum_cons_lt {x : Pf} {S : List Pf} (f g : Pf → Nat) (h : ∀ s ∈ S, f s ≤ g s) (hx : f x < g x) : ((uq S).map f).sum < ((uq (x :: S)).map g).sum := by
  by_cases c : x ∈ S
  · have e : ((uq (x :: S)).map g).sum = ((uq S).map g).sum := sum_uq (uq_nodup _) (fun z => by
      rw [uq_mem, List.mem_cons]
      exact ⟨fun h => h.elim (fun e => e ▸ c) id, .inr⟩) g
    rw [e]
    exact sum_lt f g _ (fun s hs => h s ((uq_mem S s).1 hs)) ⟨x, (uq_mem S x).2 c, hx⟩
  · have hn : (x :: uq S).Nodup := List.nodup_cons.2 ⟨fun h => c ((uq_mem S x).1 h), uq_nodup S⟩
    have e := sum_uq (U := x :: uq S) (l := x :: S) hn (fun z => by rw [List.mem_cons, List.mem_cons, uq_mem]) g
    rw [← e, List.map_cons, List.sum_cons]
    have := sum_le f g (uq S) fun s hs => h s ((uq_mem S s).1 hs)
    omega
theorem gL_cons {x : Pf} {S : List Pf} (hx : withinB x x = true) : gL S < gL (x :: S) := by
  unfold gL
  refine sum_cons_lt _ _ (fun s _ => ?_) ?_
  · rw [List.countP_cons]; omega
  · rw [List.countP_cons, if_pos hx]; omega
theorem gL_len : ∀ (S : List Pf), (∀ p ∈ S, withinB p p = true) → S.length ≤ gL S
  | [], _ => by simp
  | x :: S, h => by
    have h1 := gL_len S fun p hp => h p (List.mem_cons_of_mem _ hp)
    have h2 := gL_cons (S := S) (h x (by simp))
    rw [List.length_cons]
    omega
/-! ### grid, prune, tuple over what they hang on -/
theorem grid_eq (l : List Rul) : gridN l = gL (l.map Rul.src) := by
  unfold gridN gL
  congr 2
  funext s
  unfold held
  rw [← List.countP_eq_length_filter, List.countP_map]
  rfl
abbrev PP := Pf × Pf
def hP (P : List PP) (s : Pf) : List Pf := (P.filter fun q => withinB s q.1).map (·.2)
def prP (P : List PP) : Nat := ((uq (P.map (·.1))).map fun s => gL (hP P s)).sum
def Rul.pp (r : Rul) : PP := (r.src, r.dst)
theorem prune_eq (l : List Rul) : pruneN l = prP (l.map Rul.pp) := by
  unfold pruneN prP
  have e1 : (l.map Rul.pp).map (·.1) = l.map Rul.src := by rw [List.map_map]; rfl
  rw [e1]
  congr 2
  funext s
  have e2 : hP (l.map Rul.pp) s = (held l s).map Rul.dst := by
    unfold hP held
    rw [List.filter_map, List.map_map]
    rfl
  rw [e2]
  unfold pruneS gL
  congr 2
  funext d
  unfold cntD
  rw [← List.countP_eq_length_filter, List.countP_map]
  rfl
theorem prP_perm {P Q : List PP} (h : P.Perm Q) : prP P = prP Q := by
  unfold prP
  have h1 : (fun s => gL (hP P s)) = (fun s => gL (hP Q s)) := by
    funext s
    exact gL_perm ((h.filter _).map _)
  rw [h1]
  exact sum_uq (uq_nodup _) (fun z => (uq_mem _ z).trans (h.map _).mem_iff) _
theorem prP_cons {x : PP} {P : List PP} (h1 : withinB x.1 x.1 = true) (h2 : withinB x.2 x.2 = true) : prP P < prP (x :: P) := by
  unfold prP
  rw [List.map_cons]
  refine sum_cons_lt _ _ (fun s _ => ?_) ?_
  · unfold hP
    rw [List.filter_cons]
    split
    · rw [List.map_cons]; exact Nat.le_of_lt (gL_cons h2)
    · exact Nat.le_refl _
  · unfold hP
    rw [List.filter_cons, if_pos h1, List.map_cons]
    exact gL_cons h2
theorem prune_ge {l : List Rul} (h : ∀ r ∈ l, withinB r.dst r.dst = true) : gridN l ≤ pruneN l := by
  unfold gridN pruneN
  refine sum_le _ _ _ fun s _ => ?_
  have e : pruneS l s = gL ((held l s).map Rul.dst) := by
    unfold pruneS gL
    congr 2
    funext d
    unfold cntD
    rw [← List.countP_eq_length_filter, List.countP_map]
    rfl
  rw [e]
  have := gL_len ((held l s).map Rul.dst) fun p hp => by
    obtain ⟨r, hr, rfl⟩ := List.mem_map.1 hp
    exact h r (List.mem_filter.1 hr).1
  rwa [List.length_map] at this
theorem tuple_perm {l m : List Rul} (h : (l.map cells1).Perm (m.map cells1)) : tupleN l = tupleN m := h.sum_nat
theorem tuple_len : ∀ {l : List Rul}, (∀ r ∈ l, 1 ≤ cells1 r) → l.length ≤ tupleN l
  | [], _ => by simp
  | x :: l, h => by
    have h1 := h x (by simp)
    have h2 := tuple_len (l := l) fun r hr => h r (List.mem_cons_of_mem _ hr)
    unfold tupleN at *
    rw [List.length_cons, List.map_cons, List.sum_cons]
    omega
theorem perm_erase {α : Type} {l : List α} {i : Nat} {x : α} (h : l[i]? = some x) : l.Perm (x :: l.eraseIdx i) := by
  obtain ⟨h1, h2⟩ := List.getElem?_eq_some_iff.1 h
  have e1 : l = l.take i ++ x :: l.drop (i + 1) := by rw [← h2, ← List.drop_eq_getElem_cons h1, List.take_append_drop]
  have e2 : l.eraseIdx i = l.take i ++ l.drop (i + 1) := List.eraseIdx_eq_take_drop_succ ..
  rw [e2]
  conv => lhs; rw [e1]
  exact List.perm_middle
theorem lsE_yes : ∀ (rest done : List Rul), done.length + rest.length ≤ 64 → (∀ r ∈ rest, r.check.1 = 0) → (∀ r ∈ rest, ∀ x ∈ done, x.id ≠ r.id) → rest.Pairwise (fun x y => x.id ≠ y.id) → lsE done rest = 0
  | [], done, _, _, _, _ => rfl
  | r :: rest, done, h1, h2, h3, h4 => by
    rw [List.pairwise_cons] at h4
    rw [List.length_cons] at h1
    unfold lsE
    rw [if_neg (by rw [h2 r (by simp)]; simp), if_neg, if_neg (by omega)]
    · refine lsE_yes rest (done ++ [r]) (by simp; omega) (fun x hx => h2 x (List.mem_cons_of_mem _ hx)) (fun x hx y hy => ?_) h4.2
      rcases List.mem_append.1 hy with hy | hy
      · exact h3 x (List.mem_cons_of_mem _ hx) y hy
      · rw [List.mem_singleton] at hy
        subst hy
        exact h4.1 x hx
    · intro ha
      rw [List.any_eq_true] at ha
      obtain ⟨y, hy, he⟩ := ha
      exact h3 r (by simp) y hy (by simpa using he)
theorem listE_yes {l : List Rul} (h1 : l.length ≤ 64) (h2 : ∀ r ∈ l, r.check.1 = 0) (h3 : l.Pairwise (fun x y => x.id ≠ y.id)) : listE l = 0 := lsE_yes l [] (by simpa using h1) h2 (by simp) h3
theorem listE_ids {l : List Rul} (h : listE l = 0) : l.Pairwise (fun x y => x.id ≠ y.id) := (lsE_ok l [] (by simp) h).2.2.2
theorem check_set {r : Rul} (h : r.check.1 = 0) {i a : Int} (h1 : 1 ≤ i) (h2 : i ≤ 999999) (ha : a = 4) : ({ r with id := i, act := a } : Rul).check.1 = 0 := by
  have hp := check_parts h
  have hn : ∀ (es : List Int) (k : Int), (∀ e ∈ es, e = 0) → firstBad es k = none := by
    intro es
    induction es with
    | nil => intro k _; rfl
    | cons e es ih =>
      intro k h
      rw [firstBad, if_neg (by rw [h e (by simp)]; simp)]
      exact ih _ fun x hx => h x (List.mem_cons_of_mem _ hx)
  unfold Rul.check
  rw [if_neg (by dsimp only; omega)]
  unfold Rul.check2
  have : ({ r with id := i, act := a } : Rul).parts = r.parts := rfl
  rw [this, hn _ 0 hp]
  unfold Rul.act0
  rw [if_pos (by dsimp only; omega)]
  rfl
end Go.Proofs.Ytmgbbedbilefaaa.Fs
