/- Sizes fall when a rule is taken out (a cut of wip/nest/XNeShr). -/
import Derived.Test.YtomhkbhgpmcbiaaGreatPnRef11
namespace Go.Proofs.YtomhkbhgpmcbiaaGreat.Fs
open Go Go.RowKit Go.Proofs.YtomhkbhgpmcbiaaGreat.Sx Go.Proofs.YtomhkbhgpmcbiaaGreat.Uq
set_option linter.unusedVariables false
set_option linter.unusedSimpArgs false
/-- Of prefixes: how many pairs (one of them, each once; one that it is within). -/
def gL (D : List Pf) : Nat := ((uq D).map fun s => D.countP fun q => withinB s q).sum
theorem gL_perm {D E : List Pf} (h : D.Perm E) : gL D = gL E := by
  unfold gL
  have h1 : (fun s => D.countP fun q => withinB s q) = (fun s => E.countP fun q => withinB s q) := by
    funext s
    exact h.countP_eq _
  rw [h1]
  exact sum_uq (uq_nodup D) (fun z => (uq_mem D z).trans h.mem_iff) _
theorem sumLe {α : Type} (f g : α → Nat) : ∀ (l : List α), (∀ x ∈ l, f x ≤ g x) → (l.map f).sum ≤ (l.map g).sum
  | [], _ => by simp
  | x :: l, h => by
    have h1 := h x (by simp)
    have h2 := sumLe f g l fun y hy => h y (List.mem_cons_of_mem _ hy)
    simp only [List.map_cons, List.sum_cons]
    omega
theorem sumLt {α : Type} (f g : α → Nat) : ∀ (l : List α), (∀ x ∈ l, f x ≤ g x) → (∃ x ∈ l, f x < g x) → (l.map f).sum < (l.map g).sum
  | [], _, h => by obtain ⟨x, hx, _⟩ := h; cases hx
  | x :: l, h, hs => by
    have h1 := h x (by simp)
    have h2 := sumLe f g l fun y hy => h y (List.mem_cons_of_mem _ hy)
    simp only [List.map_cons, List.sum_cons]
    obtain ⟨y, hy, hlt⟩ := hs
    rcases List.mem_cons.1 hy with rfl | hy
    · omega
    · have := sumLt f g l (fun y hy => h y (List.mem_cons_of_mem _ hy)) ⟨y, hy, hlt⟩
      omega
/-- One more at the head. -/
theorem sum_cons_lt {x : Pf} {S : List Pf} (f g : Pf → Nat) (h : ∀ s ∈ S, f s ≤ g s) (hx : f x < g x) : ((uq S).map f).sum < ((uq (x :: S)).map g).sum := by
  by_cases c : x ∈ S
  · have e : ((uq (x :: S)).map g).sum = ((uq S).map g).sum := sum_uq (uq_nodup _) (fun z => by
      rw [uq_mem, List.mem_cons]
      exact ⟨fun h => h.elim (fun e => e ▸ c) id, .inr⟩) g
    rw [e]
    exact sumLt f g _ (fun s hs => h s ((uq_mem S s).1 hs)) ⟨x, (uq_mem S x).2 c, hx⟩
  · have hn : (x :: uq S).Nodup := List.nodup_cons.2 ⟨fun h => c ((uq_mem S x).1 h), uq_nodup S⟩
    have e := sum_uq (U := x :: uq S) (l := x :: S) hn (fun z => by rw [List.mem_cons, List.mem_cons, uq_mem]) g
    rw [← e, List.map_cons, List.sum_cons]
    have := sumLe f g (uq S) fun s hs => h s ((uq_mem S s).1 hs)
    omega
theorem gL_cons {x : Pf} {S : List Pf} (hx : withinB x x = true) : gL S < gL (x :: S) := by
  unfold gL
  refine sum_cons_lt _ _ (fun s _ => ?_) ?_
  · rw [List.countP_cons]; omega
  · rw [List.countP_cons, if_pos hx]; omega
abbrev PP := Pf × Pf
def hP (P : List PP) (s : Pf) : List Pf := (P.filter fun q => withinB s q.1).map (·.2)
def prP (P : List PP) : Nat := ((uq (P.map (·.1))).map fun s => gL (hP P s)).sum
def Rul.pp (r : Rul) : PP := (r.src, r.dst)
theorem prune_eq (l : List Rul) : pruneN l = prP (l.map Rul.pp) := by
  unfold pruneN prP
  have e1 : (l.map Rul.pp).map (·.1) = l.map Rul.src := by rw [List.map_map]; rfl
  rw [e1]
  congr 2
  funext s
  have e2 : hP (l.map Rul.pp) s = (held l s).map Rul.dst := by
    unfold hP held
    rw [List.filter_map, List.map_map]
    rfl
  rw [e2]
  unfold pruneS gL
  congr 2
  funext d
  unfold cntD
  rw [← List.countP_eq_length_filter, List.countP_map]
  rfl
theorem prP_perm {P Q : List PP} (h : P.Perm Q) : prP P = prP Q := by
  unfold prP
  have h1 : (fun s => gL (hP P s)) = (fun s => gL (hP Q s)) := by
    funext s
    exact gL_perm ((h.filter _).map _)
  rw [h1]
  exact sum_uq (uq_nodup _) (fun z => (uq_mem _ z).trans (h.map _).mem_iff) _
theorem prP_cons {x : PP} {P : List PP} (h1 : withinB x.1 x.1 = true) (h2 : withinB x.2 x.2 = true) : prP P < prP (x :: P) := by
  unfold prP
  rw [List.map_cons]
  refine sum_cons_lt _ _ (fun s _ => ?_) ?_
  · unfold hP
    rw [List.filter_cons]
    split
    · rw [List.map_cons]; exact Nat.le_of_lt (gL_cons h2)
    · exact Nat.le_refl _
  · unfold hP
    rw [List.filter_cons, if_pos h1, List.map_cons]
    exact gL_cons h2
theorem perm_erase {α : Type} {l : List α} {i : Nat} {x : α} (h : l[i]? = some x) : l.Perm (x :: l.eraseIdx i) := by
  obtain ⟨h1, h2⟩ := List.getElem?_eq_some_iff.1 h
  have e1 : l = l.take i ++ x :: l.drop (i + 1) := by rw [← h2, ← List.drop_eq_getElem_cons h1, List.take_append_drop]
  have e2 : l.eraseIdx i = l.take i ++ l.drop (i + 1) := List.eraseIdx_eq_take_drop_succ ..
  rw [e2]
  conv => lhs; rw [e1]
  exact List.perm_middle
theorem prune_cut {l : List Rul} {n : Nat} {x : Rul} (h : l[n]? = some x) (h1 : withinB x.src x.src = true) (h2 : withinB x.dst x.dst = true) : pruneN (l.take n ++ l.drop (n + 1)) ≤ pruneN l := by
  have hp := (perm_erase h).map Rul.pp
  have e2 : l.eraseIdx n = l.take n ++ l.drop (n + 1) := List.eraseIdx_eq_take_drop_succ ..
  rw [e2, List.map_cons] at hp
  rw [prune_eq, prune_eq, prP_perm hp]
  exact Nat.le_of_lt (prP_cons h1 h2)
end Go.Proofs.YtomhkbhgpmcbiaaGreat.Fs
