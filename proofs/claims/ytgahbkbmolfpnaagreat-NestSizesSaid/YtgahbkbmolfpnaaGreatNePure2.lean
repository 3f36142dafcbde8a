/- Levels: the order, the unlike spans, the look-up (plain laws, no program in sight). -/
import Derived.Test.YtgahbkbmolfpnaaGreatNePure
namespace Go.Proofs.YtgahbkbmolfpnaaGreat.Ne
open Go Go.Proofs.YtgahbkbmolfpnaaGreat.Sp
set_option linter.unusedVariables false
set_option linter.unusedSimpArgs false
theorem ahead_iff {a b : Sp} : aheadB a b = true ↔ (a.lo < b.lo ∨ a.lo = b.lo ∧ b.hi < a.hi) := by simp [aheadB]
theorem ahead_tot {a b : Sp} (h1 : aheadB a b = false) (h2 : aheadB b a = false) : a = b := by
  simp only [aheadB, decide_eq_false_iff_not] at h1 h2
  obtain ⟨p, q⟩ := a
  obtain ⟨r, s⟩ := b
  simp only at h1 h2
  have e1 : p = r := by omega
  have e2 : q = s := by omega
  rw [e1, e2]
theorem ahead_tr {a b c : Sp} (h1 : aheadB a b = true) (h2 : aheadB b c = true) : aheadB a c = true := by
  rw [ahead_iff] at *; omega
theorem ahead_ir (a : Sp) : aheadB a a = false := by simp [aheadB]
def app (D : Lv) (s : Sp) : Lv := D ++ [(s, least D s)]
def dd : Sp → List Sp → List Sp
  | _, [] => []
  | x, y :: L => if x = y then dd x L else y :: dd y L
theorem grow_snoc (D : Lv) (x : Sp) (v : Nat) (s : Sp) : grow (D ++ [(x, v)]) s = if x = s then D ++ [(x, v)] else app (D ++ [(x, v)]) s := by
  unfold grow app
  simp
theorem grow_nil (s : Sp) : grow [] s = app [] s := rfl
theorem run_dd : ∀ (L : List Sp) (D : Lv) (x : Sp) (v : Nat), runL (D ++ [(x, v)]) L = (dd x L).foldl app (D ++ [(x, v)])
  | [], D, x, v => rfl
  | y :: L, D, x, v => by
    unfold dd
    show runL (grow (D ++ [(x, v)]) y) L = _
    rw [grow_snoc]
    by_cases c : x = y
    · rw [if_pos c, if_pos c, run_dd L D x v]
    · rw [if_neg c, if_neg c]
      unfold app
      rw [run_dd L (D ++ [(x, v)]) y (least (D ++ [(x, v)]) y)]
      rfl
theorem dd_self : ∀ (L : List Sp) (x : Sp), (x :: L).Pairwise (fun a b => aheadB a b = true) → dd x L = L
  | [], x, _ => rfl
  | y :: L, x, h => by
    rw [List.pairwise_cons] at h
    unfold dd
    have hxy := h.1 y (by simp)
    rw [if_neg (fun e => by subst e; rw [ahead_ir] at hxy; cases hxy), dd_self L y h.2]
theorem dd_mem : ∀ (L : List Sp) (x z : Sp), z ∈ dd x L → z ∈ L
  | [], x, z, h => by simp [dd] at h
  | y :: L, x, z, h => by
    unfold dd at h
    split at h
    · exact List.mem_cons_of_mem _ (dd_mem L x z h)
    · rcases List.mem_cons.1 h with rfl | h
      · simp
      · exact List.mem_cons_of_mem _ (dd_mem L y z h)
theorem mem_dd : ∀ (L : List Sp) (x z : Sp), z ∈ L → z = x ∨ z ∈ dd x L
  | y :: L, x, z, h => by
    unfold dd
    by_cases c : x = y
    · rw [if_pos c]
      rcases List.mem_cons.1 h with rfl | h
      · exact .inl c.symm
      · exact mem_dd L x z h
    · rw [if_neg c]
      rcases List.mem_cons.1 h with rfl | h
      · simp
      · rcases mem_dd L y z h with rfl | h
        · simp
        · exact .inr (List.mem_cons_of_mem _ h)
theorem dd_strict : ∀ (L : List Sp) (x : Sp), (x :: L).Pairwise (fun a b => aheadB b a = false) → (x :: dd x L).Pairwise (fun a b => aheadB a b = true)
  | [], x, _ => by simp [dd]
  | y :: L, x, h => by
    rw [List.pairwise_cons] at h
    unfold dd
    by_cases c : x = y
    · rw [if_pos c]
      subst c
      exact dd_strict L x h.2
    · rw [if_neg c]
      have ih := dd_strict L y h.2
      rw [List.pairwise_cons]
      refine ⟨fun z hz => ?_, ih⟩
      have hxz : aheadB z x = false := by
        rcases List.mem_cons.1 hz with rfl | hz
        · exact h.1 _ (by simp)
        · exact h.1 _ (List.mem_cons_of_mem _ (dd_mem L y z hz))
      cases hb : aheadB x z
      · exfalso
        have e := ahead_tot hb hxz
        subst e
        have hxy := h.1 y (by simp)
        rw [List.pairwise_cons] at ih
        rcases List.mem_cons.1 hz with e | hz
        · exact c e
        · have := ih.1 x hz
          rw [hxy] at this
          cases this
      · rfl
/-- Two lists in the strict order with the same spans are the same. -/
theorem strict_uniq : ∀ (U V : List Sp), U.Pairwise (fun a b => aheadB a b = true) → V.Pairwise (fun a b => aheadB a b = true) → (∀ x, x ∈ U ↔ x ∈ V) → U = V
  | [], [], _, _, _ => rfl
  | [], v :: V, _, _, h => by have := (h v).2 (by simp); simp at this
  | u :: U, [], _, _, h => by have := (h u).1 (by simp); simp at this
  | u :: U, v :: V, hu, hv, h => by
    rw [List.pairwise_cons] at hu hv
    have e : u = v := by
      have h1 := (h u).1 (by simp)
      have h2 := (h v).2 (by simp)
      rcases List.mem_cons.1 h1 with e | h1
      · exact e
      · rcases List.mem_cons.1 h2 with e | h2
        · exact e.symm
        · have := ahead_tr (hu.1 v h2) (hv.1 u h1)
          rw [ahead_ir] at this; cases this
    subst e
    congr 1
    refine strict_uniq U V hu.2 hv.2 fun x => ⟨fun hx => ?_, fun hx => ?_⟩
    · rcases List.mem_cons.1 ((h x).1 (List.mem_cons_of_mem _ hx)) with e | hx2
      · subst e; have := hu.1 _ hx; rw [ahead_ir] at this; cases this
      · exact hx2
    · rcases List.mem_cons.1 ((h x).2 (List.mem_cons_of_mem _ hx)) with e | hx2
      · subst e; have := hv.1 _ hx; rw [ahead_ir] at this; cases this
      · exact hx2
/-- The levels of a list's spans: any strict list of the same spans. -/
theorem run_eq {L U : List Sp} (hL : L.Pairwise (fun a b => aheadB b a = false)) (hU : U.Pairwise (fun a b => aheadB a b = true)) (h : ∀ x, x ∈ L ↔ x ∈ U) : runL [] L = U.foldl app [] := by
  cases L with
  | nil =>
    cases U with
    | nil => rfl
    | cons u U => have := (h u).2 (by simp); simp at this
  | cons x L =>
    show runL (grow [] x) L = _
    have e : x :: dd x L = U := strict_uniq _ _ (dd_strict L x hL) hU fun z => by
      rw [← h z]
      constructor
      · intro hz
        rcases List.mem_cons.1 hz with rfl | hz
        · simp
        · exact List.mem_cons_of_mem _ (dd_mem L x z hz)
      · intro hz
        rcases List.mem_cons.1 hz with rfl | hz
        · simp
        · rcases mem_dd L x z hz with rfl | hz
          · simp
          · exact List.mem_cons_of_mem _ hz
    rw [← e]
    have := run_dd L [] x (least [] x)
    exact this
/-! ### the look-up -/
def keys (D : Lv) : List Sp := D.map (·.1)
theorem keys_app : ∀ (U : List Sp) (D : Lv), keys (U.foldl app D) = keys D ++ U
  | [], D => by simp
  | u :: U, D => by
    rw [List.foldl_cons, keys_app U (app D u)]
    simp [keys, app]
theorem lk_mem {D : Lv} {s : Sp} {v : Nat} (hk : (keys D).Pairwise (fun a b => aheadB a b = true)) (h : (s, v) ∈ D) : lk D s = v := by
  induction D with
  | nil => cases h
  | cons x D ih =>
    unfold keys at hk
    rw [List.map_cons, List.pairwise_cons] at hk
    unfold lk
    rw [List.find?_cons]
    rcases List.mem_cons.1 h with rfl | h
    · simp
    · have hne : ¬ x.1 = s := fun e => by
        have := hk.1 s (List.mem_map.2 ⟨(s, v), h, rfl⟩)
        rw [e, ahead_ir] at this; cases this
      have hb : (x.1 == s) = false := by simpa using hne
      rw [hb]
      exact ih hk.2 h
theorem app_sub {D : Lv} {x : Sp × Nat} : ∀ (U : List Sp) (D : Lv), x ∈ D → x ∈ U.foldl app D
  | [], D, h => h
  | u :: U, D, h => app_sub (D := D) U (app D u) (List.mem_append_left _ h)
end Go.Proofs.YtgahbkbmolfpnaaGreat.Ne
