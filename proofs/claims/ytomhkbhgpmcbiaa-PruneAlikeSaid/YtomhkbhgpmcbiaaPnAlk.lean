/- Rules brought in by some order: plain laws. -/
import Derived.Test.YtomhkbhgpmcbiaaPnTwo
namespace Go.Proofs.Ytomhkbhgpmcbiaa.Fs
open Go Go.RowKit Go.Proofs.Ytomhkbhgpmcbiaa.Sx Go.Proofs.Ytomhkbhgpmcbiaa.Uq
set_option linter.unusedVariables false
set_option linter.unusedSimpArgs false
set_option maxRecDepth 10000
/-- Those of a list that are marked. -/
def subL : List Rul → List Bool → List Rul
  | r :: l, b :: bs => if b then r :: subL l bs else subL l bs
  | _, _ => []
def cntT : List Bool → Nat
  | b :: bs => (if b then 1 else 0) + cntT bs
  | [] => 0
theorem sub_sub : ∀ (l : List Rul) (bs : List Bool), (subL l bs).Sublist l
  | [], bs => by cases bs <;> exact List.Sublist.refl _
  | r :: l, [] => List.nil_sublist _
  | r :: l, b :: bs => by
    rw [subL]
    split
    · exact (sub_sub l bs).cons_cons r
    · exact (sub_sub l bs).cons r
theorem sub_len : ∀ (l : List Rul) (bs : List Bool), bs.length = l.length → (subL l bs).length = cntT bs
  | [], [], _ => rfl
  | r :: l, b :: bs, h => by
    have ih := sub_len l bs (by simpa using h)
    rw [subL, cntT]
    cases b
    · simpa using ih
    · simp [ih]; omega
theorem cnt_le : ∀ (bs : List Bool), cntT bs ≤ bs.length
  | [] => Nat.le_refl _
  | b :: bs => by
    have := cnt_le bs
    rw [cntT, List.length_cons]
    split <;> omega
theorem cnt_lt : ∀ (bs : List Bool), cntT bs < bs.length → ∃ j, j < bs.length ∧ bs[j]? = some false
  | [], h => by simp [cntT] at h
  | b :: bs, h => by
    rw [cntT, List.length_cons] at h
    cases b
    · exact ⟨0, by simp, rfl⟩
    · obtain ⟨j, h1, h2⟩ := cnt_lt bs (by simp at h; omega)
      exact ⟨j + 1, by simp; omega, by simpa using h2⟩
theorem cnt_set : ∀ (bs : List Bool) (k : Nat), bs[k]? = some false → cntT (bs.set k true) = cntT bs + 1
  | [], k, h => by simp at h
  | b :: bs, 0, h => by
    simp at h
    subst h
    simp [cntT]; omega
  | b :: bs, k + 1, h => by
    rw [List.set_cons_succ, cntT, cntT, cnt_set bs k (by simpa using h)]; omega
theorem cnt_take : ∀ (bs : List Bool) (k : Nat) (b : Bool), bs[k]? = some b → cntT (bs.take (k + 1)) = cntT (bs.take k) + (if b then 1 else 0)
  | [], k, b, h => by simp at h
  | c :: bs, 0, b, h => by simp at h; subst h; simp [cntT]
  | c :: bs, k + 1, b, h => by
    rw [List.take_succ_cons, List.take_succ_cons, cntT, cntT, cnt_take bs k b (by simpa using h)]; omega
theorem subT (r : Rul) (l : List Rul) (bs : List Bool) : subL (r :: l) (true :: bs) = r :: subL l bs := rfl
theorem subF (r : Rul) (l : List Rul) (bs : List Bool) : subL (r :: l) (false :: bs) = subL l bs := rfl
theorem sub_ins (r : Rul) : ∀ (l : List Rul) (bs : List Bool) (k : Nat), bs[k]? = some false → l[k]? = some r → subL l (bs.set k true) = (subL l bs).take (cntT (bs.take k)) ++ r :: (subL l bs).drop (cntT (bs.take k)) := by
  intro l
  induction l with
  | nil => intro bs k h hr; simp at hr
  | cons x l ih =>
    intro bs k h hr
    cases bs with
    | nil => simp at h
    | cons b bs =>
      cases k with
      | zero =>
        have h : b = false := by simpa using h
        have hr : x = r := by simpa using hr
        subst h; subst hr
        rw [List.set_cons_zero, subT, subF, List.take_zero]
        rfl
      | succ k =>
        have e := ih bs k (by simpa using h) (by simpa using hr)
        rw [List.set_cons_succ, List.take_succ_cons]
        cases b
        · rw [subF, subF, e, cntT]
          simp
        · rw [subT, subT, e, cntT]
          have : (if true = true then 1 else 0) + cntT (List.take k bs) = cntT (List.take k bs) + 1 := by rw [if_pos rfl, Nat.add_comm]
          rw [this, List.take_succ_cons, List.drop_succ_cons, List.cons_append]
theorem sub_all : ∀ (l : List Rul) (bs : List Bool), bs.length = l.length → cntT bs = bs.length → subL l bs = l
  | [], [], _, _ => rfl
  | r :: l, b :: bs, hl, hc => by
    have := cnt_le bs
    rw [cntT, List.length_cons] at hc
    cases b
    · simp at hc; omega
    · rw [subL, sub_all l bs (by simpa using hl) (by simp at hc; omega)]; rfl
theorem cnt_zero (n : Nat) : cntT (List.replicate n false) = 0 := by
  induction n with
  | zero => rfl
  | succ n ih => rw [List.replicate_succ, cntT, ih]; rfl
theorem sub_zero (l : List Rul) (n : Nat) : subL l (List.replicate n false) = [] := by
  induction l generalizing n with
  | nil => cases n <;> rfl
  | cons r l ih =>
    cases n with
    | zero => rfl
    | succ n => rw [List.replicate_succ, subL, ih]; rfl
/-! ### lists whose ids are apart -/
def DI (l : List Rul) : Prop := l.Pairwise fun a b => a.id ≠ b.id
theorem find_no {xs : List Rul} {id : Int} (h : ∀ x, x ∈ xs → x.id ≠ id) : findI xs id = -1 := by
  unfold findI
  have : xs.findIdx? (fun r => r.id == id) = none := by
    rw [List.findIdx?_eq_none_iff]
    intro x hx
    simpa using h x hx
  rw [this]
theorem find_neg {xs : List Rul} {id : Int} (h : ¬ findI xs id ≥ 0) : ∀ x, x ∈ xs → x.id ≠ id := by
  unfold findI at h
  cases hf : xs.findIdx? (fun r => r.id == id) with
  | none =>
    rw [List.findIdx?_eq_none_iff] at hf
    intro x hx
    simpa using hf x hx
  | some i => rw [hf] at h; exact absurd (Int.natCast_nonneg i) h
theorem set_DI (max : Int) : ∀ (rs seen : List Rul) (i : Nat), setI max seen rs i = 0 → (∀ r, r ∈ rs → ∀ s, s ∈ seen → s.id ≠ r.id) ∧ DI rs
  | [], _, _, _ => ⟨fun r h => by simp at h, List.Pairwise.nil⟩
  | r :: rs, seen, i, h => by
    rw [setI] at h
    split at h
    · rename_i h1; exact absurd h h1
    · rename_i h1
      split at h
      · cases h
      · obtain ⟨a, b⟩ := set_DI max rs (seen ++ [r]) (i + 1) h
        have h1 : takesI seen r = 0 := by simpa using h1
        unfold takesI at h1
        have hc : r.check.1 = 0 := by
          refine Classical.byContradiction fun hn => ?_
          rw [if_pos hn] at h1
          exact hn h1
        rw [if_neg (by omega)] at h1
        have hf : ¬ findI seen r.id ≥ 0 := by
          intro hp
          rw [if_pos hp] at h1
          cases h1
        refine ⟨fun x hx s hs => ?_, List.Pairwise.cons (fun x hx => a x hx r (by simp)) b⟩
        rcases List.mem_cons.1 hx with rfl | hx
        · exact find_neg hf s hs
        · exact a x hx s (by simp [hs])
theorem lsE_zero : ∀ (rest done : List Rul), done.length + rest.length ≤ 64 → (∀ r, r ∈ rest → r.check.1 = 0) → (∀ r, r ∈ rest → ∀ s, s ∈ done → s.id ≠ r.id) → DI rest → lsE done rest = 0
  | [], done, _, _, _, _ => by unfold lsE; rfl
  | r :: rest, done, hl, hc, hs, hd => by
    rw [List.length_cons] at hl
    rw [DI, List.pairwise_cons] at hd
    have hany : ¬ ((done.any fun x => x.id == r.id) = true) := by
      intro h
      rw [List.any_eq_true] at h
      obtain ⟨x, hx, he⟩ := h
      exact hs r (by simp) x hx (by simpa using he)
    rw [lsE, if_neg (by have := hc r (by simp); omega), if_neg hany, if_neg (by omega)]
    refine lsE_zero rest (done ++ [r]) (by rw [List.length_append, List.length_singleton]; omega) (fun x hx => hc x (by simp [hx])) (fun x hx s hs' => ?_) hd.2
    rcases List.mem_append.1 hs' with h | h
    · exact hs x (by simp [hx]) s h
    · rw [List.mem_singleton.1 h]; exact hd.1 x hx
theorem pruneN_le {l : List Rul} (hl : l.length ≤ 64) : pruneN l ≤ 262144 := by
  have h1 := uq_len (l.map Rul.src)
  rw [List.length_map] at h1
  have h2 := sum_bd (pruneS l) (64 * 64) (uq (l.map Rul.src)) fun s _ => pruneS_le hl s
  have h3 := Nat.mul_le_mul_right (64 * 64) (Nat.le_trans h1 hl)
  unfold pruneN
  omega
theorem room_all {cf : Cfg} {l : List Rul} (hp : cf.prune = 1048576) (g : Gd l) (d : DI l) : roomB cf l = true := by
  have h0 : listE l = 0 := lsE_zero l [] (by have := g.n; simpa using this) g.ok (fun _ _ _ h => by simp at h) d
  have := pruneN_le g.n
  unfold roomB
  rw [if_pos h0, hp]
  exact decide_eq_true (by omega)
end Go.Proofs.Ytomhkbhgpmcbiaa.Fs
