/- Tries as trees: get, put, cut, what is held, how many nodes. -/
namespace Go.Proofs.Ytofjbbfnkefoaaa.Tp
set_option linter.unusedVariables false
set_option linter.unusedSimpArgs false
inductive Tr where
  | nil : Tr
  | node : Option Int → Tr → Tr → Tr
  deriving DecidableEq
namespace Tr
def h : Tr → Option Int
  | nil => none
  | node x _ _ => x
def l : Tr → Tr
  | nil => nil
  | node _ x _ => x
def r : Tr → Tr
  | nil => nil
  | node _ _ x => x
def sub (t : Tr) (b : Bool) : Tr := if b = true then t.r else t.l
def setSub (t : Tr) (b : Bool) (s : Tr) : Tr := if b = true then node t.h t.l s else node t.h s t.r
def mk (x : Option Int) (l r : Tr) : Tr := if x = none ∧ l = nil ∧ r = nil then nil else node x l r
def mkd (t : Tr) : Tr := mk t.h t.l t.r
def get : List Bool → Tr → Option Int
  | [], t => t.h
  | b :: p, t => get p (t.sub b)
def put (v : Int) : List Bool → Tr → Tr
  | [], t => node (some v) t.l t.r
  | b :: p, t => t.setSub b (put v p (t.sub b))
def cut : List Bool → Tr → Tr
  | [], t => mk none t.l t.r
  | b :: p, t => (t.setSub b (cut p (t.sub b))).mkd
def Ok : Tr → Prop
  | nil => True
  | node x l r => l.Ok ∧ r.Ok ∧ (x ≠ none ∨ l ≠ nil ∨ r ≠ nil)
def size : Tr → Nat
  | nil => 0
  | node _ l r => l.size + r.size + 1
/-- How many nodes there are along a path. -/
def hv : List Bool → Tr → Nat
  | _, nil => 0
  | [], node _ _ _ => 1
  | b :: p, node x l r => hv p ((node x l r).sub b) + 1
def hdE (x : Option Int) (q : List Bool) : List (List Bool × Int) := match x with
  | some v => [(q, v)]
  | none => []
def ents : Tr → List Bool → List (List Bool × Int)
  | nil, _ => []
  | node x l r, q => hdE x q ++ (ents l (q ++ [false]) ++ ents r (q ++ [true]))
def above : List Bool → Tr → List Bool → List (List Bool × Int)
  | [], t, q => hdE t.h q
  | b :: p, t, q => hdE t.h q ++ above p (t.sub b) (q ++ [b])
@[simp] theorem h_nil : nil.h = none := rfl
@[simp] theorem l_nil : nil.l = nil := rfl
@[simp] theorem r_nil : nil.r = nil := rfl
@[simp] theorem sub_nil (b : Bool) : nil.sub b = nil := by cases b <;> rfl
theorem get_nil : ∀ p, get p nil = none
  | [] => rfl
  | b :: p => by rw [get, sub_nil]; exact get_nil p
theorem sub_set (t : Tr) (b c : Bool) (s : Tr) : (t.setSub b s).sub c = if c = b then s else t.sub c := by
  cases b <;> cases c <;> rfl
theorem h_set (t : Tr) (b : Bool) (s : Tr) : (t.setSub b s).h = t.h := by cases b <;> rfl
theorem mk_h (x : Option Int) (l r : Tr) : (mk x l r).h = x := by
  unfold mk
  split
  · rename_i e; rw [e.1]; rfl
  · rfl
theorem mk_l (x : Option Int) (l r : Tr) : (mk x l r).l = l := by
  unfold mk
  split
  · rename_i e; rw [e.2.1]; rfl
  · rfl
theorem mk_r (x : Option Int) (l r : Tr) : (mk x l r).r = r := by
  unfold mk
  split
  · rename_i e; rw [e.2.2]; rfl
  · rfl
theorem mkd_h (t : Tr) : t.mkd.h = t.h := mk_h ..
theorem mkd_sub (t : Tr) (b : Bool) : t.mkd.sub b = t.sub b := by cases b <;> simp [sub, mkd, mk_l, mk_r]
theorem set_ne (t : Tr) (b : Bool) (s : Tr) : t.setSub b s ≠ nil := by cases b <;> simp [setSub]
theorem get_put (v : Int) : ∀ (p q : List Bool) (t : Tr), get q (put v p t) = if q = p then some v else get q t
  | [], [], t => by simp [get, put, h]
  | [], b :: q, t => by
    simp only [get, put, reduceCtorEq, if_false]
    cases b <;> rfl
  | b :: p, [], t => by
    simp only [get, put, h_set]
    simp
  | b :: p, c :: q, t => by
    simp only [get, put, sub_set]
    by_cases e : c = b
    · subst e
      simp [get_put v p q]
    · simp [e]
theorem get_cut : ∀ (p q : List Bool) (t : Tr), get q (cut p t) = if q = p then none else get q t
  | [], [], t => by simp [get, cut, mk_h]
  | [], b :: q, t => by
    simp only [get, cut]
    cases b <;> simp [sub, mk_l, mk_r]
  | b :: p, [], t => by simp [get, cut, mkd_h, h_set]
  | b :: p, c :: q, t => by
    simp only [get, cut, mkd_sub, sub_set]
    by_cases e : c = b
    · subst e
      simp [get_cut p q]
    · simp [e]
theorem Ok.sub {t : Tr} (o : t.Ok) (b : Bool) : (t.sub b).Ok := by
  cases t with
  | nil => rw [sub_nil]; exact o
  | node x l r => cases b
                  · exact o.1
                  · exact o.2.1
theorem ok_mk {x : Option Int} {l r : Tr} (hl : l.Ok) (hr : r.Ok) : (mk x l r).Ok := by
  unfold mk
  split
  · exact True.intro
  · rename_i hn
    refine ⟨hl, hr, ?_⟩
    by_cases h1 : x = none
    · by_cases h2 : l = nil
      · exact .inr (.inr fun h3 => hn ⟨h1, h2, h3⟩)
      · exact .inr (.inl h2)
    · exact .inl h1
theorem Ok.lr {t : Tr} (o : t.Ok) : t.l.Ok ∧ t.r.Ok := ⟨by have := o.sub false; exact this, by have := o.sub true; exact this⟩
theorem put_ne (v : Int) (p : List Bool) (t : Tr) : put v p t ≠ nil := by
  cases p with
  | nil => simp [put]
  | cons b p => exact set_ne t b _
theorem ok_put (v : Int) : ∀ (p : List Bool) (t : Tr), t.Ok → (put v p t).Ok
  | [], t, o => ⟨o.lr.1, o.lr.2, .inl (by simp)⟩
  | b :: p, t, o => by
    have := ok_put v p _ (o.sub b)
    cases b
    · exact ⟨this, o.lr.2, .inr (.inl (put_ne v p _))⟩
    · exact ⟨o.lr.1, this, .inr (.inr (put_ne v p _))⟩
theorem ok_cut : ∀ (p : List Bool) (t : Tr), t.Ok → (cut p t).Ok
  | [], t, o => ok_mk o.lr.1 o.lr.2
  | b :: p, t, o => by
    have := ok_cut p _ (o.sub b)
    cases b
    · exact ok_mk (l := cut p (t.sub false)) (r := t.r) this o.lr.2
    · exact ok_mk (l := t.l) (r := cut p (t.sub true)) o.lr.1 this
theorem ok_some : ∀ (t : Tr), t.Ok → t ≠ nil → ∃ p v, get p t = some v
  | nil, _, hn => absurd rfl hn
  | node x l r, o, _ => by
    rcases o.2.2 with hx | hl | hr
    · obtain ⟨v, rfl⟩ := Option.ne_none_iff_exists'.1 hx
      exact ⟨[], v, rfl⟩
    · obtain ⟨p, v, hp⟩ := ok_some l o.1 hl
      exact ⟨false :: p, v, hp⟩
    · obtain ⟨p, v, hp⟩ := ok_some r o.2.1 hr
      exact ⟨true :: p, v, hp⟩
/-- Trees without dead leaves that hold alike are alike. -/
theorem ext : ∀ (s t : Tr), s.Ok → t.Ok → (∀ p, get p s = get p t) → s = t
  | nil, nil, _, _, _ => rfl
  | nil, node x l r, _, o, hg => by
    obtain ⟨p, v, hp⟩ := ok_some _ o (by simp)
    have := hg p
    rw [get_nil, hp] at this
    cases this
  | node x l r, nil, o, _, hg => by
    obtain ⟨p, v, hp⟩ := ok_some _ o (by simp)
    have := hg p
    rw [get_nil, hp] at this
    cases this
  | node x l r, node x' l' r', o, o', hg => by
    have e0 : x = x' := hg []
    have e1 : l = l' := ext l l' o.1 o'.1 fun p => hg (false :: p)
    have e2 : r = r' := ext r r' o.2.1 o'.2.1 fun p => hg (true :: p)
    rw [e0, e1, e2]
theorem hv_le : ∀ (p : List Bool) (t : Tr), hv p t ≤ p.length + 1
  | p, nil => by cases p <;> simp [hv]
  | [], node _ _ _ => by simp [hv]
  | b :: p, node x l r => by simp only [hv, List.length_cons]; have := hv_le p ((node x l r).sub b); omega
theorem hv_nil (p : List Bool) : hv p nil = 0 := by cases p <;> rfl
theorem hv_get : ∀ (p : List Bool) (t : Tr), hv p t ≤ p.length → get p t = none
  | p, nil, _ => get_nil p
  | [], node _ _ _, hh => by simp [hv] at hh
  | b :: p, node x l r, hh => by
    rw [get]
    exact hv_get p _ (by simp only [hv, List.length_cons] at hh; omega)
theorem size_lr (t : Tr) : t.size = t.l.size + t.r.size + (if t = nil then 0 else 1) := by cases t <;> simp [size, l, r]
theorem size_set (t : Tr) (b : Bool) (s : Tr) : (t.setSub b s).size + (t.sub b).size = s.size + t.size + (if t = nil then 1 else 0) := by
  cases b <;> cases t <;> simp [setSub, sub, size, l, r] <;> omega
theorem size_put (v : Int) : ∀ (p : List Bool) (t : Tr), (put v p t).size + hv p t = t.size + p.length + 1
  | [], t => by cases t <;> simp [put, size, hv, l, r] <;> omega
  | b :: p, t => by
    have ih := size_put v p (t.sub b)
    have hs := size_set t b (put v p (t.sub b))
    rw [put, List.length_cons]
    cases t with
    | nil => simp only [sub_nil, hv_nil, size, if_true] at *; omega
    | node x l r => simp only [hv, reduceCtorEq, if_false] at *; omega
theorem size_le_put (v : Int) (p : List Bool) (t : Tr) : t.size ≤ (put v p t).size := by
  have := size_put v p t
  have := hv_le p t
  omega
theorem put_had (v : Int) (p : List Bool) (t : Tr) (hg : get p t ≠ none) : (put v p t).size = t.size := by
  have := size_put v p t
  have := hv_le p t
  by_cases hh : hv p t ≤ p.length
  · exact absurd (hv_get p t hh) hg
  · omega
theorem cut_put (v : Int) (p : List Bool) (t : Tr) (o : t.Ok) (hg : get p t = none) : cut p (put v p t) = t := by
  refine ext _ _ (ok_cut _ _ (ok_put _ _ _ o)) o fun q => ?_
  rw [get_cut, get_put]
  split
  · rename_i e; rw [e, hg]
  · rfl
theorem mem_ents : ∀ (t : Tr) (q p : List Bool) (v : Int), (p, v) ∈ ents t q ↔ ∃ s, p = q ++ s ∧ get s t = some v
  | nil, q, p, v => by simp [ents, get_nil]
  | node x l r, q, p, v => by
    rw [ents, List.mem_append, List.mem_append, mem_ents l, mem_ents r]
    constructor
    · rintro (h0 | ⟨s, rfl, hs⟩ | ⟨s, rfl, hs⟩)
      · cases x with
        | none => cases h0
        | some w =>
          simp only [hdE, List.mem_singleton, Prod.mk.injEq] at h0
          exact ⟨[], by simp [h0.1], by rw [get, h, h0.2]⟩
      · exact ⟨false :: s, by simp, hs⟩
      · exact ⟨true :: s, by simp, hs⟩
    · rintro ⟨s, rfl, hs⟩
      cases s with
      | nil =>
        left
        rw [get, h] at hs
        subst hs
        simp [hdE]
      | cons b s => cases b
                    · exact .inr (.inl ⟨s, by simp, hs⟩)
                    · exact .inr (.inr ⟨s, by simp, hs⟩)
theorem len_ents : ∀ (t : Tr) (q : List Bool), (ents t q).length ≤ t.size
  | nil, q => by simp [ents]
  | node x l r, q => by
    have h1 := len_ents l (q ++ [false])
    have h2 := len_ents r (q ++ [true])
    rw [ents, size, List.length_append, List.length_append]
    have : (hdE x q).length ≤ 1 := by cases x <;> simp [hdE]
    omega
theorem pre_iff (q p s : List Bool) : ((q ++ s).isPrefixOf (q ++ p) = true) ↔ s.isPrefixOf p = true := by
  rw [List.isPrefixOf_iff_prefix, List.isPrefixOf_iff_prefix]
  exact List.prefix_append_right_inj q
theorem above_nil : ∀ (p q : List Bool), above p nil q = []
  | [], q => rfl
  | b :: p, q => by rw [above, sub_nil, above_nil p]; rfl
theorem ents_pre {t : Tr} {q : List Bool} {e : List Bool × Int} (he : e ∈ ents t q) : q <+: e.1 := by
  obtain ⟨p, v⟩ := e
  obtain ⟨s, rfl, _⟩ := (mem_ents t q p v).1 he
  exact List.prefix_append q s
theorem filt_none {t : Tr} {q x : List Bool} (hx : ¬ q <+: x) : (ents t q).filter (fun e => e.1.isPrefixOf x) = [] := by
  rw [List.filter_eq_nil_iff]
  intro e he hp
  exact hx ((ents_pre he).trans (List.isPrefixOf_iff_prefix.1 hp))
theorem above_ents : ∀ (t : Tr) (p q : List Bool), above p t q = (ents t q).filter fun e => e.1.isPrefixOf (q ++ p)
  | nil, p, q => by rw [above_nil]; rfl
  | node x l r, p, q => by
    have hd : (hdE x q).filter (fun e => e.1.isPrefixOf (q ++ p)) = hdE x q := by
      cases x with
      | none => rfl
      | some v => simp [hdE, List.isPrefixOf_iff_prefix]
    rw [ents, List.filter_append, List.filter_append, hd]
    cases p with
    | nil =>
      rw [filt_none (fun hp => by have := hp.length_le; simp at this; omega), filt_none (fun hp => by have := hp.length_le; simp at this; omega)]
      simp only [above, h, List.append_nil]
    | cons b p =>
      have n1 : ∀ c : Bool, c ≠ b → ¬ (q ++ [c]) <+: q ++ b :: p := by
        intro c hc hp
        rw [List.prefix_append_right_inj] at hp
        have := (List.cons_prefix_cons.1 hp).1
        exact hc this
      have e2 : q ++ b :: p = (q ++ [b]) ++ p := by simp
      rw [above]
      cases b
      · rw [filt_none (n1 true (by decide)), List.append_nil, e2, ← above_ents l p (q ++ [false])]
        rfl
      · rw [filt_none (n1 false (by decide)), List.nil_append, e2, ← above_ents r p (q ++ [true])]
        rfl
end Tr
end Go.Proofs.Ytofjbbfnkefoaaa.Tp
