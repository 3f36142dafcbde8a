/- The engine whole: New, Insert, Delete, Set, Ask, Stats. -/
import Derived.Test.YtomhkbhgpmcbiaaGreatPnEng2
namespace Go.Proofs.YtomhkbhgpmcbiaaGreat.Fs
open Go Go.RowKit Go.Proofs.YtomhkbhgpmcbiaaGreat.Sx
set_option linter.unusedVariables false
set_option linter.unusedSimpArgs false
set_option maxRecDepth 10000
theorem drf_some {a : Addr} {K : Addr → Prop} (h : K a) : drf (some a) K := h
/-! ### rules that may be -/
theorem firstBad_no : ∀ (es : List Int) (i : Int), firstBad es i = none → ∀ e ∈ es, e = 0
  | [], _, _ => fun e he => by simp at he
  | x :: xs, i, h => by
    rw [firstBad] at h
    split at h
    · cases h
    · rename_i hx
      intro e he
      rcases List.mem_cons.1 he with rfl | he
      · omega
      · exact firstBad_no xs _ h e he
theorem firstBad_yes : ∀ (es : List Int) (i : Int) (e j : Int), firstBad es i = some (e, j) → e ≠ 0
  | [], _, _, _, h => by simp [firstBad] at h
  | x :: xs, i, e, j, h => by
    rw [firstBad] at h
    split at h
    · rename_i hx; injection h with h; injection h with h1 h2; rw [← h1]; exact hx
    · exact firstBad_yes xs _ e j h
theorem check_parts {r : Rul} (h : r.check.1 = 0) : ∀ e ∈ r.parts, e = 0 := by
  unfold Rul.check at h
  split at h
  · cases h
  · unfold Rul.check2 at h
    cases hf : firstBad r.parts 0 with
    | none => exact firstBad_no _ _ hf
    | some v =>
      obtain ⟨e, j⟩ := v
      rw [hf] at h
      exact absurd h (firstBad_yes _ _ e j hf)
theorem lok_of {l : List Rul} (h : ∀ r, r ∈ l → r.check.1 = 0) : Lok l := fun r hr => by
  have hp := check_parts (h r hr)
  have h1 : prefixCheck r.sA r.sL = 0 := hp _ (by simp [Rul.parts])
  have h2 : prefixCheck r.dA r.dL = 0 := hp _ (by simp [Rul.parts])
  exact ⟨prefixCheck_len h1, prefixCheck_len h2⟩
structure Gd (l : List Rul) : Prop where
  n : l.length ≤ 64
  ok : ∀ r, r ∈ l → r.check.1 = 0
theorem Gd.lok {l : List Rul} (g : Gd l) : Lok l := lok_of g.ok
theorem Gd.nil : Gd [] := ⟨by decide, fun r h => by simp at h⟩
/-! ### what a build leaves, plain -/
def bld (l : List Rul) : List Nd × Nat := buildI l l [zNd, zNd] 0
/-- The lists name rules. -/
def LI (ar : List Nd) (n : Nat) : Prop := ∀ x, x ∈ ar → ∀ i, i ∈ x.list → i < n
theorem LI.snoc {ar : List Nd} {n : Nat} (w : LI ar n) : LI (ar ++ [zNd]) n := fun x hx i hi => by
  rcases List.mem_append.1 hx with h | h
  · exact w x h i hi
  · rw [List.mem_singleton.1 h] at hi; simp [zNd] at hi
theorem LI.set {ar : List Nd} {n : Nat} (w : LI ar n) (k : Nat) {x : Nd} (hx : ∀ i, i ∈ x.list → i < n) : LI (ar.set k x) n := fun y hy i hi => by
  rcases List.mem_or_eq_of_mem_set hy with h | h
  · exact w y h i hi
  · subst h; exact hx i hi
theorem down_LI (n : Nat) : ∀ (bs : List Bool) (ar : List Nd) (i : Nat), LI ar n → WF ar → i < ar.length → LI (downI ar i bs).1 n
  | [], ar, i, w, _, _ => w
  | b :: bs, ar, i, w, wf, hi => by
    rw [downI]
    split
    · refine down_LI n bs _ ar.length (w.snoc.set i fun j hj => ?_) (wf.grow hi b) (by simp)
      have := w (ndAt ar i) (ndAt_mem hi) j
      cases b <;> exact this hj
    · exact down_LI n bs ar _ w wf (wf.kid hi b)
theorem idxTo_lt (l : List Rul) (s d : Pf) (n : Nat) : ∀ i, i ∈ idxTo l s d n → i < n := fun i hi => by
  unfold idxTo at hi
  exact List.mem_range.1 (List.mem_filter.1 hi).1
theorem fill_LI (root : Nat) (s : Pf) (l : List Rul) : ∀ (rs : List Rul) (ar : List Nd) (ent : Nat), LI ar l.length → WF ar → root < ar.length → LI (fillI root s l rs ar ent).1 l.length
  | [], ar, ent, w, _, _ => w
  | r :: rs, ar, ent, w, wf, hr => by
    rw [fillI]
    obtain ⟨w1, d1, l1, _⟩ := down_ok (bitsOf r.dA r.dL.toNat) ar root wf hr
    have n1 := down_LI l.length (bitsOf r.dA r.dL.toNat) ar root w wf hr
    split
    · exact fill_LI root s l rs ar ent w wf hr
    · split
      · exact fill_LI root s l rs _ ent n1 w1 (by omega)
      · refine fill_LI root s l rs _ _ (n1.set _ fun i hi => ?_) (w1.same d1 rfl rfl rfl) (by rw [List.length_set]; omega)
        rcases List.mem_append.1 hi with h | h
        · exact n1 _ (ndAt_mem d1) i h
        · exact idxTo_lt _ _ _ _ i h
theorem build_ok (l : List Rul) : ∀ (rs : List Rul) (ar : List Nd) (ent : Nat), WF ar → LN ar → LI ar l.length → 1 < ar.length → WF (buildI l rs ar ent).1 ∧ LI (buildI l rs ar ent).1 l.length ∧ 1 < (buildI l rs ar ent).1.length
  | [], ar, ent, w, ln, li, h1 => ⟨w, li, h1⟩
  | r :: rs, ar, ent, w, ln, li, h1 => by
    rw [buildI]
    obtain ⟨w1, d1, l1, _⟩ := down_ok (bitsOf r.sA r.sL.toNat) ar 1 w h1
    have n1 := down_LN (bitsOf r.sA r.sL.toNat) ar 1 ln w h1
    have i1 := down_LI l.length (bitsOf r.sA r.sL.toNat) ar 1 li w h1
    split
    · exact build_ok l rs _ ent w1 n1 i1 (by omega)
    · obtain ⟨w2, n2⟩ := hang_ok w1 n1 d1
      have i2 := i1.snoc.set (downI ar 1 (bitsOf r.sA r.sL.toNat)).2 (x := { ndAt (downI ar 1 (bitsOf r.sA r.sL.toNat)).1 (downI ar 1 (bitsOf r.sA r.sL.toNat)).2 with hang := (downI ar 1 (bitsOf r.sA r.sL.toNat)).1.length }) (fun i hi => i1 (ndAt _ _) (ndAt_mem d1) i hi)
      have hlt : (downI ar 1 (bitsOf r.sA r.sL.toNat)).1.length < (((downI ar 1 (bitsOf r.sA r.sL.toNat)).1 ++ [zNd]).set (downI ar 1 (bitsOf r.sA r.sL.toNat)).2 { ndAt (downI ar 1 (bitsOf r.sA r.sL.toNat)).1 (downI ar 1 (bitsOf r.sA r.sL.toNat)).2 with hang := (downI ar 1 (bitsOf r.sA r.sL.toNat)).1.length }).length := by simp
      have f := fill_ok (downI ar 1 (bitsOf r.sA r.sL.toNat)).1.length r.src l l _ ent w2 hlt
      exact build_ok l rs _ _ f.1 (fill_LN _ _ _ _ _ _ n2 w2 hlt) (fill_LI _ _ _ _ _ _ i2 w2 hlt) (by omega)
theorem two_ok : WF [zNd, zNd] ∧ LN [zNd, zNd] ∧ (∀ n, LI [zNd, zNd] n) := by
  have key : ∀ x, x ∈ [zNd, zNd] → x = zNd := fun x hx => by simpa using hx
  refine ⟨⟨fun x hx => ?_⟩, fun x hx _ => ?_, fun n x hx i hi => ?_⟩
  · rw [key x hx]; decide
  · rw [key x hx]; rfl
  · rw [key x hx] at hi; simp [zNd] at hi
theorem bld_ok (l : List Rul) : WF (bld l).1 ∧ LI (bld l).1 l.length ∧ 1 < (bld l).1.length := build_ok l l _ 0 two_ok.1 two_ok.2.1 (two_ok.2.2 _) (by decide)
/-! ### the calls -/
abbrev tcf (cf : Cfg) (tb : Nat) : List Value := cf.enc ++ [Value.pointer (some ⟨tb, 0, none⟩)]
theorem und_tp : Tryz.prog.underlying 67 = some (.pointer (Tryz.prog.pointee 67)) := by kernel_rfl
theorem und_ep : Tryz.prog.underlying 31 = some (.pointer (Tryz.prog.pointee 31)) := by kernel_rfl
theorem rules_s {h : Hp} {b tb : Nat} {St : Nat → Prop} {cf : Cfg} {l : List Rul} {rest : List Value} (cl : Cl h ⟨b, 0, none⟩ (tcf cf tb ++ rest)) (t : TabAt h tb St cf l) (hl : l.length ≤ 64) {K : Value → Hp → Prop}
    (H : ∀ h', Ext h h' → RSl h' (some ⟨h.size, 0, none⟩) l.length 12 (l.flatMap Rul.enc) → h.size < h'.size → K (.slice (some ⟨h.size, 0, none⟩) l.length l.length) h') : CallsH Tryz.prog 34 #[.pointer (some ⟨b, 0, none⟩)] h K := by
  refine prune_base_rules_ok _ ?_
  unfold prune_base_rules
  refine ⟨_, ld (cl.at_ 7 _ rfl) (by kernel_rfl), ?_⟩
  refine table_Rules_s t (by omega) fun h' e r => ⟨_, _, _, rfl, H h' e r.read ?_⟩
  rcases r with ⟨h0, _⟩ | ⟨g, rest', hA, hg, _⟩
  · cases h0
  · injection hA with hA; injection hA with hA; rw [hA]; exact lt_of_get hg
theorem build_s {h : Hp} {b tb : Nat} {St : Nat → Prop} {cf : Cfg} {l : List Rul} {v w : Value} (hb : h[b]? = some (.cells (tcf cf tb ++ [v, w]).toArray 74 (0, 0))) (t : TabAt h tb St cf l) (hbt : ¬ St b) (gd : Gd l) {K : Value → Hp → Prop}
    (H : ∀ h' S', ArN h' b S' (tcf cf tb) (bld l).1 (bld l).2 → Tg (fun k => k = b) S' h h' → K (.tuple #[]) h') : CallsH Tryz.prog 16 #[.pointer (some ⟨b, 0, none⟩)] h K := by
  refine prune_Engine_build_ok _ ?_
  unfold prune_Engine_build
  have hblt := lt_of_get hb
  show HU Tryz.prog (Instr.storeAt 72 (.pointer (some ((⟨b, 0, none⟩ : Addr).add 8))) _) h _
  rw [add_eq0]
  refine HU_st (us := [.slice none 0 0]) hb rfl (by kernel_rfl) (by simp [tcf, Cfg.enc]) rfl ?_
  have e1 : (tcf cf tb ++ [v, w]).take 8 ++ [.slice none 0 0] ++ (tcf cf tb ++ [v, w]).drop (8 + [Value.slice none 0 0].length) = tcf cf tb ++ [.slice none 0 0, w] := rfl
  rw [e1]
  have f1 : Fr (fun k => k = b) h (setB h b (tcf cf tb ++ [.slice none 0 0, w]) 74) := setB_fr rfl
  have hb1 := setB_get (cs := tcf cf tb ++ [.slice none 0 0, w]) (T := 74) hblt
  have z1 : (setB h b (tcf cf tb ++ [.slice none 0 0, w]) 74).size = h.size := setB_size
  revert f1 hb1 z1
  generalize setB h b (tcf cf tb ++ [.slice none 0 0, w]) 74 = h1
  intro f1 hb1 z1
  show HU Tryz.prog (Instr.storeAt 3 (.pointer (some ((⟨b, 0, none⟩ : Addr).add 9))) _) h1 _
  rw [add_eq0]
  refine HU_st (us := [.int .i64 0]) hb1 rfl (by kernel_rfl) (by simp [tcf, Cfg.enc]) rfl ?_
  have e2 : (tcf cf tb ++ [.slice none 0 0, w]).take 9 ++ [.int .i64 0] ++ (tcf cf tb ++ [.slice none 0 0, w]).drop (9 + [Value.int .i64 0].length) = tcf cf tb ++ [.slice none 0 0, .int .i64 0] := rfl
  rw [e2]
  have f2 : Fr (fun k => k = b) h1 (setB h1 b (tcf cf tb ++ [.slice none 0 0, .int .i64 0]) 74) := setB_fr rfl
  have hb2 := setB_get (cs := tcf cf tb ++ [.slice none 0 0, .int .i64 0]) (T := 74) (lt_of_get hb1)
  have z2 : (setB h1 b (tcf cf tb ++ [.slice none 0 0, .int .i64 0]) 74).size = h1.size := setB_size
  revert f2 hb2 z2
  generalize setB h1 b (tcf cf tb ++ [.slice none 0 0, .int .i64 0]) 74 = h2
  intro f2 hb2 z2
  have q2 : Ar h2 b (fun k => k = b) (tcf cf tb) none 0 [] 0 := ⟨rfl, rfl, fun k hk => by omega, hb2, RowC.nil, fun k hk => (by obtain ⟨a, ha, _⟩ := hk; cases ha), fun x hx => (by simp at hx), fun x hx => (by simp at hx), fun i j x y hx => (by simp at hx)⟩
  have t02 : Tg (fun k => k = b) (fun k => k = b) h h2 := Fr.tg (f1.trans f2)
  refine fresh_s q2 (by simp) fun h3 S3 A3 c3 q3 t3 => ⟨_, rfl, ?_⟩
  refine fresh_s q3 (by simp) fun h4 S4 A4 c4 q4 t4 => ⟨_, rfl, ?_⟩
  have t04 := (t02.trans t3).trans t4
  have tab4 : TabAt h4 tb St cf l := t.keep t04.fr (fun k hk e => hbt (e ▸ hk))
  refine drf_some ?_
  refine rules_s (b := b) (rest := [Value.slice A4 ([] ++ [zH] ++ [zH]).length c4, Value.int .i64 ((0 : Nat) : Int)]) q4.cl tab4 gd.n fun h5 e5 r5 hlt5 => ⟨_, _, _, rfl, l.length + 1, ?_⟩
  have q5 : ArN h5 b S4 (tcf cf tb) [zNd, zNd] 0 := ⟨_, _, _, q4.ext e5, rfl⟩
  have pr5 : Pr S4 h5 (some ⟨h4.size, 0, none⟩) l := ⟨r5, fun k hk => by
    rw [blk_one hk]
    exact ⟨fun hs => by have := q4.old _ hs; omega, hlt5⟩⟩
  refine build_l1 gd.n gd.lok l [] h5 S4 [zNd, zNd] 0 rfl q5 two_ok.1 two_ok.2.1 (by decide) (by have := gd.n; simp; omega) (by have := gd.n; omega) pr5 fun h6 S6 q6 t6 _ _ _ _ => H h6 S6 q6 ((t04.trans (Ext.tg e5)).trans t6)
/-- An engine: its rules tell it whole. -/
def En (h : Hp) (b : Nat) (S : Nat → Prop) (cf : Cfg) (l : List Rul) : Prop := ∃ tb Sa St, ArN h b Sa (tcf cf tb) (bld l).1 (bld l).2 ∧ TabAt h tb St cf l ∧ (∀ k, Sa k → ¬ St k) ∧ (∀ k, S k ↔ Sa k ∨ St k) ∧ Gd l
theorem En.keep {h h' : Hp} {b : Nat} {S S' : Nat → Prop} {cf : Cfg} {l : List Rul} (q : En h b S cf l) (f : Fr S' h h') (hn : ∀ k, S k → ¬ S' k) : En h' b S cf l := by
  obtain ⟨tb, Sa, St, q, t, d, e, g⟩ := q
  exact ⟨tb, Sa, St, q.keep f (fun k hk => hn k ((e k).2 (.inl hk))), t.keep f (fun k hk => hn k ((e k).2 (.inr hk))), d, e, g⟩
theorem En.ext {h h' : Hp} {b : Nat} {S : Nat → Prop} {cf : Cfg} {l : List Rul} (q : En h b S cf l) (e : Ext h h') : En h' b S cf l := q.keep (e.fr (fun _ => False)) (fun _ _ h => h)
theorem ArN.old {h : Hp} {b : Nat} {S : Nat → Prop} {cfv : List Value} {ar : List Nd} {ent : Nat} (q : ArN h b S cfv ar ent) : ∀ k, S k → k < h.size := by
  obtain ⟨A, c, hs, q, _⟩ := q
  exact q.old
theorem ArN.sb {h : Hp} {b : Nat} {S : Nat → Prop} {cfv : List Value} {ar : List Nd} {ent : Nat} (q : ArN h b S cfv ar ent) : S b := by
  obtain ⟨A, c, hs, q, _⟩ := q
  exact q.sb
theorem En.old {h : Hp} {b : Nat} {S : Nat → Prop} {cf : Cfg} {l : List Rul} (q : En h b S cf l) : ∀ k, S k → k < h.size := by
  obtain ⟨tb, Sa, St, q, t, d, e, g⟩ := q
  intro k hk
  rcases (e k).1 hk with h | h
  · exact q.old k h
  · exact t.2.1 k h
theorem clone_s {h : Hp} {b : Nat} {S : Nat → Prop} {cf : Cfg} {xs : List Rul} (t : TabAt h b S cf xs) (hlen : xs.length ≤ 1000000) {K : Value → Hp → Prop}
    (H : ∀ h' b' S', Ext h h' → (∀ k, S' k → h.size ≤ k) → TabAt h' b' S' cf xs → K (.pointer (some ⟨b', 0, none⟩)) h') : CallsH Tryz.prog 50 #[.pointer (some ⟨b, 0, none⟩)] h K := by
  refine table_Table_Clone_ok _ ?_
  unfold table_Table_Clone
  obtain ⟨A, c, hb, hr⟩ := t.rules
  have cl : Cl h ⟨b, 0, none⟩ cf.enc := Cl.of_block hb fun j v hj => by
    rw [Nat.zero_add, List.getElem?_append_left (List.getElem?_eq_some_iff.1 hj).1]; exact hj
  refine ⟨_, eqNil und_tp, br_f rfl ⟨_, _, _, _, _, _, _, ldS (vs := cf.enc) cl (by kernel_rfl), ?_⟩⟩
  refine table_Rules_s t hlen fun h1 e1 r1 => ⟨_, _, _, rfl, ldS (vs := cf.enc) (cl.ext e1) (by kernel_rfl), newC_i (cs := cf.enc ++ [Value.slice (some ⟨h.size, 0, none⟩) xs.length xs.length]) fun h2 e2 c2 b2 z2 => ?_⟩
  have hlt : h.size < h1.size := by
    rcases r1 with ⟨h0, _⟩ | ⟨g, rest', hA, hg, _⟩
    · cases h0
    · injection hA with hA; injection hA with hA; rw [hA]; exact lt_of_get hg
  refine H h2 h1.size (fun k => k = h1.size ∨ k = h.size) (e1.trans e2) (fun k hk => by omega) ⟨.inl rfl, fun k hk => by omega, _, _, b2, r1.keep (e2.fr (fun _ => False)) (fun _ _ h => h), fun k hk => .inr (blk_one hk), fun hk => by have := blk_one hk; omega⟩
def roomB (cf : Cfg) (l : List Rul) : Bool := if listE l = 0 then decide ((pruneN l : Int) ≤ cf.prune) else false
theorem room_s {h : Hp} {b tb : Nat} {cf : Cfg} {l : List Rul} {A : Option Addr} {c : Nat} {rest : List Value} (cl : Cl h ⟨b, 0, none⟩ (tcf cf tb ++ rest)) (r : RSl h A l.length 12 (l.flatMap Rul.enc)) (hl : l.length ≤ 64) (hc : l.length ≤ c) {K : Value → Hp → Prop}
    (H : ∀ h', Ext h h' → K (.bool (roomB cf l)) h') : CallsH Tryz.prog 51 #[.pointer (some ⟨b, 0, none⟩), .slice A l.length c] h K := by
  refine prune_base_room_ok _ _ _ _ ?_
  unfold prune_base_room
  refine Prune_s r (by omega) hc fun h1 e1 => ⟨_, _, rfl, br_i (fun p => ?_) (fun p => ?_)⟩
  · have p : listE l = 0 := by simpa using p
    refine ⟨_, ld ((cl.ext e1).at_ 2 _ rfl) (by kernel_rfl), ?_⟩
    have := H h1 e1
    unfold roomB at this
    rw [if_pos p] at this ⊢
    exact this
  · have p : ¬ listE l = 0 := by simpa using p
    have := H h1 e1
    unfold roomB at this
    rw [if_neg p] at this
    exact this
/-- tried: something is done with a copy of the table. -/
theorem tried_s {h : Hp} {b : Nat} {S : Nat → Prop} {cf : Cfg} {l : List Rul} (q : En h b S cf l) {f2 : Fn} {f2r f2c : Array Value} (op : Int × List Rul) (good : op.1 = 0 → Gd op.2) (gl : op.2.length ≤ 64)
    (hop : ∀ (h1 : Hp) (tb : Nat) (St : Nat → Prop), Ext h h1 → (∀ k, St k → h.size ≤ k) → TabAt h1 tb St cf l → ∀ K' : Value → Hp → Prop, (∀ h2 St2, TabAt h2 tb St2 cf op.2 → (∀ k, St2 k → St k ∨ h1.size ≤ k) → Fr St h1 h2 → K' (.int .i64 op.1) h2) → HN Tryz.prog (callS (.func f2 f2r f2c) #[.pointer (some ⟨tb, 0, none⟩)]) h1 K') {K : Value → Hp → Prop}
    (H0 : op.1 ≠ 0 → ∀ h', Ext h h' → K (.int .i64 op.1) h')
    (H1 : op.1 = 0 → roomB cf op.2 = false → ∀ h', Ext h h' → K (.int .i64 160) h')
    (H2 : op.1 = 0 → roomB cf op.2 = true → ∀ h' S', En h' b S' cf op.2 → Tg S S' h h' → K (.int .i64 0) h') : CallsH Tryz.prog 28 #[.pointer (some ⟨b, 0, none⟩), .func f2 f2r f2c] h K := by
  refine prune_Engine_tried_ok _ _ _ _ ?_
  unfold prune_Engine_tried
  have hold := q.old
  obtain ⟨tb, Sa, St, q, t, dj, eS, g⟩ := q
  have hqs := q.sb
  have hbl := q.old b hqs
  have q0 := q
  obtain ⟨A, c, hs, qa, m⟩ := q
  refine ⟨_, eqNil und_ep, br_f rfl ⟨_, ld (qa.cl.at_ 7 _ rfl) (by kernel_rfl), ?_⟩⟩
  refine clone_s t (by have := g.n; omega) fun h1 tb1 St1 e1 hS1 t1 => ⟨_, rfl, ?_⟩
  refine hop h1 tb1 St1 e1 hS1 t1 _ fun h2 St2 t2 o2 f2 => ⟨_, rfl, ?_⟩
  have e2 : Ext h h2 := extOwn e1 f2 hS1
  refine br_i (fun p => H0 (by simpa using p) h2 e2) (fun p => ?_)
  have p : op.1 = 0 := by simpa using p
  refine drf_some ?_
  refine table_Rules_s t2 (by omega) fun h3 e3 r3 => ⟨_, _, _, rfl, ?_⟩
  have e03 := e2.trans e3
  refine room_s (b := b) (rest := [Value.slice A hs.length c, Value.int .i64 ((bld l).2 : Int)]) (qa.ext e03).cl r3.read gl (Nat.le_refl _) fun h4 e4 => ⟨_, rfl, br_i (fun u => ?_) (fun u => ?_)⟩
  · exact H1 p (by simpa using u) h4 (e03.trans e4)
  · have u : roomB cf op.2 = true := by simpa using u
    have e04 := e03.trans e4
    have q4 := qa.ext e04
    show HU Tryz.prog (Instr.storeAt 67 (.pointer (some ((⟨b, 0, none⟩ : Addr).add 7))) _) h4 _
    rw [add_eq0]
    refine HU_st (us := [.pointer (some ⟨tb1, 0, none⟩)]) q4.bx rfl (by kernel_rfl) (by simp [tcf, Cfg.enc]) rfl ?_
    have hc : (tcf cf tb ++ [Value.slice A hs.length c, Value.int .i64 ((bld l).2 : Int)]).take 7 ++ [.pointer (some ⟨tb1, 0, none⟩)] ++ (tcf cf tb ++ [Value.slice A hs.length c, Value.int .i64 ((bld l).2 : Int)]).drop (7 + [Value.pointer (some ⟨tb1, 0, none⟩)].length) = tcf cf tb1 ++ [Value.slice A hs.length c, Value.int .i64 ((bld l).2 : Int)] := rfl
    rw [hc]
    have f5 : Fr (fun k => k = b) h4 (setB h4 b (tcf cf tb1 ++ [Value.slice A hs.length c, Value.int .i64 ((bld l).2 : Int)]) 74) := setB_fr rfl
    have hb5 := setB_get (cs := tcf cf tb1 ++ [Value.slice A hs.length c, Value.int .i64 ((bld l).2 : Int)]) (T := 74) (lt_of_get q4.bx)
    have z5 : (setB h4 b (tcf cf tb1 ++ [Value.slice A hs.length c, Value.int .i64 ((bld l).2 : Int)]) 74).size = h4.size := setB_size
    revert f5 hb5 z5
    generalize setB h4 b (tcf cf tb1 ++ [Value.slice A hs.length c, Value.int .i64 ((bld l).2 : Int)]) 74 = h5
    intro f5 hb5 z5
    have hSt2 : ∀ k, St2 k → h.size ≤ k := fun k hk => by
      rcases o2 k hk with h' | h'
      · exact hS1 k h'
      · have := e1.size; omega
    have nb2 : ¬ St2 b := fun hk => by have := hSt2 b hk; omega
    have e24 := e3.trans e4
    have t5 : TabAt h5 tb1 St2 cf op.2 := (t2.ext e24).keep f5 (fun k hk e => nb2 (e ▸ hk))
    refine build_s hb5 t5 nb2 (good p) fun h6 S6 q6 t6 => ⟨rfl, ?_⟩
    have hh : ∀ k, S6 k → k = b ∨ h5.size ≤ k := t6.own
    have s24 := e24.size
    have s2 := e2.size
    refine H2 p u h6 (fun k => S6 k ∨ St2 k) ⟨tb1, S6, St2, q6, t5.keep t6.fr (fun k hk e => nb2 (e ▸ hk)), fun k hk hk2 => ?_, fun k => Iff.rfl, good p⟩ ⟨?_, fun k hk => ?_⟩
    · rcases hh k hk with rfl | h'
      · exact nb2 hk2
      · have := t2.2.1 k hk2; omega
    · exact ((e04.fr S).trans (f5.mono fun k hk => (eS k).2 (.inl (hk ▸ hqs)))).trans (t6.fr.mono fun k hk => (eS k).2 (.inl (hk ▸ hqs)))
    · rcases hk with hk | hk
      · rcases hh k hk with rfl | h'
        · exact .inl ((eS _).2 (.inl hqs))
        · exact .inr (by omega)
      · exact .inr (hSt2 k hk)
/-! ### New, Insert, Delete, Set -/
theorem eNew_s (cf : Cfg) {h : Hp} {K : Value → Hp → Prop} (H0 : cf.check ≠ 0 → ∀ h', Ext h h' → K (.tuple #[.pointer none, .int .i64 cf.check]) h')
    (H1 : cf.check = 0 → ∀ h' b S, Ext h h' → (∀ k, S k → h.size ≤ k) → En h' b S cf [] → K (.tuple #[.pointer (some ⟨b, 0, none⟩), .int .i64 0]) h') : CallsH Tryz.prog 8 #[cf.val] h K := by
  refine prune_New_ok _ _ _ _ _ _ _ ?_
  unfold prune_New
  refine newC_i (cs := cf.enc) fun h1 e1 c1 b1 z1 => ⟨_, _, _, _, _, _, _, ldS (vs := cf.enc) c1 (by kernel_rfl), ?_⟩
  refine table_New_s cf (fun hc h2 e2 => ⟨_, _, rfl, br_t (by simpa using hc) (H0 hc h2 (e1.trans e2))⟩) (fun hc h2 tb e2 htb t2 => ⟨_, _, rfl, br_f rfl ?_⟩)
  refine ⟨_, _, _, _, _, _, _, ldS (vs := cf.enc) (c1.ext e2) (by kernel_rfl), ?_⟩
  refine newC_i (cs := tcf cf tb ++ [Value.slice none 0 0, Value.int .i64 0]) fun h3 e3 c3 b3 z3 => ?_
  have htl := t2.2.1 tb rfl
  refine build_s b3 (t2.ext e3) (fun hk => by omega) Gd.nil fun h4 S4 q4 t4 => ⟨rfl, ?_⟩
  have s1 := e1.size
  have s2 := e2.size
  have s3 := e3.size
  refine H1 hc h4 h2.size (fun k => S4 k ∨ k = tb) ?_ (fun k hk => ?_) ⟨tb, S4, fun k => k = tb, q4, (t2.ext e3).keep t4.fr (fun k hk e => by omega), fun k hk hk2 => ?_, fun k => Iff.rfl, Gd.nil⟩
  · exact extOwn ((e1.trans e2).trans e3) t4.fr (fun k hk => by omega)
  · rcases hk with hk | rfl
    · rcases t4.own k hk with h' | h' <;> omega
    · omega
  · rcases t4.own k hk with h' | h' <;> omega
theorem takes0 {xs : List Rul} {r : Rul} (h : takesI xs r = 0) : r.check.1 = 0 := by
  unfold takesI at h
  by_cases h1 : r.check.1 = 0
  · exact h1
  · rw [if_pos h1] at h; exact h
theorem insI_good {cf : Cfg} {l : List Rul} (g : Gd l) (hm : cf.max ≤ 64) (p : Int) (r : Rul) : ((insI cf l p r).1 = 0 → Gd (insI cf l p r).2) ∧ (insI cf l p r).2.length ≤ 64 := by
  unfold insI
  split
  · rename_i h; exact ⟨fun h' => absurd h' h, g.n⟩
  · split
    · exact ⟨fun h' => (by cases h'), g.n⟩
    · split
      · exact ⟨fun h' => (by cases h'), g.n⟩
      · rename_i h1 h2 h3
        have hlen : (l.take p.toNat ++ r :: l.drop p.toNat).length ≤ 64 := by
          rw [List.length_append, List.length_cons, List.length_take, List.length_drop]
          omega
        refine ⟨fun _ => ⟨hlen, fun x hx => ?_⟩, hlen⟩
        rcases List.mem_append.1 hx with hx | hx
        · exact g.ok x (List.mem_of_mem_take hx)
        · rcases List.mem_cons.1 hx with rfl | hx
          · exact takes0 (by simpa using h1)
          · exact g.ok x (List.mem_of_mem_drop hx)
theorem delI_good {l : List Rul} (g : Gd l) (id : Int) : Gd (delI l id).2 := by
  unfold delI
  split
  · exact g
  · refine ⟨?_, fun x hx => ?_⟩
    · have := g.n
      rw [List.length_append, List.length_take, List.length_drop]
      omega
    · rcases List.mem_append.1 hx with hx | hx
      · exact g.ok x (List.mem_of_mem_take hx)
      · exact g.ok x (List.mem_of_mem_drop hx)
theorem cf_max {cf : Cfg} (h : cf.check = 0) : cf.max ≤ 64 := by
  unfold Cfg.check at h
  split at h
  · rename_i hk
    unfold Cfg.ok inB at hk
    simp only [Bool.and_eq_true, decide_eq_true_eq] at hk
    omega
  · cases h
theorem setI_ok (max : Int) : ∀ (rs seen : List Rul) (i : Nat), setI max seen rs i = 0 → (∀ r, r ∈ rs → r.check.1 = 0) ∧ (rs ≠ [] → (i : Int) + rs.length ≤ max)
  | [], _, _, _ => ⟨fun r h => by simp at h, fun h => absurd rfl h⟩
  | r :: rs, seen, i, h => by
    rw [setI] at h
    split at h
    · rename_i h1; exact absurd h h1
    · split at h
      · cases h
      · rename_i h1 h2
        have ih := setI_ok max rs (seen ++ [r]) (i + 1) h
        refine ⟨fun x hx => ?_, fun _ => ?_⟩
        · rcases List.mem_cons.1 hx with rfl | hx
          · exact takes0 (by simpa using h1)
          · exact ih.1 x hx
        · rw [List.length_cons]
          by_cases hr : rs = []
          · subst hr; simp; omega
          · have := ih.2 hr; omega
theorem eIns_s {h : Hp} {b : Nat} {S : Nat → Prop} {cf : Cfg} {l : List Rul} (q : En h b S cf l) (hm : cf.max ≤ 64) (p : Int) (r : Rul) {K : Value → Hp → Prop}
    (H0 : (insI cf l p r).1 ≠ 0 → ∀ h', Ext h h' → K (.int .i64 (insI cf l p r).1) h')
    (H1 : (insI cf l p r).1 = 0 → roomB cf (insI cf l p r).2 = false → ∀ h', Ext h h' → K (.int .i64 160) h')
    (H2 : (insI cf l p r).1 = 0 → roomB cf (insI cf l p r).2 = true → ∀ h' S', En h' b S' cf (insI cf l p r).2 → Tg S S' h h' → K (.int .i64 0) h') : CallsH Tryz.prog 13 #[.pointer (some ⟨b, 0, none⟩), .int .i64 p, r.val] h K := by
  refine prune_Engine_Insert_ok _ _ _ _ _ _ _ _ _ _ _ _ _ _ ?_
  unfold prune_Engine_Insert
  have g : Gd l := by obtain ⟨_, _, _, _, _, _, _, g⟩ := q; exact g
  refine newC_i (cs := [Value.int .i64 p]) fun h1 e1 c1 b1 z1 => newC_i (cs := r.enc) fun h2 e2 c2 b2 z2 => ?_
  have e12 := e1.trans e2
  refine tried_s (q.ext e12) (insI cf l p r) (insI_good g hm p r).1 (insI_good g hm p r).2 (fun h3 tb St e3 hSt t3 K' HK => ?_) (fun hc h3 e3 => ⟨_, rfl, H0 hc h3 (e12.trans e3)⟩) (fun hc hr h3 e3 => ⟨_, rfl, H1 hc hr h3 (e12.trans e3)⟩) (fun hc hr h3 S3 q3 t3 => ⟨_, rfl, H2 hc hr h3 S3 q3 ((Ext.tg e12).trans t3)⟩)
  refine callF (by kernel_rfl) ?_
  refine prune_Engine_Insert_1_ok _ _ _ ?_
  unfold prune_Engine_Insert_1
  refine ⟨_, ld ((c1.ext e2).ext e3).head (by kernel_rfl), _, _, _, _, _, _, _, _, _, _, _, _, ldS (vs := r.enc) (c2.ext e3) (by kernel_rfl), ?_⟩
  exact table_Insert_s t3 p (by have := g.n; omega) r fun h4 St4 t4 o4 f4 => ⟨_, rfl, HK h4 St4 t4 o4 f4⟩
theorem eDel_s {h : Hp} {b : Nat} {S : Nat → Prop} {cf : Cfg} {l : List Rul} (q : En h b S cf l) (id : Int) {K : Value → Hp → Prop}
    (H0 : (delI l id).1 ≠ 0 → ∀ h', Ext h h' → K (.int .i64 (delI l id).1) h')
    (H1 : (delI l id).1 = 0 → roomB cf (delI l id).2 = false → ∀ h', Ext h h' → K (.int .i64 160) h')
    (H2 : (delI l id).1 = 0 → roomB cf (delI l id).2 = true → ∀ h' S', En h' b S' cf (delI l id).2 → Tg S S' h h' → K (.int .i64 0) h') : CallsH Tryz.prog 131 #[.pointer (some ⟨b, 0, none⟩), .int .i64 id] h K := by
  refine prune_Engine_Delete_ok _ _ ?_
  unfold prune_Engine_Delete
  have g : Gd l := by obtain ⟨_, _, _, _, _, _, _, g⟩ := q; exact g
  refine newC_i (cs := [Value.int .i64 id]) fun h1 e1 c1 b1 z1 => ?_
  refine tried_s (q.ext e1) (delI l id) (fun _ => delI_good g id) (delI_good g id).n (fun h3 tb St e3 hSt t3 K' HK => ?_) (fun hc h3 e3 => ⟨_, rfl, H0 hc h3 (e1.trans e3)⟩) (fun hc hr h3 e3 => ⟨_, rfl, H1 hc hr h3 (e1.trans e3)⟩) (fun hc hr h3 S3 q3 t3 => ⟨_, rfl, H2 hc hr h3 S3 q3 ((Ext.tg e1).trans t3)⟩)
  refine callF (by kernel_rfl) ?_
  refine prune_Engine_Delete_1_ok _ _ ?_
  unfold prune_Engine_Delete_1
  refine ⟨_, ld (c1.ext e3).head (by kernel_rfl), ?_⟩
  exact table_Delete_s t3 id (by have := g.n; omega) fun h4 t4 f4 => ⟨_, rfl, HK h4 St t4 (fun k hk => .inl hk) f4⟩
def setO (cf : Cfg) (l xs : List Rul) : Int × List Rul := (setI cf.max [] xs 0, if setI cf.max [] xs 0 = 0 then xs else l)
theorem eSet_s {h : Hp} {b : Nat} {S : Nat → Prop} {cf : Cfg} {l xs : List Rul} (q : En h b S cf l) (hm : cf.max ≤ 64) {A : Option Addr} {c : Nat} (hl : xs.length ≤ 1000000) (hc : xs.length ≤ c) (r : RSl h A xs.length 12 (xs.flatMap Rul.enc)) {K : Value → Hp → Prop}
    (H0 : (setO cf l xs).1 ≠ 0 → ∀ h', Ext h h' → K (.int .i64 (setO cf l xs).1) h')
    (H1 : (setO cf l xs).1 = 0 → roomB cf (setO cf l xs).2 = false → ∀ h', Ext h h' → K (.int .i64 160) h')
    (H2 : (setO cf l xs).1 = 0 → roomB cf (setO cf l xs).2 = true → ∀ h' S', En h' b S' cf (setO cf l xs).2 → Tg S S' h h' → K (.int .i64 0) h') : CallsH Tryz.prog 132 #[.pointer (some ⟨b, 0, none⟩), .slice A xs.length c] h K := by
  refine prune_Engine_Set_ok _ _ _ _ ?_
  unfold prune_Engine_Set
  have g : Gd l := by obtain ⟨_, _, _, _, _, _, _, g⟩ := q; exact g
  have hgood : ((setO cf l xs).1 = 0 → Gd (setO cf l xs).2) ∧ (setO cf l xs).2.length ≤ 64 := by
    unfold setO
    by_cases h0 : setI cf.max [] xs 0 = 0
    · simp only [h0, if_true]
      have := setI_ok cf.max xs [] 0 h0
      have hlen : xs.length ≤ 64 := by
        by_cases hx : xs = []
        · rw [hx]; decide
        · have := this.2 hx; omega
      exact ⟨fun _ => ⟨hlen, this.1⟩, hlen⟩
    · simp only [h0, if_false]
      exact ⟨fun h => absurd h (by first | exact h0 | simp), g.n⟩
  refine newC_i (cs := [Value.slice A xs.length c]) fun h1 e1 c1 b1 z1 => ?_
  refine tried_s (q.ext e1) (setO cf l xs) hgood.1 hgood.2 (fun h3 tb St e3 hSt t3 K' HK => ?_) (fun hc h3 e3 => ⟨_, rfl, H0 hc h3 (e1.trans e3)⟩) (fun hc hr h3 e3 => ⟨_, rfl, H1 hc hr h3 (e1.trans e3)⟩) (fun hc hr h3 S3 q3 t3 => ⟨_, rfl, H2 hc hr h3 S3 q3 ((Ext.tg e1).trans t3)⟩)
  refine callF (by kernel_rfl) ?_
  refine prune_Engine_Set_1_ok _ _ ?_
  unfold prune_Engine_Set_1
  refine ⟨_, _, _, ld (c1.ext e3).head (by kernel_rfl), ?_⟩
  refine table_Set_s t3 rfl hl hc ((r.ext e1).ext e3) (fun h0 a ha hs => ?_) fun h4 St4 t4 o4 f4 => ⟨_, rfl, HK h4 St4 t4 o4 f4⟩
  obtain ⟨a', ha', hcl⟩ := r.some h0
  rw [ha] at ha'
  injection ha' with ha'
  subst ha'
  have := hSt _ hs
  have h2 : a.block < h.size := by
    have h3 : 0 < (xs.flatMap Rul.enc).length := by rw [flat_len Rul.enc_len]; omega
    exact cell_lt (hcl.at_ 0 _ (List.getElem?_eq_getElem h3))
  have := e1.size
  omega
theorem eStats_s {h : Hp} {b : Nat} {S : Nat → Prop} {cf : Cfg} {l : List Rul} (q : En h b S cf l) {K : Value → Hp → Prop}
    (H : ∀ h', Ext h h' → K (.agg #[.int .i64 (((bld l).1.length : Int) - 1), .int .i64 ((bld l).2 : Int), .int .i64 0, .int .i64 0]) h') : CallsH Tryz.prog 133 #[.pointer (some ⟨b, 0, none⟩)] h K := by
  refine prune_Engine_Stats_ok _ ?_
  unfold prune_Engine_Stats
  refine newC_i (cs := [Value.int .i64 0, Value.int .i64 0, Value.int .i64 0, Value.int .i64 0]) fun h1 e1 c1 b1 z1 => ?_
  obtain ⟨tb, Sa, St, q, t, dj, eS, g⟩ := q
  obtain ⟨A, c, hs, qa, m⟩ := q.ext e1
  have hsl : hs.length = (bld l).1.length := by rw [← m, List.length_map]
  refine ⟨_, eqNil und_ep, br_f rfl ⟨_, _, _, qa.ld8, _, qa.ld9, ?_⟩⟩
  have hlt : hs.length < 2 ^ 63 := by
    have := qa.row.cap
    have := qa.row.le
    omega
  rw [wrap_in (by omega) (by omega), hsl]
  refine HU_box (us := [Value.int .i64 (((bld l).1.length : Int) - 1), Value.int .i64 ((bld l).2 : Int), Value.int .i64 0, Value.int .i64 0]) (cs := [Value.int .i64 0, Value.int .i64 0, Value.int .i64 0, Value.int .i64 0]) b1 rfl rfl (by kernel_rfl) rfl fun h2 c2 b2 f2 z2 => ?_
  have e2 : Ext h h2 := extOwn e1 f2 (fun k hk => by omega)
  exact ⟨_, _, _, _, ldS (vs := [Value.int .i64 (((bld l).1.length : Int) - 1), Value.int .i64 ((bld l).2 : Int), Value.int .i64 0, Value.int .i64 0]) c2 (by kernel_rfl), H h2 e2⟩
end Go.Proofs.YtomhkbhgpmcbiaaGreat.Fs
