/- Words of this session's own: what a call leaves (Chg), flat kinds (Flat), copy within a row. -/
import Derived.Test.YtollljeomlfabaaWMore
import Derived.Test.YtollljeomlfabaaWKept
import Derived.Test.YtollljeomlfabaaWShare
import Derived.Laws.CopyRow
namespace Go.Proofs.Ytollljeomlfabaa.Kit
open Go.RowKit Go.Proofs.YtollljeomlfabaaW.PrintWords Go.Proofs.YtollljeomlfabaaW.PrintLast Go.Proofs.YtollljeomlfabaaW.PrintMore
set_option linter.unusedVariables false

/-- What a call leaves: all but the blocks of S is as it was. -/
structure Chg (w w' : World) (S : Nat → Prop) : Prop where
  os : w'.os = w.os
  tape : w'.tape = w.tape
  output : w'.output = w.output
  kept : Kept w w' S
section
variable {w W W2 : World} {S S2 S' : Nat → Prop}
theorem Chg.refl (w : World) (S : Nat → Prop) : Chg w w S := ⟨rfl, rfl, rfl, Kept.refl w S⟩
theorem Chg.size (h : Chg w W S) : w.heap.size ≤ W.heap.size := h.kept.1
theorem Chg.mono (h : Chg w W S) (hs : ∀ k, S k → S' k) : Chg w W S' := ⟨h.os, h.tape, h.output, h.kept.mono hs⟩
theorem Chg.trans (h : Chg w W S) (k : Chg W W2 S2) (hs : ∀ k, S2 k → S k ∨ w.heap.size ≤ k) : Chg w W2 S :=
  ⟨k.os.trans h.os, k.tape.trans h.tape, k.output.trans h.output, h.kept.then_ k.kept hs⟩
theorem Chg.of_below (h : Below w.heap.size w W) (S : Nat → Prop) : Chg w W S := ⟨h.os, h.tape, h.output, Kept.of_below h S⟩
theorem Chg.below (h : Chg w W S) (k : Below W.heap.size W W2) : Chg w W2 S := h.trans (Chg.of_below k (fun _ => False)) (fun _ hk => hk.elim)
theorem Chg.alloc (h : Chg w W S) (o : Obj) : Chg w (W.alloc o) S := h.below (below_alloc (Below.refl _ _) o)
theorem Chg.drew (h : Chg w W S) : Chg w W.drew S := ⟨h.os, h.tape, h.output, h.kept⟩
theorem Chg.drewN (h : Chg w W S) (n : Nat) : Chg w (W.drewN n) S := ⟨h.os, h.tape, h.output, h.kept⟩
theorem Chg.setCell (h : Chg w W S) {p : Addr} (hp : S p.block ∨ w.heap.size ≤ p.block) (u : Value) : Chg w (W.setCell p u) S :=
  ⟨h.os, h.tape, h.output, h.kept.setCell hp u⟩
theorem Chg.grown (h : Chg w W S) {row : Option Nat} (hg : W.grownBy W2 row) (hr : ∀ k, row = some k → S k ∨ w.heap.size ≤ k) : Chg w W2 S :=
  ⟨hg.os.trans h.os, hg.tape.trans h.tape, hg.output.trans h.output, Kept.of_grown hg h.kept hr⟩
/-- Into a base world: what is written lies above. -/
theorem Chg.into {w0 : World} {B : Nat} (h : Chg w W S) (hb : Below B w0 w) (hB : B ≤ w.heap.size) (hs : ∀ k, S k → B ≤ k) : Below B w0 W :=
  hb.trans ⟨h.os, h.tape, h.output, h.size, fun k hk => h.kept.2 k (Nat.lt_of_lt_of_le hk hB) (fun hS => by have := hs k hS; omega)⟩
theorem Chg.toBelow (h : Chg w W (fun _ => False)) : Below w.heap.size w W := ⟨h.os, h.tape, h.output, h.size, fun k hk => h.kept.2 k hk (fun hF => hF)⟩
theorem Chg.blk (h : Chg w W S) {g : Nat} {o : Obj} (hb : w.heap[g]? = some o) (hne : ¬ S g) : W.heap[g]? = some o := blk_kept hb h.kept hne
end

/-- A kind whose cells are told by the value alone. -/
structure Flat {α : Type} (d : Kd α) (c : α → List Value) : Prop where
  made : ∀ (w : World) (base : Nat) (ok : Nat → Prop) (x : α), d.M w base ok x (c x)
  un : ∀ {w : World} {base : Nat} {ok : Nat → Prop} {x : α} {cs : List Value}, d.M w base ok x cs → cs = c x
  unK : ∀ {w : World} {x : α} {cs : List Value}, d.K w x cs → cs = c x
section
variable {α : Type} {d : Kd α} {c : α → List Value}
theorem Flat.len (hf : Flat d c) (x : α) : (c x).length = d.sz := d.K_len (d.K_of_M (hf.made default 0 (fun _ => True) x))
theorem Flat.one (hf : Flat d c) (x : α) : ∀ u ∈ c x, u.oneCell' = true := d.K_one (d.K_of_M (hf.made default 0 (fun _ => True) x))
theorem flat_len (hf : Flat d c) : ∀ xs : List α, (xs.flatMap c).length = xs.length * d.sz
  | [] => by simp
  | x :: xs => by rw [List.flatMap_cons, List.length_append, hf.len, flat_len hf xs, List.length_cons, Nat.add_mul]; omega
theorem flat_drop (hf : Flat d c) : ∀ (xs : List α) (n : Nat), (xs.flatMap c).drop (n * d.sz) = (xs.drop n).flatMap c
  | xs, 0 => by simp
  | [], n + 1 => by simp
  | x :: xs, n + 1 => by
    rw [List.flatMap_cons, List.drop_succ_cons, ← flat_drop hf xs n, Nat.add_mul, Nat.one_mul, Nat.add_comm, ← hf.len x, List.drop_append]
    simp
theorem flat_take (hf : Flat d c) : ∀ (xs : List α) (n : Nat), (xs.flatMap c).take (n * d.sz) = (xs.take n).flatMap c
  | xs, 0 => by simp
  | [], n + 1 => by simp
  | x :: xs, n + 1 => by
    rw [List.flatMap_cons, List.take_succ_cons, List.flatMap_cons, ← flat_take hf xs n, Nat.add_mul, Nat.one_mul, Nat.add_comm, ← hf.len x, List.take_append]
    rw [List.take_of_length_le (by omega), Nat.add_sub_cancel_left]
theorem flat_reps (hf : Flat d c) {w : World} {base : Nat} {ok : Nat → Prop} {xs : List α} {inner : List Value} (h : Reps (d.M w base ok) d.sz xs inner) : inner = xs.flatMap c := by
  obtain ⟨hl, hr⟩ := h
  induction xs generalizing inner with
  | nil => simpa using hl
  | cons x xs ih =>
    have h0 := hf.un (hr 0 x rfl)
    simp only [Nat.zero_mul, List.drop_zero] at h0
    rw [List.flatMap_cons, ← h0, ← ih (inner := inner.drop d.sz) (by simp at hl ⊢; rw [hl, Nat.add_mul]; omega) (fun j p hj => ?_), List.take_append_drop]
    have := hr (j + 1) p (by simpa using hj)
    rw [List.drop_drop]
    rw [Nat.add_mul, Nat.one_mul, Nat.add_comm] at this
    exact this
theorem reps_flat (hf : Flat d c) (w : World) (base : Nat) (ok : Nat → Prop) (xs : List α) : Reps (d.M w base ok) d.sz xs (xs.flatMap c) := by
  refine ⟨flat_len hf xs, fun j p hj => ?_⟩
  have hlt := (List.getElem?_eq_some_iff.1 hj).1
  rw [flat_drop hf, List.drop_eq_getElem_cons hlt, List.flatMap_cons]
  have hp : xs[j] = p := (List.getElem?_eq_some_iff.1 hj).2
  rw [hp, ← hf.len p, List.take_left]
  exact hf.made w base ok p
/-- A row of one's own, laid open: its block's cells. -/
theorem R_open (hf : Flat d c) {e base : Nat} {w : World} {ok : Nat → Prop} {v : Value} {xs : List α} (h : d.R e w base ok v xs) :
    (v = .slice none 0 0 ∧ xs = []) ∨ ∃ g cap rest, v = .slice (some ⟨g, 0, none⟩) xs.length cap ∧ base ≤ g ∧ ok g ∧ w.heap[g]? = some (.cells (xs.flatMap c ++ rest).toArray e (0, 0)) ∧ xs.length ≤ cap ∧ cap ≤ maxLen ∧ (xs.flatMap c ++ rest).length = cap * d.sz := by
  obtain ⟨hok, inner, ⟨hl, ho⟩, hr⟩ := h
  obtain rfl := flat_reps hf hr
  rcases ho with ⟨rfl, h0⟩ | ⟨g, cap, cur, rfl, hb, hh, h1, h2, h3, h4⟩
  · exact .inl ⟨rfl, List.eq_nil_of_length_eq_zero h0⟩
  · refine .inr ⟨g, cap, cur.toList.drop (xs.length * d.sz), rfl, hb, hok g rfl, ?_, h1, h2, ?_⟩
    · rw [← h4, List.take_append_drop]; simpa using hh
    · rw [← h4, List.take_append_drop]; simpa using h3
theorem R_shut (hf : Flat d c) {e base g cap : Nat} {w : World} {ok : Nat → Prop} {xs : List α} {rest : List Value} (hb : base ≤ g) (hok : ok g) (hh : w.heap[g]? = some (.cells (xs.flatMap c ++ rest).toArray e (0, 0)))
    (h1 : xs.length ≤ cap) (h2 : cap ≤ maxLen) (h3 : (xs.flatMap c ++ rest).length = cap * d.sz) : d.R e w base ok (.slice (some ⟨g, 0, none⟩) xs.length cap) xs := by
  refine ⟨fun k hk => ?_, xs.flatMap c, ⟨flat_len hf xs, .inr ⟨g, cap, _, rfl, hb, hh, h1, h2, by simpa using h3, ?_⟩⟩, reps_flat hf _ _ _ _⟩
  · have : g = k := by simpa [Value.ownBlock] using hk
    exact this ▸ hok
  · have hfl := flat_len hf xs
    simp only
    rw [← hfl, List.take_left]
end

/-- copy(dst, src) of elements of k cells, dst in a row that is known whole. -/
theorem run_copy_rowK (P : Program) (w : World) (dT sT ty elem : TypeId) (g o dLen dCap : Nat) (a : Addr) (sLen sCap k : Nat) (cur : Array Value) (t : TypeId) (cs : List Value)
    (hu : P.underlying dT = some (.slice elem)) (hs : (P.info? elem).map (·.size) = some k)
    (hg : w.heap[g]? = some (.cells cur t (0, 0))) (hn : cs.length = Nat.min sLen dLen * k)
    (hsrc : ∀ j v, cs[j]? = some v → w.cell? (a.add j) = some v) (hfit : o + cs.length ≤ cur.size) (h1 : ∀ v ∈ cs, v.oneCell' = true) :
    (Builtin.copy_ #[dT, sT] ty #[.slice (some ⟨g, o, none⟩) dLen dCap, .slice (some a) sLen sCap]).run P w =
      .ok (goInt (Nat.min sLen dLen)) (w.setRow g (cur.toList.take o ++ cs ++ cur.toList.drop (o + cs.length)).toArray) := by
  have hl := run_loadCells_list (P := P) w a cs hsrc
  have hst := run_storeCells_at P g o t cs 0 cur w hg (by simpa using hfit) h1
  cases hq : P.info? elem with
  | none => simp [hq] at hs
  | some i =>
    have hi : i.size = k := by simpa [hq] using hs
    simp [Builtin.copy_, run_underlying hu, Builtin.lenOf, Builtin.firstCells, sizeOf, typeInfo, hq, hi, ← hn, hl, hst]
/-- Nothing goes over. -/
theorem run_copy_noneK (P : Program) (w : World) (dT sT ty elem : TypeId) (dp sp : Option Addr) (dLen dCap sLen sCap k : Nat)
    (hu : P.underlying dT = some (.slice elem)) (hs : (P.info? elem).map (·.size) = some k) (h0 : Nat.min sLen dLen = 0) :
    (Builtin.copy_ #[dT, sT] ty #[.slice dp dLen dCap, .slice sp sLen sCap]).run P w = .ok (goInt 0) w := by
  cases hq : P.info? elem with
  | none => simp [hq] at hs
  | some i =>
    have hlc : ∀ a : Addr, (loadCells a 0).run P w = .ok #[] w := fun a => by
      have := run_loadCells_list (P := P) w a [] (fun j v hj => by simp at hj)
      simpa using this
    cases sp <;> cases dp <;> simp [Builtin.copy_, run_underlying hu, Builtin.lenOf, Builtin.firstCells, sizeOf, typeInfo, hq, h0, hlc, storeCells]

section
variable {α : Type} {d : Kd α} {c : α → List Value} {P : Program}
theorem setRow_grown (W : World) (g : Nat) (cs : Array Value) : W.grownBy (W.setRow g cs) (some g) :=
  ⟨rfl, rfl, rfl, by simp [World.setRow], fun k _ hne => setRow_other W g k cs (fun e => hne (by rw [e]))⟩
/-- copy within a row of one's own: 'copy(v[i:], v[j:])', m elements go over. -/
theorem R_copy_in (hf : Flat d c) (dT sT ty e : TypeId) {base g n cap : Nat} {W : World} {ok : Nat → Prop} {xs : List α} (i j m dC sC : Nat) (dp sp : Option Addr)
    (hu : P.underlying dT = some (.slice e)) (hs : (P.info? e).map (·.size) = some d.sz)
    (h : d.R e W base ok (.slice (some ⟨g, 0, none⟩) n cap) xs) (hi : i ≤ n) (hj : j ≤ n) (hm : m = min (n - j) (n - i))
    (hdp : 0 < m → dp = some ⟨g, i * d.sz, none⟩) (hsp : 0 < m → sp = some ⟨g, j * d.sz, none⟩) :
    ∃ W', (Builtin.copy_ #[dT, sT] ty #[.slice dp (n - i) dC, .slice sp (n - j) sC]).run P W = .ok (goInt m) W' ∧
      d.R e W' base ok (.slice (some ⟨g, 0, none⟩) n cap) (xs.take i ++ (xs.drop j).take m ++ xs.drop (i + m)) ∧ W.grownBy W' (some g) := by
  rcases R_open hf h with ⟨h0, _⟩ | ⟨g', cap', rest, he, hb, hok, hh, h1, h2, h3⟩
  · cases h0
  injection he with he1 he2 he3
  injection he1 with he1
  injection he1 with he1
  subst he1 he2 he3
  have hfl := flat_len hf xs
  rcases Nat.eq_zero_or_pos m with hm0 | hm0
  · refine ⟨W, ?_, ?_, ?_⟩
    · rw [run_copy_noneK P W dT sT ty e dp sp _ dC _ sC d.sz hu hs (by rw [hm0] at hm; exact hm.symm), hm0]; rfl
    · subst hm0; simpa using h
    · exact ⟨rfl, rfl, rfl, Nat.le_refl _, fun _ _ _ => rfl⟩
  · rw [hdp hm0, hsp hm0]
    have hmle : i + m ≤ xs.length := by omega
    have hmle2 : j + m ≤ xs.length := by omega
    have hcl : ((xs.drop j).take m).flatMap c = ((xs.flatMap c).drop (j * d.sz)).take (m * d.sz) := by rw [flat_drop hf, flat_take hf]
    have hcs : (((xs.drop j).take m).flatMap c).length = m * d.sz := by rw [flat_len hf, List.length_take, List.length_drop, Nat.min_eq_left (by omega)]
    have hmul : (i + m) * d.sz ≤ xs.length * d.sz := Nat.mul_le_mul_right _ hmle
    have hmul2 : (j + m) * d.sz ≤ xs.length * d.sz := Nat.mul_le_mul_right _ hmle2
    rw [Nat.add_mul] at hmul hmul2
    have hrun := run_copy_rowK P W dT sT ty e g (i * d.sz) (xs.length - i) dC ⟨g, j * d.sz, none⟩ (xs.length - j) sC d.sz _ e (((xs.drop j).take m).flatMap c) hu hs hh
      (by rw [hcs, hm]) (fun q v hq => ?_) (by rw [hcs, List.size_toArray, List.length_append, hfl]; omega) (fun v hv => ?_)
    · rw [show Nat.min (xs.length - j) (xs.length - i) = m from hm.symm] at hrun
      refine ⟨_, hrun, ?_, setRow_grown W g _⟩
      have hlist : (List.take (i * d.sz) (xs.flatMap c ++ rest) ++ ((xs.drop j).take m).flatMap c ++ List.drop (i * d.sz + (((xs.drop j).take m).flatMap c).length) (xs.flatMap c ++ rest)) = (xs.take i ++ (xs.drop j).take m ++ xs.drop (i + m)).flatMap c ++ rest := by
        rw [hcs, List.take_append_of_le_length (by omega), List.drop_append_of_le_length (by omega), flat_take hf, ← Nat.add_mul, flat_drop hf]
        simp [List.flatMap_append]
      have hlen : (xs.take i ++ (xs.drop j).take m ++ xs.drop (i + m)).length = xs.length := by simp; omega
      have hrow := setRow_heap W g _ (xs.take i ++ (xs.drop j).take m ++ xs.drop (i + m) |>.flatMap c |> (· ++ rest) |>.toArray) e (0, 0) hh
      rw [hlist]
      have hz := R_shut hf (base := base) (ok := ok) (cap := cap) (xs := xs.take i ++ (xs.drop j).take m ++ xs.drop (i + m)) (rest := rest) hb hok hrow (by rw [hlen]; exact h1) h2 (by
        rw [List.length_append, flat_len hf, hlen, ← hfl, ← List.length_append]; exact h3)
      rw [hlen] at hz
      exact hz
    · have hq' : q < m * d.sz := by rw [← hcs]; exact (List.getElem?_eq_some_iff.1 hq).1
      have hadd : (⟨g, j * d.sz, none⟩ : Addr).add q = ⟨g, j * d.sz + q, none⟩ := by unfold Addr.add; split <;> simp_all
      rw [hadd]
      rw [hcl, List.getElem?_take, if_pos hq', List.getElem?_drop] at hq
      have hlt : j * d.sz + q < (xs.flatMap c).length := by rw [hfl]; omega
      simp only [World.cell?, hh]
      simp
      rw [List.getElem?_append_left hlt]
      exact hq
    · obtain ⟨x, _, hx⟩ := List.mem_flatMap.1 hv
      exact hf.one x v hx
end

section
variable {P : Program} {ops : Array Oper} {rest : List Oper} {o : Oper} {a : Act} {Q : Exit → Act → World → Prop} {α : Type} {d : Kd α} {c : α → List Value}
/-- copy(v, ys), v a row of one's own of flat elements: its first cells are ys' then: its run. -/
theorem R_copyK_run (hf : Flat d c) {W : World} {base : Nat} (t t' ty e : TypeId) (ht : P.underlying t = some (.slice e)) (hinfo : (P.info? e).map (·.size) = some d.sz)
    (v : Value) (xs ys : List α) (A : Option Addr) (m cc : Nat) (ok : Nat → Prop) (HO : d.R e W base ok v xs) (HR : d.C W A m ys) :
    ∃ w1, (Builtin.copy_ #[t, t'] ty #[v, .slice A m cc]).run P W = .ok (goInt ((min m xs.length : Nat) : Int)) w1 ∧ d.R e w1 base ok v (ys.take (min m xs.length) ++ xs.drop (min m xs.length)) ∧ W.grownBy w1 v.ownBlock := by
  have hm : ys.length = m := HR.1
  rcases R_open hf HO with ⟨rfl, rfl⟩ | ⟨g, cap, rst, rfl, hb, hok, hh, h1, h2, h3⟩
  · refine ⟨W, ?_, by simpa using HO, ⟨rfl, rfl, rfl, Nat.le_refl _, fun _ _ _ => rfl⟩⟩
    rw [run_copy_noneK P W t t' ty e none A 0 0 m cc d.sz ht hinfo (Nat.min_zero _)]
    simp
  · rcases Nat.eq_zero_or_pos (min m xs.length) with h0 | h0
    · refine ⟨W, ?_, by rw [h0]; simpa using HO, ⟨rfl, rfl, rfl, Nat.le_refl _, fun _ _ _ => rfl⟩⟩
      rw [run_copy_noneK P W t t' ty e (some ⟨g, 0, none⟩) A xs.length cap m cc d.sz ht hinfo h0, h0]
      simp
    · obtain ⟨ad, rfl, hc⟩ := HR.2.2 (by omega)
      have hfx := flat_len hf xs
      have hty : (ys.take (min m xs.length)).length = min m xs.length := by rw [List.length_take]; omega
      have hcs : ((ys.take (min m xs.length)).flatMap c).length = min m xs.length * d.sz := by rw [flat_len hf, hty]
      have hle : min m xs.length * d.sz ≤ xs.length * d.sz := Nat.mul_le_mul_right _ (by omega)
      have hrun := run_copy_rowK P W t t' ty e g 0 xs.length cap ad m cc d.sz _ e ((ys.take (min m xs.length)).flatMap c) ht hinfo hh (by rw [hcs]) (fun q v hq => ?_) (by rw [hcs, List.size_toArray, List.length_append, hfx]; omega) (fun v hv => ?_)
      · refine ⟨_, hrun, ?_, setRow_grown W g _⟩
        have hlist : (List.take 0 (xs.flatMap c ++ rst) ++ (ys.take (min m xs.length)).flatMap c ++ List.drop (0 + ((ys.take (min m xs.length)).flatMap c).length) (xs.flatMap c ++ rst)) = (ys.take (min m xs.length) ++ xs.drop (min m xs.length)).flatMap c ++ rst := by
          rw [hcs, List.take_zero, List.nil_append, Nat.zero_add, List.drop_append_of_le_length (by omega), flat_drop hf]
          simp [List.flatMap_append]
        have hlen : (ys.take (min m xs.length) ++ xs.drop (min m xs.length)).length = xs.length := by rw [List.length_append, hty, List.length_drop]; omega
        have hrow := setRow_heap W g _ ((ys.take (min m xs.length) ++ xs.drop (min m xs.length)).flatMap c ++ rst).toArray e (0, 0) hh
        rw [hlist]
        have hz := R_shut hf (base := base) (ok := ok) (cap := cap) (xs := ys.take (min m xs.length) ++ xs.drop (min m xs.length)) (rest := rst) hb hok hrow (by rw [hlen]; exact h1) h2 (by
          rw [List.length_append, flat_len hf, hlen, ← hfx, ← List.length_append]; exact h3)
        rw [hlen] at hz
        exact hz
      · have hq' : q < min m xs.length * d.sz := by rw [← hcs]; exact (List.getElem?_eq_some_iff.1 hq).1
        rw [← flat_take hf, List.getElem?_take, if_pos hq'] at hq
        have hs : 0 < d.sz := by
          rcases Nat.eq_zero_or_pos d.sz with hz | hz
          · rw [hz] at hq'; omega
          · exact hz
        have hj : q / d.sz < ys.length := by
          have : q / d.sz < min m xs.length := Nat.div_lt_of_lt_mul (by rw [Nat.mul_comm]; exact hq')
          omega
        obtain ⟨cl, _, hK, hcell⟩ := hc (q / d.sz) _ (List.getElem?_eq_getElem hj)
        obtain rfl := hf.unK hK
        have e1 : q / d.sz * d.sz + q % d.sz = q := by have := Nat.div_add_mod q d.sz; rw [Nat.mul_comm] at this; exact this
        have hmod : q % d.sz < d.sz := Nat.mod_lt _ hs
        have e2 : (c ys[q / d.sz])[q % d.sz]? = some v := by
          rw [← e1, ← List.getElem?_drop, flat_drop hf, List.drop_eq_getElem_cons hj, List.flatMap_cons, List.getElem?_append_left (by rw [hf.len]; exact hmod)] at hq
          exact hq
        have := hcell _ _ e2
        rw [e1] at this
        exact this
      · obtain ⟨x, _, hx⟩ := List.mem_flatMap.1 hv
        exact hf.one x v hx
/-- .. as an event. -/
theorem R_copyK (hf : Flat d c) {w0 W : World} (base : Nat) (hgd : o.guard = none) (s x : Operand) (t t' e : TypeId)
    (ho : o.op = .call { callee := .builtin .copy, args := #[s, x], argTypes := #[t, t'] }) (ht : P.underlying t = some (.slice e)) (hinfo : (P.info? e).map (·.size) = some d.sz)
    (v : Value) (xs ys : List α) (A : Option Addr) (m cc : Nat) (ok : Nat → Prop) (hs : a.eval s = v) (hx : a.eval x = .slice A m cc)
    (HO : d.R e W base ok v xs) (HR : d.C W A m ys) (HB : Below base w0 W) (hbase : base ≤ W.heap.size)
    (h : ∀ w1, d.R e w1 base ok v (ys.take (min m xs.length) ++ xs.drop (min m xs.length)) → Below base w0 w1 → W.grownBy w1 v.ownBlock → wpList P ops Q rest (a.put o.dst (.int .i64 ((min m xs.length : Nat) : Int))) w1) :
    wpList P ops Q (o :: rest) a W := by
  obtain ⟨w1, hr, hrow, hg⟩ := R_copyK_run (P := P) hf t t' o.type e ht hinfo v xs ys A m cc ok HO HR
  refine wpList_plain hgd fun K hK => ?_
  unfold Oper.wp execOp
  simp only [ho, resolve, invoke, builtin, Sem.run_bind, Sem.run_pure, Result.andThen_ok, List.map_toArray, List.map_cons, List.map_nil, hs, hx, hr]
  obtain ⟨_, ho2⟩ := Kd.R_own HO
  exact hK _ _ (h w1 hrow (HB.grown hg hbase (own_base ho2)) hg)
end
end Go.Proofs.Ytollljeomlfabaa.Kit
