/- Tries in an arena: down along a path; put. -/
import Derived.Test.YtofjbbfnkefoaaaTrPure3
namespace Go.Proofs.Ytofjbbfnkefoaaa.Fs
open Go Go.RowKit Go.Proofs.Ytofjbbfnkefoaaa.Sx Go.Proofs.Ytofjbbfnkefoaaa.Tp
set_option linter.unusedVariables false
set_option linter.unusedSimpArgs false
set_option maxRecDepth 10000
def subt : List Bool → Tr → Tr
  | [], t => t
  | b :: q, t => subt q (t.sub b)
def repl : List Bool → Tr → Tr → Tr
  | [], s, t => s
  | b :: q, s, t => t.setSub b (repl q s (t.sub b))
theorem get_app : ∀ (q s : List Bool) (t : Tr), Tr.get (q ++ s) t = Tr.get s (subt q t)
  | [], s, t => rfl
  | b :: q, s, t => get_app q s (t.sub b)
theorem put_app (v : Int) : ∀ (q s : List Bool) (t : Tr), Tr.put v (q ++ s) t = repl q (Tr.put v s (subt q t)) t
  | [], s, t => rfl
  | b :: q, s, t => by rw [List.cons_append, Tr.put, put_app v q s (t.sub b)]; rfl
theorem repl_ne {q : List Bool} {s t : Tr} (h : s ≠ .nil) : repl q s t ≠ .nil := by
  cases q with
  | nil => exact h
  | cons b q => exact Tr.set_ne t b _
def Bits (w key : Int) : Int → List Bool → Prop
  | _, [] => True
  | d, b :: p => bitT w key d = bi b ∧ Bits w key (d + 1) p
theorem Bits.app {w key : Int} : ∀ {q s : List Bool} {d : Int}, Bits w key d (q ++ s) → Bits w key d q ∧ Bits w key (d + q.length) s
  | [], s, d, h => ⟨True.intro, by simpa using h⟩
  | b :: q, s, d, h => by
    obtain ⟨h1, h2⟩ := h
    obtain ⟨h3, h4⟩ := Bits.app h2
    refine ⟨⟨h1, h3⟩, ?_⟩
    have : d + ((b :: q).length : Nat) = d + 1 + (q.length : Nat) := by simp; omega
    rw [this]; exact h4
/-- At a path's place stands a subtree; what is laid there instead stands in the whole. -/
def Foc (ns : List Node) (T : Tr) (i : Nat) (fp : List Nat) (q : List Bool) (j : Nat) (g rest : List Nat) : Prop :=
  Rep ns (subt q T) j g ∧ subt q T ≠ .nil ∧ fp.Perm (g ++ rest) ∧
  ∀ (ns' : List Node) (S' : Tr) (g' : List Nat), S' ≠ .nil → Rep ns' S' j g' → (∀ k, k ∈ rest → ns'[k]? = ns[k]?) → (∀ k, k ∈ g' → k ∈ g ∨ k ≠ 0) → ∃ fp', fp'.Perm (g' ++ rest) ∧ Rep ns' (repl q S' T) i fp'
theorem down_go {ns : List Node} {w key n : Int} : ∀ (p : List Bool) (T : Tr) (i : Nat) (fp : List Nat) (d : Int) (f : Nat), Rep ns T i fp → T ≠ .nil → fp.Nodup → Bits w key d p → n = d + (p.length : Nat) → p.length < f →
    ∃ (q s : List Bool) (j : Nat) (g rest : List Nat), p = q ++ s ∧ downI ns w key n f (i : Int) d = some ((j : Int), d + (q.length : Nat)) ∧ Tr.hv p T = q.length + 1 ∧ (∀ b s', s = b :: s' → (subt q T).sub b = .nil) ∧ Foc ns T i fp q j g rest := by
  intro p
  induction p with
  | nil =>
    intro T i fp d f hr hT hnd hb hn hf
    obtain ⟨f, rfl⟩ : ∃ f', f = f' + 1 := ⟨f - 1, by simp at hf; omega⟩
    refine ⟨[], [], i, fp, [], rfl, ?_, ?_, (by intro b s' e; cases e), hr, hT, (by rw [List.append_nil]), fun ns' S' g' hS h _ _ => ⟨g', by rw [List.append_nil], h⟩⟩
    · unfold downI
      rw [if_neg (by simp at hn; omega)]
      simp at hn ⊢; omega
    · cases T with
      | nil => exact absurd rfl hT
      | node x l r => rfl
  | cons b p ih =>
    intro T i fp d f hr hT hnd hb hn hf
    obtain ⟨f, rfl⟩ : ∃ f', f = f' + 1 := ⟨f - 1, by simp at hf; omega⟩
    obtain ⟨k, o, f1, g0, hx, h1, h2, hp, z1, z2⟩ := hr.open_ hT b
    obtain ⟨hb0, hb1⟩ := hb
    rw [List.length_cons] at hn hf
    have hnd' := hp.nodup_iff.1 hnd
    have hhv : Tr.hv (b :: p) T = Tr.hv p (T.sub b) + 1 := by
      cases T with
      | nil => exact absurd rfl hT
      | node x l r => rfl
    have hstep : downI ns w key n (f + 1) (i : Int) d = if (k : Int) = 0 then some ((i : Int), d) else downI ns w key n f (k : Int) (d + 1) := by
      rw [downI, if_pos (by omega), if_neg (by rw [hb0]; have := bi01 b; omega), Int.toNat_natCast, hx]
      simp only [hb0, mkN_kid]
    by_cases hs : T.sub b = .nil
    · have hk0 : k = 0 := (h1.kid0 z1).2 hs
      refine ⟨[], b :: p, i, fp, [], rfl, ?_, ?_, (by intro b' s' e; cases e; exact hs), hr, hT, (by rw [List.append_nil]), fun ns' S' g' hS h _ _ => ⟨g', by rw [List.append_nil], h⟩⟩
      · rw [hstep, if_pos (by omega)]; simp
      · rw [hhv, hs, Tr.hv_nil]; rfl
    · have hk0 : k ≠ 0 := fun e => hs ((h1.kid0 z1).1 e)
      have hndf : f1.Nodup := (List.nodup_append.1 (List.nodup_cons.1 hnd').2).1
      obtain ⟨q, s, j, g, rest, rfl, hd, hv, hsb, F1, F2, F3, F4⟩ := ih (T.sub b) k f1 (d + 1) f h1 hs hndf hb1 (by omega) (by omega)
      have hzg : ∀ k, k ∈ g → k ≠ 0 := fun k hk e => z1 (F3.mem_iff.2 (List.mem_append_left _ (e ▸ hk)))
      refine ⟨b :: q, s, j, g, i :: (rest ++ g0), rfl, ?_, ?_, hsb, F1, F2, ?_, ?_⟩
      · rw [hstep, if_neg (by omega), hd, List.length_cons]
        congr 2
        omega
      · rw [hhv, hv, List.length_cons]
      · refine hp.trans ?_
        have e1 : (i :: (f1 ++ g0)).Perm (i :: ((g ++ rest) ++ g0)) := List.Perm.cons _ (F3.append_right _)
        refine e1.trans ?_
        rw [List.append_assoc]
        exact (List.perm_middle (l₁ := g) (l₂ := rest ++ g0) (a := i)).symm
      · intro ns' S' g' hS hr' hk hz
        obtain ⟨fp', hp', hr''⟩ := F4 ns' S' g' hS hr' (fun k hk' => hk k (by simp [hk'])) hz
        have hne := repl_ne (q := q) (t := T.sub b) hS
        have z1' : 0 ∉ fp' := by
          intro h0
          rcases List.mem_append.1 (hp'.mem_iff.1 h0) with h0 | h0
          · rcases hz 0 h0 with h | h
            · exact hzg 0 h rfl
            · exact h rfl
          · exact z1 (F3.mem_iff.2 (List.mem_append_right _ h0))
        obtain ⟨fp2, hr2, hp2⟩ := Rep.shut_ (ns := ns') (x := T.h) (c := b) (i := i) (by rw [hk i (by simp), hx]) hr'' (h2.frame fun k hk' => hk k (by simp [hk'])) z1' z2
        refine ⟨fp2, hp2.trans ?_, by rw [repl, setSub_nodeC]; exact hr2⟩
        have e1 : (i :: (fp' ++ g0)).Perm (i :: ((g' ++ rest) ++ g0)) := List.Perm.cons _ (hp'.append_right _)
        refine e1.trans ?_
        rw [List.append_assoc]
        exact (List.perm_middle (l₁ := g') (l₂ := rest ++ g0) (a := i)).symm
theorem put_dead (v : Int) (s : List Bool) : Tr.put v s (.node none .nil .nil) = Tr.put v s .nil := by
  cases s with
  | nil => rfl
  | cons b s => cases b <;> rfl
theorem loopP_go {key n v : Int} : ∀ (s : List Bool) (S : Tr) (j : Nat) (g : List Nat) (d : Int) (f : Nat) (t : TT) (U fs : List Nat), Rep t.ns S j g → S ≠ .nil → g.Nodup → (∀ b s', s = b :: s' → S.sub b = .nil) → St t U fs → (∀ k, k ∈ g → k ∈ U) →
    Bits t.width key d s → n = d + (s.length : Nat) → s.length < f → U.length + s.length ≤ 1100000 → t.ns.length ≤ 1100000 →
    ∃ (t' : TT) (news fs' g' : List Nat), loopP key n v f (j : Int) d t = some t' ∧ Rep t'.ns (Tr.put v s S) j g' ∧ g'.Perm (g ++ news) ∧ St t' (U ++ news) fs' ∧ (∀ k, k ∈ U → k ∉ g → t'.ns[k]? = t.ns[k]?) ∧
      t'.width = t.width ∧ t'.most = t.most ∧ t'.rooted = t.rooted ∧ t'.ns.length = max t.ns.length (U.length + s.length) ∧ news.length = s.length := by
  intro s
  induction s with
  | nil =>
    intro S j g d f t U fs hr hS hnd hsb st hg hb hn hf hb1 hb2
    obtain ⟨f, rfl⟩ : ∃ f', f = f' + 1 := ⟨f - 1, by simp at hf; omega⟩
    obtain ⟨k, o, f1, g0, hx, h1, h2, hp, z1, z2⟩ := hr.open_ hS false
    have hj : j ∈ g := by obtain ⟨f, rfl, _⟩ := hr.ne hS; simp
    have hlt := (List.getElem?_eq_some_iff.1 hx).1
    have hset : ({ mkN S.h false k o with held := true, v := v } : Node) = mkN (some v) false k o := rfl
    have hnd' := List.nodup_cons.1 (hp.nodup_iff.1 hnd)
    refine ⟨{ t with ns := t.ns.set j (mkN (some v) false k o) }, [], fs, ?_⟩
    have hfr : ∀ m, m ≠ j → (t.ns.set j (mkN (some v) false k o))[m]? = t.ns[m]? := fun m hm => List.getElem?_set_ne (fun e => hm e.symm)
    obtain ⟨g', hr', hp'⟩ := Rep.shut_ (ns := t.ns.set j (mkN (some v) false k o)) (x := some v) (c := false) (i := j) (by rw [List.getElem?_set_self hlt]) (h1.frame fun m hm => hfr m (fun e => hnd'.1 (by rw [← e]; simp [hm]))) (h2.frame fun m hm => hfr m (fun e => hnd'.1 (by rw [← e]; simp [hm]))) z1 z2
    refine ⟨g', ?_, hr', ?_, ?_, fun m hm hm' => hfr m (fun e => hm' (e ▸ hj)), rfl, rfl, rfl, ?_, rfl⟩
    · rw [loopP, if_neg (by simp at hn; omega), if_neg (by omega), Int.toNat_natCast, hx]
      rfl
    · rw [List.append_nil]; exact hp'.trans hp.symm
    · rw [List.append_nil]; exact st.set (hg j hj) _
    · show (t.ns.set j _).length = _
      have := st.len
      rw [List.length_set, List.length_nil]; omega
  | cons b s ih =>
    intro S j g d f t U fs hr hS hnd hsb st hg hb hn hf hb1 hb2
    obtain ⟨f, rfl⟩ : ∃ f', f = f' + 1 := ⟨f - 1, by simp at hf; omega⟩
    rw [List.length_cons] at hn hf hb1
    obtain ⟨hb0, hbr⟩ := hb
    obtain ⟨k, o, f1, g0, hx, h1, h2, hp, z1, z2⟩ := hr.open_ hS b
    have hs := hsb b s rfl
    have hk0 : k = 0 := (h1.kid0 z1).2 hs
    have hf1 : f1 = [] := by rw [hs] at h1; exact h1.2
    subst hk0 hf1
    have hj : j ∈ g := by obtain ⟨f, rfl, _⟩ := hr.ne hS; simp
    have hnd' := List.nodup_cons.1 (hp.nodup_iff.1 hnd)
    obtain ⟨r, t1, fs1, ht, hrU, st1, hr0, hk1, w1, m1, ro1, l1⟩ := take_st st
    have hjU := hg j hj
    have hjr : j ≠ r := fun e => hrU (e ▸ hjU)
    have hx1 : t1.ns[j]? = some (mkN S.h b 0 o) := by rw [hk1 j hjU, hx]
    have hlt := (List.getElem?_eq_some_iff.1 hx1).1
    have st2 := st1.set (j := j) (by simp [hjU]) (mkN S.h b r o)
    have hfr : ∀ m, m ≠ j → (t1.ns.set j (mkN S.h b r o))[m]? = t1.ns[m]? := fun m hm => List.getElem?_set_ne (fun e => hm e.symm)
    have hr2 : Rep (t1.ns.set j (mkN S.h b r o)) (.node none .nil .nil) r [r] := ⟨0, 0, [], [], by rw [hfr r (fun e => hjr e.symm), hr0]; rfl, ⟨rfl, rfl⟩, ⟨rfl, rfl⟩, rfl, by simp⟩
    have hbw : Bits t1.width key (d + 1) s := by rw [w1]; exact hbr
    obtain ⟨t', news, fs', g1, hl, hr', hp', st', hk', w', m', ro', l', nl⟩ := ih (.node none .nil .nil) r [r] (d + 1) f { t1 with ns := t1.ns.set j (mkN S.h b r o) } (U ++ [r]) fs1 hr2 (by simp) (by simp) (by intro b' s' e; cases b' <;> rfl) st2 (by intro m hm; rw [List.mem_singleton] at hm; simp [hm]) hbw (by omega) (by omega) (by rw [List.length_append, List.length_singleton]; omega) (by show (t1.ns.set j _).length ≤ _; rw [List.length_set, l1]; omega)
    have hnd3 : (U ++ [r] ++ news).Nodup := (List.nodup_append.1 st'.nd).1
    have h0n : 0 ∉ news := fun h0 => (List.nodup_append.1 hnd3).2.2 0 (by simp [st.zero]) 0 h0 rfl
    have hr00 : r ≠ 0 := fun e => hrU (e ▸ st.zero)
    have z1' : 0 ∉ g1 := fun h0 => by
      rcases List.mem_append.1 (hp'.mem_iff.1 h0) with h0 | h0
      · rw [List.mem_singleton] at h0; exact hr00 h0.symm
      · exact h0n h0
    have hxj : t'.ns[j]? = some (mkN S.h b r o) := by
      rw [hk' j (by simp [hjU]) (by simpa using hjr)]
      show (t1.ns.set j _)[j]? = _
      rw [List.getElem?_set_self hlt]
    have h2' : Rep t'.ns (S.sub !b) o g0 := h2.frame fun m hm => by
      have hmg : m ∈ g := hp.mem_iff.2 (by simp [hm])
      have hmU := hg m hmg
      have hmr : m ≠ r := fun e => hrU (e ▸ hmU)
      rw [hk' m (by simp [hmU]) (by simpa using hmr)]
      show (t1.ns.set j _)[m]? = _
      rw [hfr m (fun e => hnd'.1 (by rw [← e]; simp [hm])), hk1 m hmU]
    obtain ⟨g', hrf, hpf⟩ := Rep.shut_ (ns := t'.ns) (x := S.h) (c := b) (i := j) hxj hr' h2' z1' z2
    have hput : Tr.put v (b :: s) S = nodeC S.h b (Tr.put v s (.node none .nil .nil)) (S.sub !b) := by
      rw [Tr.put, setSub_nodeC, hs, put_dead]
    refine ⟨t', r :: news, fs', g', ?_, by rw [hput]; exact hrf, ?_, by simpa [List.append_assoc] using st', ?_, w'.trans w1, m'.trans m1, ro'.trans ro1, ?_, by simp [nl]⟩
    · rw [loopP, if_pos (by omega), if_pos ⟨by rw [st.nodes]; omega, by rw [st.nodes]; omega, by omega, by omega, by rw [hb0]; exact bi01 b⟩, ht]
      simp only [Int.toNat_natCast, hx1, hb0, mkN_set]
      exact hl
    · refine hpf.trans ?_
      have e1 : (j :: (g1 ++ g0)).Perm (j :: (([r] ++ news) ++ g0)) := List.Perm.cons _ (hp'.append_right _)
      refine e1.trans ?_
      refine (List.Perm.cons _ List.perm_append_comm).trans ?_
      exact (hp.symm.append_right ([r] ++ news))
    · intro m hm hmg
      have hmr : m ≠ r := fun e => hrU (e ▸ hm)
      rw [hk' m (by simp [hm]) (by simpa using hmr)]
      show (t1.ns.set j _)[m]? = _
      rw [hfr m (fun e => hmg (e ▸ hj)), hk1 m hm]
    · rw [l']
      show max (t1.ns.set j _).length _ = _
      rw [List.length_set, l1, List.length_append, List.length_singleton, List.length_cons]
      omega
end Go.Proofs.Ytofjbbfnkefoaaa.Fs
