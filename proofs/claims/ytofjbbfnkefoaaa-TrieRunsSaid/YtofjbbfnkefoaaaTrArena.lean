/- Tries in an arena: which tree it holds; get, put, cut. -/
import Derived.Test.YtofjbbfnkefoaaaTrS2
import Derived.Test.YtofjbbfnkefoaaaTrPure2
namespace Go.Proofs.Ytofjbbfnkefoaaa.Fs
open Go Go.RowKit Go.Proofs.Ytofjbbfnkefoaaa.Sx Go.Proofs.Ytofjbbfnkefoaaa.Tp
set_option linter.unusedVariables false
set_option linter.unusedSimpArgs false
set_option maxRecDepth 10000
def nodeOf (x : Option Int) (a b : Nat) : Node := ⟨a, b, x.isSome, x.getD 0⟩
def Rep (ns : List Node) : Tr → Nat → List Nat → Prop
  | .nil, i, fp => i = 0 ∧ fp = []
  | .node x l r, i, fp => ∃ a b f1 f2, ns[i]? = some (nodeOf x a b) ∧ Rep ns l a f1 ∧ Rep ns r b f2 ∧ fp = i :: (f1 ++ f2) ∧ 0 ∉ f1 ++ f2
def bi (b : Bool) : Int := if b = true then 1 else 0
/-- A node: kid k at bit c, kid o at the other. -/
def mkN (x : Option Int) (c : Bool) (k o : Nat) : Node := if c = true then nodeOf x o k else nodeOf x k o
def nodeC (x : Option Int) (c : Bool) (s o : Tr) : Tr := if c = true then .node x o s else .node x s o
theorem mkN_kid (x : Option Int) (c : Bool) (k o : Nat) : (mkN x c k o).kid (bi c) = k := by cases c <;> rfl
theorem mkN_set (x : Option Int) (c : Bool) (k o k' : Nat) : (mkN x c k o).setKid (bi c) k' = mkN x c k' o := by cases c <;> rfl
theorem mkN_held (x : Option Int) (c : Bool) (k o : Nat) : (mkN x c k o).held = x.isSome := by cases c <;> rfl
theorem mkN_v (x : Option Int) (c : Bool) (k o : Nat) : (mkN x c k o).v = x.getD 0 := by cases c <;> rfl
theorem setSub_nodeC (t : Tr) (c : Bool) (s : Tr) : t.setSub c s = nodeC t.h c s (t.sub !c) := by cases c <;> rfl
theorem bi01 (b : Bool) : bi b = 0 ∨ bi b = 1 := by cases b <;> simp [bi]
theorem Rep.frame {ns ns' : List Node} : ∀ {T : Tr} {i : Nat} {fp : List Nat}, Rep ns T i fp → (∀ k, k ∈ fp → ns'[k]? = ns[k]?) → Rep ns' T i fp
  | .nil, i, fp, h, _ => h
  | .node x l r, i, fp, h, hf => by
    obtain ⟨a, b, f1, f2, hx, h1, h2, rfl, h0⟩ := h
    exact ⟨a, b, f1, f2, by rw [hf i (by simp), hx], h1.frame fun k hk => hf k (by simp [hk]), h2.frame fun k hk => hf k (by simp [hk]), rfl, h0⟩
theorem Rep.lt {ns : List Node} : ∀ {T : Tr} {i : Nat} {fp : List Nat}, Rep ns T i fp → ∀ k, k ∈ fp → k < ns.length
  | .nil, i, fp, h, k, hk => by rw [h.2] at hk; cases hk
  | .node x l r, i, fp, h, k, hk => by
    obtain ⟨a, b, f1, f2, hx, h1, h2, rfl, h0⟩ := h
    rcases List.mem_cons.1 hk with rfl | hk
    · exact (List.getElem?_eq_some_iff.1 hx).1
    · rcases List.mem_append.1 hk with hk | hk
      · exact h1.lt k hk
      · exact h2.lt k hk
theorem Rep.len {ns : List Node} : ∀ {T : Tr} {i : Nat} {fp : List Nat}, Rep ns T i fp → fp.length = T.size
  | .nil, i, fp, h => by rw [h.2]; rfl
  | .node x l r, i, fp, h => by
    obtain ⟨a, b, f1, f2, hx, h1, h2, rfl, h0⟩ := h
    simp [Tr.size, h1.len, h2.len]
theorem Rep.ne {ns : List Node} {T : Tr} {i : Nat} {fp : List Nat} (h : Rep ns T i fp) (hT : T ≠ .nil) : ∃ f, fp = i :: f ∧ 0 ∉ f := by
  cases T with
  | nil => exact absurd rfl hT
  | node x l r =>
    obtain ⟨a, b, f1, f2, hx, h1, h2, rfl, h0⟩ := h
    exact ⟨_, rfl, h0⟩
theorem Rep.kid0 {ns : List Node} {T : Tr} {i : Nat} {fp : List Nat} (h : Rep ns T i fp) (h0 : 0 ∉ fp) : i = 0 ↔ T = .nil := by
  cases T with
  | nil => exact ⟨fun _ => rfl, fun _ => h.1⟩
  | node x l r =>
    obtain ⟨f, rfl, _⟩ := h.ne (by simp)
    exact ⟨fun e => absurd (by simp [e]) h0, fun e => by cases e⟩
theorem Rep.open_ {ns : List Node} {T : Tr} {i : Nat} {fp : List Nat} (h : Rep ns T i fp) (hT : T ≠ .nil) (c : Bool) :
    ∃ k o f g, ns[i]? = some (mkN T.h c k o) ∧ Rep ns (T.sub c) k f ∧ Rep ns (T.sub !c) o g ∧ fp.Perm (i :: (f ++ g)) ∧ 0 ∉ f ∧ 0 ∉ g := by
  cases T with
  | nil => exact absurd rfl hT
  | node x l r =>
    obtain ⟨a, b, f1, f2, hx, h1, h2, rfl, h0⟩ := h
    rw [List.mem_append, not_or] at h0
    cases c
    · exact ⟨a, b, f1, f2, hx, h1, h2, List.Perm.refl _, h0.1, h0.2⟩
    · exact ⟨b, a, f2, f1, hx, h2, h1, List.Perm.cons _ List.perm_append_comm, h0.2, h0.1⟩
theorem Rep.shut_ {ns : List Node} {x : Option Int} {c : Bool} {s s' : Tr} {i k o : Nat} {f g : List Nat} (hx : ns[i]? = some (mkN x c k o)) (h1 : Rep ns s k f) (h2 : Rep ns s' o g) (hf : 0 ∉ f) (hg : 0 ∉ g) :
    ∃ fp, Rep ns (nodeC x c s s') i fp ∧ fp.Perm (i :: (f ++ g)) := by
  cases c
  · exact ⟨_, ⟨k, o, f, g, hx, h1, h2, rfl, by simp [hf, hg]⟩, List.Perm.refl _⟩
  · exact ⟨_, ⟨o, k, g, f, hx, h2, h1, rfl, by simp [hf, hg]⟩, List.Perm.cons _ List.perm_append_comm⟩
def Chain (ns : List Node) : Int → List Nat → Prop
  | f, [] => f = 0
  | f, j :: js => f = j ∧ 0 < j ∧ ∃ x, ns[j]? = some x ∧ Chain ns x.k0 js
theorem Chain.frame {ns ns' : List Node} : ∀ {fs : List Nat} {f : Int}, Chain ns f fs → (∀ k, k ∈ fs → ns'[k]? = ns[k]?) → Chain ns' f fs
  | [], f, h, _ => h
  | j :: js, f, h, hf => by
    obtain ⟨rfl, h0, x, hx, hc⟩ := h
    exact ⟨rfl, h0, x, by rw [hf j (by simp), hx], hc.frame fun k hk => hf k (by simp [hk])⟩
theorem Chain.pos {ns : List Node} : ∀ {fs : List Nat} {f : Int}, Chain ns f fs → ∀ k, k ∈ fs → 0 < k ∧ k < ns.length
  | [], f, h, k, hk => by cases hk
  | j :: js, f, h, k, hk => by
    obtain ⟨rfl, h0, x, hx, hc⟩ := h
    rcases List.mem_cons.1 hk with rfl | hk
    · exact ⟨h0, (List.getElem?_eq_some_iff.1 hx).1⟩
    · exact hc.pos k hk
/-- The places in use, and the free ones. -/
structure St (t : TT) (U fs : List Nat) : Prop where
  chain : Chain t.ns t.free fs
  nd : (U ++ fs).Nodup
  len : U.length + fs.length = t.ns.length
  lt : ∀ k, k ∈ U → k < t.ns.length
  nodes : t.nodes = U.length
  zero : 0 ∈ U
theorem St.perm {t : TT} {U U' fs : List Nat} (s : St t U fs) (p : U.Perm U') : St t U' fs :=
  ⟨s.chain, ((p.append_right fs).nodup_iff).1 s.nd, by rw [← p.length_eq]; exact s.len, fun k hk => s.lt k (p.mem_iff.2 hk), by rw [← p.length_eq]; exact s.nodes, p.mem_iff.1 s.zero⟩
theorem St.off {t : TT} {U fs : List Nat} (s : St t U fs) {k : Nat} (hk : k ∈ U) : k ∉ fs := fun hf => by
  have := (List.nodup_append.1 s.nd).2.2
  exact this k hk k hf rfl
theorem St.set {t : TT} {U fs : List Nat} (s : St t U fs) {j : Nat} (hj : j ∈ U) (x : Node) : St { t with ns := t.ns.set j x } U fs :=
  ⟨s.chain.frame fun k hk => by
    have : j ≠ k := fun e => s.off hj (e ▸ hk)
    show (t.ns.set j x)[k]? = _
    rw [List.getElem?_set_ne this], s.nd, by rw [s.len]; simp, fun k hk => by have := s.lt k hk; simpa using this, s.nodes, s.zero⟩
theorem take_st {t : TT} {U fs : List Nat} (s : St t U fs) : ∃ (r : Nat) (t' : TT) (fs' : List Nat), takeT t = some ((r : Int), t') ∧ r ∉ U ∧ St t' (U ++ [r]) fs' ∧ t'.ns[r]? = some zN ∧ (∀ k, k ∈ U → t'.ns[k]? = t.ns[k]?) ∧
    t'.width = t.width ∧ t'.most = t.most ∧ t'.rooted = t.rooted ∧ t'.ns.length = max t.ns.length (U.length + 1) := by
  have hnd := List.nodup_append.1 s.nd
  unfold takeT
  cases fs with
  | nil =>
    have h0 : t.free = 0 := s.chain
    have hl := s.len
    rw [List.length_nil, Nat.add_zero] at hl
    rw [if_neg (by omega)]
    have hn : t.ns.length ∉ U := fun hk => Nat.lt_irrefl _ (s.lt _ hk)
    refine ⟨t.ns.length, _, [], rfl, hn, ⟨h0, ?_, ?_, ?_, ?_, ?_⟩, ?_, ?_, rfl, rfl, rfl, ?_⟩
    · rw [List.append_nil, List.nodup_append]
      refine ⟨hnd.1, by simp, fun a ha b hb e => ?_⟩
      rw [List.mem_singleton] at hb
      exact hn (hb ▸ e ▸ ha)
    · simp [hl]
    · intro k hk
      rcases List.mem_append.1 hk with hk | hk
      · have := s.lt k hk; simp; omega
      · rw [List.mem_singleton] at hk; simp [hk]
    · show t.nodes + 1 = _
      rw [s.nodes]; simp
    · simp [s.zero]
    · simp
    · intro k hk
      show (t.ns ++ [zN])[k]? = _
      rw [List.getElem?_append_left (s.lt k hk)]
    · show (t.ns ++ [zN]).length = _
      simp; omega
  | cons j js =>
    obtain ⟨hf, h0, x, hx, hc⟩ := s.chain
    have hj : j < t.ns.length := (List.getElem?_eq_some_iff.1 hx).1
    have hn : j ∉ U := fun hk => hnd.2.2 j hk j (by simp) rfl
    have hjs : j ∉ js := (List.nodup_cons.1 hnd.2.1).1
    rw [if_pos (by omega), hf, Int.toNat_natCast, hx]
    have hl := s.len
    rw [List.length_cons] at hl
    refine ⟨j, _, js, rfl, hn, ⟨hc.frame fun k hk => ?_, ?_, ?_, ?_, ?_, ?_⟩, ?_, ?_, rfl, rfl, rfl, ?_⟩
    · have hne : j ≠ k := fun e => hjs (e ▸ hk)
      show (t.ns.set j zN)[k]? = _
      rw [List.getElem?_set_ne hne]
    · have := s.nd
      simpa [List.append_assoc] using this
    · simp; omega
    · intro k hk
      show k < (t.ns.set j zN).length
      rw [List.length_set]
      rcases List.mem_append.1 hk with hk | hk
      · exact s.lt k hk
      · rw [List.mem_singleton] at hk; omega
    · show t.nodes + 1 = _
      rw [s.nodes]; simp
    · simp [s.zero]
    · show (t.ns.set j zN)[j]? = _
      rw [List.getElem?_set_self hj]
    · intro k hk
      have hne : j ≠ k := fun e => hn (e ▸ hk)
      show (t.ns.set j zN)[k]? = _
      rw [List.getElem?_set_ne hne]
    · show (t.ns.set j zN).length = _
      rw [List.length_set]; omega
def subt : List Bool → Tr → Tr
  | [], t => t
  | b :: q, t => subt q (t.sub b)
def repl : List Bool → Tr → Tr → Tr
  | [], s, t => s
  | b :: q, s, t => t.setSub b (repl q s (t.sub b))
theorem get_app : ∀ (q s : List Bool) (t : Tr), Tr.get (q ++ s) t = Tr.get s (subt q t)
  | [], s, t => rfl
  | b :: q, s, t => get_app q s (t.sub b)
theorem put_app (v : Int) : ∀ (q s : List Bool) (t : Tr), Tr.put v (q ++ s) t = repl q (Tr.put v s (subt q t)) t
  | [], s, t => rfl
  | b :: q, s, t => by rw [List.cons_append, Tr.put, put_app v q s (t.sub b)]; rfl
theorem repl_ne {q : List Bool} {s t : Tr} (h : s ≠ .nil) : repl q s t ≠ .nil := by
  cases q with
  | nil => exact h
  | cons b q => exact Tr.set_ne t b _
def Bits (w key : Int) : Int → List Bool → Prop
  | _, [] => True
  | d, b :: p => bitT w key d = bi b ∧ Bits w key (d + 1) p
theorem Bits.app {w key : Int} : ∀ {q s : List Bool} {d : Int}, Bits w key d (q ++ s) → Bits w key d q ∧ Bits w key (d + q.length) s
  | [], s, d, h => ⟨True.intro, by simpa using h⟩
  | b :: q, s, d, h => by
    obtain ⟨h1, h2⟩ := h
    obtain ⟨h3, h4⟩ := Bits.app h2
    refine ⟨⟨h1, h3⟩, ?_⟩
    have : d + ((b :: q).length : Nat) = d + 1 + (q.length : Nat) := by simp; omega
    rw [this]; exact h4
/-- At a path's place stands a subtree; what is laid there instead stands in the whole. -/
def Foc (ns : List Node) (T : Tr) (i : Nat) (fp : List Nat) (q : List Bool) (j : Nat) (g rest : List Nat) : Prop :=
  Rep ns (subt q T) j g ∧ subt q T ≠ .nil ∧ fp.Perm (g ++ rest) ∧
  ∀ (ns' : List Node) (S' : Tr) (g' : List Nat), S' ≠ .nil → Rep ns' S' j g' → (∀ k, k ∈ rest → ns'[k]? = ns[k]?) → (∀ k, k ∈ g' → k ∈ g ∨ k ≠ 0) → ∃ fp', fp'.Perm (g' ++ rest) ∧ Rep ns' (repl q S' T) i fp'
theorem down_go {ns : List Node} {w key n : Int} : ∀ (p : List Bool) (T : Tr) (i : Nat) (fp : List Nat) (d : Int) (f : Nat), Rep ns T i fp → T ≠ .nil → fp.Nodup → Bits w key d p → n = d + (p.length : Nat) → p.length < f →
    ∃ (q s : List Bool) (j : Nat) (g rest : List Nat), p = q ++ s ∧ downI ns w key n f (i : Int) d = some ((j : Int), d + (q.length : Nat)) ∧ Tr.hv p T = q.length + 1 ∧ (∀ b s', s = b :: s' → (subt q T).sub b = .nil) ∧ Foc ns T i fp q j g rest := by
  intro p
  induction p with
  | nil =>
    intro T i fp d f hr hT hnd hb hn hf
    obtain ⟨f, rfl⟩ : ∃ f', f = f' + 1 := ⟨f - 1, by simp at hf; omega⟩
    refine ⟨[], [], i, fp, [], rfl, ?_, ?_, (by intro b s' e; cases e), hr, hT, (by rw [List.append_nil]), fun ns' S' g' hS h _ _ => ⟨g', by rw [List.append_nil], h⟩⟩
    · unfold downI
      rw [if_neg (by simp at hn; omega)]
      simp at hn ⊢; omega
    · cases T with
      | nil => exact absurd rfl hT
      | node x l r => rfl
  | cons b p ih =>
    intro T i fp d f hr hT hnd hb hn hf
    obtain ⟨f, rfl⟩ : ∃ f', f = f' + 1 := ⟨f - 1, by simp at hf; omega⟩
    obtain ⟨k, o, f1, g0, hx, h1, h2, hp, z1, z2⟩ := hr.open_ hT b
    obtain ⟨hb0, hb1⟩ := hb
    rw [List.length_cons] at hn hf
    have hnd' := hp.nodup_iff.1 hnd
    have hhv : Tr.hv (b :: p) T = Tr.hv p (T.sub b) + 1 := by
      cases T with
      | nil => exact absurd rfl hT
      | node x l r => rfl
    have hstep : downI ns w key n (f + 1) (i : Int) d = if (k : Int) = 0 then some ((i : Int), d) else downI ns w key n f (k : Int) (d + 1) := by
      rw [downI, if_pos (by omega), if_neg (by rw [hb0]; have := bi01 b; omega), Int.toNat_natCast, hx]
      simp only [hb0, mkN_kid]
    by_cases hs : T.sub b = .nil
    · have hk0 : k = 0 := (h1.kid0 z1).2 hs
      refine ⟨[], b :: p, i, fp, [], rfl, ?_, ?_, (by intro b' s' e; cases e; exact hs), hr, hT, (by rw [List.append_nil]), fun ns' S' g' hS h _ _ => ⟨g', by rw [List.append_nil], h⟩⟩
      · rw [hstep, if_pos (by omega)]; simp
      · rw [hhv, hs, Tr.hv_nil]; rfl
    · have hk0 : k ≠ 0 := fun e => hs ((h1.kid0 z1).1 e)
      have hndf : f1.Nodup := (List.nodup_append.1 (List.nodup_cons.1 hnd').2).1
      obtain ⟨q, s, j, g, rest, rfl, hd, hv, hsb, F1, F2, F3, F4⟩ := ih (T.sub b) k f1 (d + 1) f h1 hs hndf hb1 (by omega) (by omega)
      have hzg : ∀ k, k ∈ g → k ≠ 0 := fun k hk e => z1 (F3.mem_iff.2 (List.mem_append_left _ (e ▸ hk)))
      refine ⟨b :: q, s, j, g, i :: (rest ++ g0), rfl, ?_, ?_, hsb, F1, F2, ?_, ?_⟩
      · rw [hstep, if_neg (by omega), hd, List.length_cons]
        congr 2
        omega
      · rw [hhv, hv, List.length_cons]
      · refine hp.trans ?_
        have e1 : (i :: (f1 ++ g0)).Perm (i :: ((g ++ rest) ++ g0)) := List.Perm.cons _ (F3.append_right _)
        refine e1.trans ?_
        rw [List.append_assoc]
        exact (List.perm_middle (l₁ := g) (l₂ := rest ++ g0) (a := i)).symm
      · intro ns' S' g' hS hr' hk hz
        obtain ⟨fp', hp', hr''⟩ := F4 ns' S' g' hS hr' (fun k hk' => hk k (by simp [hk'])) hz
        have hne := repl_ne (q := q) (t := T.sub b) hS
        have z1' : 0 ∉ fp' := by
          intro h0
          rcases List.mem_append.1 (hp'.mem_iff.1 h0) with h0 | h0
          · rcases hz 0 h0 with h | h
            · exact hzg 0 h rfl
            · exact h rfl
          · exact z1 (F3.mem_iff.2 (List.mem_append_right _ h0))
        obtain ⟨fp2, hr2, hp2⟩ := Rep.shut_ (ns := ns') (x := T.h) (c := b) (i := i) (by rw [hk i (by simp), hx]) hr'' (h2.frame fun k hk' => hk k (by simp [hk'])) z1' z2
        refine ⟨fp2, hp2.trans ?_, by rw [repl, setSub_nodeC]; exact hr2⟩
        have e1 : (i :: (fp' ++ g0)).Perm (i :: ((g' ++ rest) ++ g0)) := List.Perm.cons _ (hp'.append_right _)
        refine e1.trans ?_
        rw [List.append_assoc]
        exact (List.perm_middle (l₁ := g') (l₂ := rest ++ g0) (a := i)).symm
theorem put_dead (v : Int) (s : List Bool) : Tr.put v s (.node none .nil .nil) = Tr.put v s .nil := by
  cases s with
  | nil => rfl
  | cons b s => cases b <;> rfl
theorem loopP_go {key n v : Int} : ∀ (s : List Bool) (S : Tr) (j : Nat) (g : List Nat) (d : Int) (f : Nat) (t : TT) (U fs : List Nat), Rep t.ns S j g → S ≠ .nil → g.Nodup → (∀ b s', s = b :: s' → S.sub b = .nil) → St t U fs → (∀ k, k ∈ g → k ∈ U) →
    Bits t.width key d s → n = d + (s.length : Nat) → s.length < f → U.length + s.length ≤ 1100000 → t.ns.length ≤ 1100000 →
    ∃ (t' : TT) (news fs' g' : List Nat), loopP key n v f (j : Int) d t = some t' ∧ Rep t'.ns (Tr.put v s S) j g' ∧ g'.Perm (g ++ news) ∧ St t' (U ++ news) fs' ∧ (∀ k, k ∈ U → k ∉ g → t'.ns[k]? = t.ns[k]?) ∧
      t'.width = t.width ∧ t'.most = t.most ∧ t'.rooted = t.rooted ∧ t'.ns.length = max t.ns.length (U.length + s.length) ∧ news.length = s.length := by
  intro s
  induction s with
  | nil =>
    intro S j g d f t U fs hr hS hnd hsb st hg hb hn hf hb1 hb2
    obtain ⟨f, rfl⟩ : ∃ f', f = f' + 1 := ⟨f - 1, by simp at hf; omega⟩
    obtain ⟨k, o, f1, g0, hx, h1, h2, hp, z1, z2⟩ := hr.open_ hS false
    have hj : j ∈ g := by obtain ⟨f, rfl, _⟩ := hr.ne hS; simp
    have hlt := (List.getElem?_eq_some_iff.1 hx).1
    have hset : ({ mkN S.h false k o with held := true, v := v } : Node) = mkN (some v) false k o := rfl
    have hnd' := List.nodup_cons.1 (hp.nodup_iff.1 hnd)
    refine ⟨{ t with ns := t.ns.set j (mkN (some v) false k o) }, [], fs, ?_⟩
    have hfr : ∀ m, m ≠ j → (t.ns.set j (mkN (some v) false k o))[m]? = t.ns[m]? := fun m hm => List.getElem?_set_ne (fun e => hm e.symm)
    obtain ⟨g', hr', hp'⟩ := Rep.shut_ (ns := t.ns.set j (mkN (some v) false k o)) (x := some v) (c := false) (i := j) (by rw [List.getElem?_set_self hlt]) (h1.frame fun m hm => hfr m (fun e => hnd'.1 (by rw [← e]; simp [hm]))) (h2.frame fun m hm => hfr m (fun e => hnd'.1 (by rw [← e]; simp [hm]))) z1 z2
    refine ⟨g', ?_, hr', ?_, ?_, fun m hm hm' => hfr m (fun e => hm' (e ▸ hj)), rfl, rfl, rfl, ?_, rfl⟩
    · rw [loopP, if_neg (by simp at hn; omega), if_neg (by omega), Int.toNat_natCast, hx]
      rfl
    · rw [List.append_nil]; exact hp'.trans hp.symm
    · rw [List.append_nil]; exact st.set (hg j hj) _
    · show (t.ns.set j _).length = _
      have := st.len
      rw [List.length_set, List.length_nil]; omega
  | cons b s ih =>
    intro S j g d f t U fs hr hS hnd hsb st hg hb hn hf hb1 hb2
    obtain ⟨f, rfl⟩ : ∃ f', f = f' + 1 := ⟨f - 1, by simp at hf; omega⟩
    rw [List.length_cons] at hn hf hb1
    obtain ⟨hb0, hbr⟩ := hb
    obtain ⟨k, o, f1, g0, hx, h1, h2, hp, z1, z2⟩ := hr.open_ hS b
    have hs := hsb b s rfl
    have hk0 : k = 0 := (h1.kid0 z1).2 hs
    have hf1 : f1 = [] := by rw [hs] at h1; exact h1.2
    subst hk0 hf1
    have hj : j ∈ g := by obtain ⟨f, rfl, _⟩ := hr.ne hS; simp
    have hnd' := List.nodup_cons.1 (hp.nodup_iff.1 hnd)
    obtain ⟨r, t1, fs1, ht, hrU, st1, hr0, hk1, w1, m1, ro1, l1⟩ := take_st st
    have hjU := hg j hj
    have hjr : j ≠ r := fun e => hrU (e ▸ hjU)
    have hx1 : t1.ns[j]? = some (mkN S.h b 0 o) := by rw [hk1 j hjU, hx]
    have hlt := (List.getElem?_eq_some_iff.1 hx1).1
    have st2 := st1.set (j := j) (by simp [hjU]) (mkN S.h b r o)
    have hfr : ∀ m, m ≠ j → (t1.ns.set j (mkN S.h b r o))[m]? = t1.ns[m]? := fun m hm => List.getElem?_set_ne (fun e => hm e.symm)
    have hr2 : Rep (t1.ns.set j (mkN S.h b r o)) (.node none .nil .nil) r [r] := ⟨0, 0, [], [], by rw [hfr r (fun e => hjr e.symm), hr0]; rfl, ⟨rfl, rfl⟩, ⟨rfl, rfl⟩, rfl, by simp⟩
    have hbw : Bits t1.width key (d + 1) s := by rw [w1]; exact hbr
    obtain ⟨t', news, fs', g1, hl, hr', hp', st', hk', w', m', ro', l', nl⟩ := ih (.node none .nil .nil) r [r] (d + 1) f { t1 with ns := t1.ns.set j (mkN S.h b r o) } (U ++ [r]) fs1 hr2 (by simp) (by simp) (by intro b' s' e; cases b' <;> rfl) st2 (by intro m hm; rw [List.mem_singleton] at hm; simp [hm]) hbw (by omega) (by omega) (by rw [List.length_append, List.length_singleton]; omega) (by show (t1.ns.set j _).length ≤ _; rw [List.length_set, l1]; omega)
    have hnd3 : (U ++ [r] ++ news).Nodup := (List.nodup_append.1 st'.nd).1
    have h0n : 0 ∉ news := fun h0 => (List.nodup_append.1 hnd3).2.2 0 (by simp [st.zero]) 0 h0 rfl
    have hr00 : r ≠ 0 := fun e => hrU (e ▸ st.zero)
    have z1' : 0 ∉ g1 := fun h0 => by
      rcases List.mem_append.1 (hp'.mem_iff.1 h0) with h0 | h0
      · rw [List.mem_singleton] at h0; exact hr00 h0.symm
      · exact h0n h0
    have hxj : t'.ns[j]? = some (mkN S.h b r o) := by
      rw [hk' j (by simp [hjU]) (by simpa using hjr)]
      show (t1.ns.set j _)[j]? = _
      rw [List.getElem?_set_self hlt]
    have h2' : Rep t'.ns (S.sub !b) o g0 := h2.frame fun m hm => by
      have hmg : m ∈ g := hp.mem_iff.2 (by simp [hm])
      have hmU := hg m hmg
      have hmr : m ≠ r := fun e => hrU (e ▸ hmU)
      rw [hk' m (by simp [hmU]) (by simpa using hmr)]
      show (t1.ns.set j _)[m]? = _
      rw [hfr m (fun e => hnd'.1 (by rw [← e]; simp [hm])), hk1 m hmU]
    obtain ⟨g', hrf, hpf⟩ := Rep.shut_ (ns := t'.ns) (x := S.h) (c := b) (i := j) hxj hr' h2' z1' z2
    have hput : Tr.put v (b :: s) S = nodeC S.h b (Tr.put v s (.node none .nil .nil)) (S.sub !b) := by
      rw [Tr.put, setSub_nodeC, hs, put_dead]
    refine ⟨t', r :: news, fs', g', ?_, by rw [hput]; exact hrf, ?_, by simpa [List.append_assoc] using st', ?_, w'.trans w1, m'.trans m1, ro'.trans ro1, ?_, by simp [nl]⟩
    · rw [loopP, if_pos (by omega), if_pos ⟨by rw [st.nodes]; omega, by rw [st.nodes]; omega, by omega, by omega, by rw [hb0]; exact bi01 b⟩, ht]
      simp only [Int.toNat_natCast, hx1, hb0, mkN_set]
      exact hl
    · refine hpf.trans ?_
      have e1 : (j :: (g1 ++ g0)).Perm (j :: (([r] ++ news) ++ g0)) := List.Perm.cons _ (hp'.append_right _)
      refine e1.trans ?_
      refine (List.Perm.cons _ List.perm_append_comm).trans ?_
      exact (hp.symm.append_right ([r] ++ news))
    · intro m hm hmg
      have hmr : m ≠ r := fun e => hrU (e ▸ hm)
      rw [hk' m (by simp [hm]) (by simpa using hmr)]
      show (t1.ns.set j _)[m]? = _
      rw [hfr m (fun e => hmg (e ▸ hj)), hk1 m hm]
    · rw [l']
      show max (t1.ns.set j _).length _ = _
      rw [List.length_set, l1, List.length_append, List.length_singleton, List.length_cons]
      omega
def Inv (t : TT) (T : Tr) : Prop :=
  (T = .nil ∧ t.rooted = false ∧ t.nodes = 0 ∧ ∃ fs, Chain t.ns t.free fs ∧ fs.Nodup ∧ (t.ns.length = 0 ∧ fs = [] ∨ t.ns.length = fs.length + 1)) ∨
  (T ≠ .nil ∧ t.rooted = true ∧ ∃ U fs, Rep t.ns T 0 U ∧ St t U fs)
theorem Inv.nodes {t : TT} {T : Tr} (I : Inv t T) : t.nodes = T.size := by
  rcases I with ⟨rfl, _, h, _⟩ | ⟨_, _, U, fs, hr, st⟩
  · exact h
  · rw [st.nodes, hr.len]
theorem Inv.le {t : TT} {T : Tr} (I : Inv t T) : T.size ≤ t.ns.length := by
  rcases I with ⟨rfl, _, h, _⟩ | ⟨_, _, U, fs, hr, st⟩
  · exact Nat.zero_le _
  · have := st.len
    have := hr.len
    omega
theorem Inv.new (w m : Int) : Inv ⟨w, m, [], 0, 0, false⟩ .nil := .inl ⟨rfl, rfl, rfl, [], rfl, List.nodup_nil, .inl ⟨rfl, rfl⟩⟩
def outG (o : Option Int) : Int × Bool := match o with
  | some v => (v, true)
  | none => (0, false)
theorem getT_no {t : TT} {key n : Int} (hm : ¬ mayT t.width key n = true) : getT t key n = some (0, false) := by rw [getT, if_neg hm]
theorem get_law {t : TT} {T : Tr} (I : Inv t T) {key n : Int} {p : List Bool} (hm : mayT t.width key n = true) (hb : Bits t.width key 0 p) (hn : n = (p.length : Nat)) (hw : p.length < 40) : getT t key n = some (outG (T.get p)) := by
  rw [getT, if_pos hm]
  rcases I with ⟨rfl, hro, _, _⟩ | ⟨hT, hro, U, fs, hr, st⟩
  · rw [downT, if_neg (by rw [hro]; decide)]
    simp only
    rw [if_pos (by omega), Tr.get_nil]
    rfl
  · obtain ⟨q, s, j, g, rest, rfl, hd, hv, hsb, F1, F2, F3, F4⟩ := down_go (n := n) p T 0 U 0 40 hr hT (List.nodup_append.1 st.nd).1 hb (by omega) hw
    have hd' : downT t key n = some ((j : Int), (0 : Int) + (q.length : Nat)) := by rw [downT, if_pos hro]; exact hd
    rw [hd']
    simp only
    cases s with
    | cons b s =>
      rw [if_pos (by rw [hn, List.length_append, List.length_cons]; omega), Tr.hv_get _ _ (by rw [hv, List.length_append, List.length_cons]; omega)]
      rfl
    | nil =>
      obtain ⟨k, o, f1, g0, hx, _⟩ := F1.open_ F2 false
      rw [List.append_nil] at hn ⊢
      rw [if_neg (by omega), if_neg (by omega), Int.toNat_natCast, hx]
      have hg : Tr.get q T = (subt q T).h := by have := get_app q [] T; rwa [List.append_nil] at this
      simp only [mkN_held, mkN_v]
      rw [hg]
      cases (subt q T).h <;> rfl
theorem putT_no {f : Nat} {t : TT} {key n v : Int} (hm : ¬ mayT t.width key n = true) : putT f t key n v = some (120, t) := by rw [putT, if_neg hm]
theorem put_law {t : TT} {T : Tr} (I : Inv t T) {key n : Int} (v : Int) {p : List Bool} (hm : mayT t.width key n = true) (hb : Bits t.width key 0 p) (hn : n = (p.length : Nat)) (hw : p.length < 40) (hl : t.ns.length ≤ 1048576) :
    (t.most < ((T.put v p).size : Nat) → putT 40 t key n v = some (122, t)) ∧
    (((T.put v p).size : Nat) ≤ t.most → ∃ t', putT 40 t key n v = some (0, t') ∧ Inv t' (T.put v p) ∧ t'.width = t.width ∧ t'.most = t.most ∧ t'.ns.length = max t.ns.length (T.put v p).size) := by
  have hsz := Tr.size_put v p T
  have hnod := I.nodes
  have hle := I.le
  have hhv := Tr.hv_le p T
  have key1 : ∃ (at_ i : Int), downT t key n = some (at_, i) ∧ i = (Tr.hv p T : Nat) - 1 ∧ ∃ t', (if i < 0 then (loopP key n v 40 at_ 0 (rootT t)).map fun t' => ((0 : Int), t') else (loopP key n v 40 at_ i t).map fun t' => ((0 : Int), t')) = some (0, t') ∧ Inv t' (T.put v p) ∧ t'.width = t.width ∧ t'.most = t.most ∧ t'.ns.length = max t.ns.length (T.put v p).size := by
    rcases I with ⟨rfl, hro, _, fs, hc, hnd, hlen⟩ | ⟨hT, hro, U, fs, hr, st⟩
    · refine ⟨0, -1, by rw [downT, if_neg (by rw [hro]; decide)], by rw [Tr.hv_nil]; rfl, ?_⟩
      have hL : (rootT t).ns.length = max t.ns.length 1 := by
        simp only [rootT, List.length_set]
        split
        · simp; omega
        · omega
      have h0 : (rootT t).ns[0]? = some zN := by
        rw [rootT]
        show (List.set _ 0 zN)[0]? = _
        rw [List.getElem?_set_self]
        split
        · simp
        · omega
      have hst : St (rootT t) [0] fs := by
        refine ⟨hc.frame fun k hk => ?_, ?_, ?_, ?_, ?_, by simp⟩
        · have := hc.pos k hk
          show (List.set _ 0 zN)[k]? = _
          rw [List.getElem?_set_ne (by omega), if_neg (by omega)]
        · rw [List.singleton_append, List.nodup_cons]
          exact ⟨fun h => absurd (hc.pos 0 h).1 (by omega), hnd⟩
        · rw [hL]
          rcases hlen with ⟨h1, rfl⟩ | h1
          · simp [h1]
          · rw [h1]; simp; omega
        · intro k hk
          rw [List.mem_singleton] at hk
          omega
        · show t.nodes + 1 = _
          rw [hnod]; rfl
      obtain ⟨t', news, fs', g', hl', hr', hp', st', _, w', m', ro', l', nl⟩ := loopP_go (key := key) (n := n) (v := v) p (.node none .nil .nil) 0 [0] 0 40 (rootT t) [0] fs ⟨0, 0, [], [], by rw [h0]; rfl, ⟨rfl, rfl⟩, ⟨rfl, rfl⟩, rfl, by simp⟩ (by simp) (by simp) (by intro b s' e; cases b <;> rfl) hst (fun k hk => hk) hb (by omega) hw (by simp; omega) (by rw [hL]; omega)
      rw [put_dead] at hr'
      rw [if_pos (by decide)]
      refine ⟨t', by show (loopP key n v 40 ((0 : Nat) : Int) 0 (rootT t)).map _ = _; rw [hl']; rfl, .inr ⟨Tr.put_ne v p _, ro', _, fs', hr', st'.perm hp'.symm⟩, w', m', ?_⟩
      rw [l', hL]
      rw [Tr.hv_nil] at hsz
      simp only [Tr.size, List.length_singleton] at hsz ⊢
      omega
    · obtain ⟨q, s, j, g, rest, rfl, hd, hv, hsb, F1, F2, F3, F4⟩ := down_go (n := n) p T 0 U 0 40 hr hT (List.nodup_append.1 st.nd).1 hb (by omega) hw
      have hU := F3
      have hndU := (List.nodup_append.1 (st.perm F3).nd).1
      have hnd2 := List.nodup_append.1 hndU
      rw [List.length_append] at hn hsz hhv hw
      obtain ⟨t', news, fs', g', hl', hr', hp', st', hk', w', m', ro', l', nl⟩ := loopP_go (key := key) (n := n) (v := v) s (subt q T) j g (0 + (q.length : Nat)) 40 t U fs F1 F2 hnd2.1 hsb st (fun k hk => F3.mem_iff.2 (List.mem_append_left _ hk)) hb.app.2 (by omega) (by omega) (by have := st.len; omega) (by omega)
      have hne : Tr.put v s (subt q T) ≠ .nil := Tr.put_ne v s _
      have hndn : (U ++ news).Nodup := (List.nodup_append.1 st'.nd).1
      obtain ⟨fp', hpf, hrf⟩ := F4 t'.ns _ g' hne hr' (fun k hk => hk' k (F3.mem_iff.2 (List.mem_append_right _ hk)) (fun hg => hnd2.2.2 k hg k hk rfl)) (fun k hk => by
        rcases List.mem_append.1 (hp'.mem_iff.1 hk) with h | h
        · exact .inl h
        · exact .inr fun e => (List.nodup_append.1 hndn).2.2 0 st.zero 0 (e ▸ h) rfl)
      refine ⟨(j : Int), (0 : Int) + (q.length : Nat), by rw [downT, if_pos hro]; exact hd, by rw [hv]; omega, t', ?_, ?_, w', m', ?_⟩
      · rw [if_neg (by omega), hl']; rfl
      · rw [put_app]
        refine .inr ⟨repl_ne hne, by rw [ro', hro], fp', fs', hrf, st'.perm ?_⟩
        refine List.Perm.trans ?_ hpf.symm
        refine List.Perm.trans (F3.append_right news) ?_
        refine List.Perm.trans ?_ (hp'.append_right rest).symm
        rw [List.append_assoc, List.append_assoc]
        exact List.Perm.append_left g List.perm_append_comm
      · rw [l']
        have := hr.len
        omega
  obtain ⟨at_, i, hd, hi, t', hlp, hI, hw', hm', hl'⟩ := key1
  constructor
  · intro hlt
    rw [putT, if_pos hm, hd]
    simp only
    rw [if_pos ⟨by omega, by omega, by omega, by omega, by omega⟩, if_pos (by omega)]
  · intro hge
    refine ⟨t', ?_, hI, hw', hm', hl'⟩
    rw [putT, if_pos hm, hd]
    simp only
    rw [if_pos ⟨by omega, by omega, by omega, by omega, by omega⟩, if_neg (by omega)]
    exact hlp
def upr : List Bool → Tr → Tr
  | [], t => t
  | b :: p, t => t.setSub b (Tr.mkd (upr p (t.sub b)))
theorem set_set (t : Tr) (b : Bool) (x y : Tr) : (t.setSub b x).setSub b y = t.setSub b y := by cases b <;> rfl
theorem cut_upr : ∀ (p : List Bool) (T : Tr), Tr.cut p T = (upr p (repl p (.node none (subt p T).l (subt p T).r) T)).mkd
  | [], T => rfl
  | b :: p, T => by
    rw [Tr.cut, cut_upr p (T.sub b), upr, repl, set_set, Tr.sub_set, if_pos rfl]
    rfl
theorem mkd_set {t : Tr} {b : Bool} {s : Tr} (h : s ≠ .nil) : (t.setSub b s).mkd = t.setSub b s := by
  cases b
  · show Tr.mk t.h s t.r = _
    rw [Tr.mk, if_neg (fun e => h e.2.1)]; rfl
  · show Tr.mk t.h t.l s = _
    rw [Tr.mk, if_neg (fun e => h e.2.2)]; rfl
theorem mkd_h {t : Tr} (h : t.h ≠ none) : t.mkd = t := by
  cases t with
  | nil => rfl
  | node x l r => show Tr.mk x l r = _; rw [Tr.mk, if_neg (fun e => h e.1)]
theorem mkd_kid {t : Tr} (h : ¬ (t.l = .nil ∧ t.r = .nil)) : t.mkd = t := by
  cases t with
  | nil => rfl
  | node x l r => show Tr.mk x l r = _; rw [Tr.mk, if_neg (fun e => h e.2)]
def Pls (ns : List Node) : Nat → List Bool → List Nat
  | _, [] => []
  | i, b :: p => match ns[i]? with
    | some x => (x.kid (bi b)).toNat :: Pls ns (x.kid (bi b)).toNat p
    | none => []
theorem path_go {ns : List Node} {w key n : Int} : ∀ (p : List Bool) (T : Tr) (i : Nat) (fp : List Nat) (d f : Nat) (ps : List Int), Rep ns T i fp → T ≠ .nil → Tr.hv p T = p.length + 1 → Bits w key d p → n = ((d + p.length : Nat) : Int) → p.length < f → ps.length = d + 1 → ps[d]? = some (i : Int) → d + p.length ≤ 900 →
    pathT ns w key n f (d : Int) ps = some (ps ++ (Pls ns i p).map fun (k : Nat) => (k : Int)) ∧ (Pls ns i p).length = p.length := by
  intro p
  induction p with
  | nil =>
    intro T i fp d f ps hr hT hv hb hn hf hl hi hd
    obtain ⟨f, rfl⟩ : ∃ f', f = f' + 1 := ⟨f - 1, by simp at hf; omega⟩
    rw [pathT, if_neg (by simp at hn; omega)]
    simp [Pls]
  | cons b p ih =>
    intro T i fp d f ps hr hT hv hb hn hf hl hi hd
    obtain ⟨f, rfl⟩ : ∃ f', f = f' + 1 := ⟨f - 1, by simp at hf; omega⟩
    rw [List.length_cons] at hv hn hf hd
    obtain ⟨k, o, f1, g0, hx, h1, h2, hp, z1, z2⟩ := hr.open_ hT b
    have hhv : Tr.hv (b :: p) T = Tr.hv p (T.sub b) + 1 := by
      cases T with
      | nil => exact absurd rfl hT
      | node x l r => rfl
    have hs : T.sub b ≠ .nil := fun e => by rw [hhv, e, Tr.hv_nil] at hv; omega
    obtain ⟨hb0, hb1⟩ := hb
    have := ih (T.sub b) k f1 (d + 1) f (ps ++ [(k : Int)]) h1 hs (by omega) (by exact_mod_cast hb1) (by omega) (by omega) (by simp [hl]) (by rw [List.getElem?_append_right (by omega), hl]; simp) (by omega)
    have hP : Pls ns i (b :: p) = k :: Pls ns k p := by rw [Pls, hx]; simp only [mkN_kid, Int.toNat_natCast]
    rw [hP]
    refine ⟨?_, by rw [List.length_cons, List.length_cons, this.2]⟩
    rw [pathT, if_pos (by omega), if_pos ⟨by omega, by rw [hb0]; exact bi01 b, by omega⟩, Int.toNat_natCast, hi]
    simp only
    rw [if_neg (by omega), Int.toNat_natCast, hx]
    simp only [hb0, mkN_kid]
    have e : ((d + 1 : Nat) : Int) = (d : Int) + 1 := by omega
    rw [← e, this.1]
    simp
theorem give_st {t : TT} {U fs : List Nat} {k : Nat} (s : St t (k :: U) fs) (h0 : k ≠ 0) : St (giveT t k) U (k :: fs) := by
  have hlt := s.lt k (by simp)
  have hkf := s.off (k := k) (by simp)
  have hnd := s.nd
  rw [List.cons_append, List.nodup_cons, List.mem_append, not_or] at hnd
  refine ⟨⟨rfl, by omega, ⟨t.free, 0, false, 0⟩, ?_, ?_⟩, ?_, ?_, ?_, ?_, ?_⟩
  · show (t.ns.set k _)[k]? = _
    rw [List.getElem?_set_self hlt]
  · refine s.chain.frame fun m hm => ?_
    have hne : k ≠ m := fun e => hkf (e ▸ hm)
    show (t.ns.set k _)[m]? = _
    rw [List.getElem?_set_ne hne]
  · refine (List.perm_middle.nodup_iff).2 ?_
    rw [List.nodup_cons, List.mem_append, not_or]
    exact hnd
  · have := s.len
    show _ = (t.ns.set k _).length
    rw [List.length_set, ← this]
    simp; omega
  · intro m hm
    show _ < (t.ns.set k _).length
    rw [List.length_set]
    exact s.lt m (by simp [hm])
  · show t.nodes - 1 = _
    rw [s.nodes]; simp
  · have := s.zero
    rcases List.mem_cons.1 this with e | e
    · exact absurd e.symm h0
    · exact e
theorem up_go {w key : Int} {qs : List Int} : ∀ (p : List Bool) (T : Tr) (i : Nat) (fp : List Nat) (d : Nat) (t : TT) (U fs : List Nat), Rep t.ns T i fp → T ≠ .nil → Tr.hv p T = p.length + 1 → fp.Nodup → St t U fs → (∀ k, k ∈ fp → k ∈ U) → Bits w key d p → ((d + p.length : Nat) : Int) ≤ w → t.ns.length ≤ 1100000 →
    qs[d]? = some (i : Int) → (∀ m k : Nat, (Pls t.ns i p)[m]? = some k → qs[d + 1 + m]? = some (k : Int)) →
    ∃ (t' : TT) (U' fs' fp' gone : List Nat), Rep t'.ns (upr p T) i fp' ∧ upr p T ≠ .nil ∧ St t' U' fs' ∧ U.Perm (gone ++ U') ∧ fp.Perm (gone ++ fp') ∧ (∀ k, k ∉ fp → t'.ns[k]? = t.ns[k]?) ∧ t'.ns.length = t.ns.length ∧ t'.width = t.width ∧ t'.most = t.most ∧ t'.rooted = t.rooted ∧
      ((∀ f, upT w key qs (f + p.length) ((d + p.length : Nat) : Int) t = upT w key qs f (d : Int) t') ∨ ((upr p T).mkd = upr p T ∧ ∀ f, upT w key qs (f + p.length + 1) ((d + p.length : Nat) : Int) t = some t')) := by
  intro p
  induction p with
  | nil =>
    intro T i fp d t U fs hr hT hv hnd st hU hb hw hl hq hqs
    exact ⟨t, U, fs, fp, [], hr, hT, st, List.Perm.refl _, List.Perm.refl _, fun k hk => rfl, rfl, rfl, rfl, rfl, .inl fun f => rfl⟩
  | cons b p ih =>
    intro T i fp d t U fs hr hT hv hnd st hU hb hw hl hq hqs
    rw [List.length_cons] at hv hw
    obtain ⟨k, o, f1, g0, hx, h1, h2, hp, z1, z2⟩ := hr.open_ hT b
    have hhv : Tr.hv (b :: p) T = Tr.hv p (T.sub b) + 1 := by
      cases T with
      | nil => exact absurd rfl hT
      | node x l r => rfl
    have hs : T.sub b ≠ .nil := fun e => by rw [hhv, e, Tr.hv_nil] at hv; omega
    have hk0 : k ≠ 0 := fun e => hs ((h1.kid0 z1).1 e)
    obtain ⟨hb0, hb1⟩ := hb
    have hnd' := hp.nodup_iff.1 hnd
    have hif := (List.nodup_cons.1 hnd').1
    have hnd2 := List.nodup_append.1 (List.nodup_cons.1 hnd').2
    have hP : Pls t.ns i (b :: p) = k :: Pls t.ns k p := by rw [Pls, hx]; simp only [mkN_kid, Int.toNat_natCast]
    rw [hP] at hqs
    have hqk : qs[d + 1]? = some (k : Int) := hqs 0 k rfl
    obtain ⟨t1, U1, fs1, fp1, gone, r1, ne1, st1, pU, pf, hk1, l1, w1, m1, ro1, alt⟩ := ih (T.sub b) k f1 (d + 1) t U fs h1 hs (by omega) hnd2.1 st (fun m hm => hU m (hp.mem_iff.2 (by simp [hm]))) (by exact_mod_cast hb1) (by omega) hl hqk (fun m k' hm => by
      have := hqs (m + 1) k' (by simpa using hm)
      rw [show d + 1 + 1 + m = d + 1 + (m + 1) by omega]; exact this)
    have hx1 : t1.ns[i]? = some (mkN T.h b k o) := by rw [hk1 i (fun h => hif (by simp [h])), hx]
    have hg1 : Rep t1.ns (T.sub !b) o g0 := h2.frame fun m hm => hk1 m (fun h => hnd2.2.2 m h m hm rfl)
    have z1' : 0 ∉ fp1 := fun h => z1 (pf.mem_iff.2 (List.mem_append_right _ h))
    have hsub1 : ∀ m, m ∈ fp1 → m ∈ f1 := fun m hm => pf.mem_iff.2 (List.mem_append_right _ hm)
    have hsz : d + (b :: p).length = d + 1 + p.length := by rw [List.length_cons]; omega
    have hfps : ∀ m, m ∉ fp → m ≠ i ∧ m ∉ f1 := fun m hm => ⟨fun e => hm (hp.mem_iff.2 (by simp [e])), fun h => hm (hp.mem_iff.2 (by simp [h]))⟩
    have stop : (upr p (T.sub b)).mkd = upr p (T.sub b) → (∀ f, upT w key qs (f + 1 + p.length + 1) ((d + 1 + p.length : Nat) : Int) t = some t1) → ∃ (t' : TT) (U' fs' fp' gone : List Nat), Rep t'.ns (upr (b :: p) T) i fp' ∧ upr (b :: p) T ≠ .nil ∧ St t' U' fs' ∧ U.Perm (gone ++ U') ∧ fp.Perm (gone ++ fp') ∧ (∀ k, k ∉ fp → t'.ns[k]? = t.ns[k]?) ∧ t'.ns.length = t.ns.length ∧ t'.width = t.width ∧ t'.most = t.most ∧ t'.rooted = t.rooted ∧
      ((∀ f, upT w key qs (f + (b :: p).length) ((d + (b :: p).length : Nat) : Int) t = upT w key qs f (d : Int) t') ∨ ((upr (b :: p) T).mkd = upr (b :: p) T ∧ ∀ f, upT w key qs (f + (b :: p).length + 1) ((d + (b :: p).length : Nat) : Int) t = some t')) := by
      intro hm hf
      obtain ⟨fp', hr', hp'⟩ := Rep.shut_ hx1 r1 hg1 z1' z2
      have hu : upr (b :: p) T = T.setSub b (upr p (T.sub b)) := by rw [upr, hm]
      refine ⟨t1, U1, fs1, fp', gone, by rw [hu, setSub_nodeC]; exact hr', by rw [hu]; exact Tr.set_ne _ _ _, st1, pU, ?_, fun m hm' => hk1 m (hfps m hm').2, l1, w1, m1, ro1, .inr ⟨by rw [hu]; exact mkd_set ne1, fun f => ?_⟩⟩
      · refine hp.trans ?_
        refine (List.Perm.cons i (pf.append_right g0)).trans ?_
        rw [List.append_assoc]
        exact (List.perm_middle (l₁ := gone) (l₂ := fp1 ++ g0) (a := i)).symm.trans (List.Perm.append_left gone hp'.symm)
      · rw [hsz, List.length_cons, show f + (p.length + 1) + 1 = f + 1 + p.length + 1 by omega]
        exact hf f
    rcases alt with alt | ⟨hm, alt⟩
    · obtain ⟨a, o', fa, fb, hy, ha, hb', hpc, za, zb⟩ := r1.open_ ne1 false
      have ha0 : (a : Int) = 0 ↔ (upr p (T.sub b)).l = .nil := by rw [show (a : Int) = 0 ↔ a = 0 by omega]; exact ha.kid0 za
      have hb0' : (o' : Int) = 0 ↔ (upr p (T.sub b)).r = .nil := by rw [show (o' : Int) = 0 ↔ o' = 0 by omega]; exact hb'.kid0 zb
      have e0 : (((d + 1 : Nat) : Int)).toNat = d + 1 := by omega
      have hstep : ∀ f, upT w key qs (f + 1) ((d + 1 : Nat) : Int) t1 = if (upr p (T.sub b)).h.isSome = true then some t1 else if (a : Int) = 0 ∧ (o' : Int) = 0 then upT w key qs f (d : Int) (giveT { t1 with ns := t1.ns.set i (mkN T.h b 0 o) } k) else some t1 := by
        intro f
        have hge : ((d + 1 : Nat) : Int) ≥ 0 := by omega
        rw [upT, if_pos hge, e0, hqk]
        simp only
        rw [if_neg (by omega), Int.toNat_natCast, hy]
        simp only [mkN_held]
        have hk01 : (mkN (upr p (T.sub b)).h false a o').k0 = a ∧ (mkN (upr p (T.sub b)).h false a o').k1 = o' := ⟨rfl, rfl⟩
        rw [hk01.1, hk01.2]
        by_cases c1 : (upr p (T.sub b)).h.isSome = true
        · rw [if_pos c1, if_pos c1]
        · rw [if_neg c1, if_neg c1]
          by_cases c2 : (a : Int) = 0 ∧ (o' : Int) = 0
          · rw [if_pos c2, if_pos c2]
            have hnodes : 0 ≤ t1.nodes ∧ t1.nodes ≤ 2 ^ 60 := by
              have := st1.nodes
              have := st1.len
              omega
            rw [if_pos hnodes, if_neg (by omega)]
            have e1 : (((d + 1 : Nat) : Int) - 1).toNat = d := by omega
            have e2 : ((d + 1 : Nat) : Int) - 1 = (d : Int) := by omega
            rw [e1, hq, e2]
            simp only
            have hbb : bitT w key (d : Int) = 0 ∨ bitT w key (d : Int) = 1 := by rw [hb0]; exact bi01 b
            rw [if_neg (by omega), Int.toNat_natCast, hx1, hb0]
            simp only
            have := mkN_set T.h b k o 0
            rw [show ((0 : Nat) : Int) = 0 from rfl] at this
            rw [this]
          · rw [if_neg c2, if_neg c2]
      by_cases hh : (upr p (T.sub b)).h.isSome = true
      · refine stop (mkd_h (fun e => by rw [e] at hh; cases hh)) fun f => ?_
        rw [show f + 1 + p.length + 1 = (f + 1 + 1) + p.length by omega, alt, hstep, if_pos hh]
      · by_cases hkk : (a : Int) = 0 ∧ (o' : Int) = 0
        · have hl' := ha0.1 hkk.1
          have hr' := hb0'.1 hkk.2
          have hh' : (upr p (T.sub b)).h = none := by simpa using hh
          have hm : (upr p (T.sub b)).mkd = .nil := by rw [Tr.mkd, hl', hr', hh']; rfl
          have hfa : fa = [] := by rw [show (upr p (T.sub b)).sub false = .nil from hl'] at ha; exact ha.2
          have hfb : fb = [] := by rw [show (upr p (T.sub b)).sub (!false) = .nil from hr'] at hb'; exact hb'.2
          rw [hfa, hfb, List.append_nil] at hpc
          have hfp1 : fp1 = [k] := List.perm_singleton.1 hpc
          have hkU1 : k ∈ U1 := by
            have hkf : k ∈ f1 := hsub1 k (by rw [hfp1]; simp)
            have hkU := hU k (hp.mem_iff.2 (by simp [hkf]))
            rcases List.mem_append.1 (pU.mem_iff.1 hkU) with h | h
            · exfalso
              have hnd1 := List.nodup_append.1 (pf.nodup_iff.1 hnd2.1)
              exact hnd1.2.2 k h k (by rw [hfp1]; simp) rfl
            · exact h
          have hiU1 : i ∈ U1 := by
            have hiU := hU i (hp.mem_iff.2 (by simp))
            rcases List.mem_append.1 (pU.mem_iff.1 hiU) with h | h
            · exact absurd (by simp [pf.mem_iff.2 (List.mem_append_left _ h)]) hif
            · exact h
          have hlt1 := (List.getElem?_eq_some_iff.1 hx1).1
          have hki : k ≠ i := fun e => hif (by rw [← e]; simp [hsub1 k (by rw [hfp1]; simp)])
          have stA := (st1.set hiU1 (mkN T.h b 0 o)).perm (List.perm_cons_erase hkU1)
          have stB := give_st stA hk0
          have hns : ∀ m, m ≠ i → m ≠ k → (giveT { t1 with ns := t1.ns.set i (mkN T.h b 0 o) } k).ns[m]? = t1.ns[m]? := by
            intro m hmi hmk
            show ((t1.ns.set i _).set k _)[m]? = _
            rw [List.getElem?_set_ne (fun e => hmk e.symm), List.getElem?_set_ne (fun e => hmi e.symm)]
          have hx2 : (giveT { t1 with ns := t1.ns.set i (mkN T.h b 0 o) } k).ns[i]? = some (mkN T.h b 0 o) := by
            show ((t1.ns.set i _).set k _)[i]? = _
            rw [List.getElem?_set_ne hki, List.getElem?_set_self hlt1]
          have hkf1 : k ∈ f1 := hsub1 k (by rw [hfp1]; simp)
          obtain ⟨fp', hr2, hp'⟩ := Rep.shut_ (s := .nil) (f := []) hx2 ⟨rfl, rfl⟩ (hg1.frame fun m hm' => hns m (fun e => hif (by rw [← e]; simp [hm'])) (fun e => hnd2.2.2 k hkf1 k (e ▸ hm') rfl)) (by simp) z2
          have hu : upr (b :: p) T = T.setSub b .nil := by rw [upr, hm]
          refine ⟨_, U1.erase k, k :: fs1, fp', gone ++ [k], by rw [hu, setSub_nodeC]; exact hr2, by rw [hu]; exact Tr.set_ne _ _ _, stB, ?_, ?_, ?_, ?_, w1, m1, ro1, .inl fun f => ?_⟩
          · refine pU.trans ?_
            rw [List.append_assoc]
            exact List.Perm.append_left gone (List.perm_cons_erase hkU1)
          · refine hp.trans ?_
            refine (List.Perm.cons i (pf.append_right g0)).trans ?_
            rw [hfp1]
            refine (List.perm_middle (l₁ := gone ++ [k]) (l₂ := g0) (a := i)).symm.trans ?_
            exact List.Perm.append_left _ hp'.symm
          · intro m hm'
            have := hfps m hm'
            rw [hns m this.1 (fun e => this.2 (e ▸ hkf1)), hk1 m this.2]
          · show ((t1.ns.set i _).set k _).length = _
            rw [List.length_set, List.length_set, l1]
          · rw [hsz, List.length_cons, show f + (p.length + 1) = (f + 1) + p.length by omega, alt, hstep, if_neg hh, if_pos hkk]
        · refine stop (mkd_kid (fun e => hkk ⟨ha0.2 e.1, hb0'.2 e.2⟩)) fun f => ?_
          rw [show f + 1 + p.length + 1 = (f + 1 + 1) + p.length by omega, alt, hstep, if_neg hh, if_neg hkk]
    · exact stop hm fun f => alt (f + 1)
theorem hv_repl : ∀ (q : List Bool) (S T : Tr), S ≠ .nil → Tr.hv q (repl q S T) = q.length + 1
  | [], S, T, h => by
    cases S with
    | nil => exact absurd rfl h
    | node x l r => rfl
  | b :: q, S, T, h => by
    have ih := hv_repl q S (T.sub b) h
    have hs := Tr.sub_set T b b (repl q S (T.sub b))
    rw [if_pos rfl] at hs
    rw [repl]
    cases hT : T.setSub b (repl q S (T.sub b)) with
    | nil => exact absurd hT (Tr.set_ne _ _ _)
    | node x l r =>
      rw [hT] at hs
      rw [Tr.hv, hs, ih]
      rfl
theorem cutT_no {f : Nat} {t : TT} {key n : Int} (hm : ¬ mayT t.width key n = true) : cutT f t key n = some (120, t) := by rw [cutT, if_neg hm]
theorem cut_none {t : TT} {T : Tr} (I : Inv t T) {key n : Int} {p : List Bool} (hm : mayT t.width key n = true) (hb : Bits t.width key 0 p) (hn : n = (p.length : Nat)) (hw : p.length < 40) (hg : T.get p = none) : cutT 40 t key n = some (121, t) := by
  rw [cutT, if_pos hm]
  rcases I with ⟨rfl, hro, _, _⟩ | ⟨hT, hro, U, fs, hr, st⟩
  · rw [downT, if_neg (by rw [hro]; decide)]
    simp only
    rw [if_pos (by omega)]
  · obtain ⟨q, s, j, g, rest, rfl, hd, hv, hsb, F1, F2, F3, F4⟩ := down_go (n := n) p T 0 U 0 40 hr hT (List.nodup_append.1 st.nd).1 hb (by omega) hw
    have hd' : downT t key n = some ((j : Int), (0 : Int) + (q.length : Nat)) := by rw [downT, if_pos hro]; exact hd
    rw [hd']
    simp only
    cases s with
    | cons b s => rw [if_pos (by rw [hn, List.length_append, List.length_cons]; omega)]
    | nil =>
      obtain ⟨k, o, f1, g0, hx, _⟩ := F1.open_ F2 false
      rw [List.append_nil] at hn hg
      rw [if_neg (by omega), if_neg (by omega), Int.toNat_natCast, hx]
      have hg' : Tr.get q T = (subt q T).h := by have := get_app q [] T; rwa [List.append_nil] at this
      simp only [mkN_held]
      rw [← hg', hg]
      rfl
theorem cut_some {t : TT} {T : Tr} (I : Inv t T) {key n : Int} {p : List Bool} (hm : mayT t.width key n = true) (hb : Bits t.width key 0 p) (hn : n = (p.length : Nat)) (hw : p.length < 40) (hpw : (p.length : Int) ≤ t.width) (hl : t.ns.length ≤ 1048576) (hg : T.get p ≠ none) :
    ∃ t', cutT 40 t key n = some (0, t') ∧ Inv t' (T.cut p) ∧ t'.width = t.width ∧ t'.most = t.most ∧ t'.ns.length = t.ns.length := by
  rcases I with ⟨rfl, hro, _, _⟩ | ⟨hT, hro, U, fs, hr, st⟩
  · exact absurd (Tr.get_nil p) hg
  obtain ⟨q, s, j, g, rest, rfl, hd, hv, hsb, F1, F2, F3, F4⟩ := down_go (n := n) p T 0 U 0 40 hr hT (List.nodup_append.1 st.nd).1 hb (by omega) hw
  cases s with
  | cons b s => exact absurd (Tr.hv_get _ _ (by rw [hv, List.length_append, List.length_cons]; omega)) hg
  | nil =>
    rw [List.append_nil] at hn hg hb hw hpw hv ⊢
    have hd' : downT t key n = some ((j : Int), (0 : Int) + (q.length : Nat)) := by rw [downT, if_pos hro]; exact hd
    obtain ⟨k, o, f1, g0, hx, h1, h2, hp, z1, z2⟩ := F1.open_ F2 false
    have hg' : Tr.get q T = (subt q T).h := by have := get_app q [] T; rwa [List.append_nil] at this
    have hlt := (List.getElem?_eq_some_iff.1 hx).1
    have hndU := (List.nodup_append.1 (st.perm F3).nd).1
    have hnd2 := List.nodup_append.1 hndU
    have hnd3 := List.nodup_cons.1 (hp.nodup_iff.1 hnd2.1)
    have hjg : j ∈ g := by obtain ⟨f, rfl, _⟩ := F1.ne F2; simp
    have hjU : j ∈ U := F3.mem_iff.2 (List.mem_append_left _ hjg)
    have hset : ({ mkN (subt q T).h false k o with held := false, v := 0 } : Node) = mkN none false k o := rfl
    have hfr : ∀ m, m ≠ j → (t.ns.set j (mkN none false k o))[m]? = t.ns[m]? := fun m hm => List.getElem?_set_ne (fun e => hm e.symm)
    obtain ⟨gS, hrS, hpS⟩ := Rep.shut_ (ns := t.ns.set j (mkN none false k o)) (x := none) (c := false) (i := j) (List.getElem?_set_self hlt) (h1.frame fun m hm => hfr m (fun e => hnd3.1 (by rw [← e]; simp [hm]))) (h2.frame fun m hm => hfr m (fun e => hnd3.1 (by rw [← e]; simp [hm]))) z1 z2
    have hSn : nodeC none false ((subt q T).sub false) ((subt q T).sub !false) ≠ .nil := by simp [nodeC]
    obtain ⟨fp0, hp0, hr0⟩ := F4 _ _ gS hSn hrS (fun m hm => hfr m (fun e => hnd2.2.2 j hjg m hm e.symm)) (fun m hm => .inl (hp.mem_iff.2 (hpS.mem_iff.1 hm)))
    have hpU : U.Perm fp0 := (F3.trans ((hp.trans hpS.symm).append_right rest)).trans hp0.symm
    have st0 := (st.set hjU (mkN none false k o)).perm hpU
    have hT0 : repl q (nodeC none false ((subt q T).sub false) ((subt q T).sub !false)) T ≠ .nil := repl_ne hSn
    have hhv := hv_repl q _ T hSn
    have hpath := path_go (w := t.width) (key := key) (n := n) q _ 0 fp0 0 40 [((0 : Nat) : Int)] hr0 hT0 hhv hb (by omega) hw rfl rfl (by omega)
    have hcut := cut_upr q T
    have hS : nodeC none false ((subt q T).sub false) ((subt q T).sub !false) = .node none (subt q T).l (subt q T).r := rfl
    rw [← hS] at hcut
    obtain ⟨t', U', fs', fp', gone, r1, ne1, st1, pU, pf, _, l1, w1, m1, ro1, alt⟩ := up_go (w := t.width) (key := key) (qs := [((0 : Nat) : Int)] ++ (Pls (t.ns.set j (mkN none false k o)) 0 q).map fun (k : Nat) => (k : Int)) q _ 0 fp0 0 { t with ns := t.ns.set j (mkN none false k o) } fp0 fs hr0 hT0 hhv (List.nodup_append.1 st0.nd).1 st0 (fun m hm => hm) hb (by omega) (by show (t.ns.set j _).length ≤ _; rw [List.length_set]; omega) rfl (fun m k' hm => by
      rw [List.getElem?_append_right (by simp)]
      simp only [List.length_singleton]
      rw [show 0 + 1 + m - 1 = m by omega, List.getElem?_map]
      show Option.map _ (Pls (t.ns.set j _) 0 q)[m]? = _
      have hm' : (Pls (t.ns.set j (mkN none false k o)) 0 q)[m]? = some k' := hm
      rw [hm']; rfl)
    have hUf : U'.Perm fp' := (List.perm_append_left_iff gone).1 (pU.symm.trans pf)
    have l1' : t'.ns.length = t.ns.length := by rw [l1]; exact List.length_set ..
    have fin : (upr q (repl q (nodeC none false ((subt q T).sub false) ((subt q T).sub !false)) T)).mkd = upr q (repl q (nodeC none false ((subt q T).sub false) ((subt q T).sub !false)) T) → Inv t' (T.cut q) := by
      intro hm'
      rw [hcut, hm']
      exact .inr ⟨ne1, by rw [ro1, hro], fp', fs', r1, st1.perm hUf⟩
    have key2 : ∃ t2, upT t.width key ([((0 : Nat) : Int)] ++ (Pls (t.ns.set j (mkN none false k o)) 0 q).map fun (k : Nat) => (k : Int)) 40 ((0 + q.length : Nat) : Int) { t with ns := t.ns.set j (mkN none false k o) } = some t2 ∧ Inv t2 (T.cut q) ∧ t2.width = t.width ∧ t2.most = t.most ∧ t2.ns.length = t.ns.length := by
      rcases alt with alt | ⟨hm', alt⟩
      · obtain ⟨a, o', fa, fb, hy, ha, hb', hpc, za, zb⟩ := r1.open_ ne1 false
        have := alt (39 - q.length + 1)
        rw [show 39 - q.length + 1 + q.length = 40 by omega] at this
        rw [this, upT, if_pos (by decide)]
        have e0 : (((0 : Nat) : Int)).toNat = 0 := rfl
        rw [e0]
        simp only [List.cons_append, List.nil_append, List.getElem?_cons_zero]
        rw [if_neg (by decide), e0, hy]
        simp only [mkN_held]
        have hk01 : (mkN (upr q (repl q (nodeC none false ((subt q T).sub false) ((subt q T).sub !false)) T)).h false a o').k0 = a ∧ (mkN (upr q (repl q (nodeC none false ((subt q T).sub false) ((subt q T).sub !false)) T)).h false a o').k1 = o' := ⟨rfl, rfl⟩
        rw [hk01.1, hk01.2]
        by_cases c1 : (upr q (repl q (nodeC none false ((subt q T).sub false) ((subt q T).sub !false)) T)).h.isSome = true
        · rw [if_pos c1]
          exact ⟨t', rfl, fin (mkd_h (fun e => by rw [e] at c1; cases c1)), w1, m1, l1'⟩
        · rw [if_neg c1]
          have ha0 : (a : Int) = 0 ↔ (upr q (repl q (nodeC none false ((subt q T).sub false) ((subt q T).sub !false)) T)).l = .nil := by rw [show (a : Int) = 0 ↔ a = 0 by omega]; exact ha.kid0 za
          have hb0' : (o' : Int) = 0 ↔ (upr q (repl q (nodeC none false ((subt q T).sub false) ((subt q T).sub !false)) T)).r = .nil := by rw [show (o' : Int) = 0 ↔ o' = 0 by omega]; exact hb'.kid0 zb
          by_cases c2 : (a : Int) = 0 ∧ (o' : Int) = 0
          · rw [if_pos c2]
            have hnodes : 0 ≤ t'.nodes ∧ t'.nodes ≤ 2 ^ 60 := by
              have := st1.nodes
              have := st1.len
              omega
            rw [if_pos hnodes, if_pos (show ((0 : Nat) : Int) = 0 from rfl)]
            have hl' := ha0.1 c2.1
            have hr' := hb0'.1 c2.2
            have hh' : (upr q (repl q (nodeC none false ((subt q T).sub false) ((subt q T).sub !false)) T)).h = none := by simpa using c1
            have hm' : (upr q (repl q (nodeC none false ((subt q T).sub false) ((subt q T).sub !false)) T)).mkd = .nil := by rw [Tr.mkd, hl', hr', hh']; rfl
            have hfa : fa = [] := by rw [show (upr q (repl q (nodeC none false ((subt q T).sub false) ((subt q T).sub !false)) T)).sub false = .nil from hl'] at ha; exact ha.2
            have hfb : fb = [] := by rw [show (upr q (repl q (nodeC none false ((subt q T).sub false) ((subt q T).sub !false)) T)).sub (!false) = .nil from hr'] at hb'; exact hb'.2
            rw [hfa, hfb, List.append_nil] at hpc
            have hU1 : U'.length = 1 := by rw [(hUf.trans hpc).length_eq]; rfl
            refine ⟨_, rfl, ?_, w1, m1, l1'⟩
            rw [hcut, hm']
            refine .inl ⟨rfl, rfl, ?_, fs', st1.chain, (List.nodup_append.1 st1.nd).2.1, .inr ?_⟩
            · show t'.nodes - 1 = 0
              rw [st1.nodes, hU1]; rfl
            · show t'.ns.length = _
              rw [← st1.len, hU1]; omega
          · rw [if_neg c2]
            exact ⟨t', rfl, fin (mkd_kid (fun e => c2 ⟨ha0.2 e.1, hb0'.2 e.2⟩)), w1, m1, l1'⟩
      · have := alt (39 - q.length)
        rw [show 39 - q.length + q.length + 1 = 40 by omega] at this
        exact ⟨t', this, fin hm', w1, m1, l1'⟩
    obtain ⟨t2, hu, hI, hw2, hm2, hl2⟩ := key2
    refine ⟨t2, ?_, hI, hw2, hm2, hl2⟩
    rw [cutT, if_pos hm, hd']
    simp only
    rw [if_neg (by omega), if_neg (by omega), Int.toNat_natCast, hx]
    simp only [mkN_held]
    rw [if_pos (by rw [← hg']; cases hq : Tr.get q T with
      | none => exact absurd hq hg
      | some v => rfl), hset]
    rw [show ((0 : Nat) : Int) = (0 : Int) from rfl] at hpath
    rw [hpath.1]
    simp only
    rw [if_pos (by simp [hpath.2]; omega)]
    rw [show ((0 + q.length : Nat) : Int) = n by omega, show ((0 : Nat) : Int) = (0 : Int) from rfl] at hu
    rw [hu]
    rfl
end Go.Proofs.Ytofjbbfnkefoaaa.Fs
