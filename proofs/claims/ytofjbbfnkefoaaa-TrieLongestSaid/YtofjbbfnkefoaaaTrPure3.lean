/- Tries in an arena: which tree it holds; the free places. -/
import Derived.Test.YtofjbbfnkefoaaaTrSpec12
import Derived.Test.YtofjbbfnkefoaaaTrPure2
namespace Go.Proofs.Ytofjbbfnkefoaaa.Fs
open Go Go.RowKit Go.Proofs.Ytofjbbfnkefoaaa.Sx Go.Proofs.Ytofjbbfnkefoaaa.Tp
set_option linter.unusedVariables false
set_option linter.unusedSimpArgs false
set_option maxRecDepth 10000
def nodeOf (x : Option Int) (a b : Nat) : Node := ⟨a, b, x.isSome, x.getD 0⟩
def Rep (ns : List Node) : Tr → Nat → List Nat → Prop
  | .nil, i, fp => i = 0 ∧ fp = []
  | .node x l r, i, fp => ∃ a b f1 f2, ns[i]? = some (nodeOf x a b) ∧ Rep ns l a f1 ∧ Rep ns r b f2 ∧ fp = i :: (f1 ++ f2) ∧ 0 ∉ f1 ++ f2
def bi (b : Bool) : Int := if b = true then 1 else 0
/-- A node: kid k at bit c, kid o at the other. -/
def mkN (x : Option Int) (c : Bool) (k o : Nat) : Node := if c = true then nodeOf x o k else nodeOf x k o
def nodeC (x : Option Int) (c : Bool) (s o : Tr) : Tr := if c = true then .node x o s else .node x s o
theorem mkN_kid (x : Option Int) (c : Bool) (k o : Nat) : (mkN x c k o).kid (bi c) = k := by cases c <;> rfl
theorem mkN_set (x : Option Int) (c : Bool) (k o k' : Nat) : (mkN x c k o).setKid (bi c) k' = mkN x c k' o := by cases c <;> rfl
theorem mkN_held (x : Option Int) (c : Bool) (k o : Nat) : (mkN x c k o).held = x.isSome := by cases c <;> rfl
theorem mkN_v (x : Option Int) (c : Bool) (k o : Nat) : (mkN x c k o).v = x.getD 0 := by cases c <;> rfl
theorem setSub_nodeC (t : Tr) (c : Bool) (s : Tr) : t.setSub c s = nodeC t.h c s (t.sub !c) := by cases c <;> rfl
theorem bi01 (b : Bool) : bi b = 0 ∨ bi b = 1 := by cases b <;> simp [bi]
theorem Rep.frame {ns ns' : List Node} : ∀ {T : Tr} {i : Nat} {fp : List Nat}, Rep ns T i fp → (∀ k, k ∈ fp → ns'[k]? = ns[k]?) → Rep ns' T i fp
  | .nil, i, fp, h, _ => h
  | .node x l r, i, fp, h, hf => by
    obtain ⟨a, b, f1, f2, hx, h1, h2, rfl, h0⟩ := h
    exact ⟨a, b, f1, f2, by rw [hf i (by simp), hx], h1.frame fun k hk => hf k (by simp [hk]), h2.frame fun k hk => hf k (by simp [hk]), rfl, h0⟩
theorem Rep.lt {ns : List Node} : ∀ {T : Tr} {i : Nat} {fp : List Nat}, Rep ns T i fp → ∀ k, k ∈ fp → k < ns.length
  | .nil, i, fp, h, k, hk => by rw [h.2] at hk; cases hk
  | .node x l r, i, fp, h, k, hk => by
    obtain ⟨a, b, f1, f2, hx, h1, h2, rfl, h0⟩ := h
    rcases List.mem_cons.1 hk with rfl | hk
    · exact (List.getElem?_eq_some_iff.1 hx).1
    · rcases List.mem_append.1 hk with hk | hk
      · exact h1.lt k hk
      · exact h2.lt k hk
theorem Rep.len {ns : List Node} : ∀ {T : Tr} {i : Nat} {fp : List Nat}, Rep ns T i fp → fp.length = T.size
  | .nil, i, fp, h => by rw [h.2]; rfl
  | .node x l r, i, fp, h => by
    obtain ⟨a, b, f1, f2, hx, h1, h2, rfl, h0⟩ := h
    simp [Tr.size, h1.len, h2.len]
theorem Rep.ne {ns : List Node} {T : Tr} {i : Nat} {fp : List Nat} (h : Rep ns T i fp) (hT : T ≠ .nil) : ∃ f, fp = i :: f ∧ 0 ∉ f := by
  cases T with
  | nil => exact absurd rfl hT
  | node x l r =>
    obtain ⟨a, b, f1, f2, hx, h1, h2, rfl, h0⟩ := h
    exact ⟨_, rfl, h0⟩
theorem Rep.kid0 {ns : List Node} {T : Tr} {i : Nat} {fp : List Nat} (h : Rep ns T i fp) (h0 : 0 ∉ fp) : i = 0 ↔ T = .nil := by
  cases T with
  | nil => exact ⟨fun _ => rfl, fun _ => h.1⟩
  | node x l r =>
    obtain ⟨f, rfl, _⟩ := h.ne (by simp)
    exact ⟨fun e => absurd (by simp [e]) h0, fun e => by cases e⟩
theorem Rep.open_ {ns : List Node} {T : Tr} {i : Nat} {fp : List Nat} (h : Rep ns T i fp) (hT : T ≠ .nil) (c : Bool) :
    ∃ k o f g, ns[i]? = some (mkN T.h c k o) ∧ Rep ns (T.sub c) k f ∧ Rep ns (T.sub !c) o g ∧ fp.Perm (i :: (f ++ g)) ∧ 0 ∉ f ∧ 0 ∉ g := by
  cases T with
  | nil => exact absurd rfl hT
  | node x l r =>
    obtain ⟨a, b, f1, f2, hx, h1, h2, rfl, h0⟩ := h
    rw [List.mem_append, not_or] at h0
    cases c
    · exact ⟨a, b, f1, f2, hx, h1, h2, List.Perm.refl _, h0.1, h0.2⟩
    · exact ⟨b, a, f2, f1, hx, h2, h1, List.Perm.cons _ List.perm_append_comm, h0.2, h0.1⟩
theorem Rep.shut_ {ns : List Node} {x : Option Int} {c : Bool} {s s' : Tr} {i k o : Nat} {f g : List Nat} (hx : ns[i]? = some (mkN x c k o)) (h1 : Rep ns s k f) (h2 : Rep ns s' o g) (hf : 0 ∉ f) (hg : 0 ∉ g) :
    ∃ fp, Rep ns (nodeC x c s s') i fp ∧ fp.Perm (i :: (f ++ g)) := by
  cases c
  · exact ⟨_, ⟨k, o, f, g, hx, h1, h2, rfl, by simp [hf, hg]⟩, List.Perm.refl _⟩
  · exact ⟨_, ⟨o, k, g, f, hx, h2, h1, rfl, by simp [hf, hg]⟩, List.Perm.cons _ List.perm_append_comm⟩
def Chain (ns : List Node) : Int → List Nat → Prop
  | f, [] => f = 0
  | f, j :: js => f = j ∧ 0 < j ∧ ∃ x, ns[j]? = some x ∧ Chain ns x.k0 js
theorem Chain.frame {ns ns' : List Node} : ∀ {fs : List Nat} {f : Int}, Chain ns f fs → (∀ k, k ∈ fs → ns'[k]? = ns[k]?) → Chain ns' f fs
  | [], f, h, _ => h
  | j :: js, f, h, hf => by
    obtain ⟨rfl, h0, x, hx, hc⟩ := h
    exact ⟨rfl, h0, x, by rw [hf j (by simp), hx], hc.frame fun k hk => hf k (by simp [hk])⟩
theorem Chain.pos {ns : List Node} : ∀ {fs : List Nat} {f : Int}, Chain ns f fs → ∀ k, k ∈ fs → 0 < k ∧ k < ns.length
  | [], f, h, k, hk => by cases hk
  | j :: js, f, h, k, hk => by
    obtain ⟨rfl, h0, x, hx, hc⟩ := h
    rcases List.mem_cons.1 hk with rfl | hk
    · exact ⟨h0, (List.getElem?_eq_some_iff.1 hx).1⟩
    · exact hc.pos k hk
/-- The places in use, and the free ones. -/
structure St (t : TT) (U fs : List Nat) : Prop where
  chain : Chain t.ns t.free fs
  nd : (U ++ fs).Nodup
  len : U.length + fs.length = t.ns.length
  lt : ∀ k, k ∈ U → k < t.ns.length
  nodes : t.nodes = U.length
  zero : 0 ∈ U
theorem St.perm {t : TT} {U U' fs : List Nat} (s : St t U fs) (p : U.Perm U') : St t U' fs :=
  ⟨s.chain, ((p.append_right fs).nodup_iff).1 s.nd, by rw [← p.length_eq]; exact s.len, fun k hk => s.lt k (p.mem_iff.2 hk), by rw [← p.length_eq]; exact s.nodes, p.mem_iff.1 s.zero⟩
theorem St.off {t : TT} {U fs : List Nat} (s : St t U fs) {k : Nat} (hk : k ∈ U) : k ∉ fs := fun hf => by
  have := (List.nodup_append.1 s.nd).2.2
  exact this k hk k hf rfl
theorem St.set {t : TT} {U fs : List Nat} (s : St t U fs) {j : Nat} (hj : j ∈ U) (x : Node) : St { t with ns := t.ns.set j x } U fs :=
  ⟨s.chain.frame fun k hk => by
    have : j ≠ k := fun e => s.off hj (e ▸ hk)
    show (t.ns.set j x)[k]? = _
    rw [List.getElem?_set_ne this], s.nd, by rw [s.len]; simp, fun k hk => by have := s.lt k hk; simpa using this, s.nodes, s.zero⟩
theorem take_st {t : TT} {U fs : List Nat} (s : St t U fs) : ∃ (r : Nat) (t' : TT) (fs' : List Nat), takeT t = some ((r : Int), t') ∧ r ∉ U ∧ St t' (U ++ [r]) fs' ∧ t'.ns[r]? = some zN ∧ (∀ k, k ∈ U → t'.ns[k]? = t.ns[k]?) ∧
    t'.width = t.width ∧ t'.most = t.most ∧ t'.rooted = t.rooted ∧ t'.ns.length = max t.ns.length (U.length + 1) := by
  have hnd := List.nodup_append.1 s.nd
  unfold takeT
  cases fs with
  | nil =>
    have h0 : t.free = 0 := s.chain
    have hl := s.len
    rw [List.length_nil, Nat.add_zero] at hl
    rw [if_neg (by omega)]
    have hn : t.ns.length ∉ U := fun hk => Nat.lt_irrefl _ (s.lt _ hk)
    refine ⟨t.ns.length, _, [], rfl, hn, ⟨h0, ?_, ?_, ?_, ?_, ?_⟩, ?_, ?_, rfl, rfl, rfl, ?_⟩
    · rw [List.append_nil, List.nodup_append]
      refine ⟨hnd.1, by simp, fun a ha b hb e => ?_⟩
      rw [List.mem_singleton] at hb
      exact hn (hb ▸ e ▸ ha)
    · simp [hl]
    · intro k hk
      rcases List.mem_append.1 hk with hk | hk
      · have := s.lt k hk; simp; omega
      · rw [List.mem_singleton] at hk; simp [hk]
    · show t.nodes + 1 = _
      rw [s.nodes]; simp
    · simp [s.zero]
    · simp
    · intro k hk
      show (t.ns ++ [zN])[k]? = _
      rw [List.getElem?_append_left (s.lt k hk)]
    · show (t.ns ++ [zN]).length = _
      simp; omega
  | cons j js =>
    obtain ⟨hf, h0, x, hx, hc⟩ := s.chain
    have hj : j < t.ns.length := (List.getElem?_eq_some_iff.1 hx).1
    have hn : j ∉ U := fun hk => hnd.2.2 j hk j (by simp) rfl
    have hjs : j ∉ js := (List.nodup_cons.1 hnd.2.1).1
    rw [if_pos (by omega), hf, Int.toNat_natCast, hx]
    have hl := s.len
    rw [List.length_cons] at hl
    refine ⟨j, _, js, rfl, hn, ⟨hc.frame fun k hk => ?_, ?_, ?_, ?_, ?_, ?_⟩, ?_, ?_, rfl, rfl, rfl, ?_⟩
    · have hne : j ≠ k := fun e => hjs (e ▸ hk)
      show (t.ns.set j zN)[k]? = _
      rw [List.getElem?_set_ne hne]
    · have := s.nd
      simpa [List.append_assoc] using this
    · simp; omega
    · intro k hk
      show k < (t.ns.set j zN).length
      rw [List.length_set]
      rcases List.mem_append.1 hk with hk | hk
      · exact s.lt k hk
      · rw [List.mem_singleton] at hk; omega
    · show t.nodes + 1 = _
      rw [s.nodes]; simp
    · simp [s.zero]
    · show (t.ns.set j zN)[j]? = _
      rw [List.getElem?_set_self hj]
    · intro k hk
      have hne : j ≠ k := fun e => hn (e ▸ hk)
      show (t.ns.set j zN)[k]? = _
      rw [List.getElem?_set_ne hne]
    · show (t.ns.set j zN).length = _
      rw [List.length_set]; omega
end Go.Proofs.Ytofjbbfnkefoaaa.Fs
