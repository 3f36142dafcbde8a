/- The trie's small functions. -/
import Derived.Test.YtofjbbfnkefoaaaFsI
import Derived.Test.YtofjbbfnkefoaaaSxNoRound
namespace Go.Proofs.Ytofjbbfnkefoaaa.Fs
open Go Go.RowKit Go.Proofs.Ytofjbbfnkefoaaa.Sx
set_option linter.unusedVariables false
set_option linter.unusedSimpArgs false
set_option maxRecDepth 10000
theorem eq32 : Try.prog.underlying 60 = some (.pointer (Try.prog.pointee 60)) := by kernel_rfl
def p2 (y : Int) : Int := 2 ^ min y.toNat 64
theorem shr64 (x y : Int) (hy : 0 ≤ y) : PV Try.prog (binOp .shr 88 (.int .u64 x) (.int .i64 y)) (.int .u64 (x.fdiv (p2 y))) := by
  intro w
  have hn : ¬ (y < 0) := by omega
  simp only [binOp, Op.shift, hn, if_false]
  rfl
theorem shl64 (x y : Int) (hy : 0 ≤ y) : PV Try.prog (binOp .shl 88 (.int .u64 x) (.int .i64 y)) (.int .u64 (IntKind.u64.wrap (x * p2 y))) := by
  intro w
  have hn : ¬ (y < 0) := by omega
  simp only [binOp, Op.shift, hn, if_false]
  rfl
theorem shr32 (x y : Int) (hy : 0 ≤ y) : PV Try.prog (binOp .shr 33 (.int .u32 x) (.int .i64 y)) (.int .u32 (x.fdiv (2 ^ min y.toNat 32))) := by
  intro w
  have hn : ¬ (y < 0) := by omega
  simp only [binOp, Op.shift, hn, if_false]
  rfl
structure Node where
  k0 : Int
  k1 : Int
  held : Bool
  v : Int
  deriving DecidableEq
def Node.enc (x : Node) : List Value := [.int .i32 x.k0, .int .i32 x.k1, .bool x.held, .int .i64 x.v]
theorem Node.len (x : Node) : x.enc.length = 4 := rfl
theorem Node.flat (x : Node) : x.enc.all flatV = true := rfl
def Node.kid (x : Node) (b : Int) : Int := if b = 0 then x.k0 else x.k1
structure TT where
  width : Int
  most : Int
  ns : List Node
  free : Int
  nodes : Int
  rooted : Bool
  deriving DecidableEq
def TT.enc (t : TT) (A : Option Addr) (c : Nat) : List Value := [.int .i64 t.width, .int .i64 t.most, .slice A t.ns.length c, .int .i32 t.free, .int .i64 t.nodes, .bool t.rooted]
abbrev RowN (h : Hp) (A : Option Addr) (c : Nat) (ns : List Node) : Prop := Row h 116 Node.enc 4 A c ns
/-- A trie at block b; S: the blocks that are its own. -/
def TrAt (h : Hp) (b : Nat) (S : Nat → Prop) (t : TT) : Prop :=
  S b ∧ (∀ k, S k → k < h.size) ∧ ∃ A c, h[b]? = some (.cells (t.enc A c).toArray 110 (0, 0)) ∧ RowN h A c t.ns ∧ (∀ k, blk A k → S k) ∧ ¬ blk A b
theorem TrAt.keep {h h' : Hp} {b : Nat} {S S' : Nat → Prop} {t : TT} (q : TrAt h b S t) (f : Fr S' h h') (hn : ∀ k, S k → ¬ S' k) : TrAt h' b S t := by
  obtain ⟨h1, h2, A, c, hb, hr, hS, hne⟩ := q
  exact ⟨h1, fun k hk => Nat.lt_of_lt_of_le (h2 k hk) f.size, A, c, f.get hb (hn b h1), hr.keep f (fun k hk => hn k (hS k hk)), hS, hne⟩
theorem TrAt.ext {h h' : Hp} {b : Nat} {S : Nat → Prop} {t : TT} (q : TrAt h b S t) (e : Ext h h') : TrAt h' b S t := q.keep (e.fr (fun _ => False)) (fun _ _ h => h)
theorem TrAt.cl {h : Hp} {b : Nat} {S : Nat → Prop} {t : TT} (q : TrAt h b S t) : ∃ A c, Cl h ⟨b, 0, none⟩ (t.enc A c) ∧ RSl h A t.ns.length 4 (t.ns.flatMap Node.enc) := by
  obtain ⟨_, _, A, c, hb, hr, _⟩ := q
  exact ⟨A, c, Cl.of_block hb fun j v hj => by rw [Nat.zero_add]; exact hj, hr.read⟩
theorem und100 : Try.prog.underlying 108 = some (.slice 116) := by kernel_rfl
theorem size108 : (Try.prog.info? 116).map (·.size) = some 4 := by kernel_rfl
theorem info108 : ∃ i z, Try.prog.info? 116 = some i ∧ i.size = 4 ∧ i.bytes ≤ 100 ∧ 0 < i.bytes ∧ i.zero = some z ∧ z.cells = (Node.enc ⟨0, 0, false, 0⟩).toArray := ⟨_, _, rfl, rfl, by decide, by decide, rfl, rfl⟩
theorem rd_node {h : Hp} {A : Option Addr} {l c : Nat} {ns : List Node} {k : IntKind} (r : RSl h A l 4 (ns.flatMap Node.enc)) (hl : ns.length = l) {i : Nat} {x : Node} (hi : ns[i]? = some x) :
    ∃ a : Addr, a.spot = none ∧ PV Try.prog (Instr.indexAt 108 (.slice A l c) (.int k (i : Int))) (.pointer (some (a.add (i * 4)))) ∧ Cl h (a.add (i * 4)) x.enc := by
  have hlt := (List.getElem?_eq_some_iff.1 hi).1
  obtain ⟨a, rfl, hcl⟩ := r.some (by omega)
  refine ⟨a, hcl.spot, ?_, r.elem Node.len hi hl⟩
  have := ix (P := Try.prog) (T := 108) (E := 116) (a := a) (l := l) (c := c) (sz := 4) (k := k) (i := (i : Int)) (by omega) (by omega) und100 size108
  rw [Int.toNat_natCast] at this
  exact this
/-! ### No trie -/
theorem tputN (key n v : Int) {h : Hp} {K : Value → Hp → Prop} (H : K (.int .i64 3) h) : CallsH Try.prog 31 #[.pointer none, .int .u32 key, .int .i64 n, .int .i64 v] h K := by
  refine trie_Trie_Put_ok _ _ _ _ ?_
  unfold trie_Trie_Put
  exact ⟨_, eqNil eq32, br_t rfl H⟩
theorem tcutN (key n : Int) {h : Hp} {K : Value → Hp → Prop} (H : K (.int .i64 3) h) : CallsH Try.prog 32 #[.pointer none, .int .u32 key, .int .i64 n] h K := by
  refine trie_Trie_Cut_ok _ _ _ ?_
  unfold trie_Trie_Cut
  exact ⟨_, eqNil eq32, br_t rfl H⟩
theorem tgetN (key n : Int) {h : Hp} {K : Value → Hp → Prop} (H : K (.tuple #[.int .i64 0, .bool false]) h) : CallsH Try.prog 29 #[.pointer none, .int .u32 key, .int .i64 n] h K := by
  refine trie_Trie_Get_ok _ _ _ ?_
  unfold trie_Trie_Get
  exact ⟨_, eqNil eq32, br_t rfl H⟩
theorem tnodesN {h : Hp} {K : Value → Hp → Prop} (H : K (.int .i64 0) h) : CallsH Try.prog 36 #[.pointer none] h K := by
  refine trie_Trie_Nodes_ok _ ?_
  unfold trie_Trie_Nodes
  exact ⟨_, eqNil eq32, br_t rfl H⟩
theorem tarenaN {h : Hp} {K : Value → Hp → Prop} (H : K (.int .i64 0) h) : CallsH Try.prog 37 #[.pointer none] h K := by
  refine trie_Trie_Arena_ok _ ?_
  unfold trie_Trie_Arena
  exact ⟨_, eqNil eq32, br_t rfl H⟩
theorem tnodes_s {h : Hp} {b : Nat} {S : Nat → Prop} {t : TT} (q : TrAt h b S t) {K : Value → Hp → Prop} (H : K (.int .i64 t.nodes) h) : CallsH Try.prog 36 #[.pointer (some ⟨b, 0, none⟩)] h K := by
  refine trie_Trie_Nodes_ok _ ?_
  unfold trie_Trie_Nodes
  obtain ⟨A, c, hc, _⟩ := q.cl
  exact ⟨_, eqNil eq32, br_f rfl ⟨_, ld (hc.at_ 4 _ rfl) (by kernel_rfl), H⟩⟩
theorem tarena_s {h : Hp} {b : Nat} {S : Nat → Prop} {t : TT} (q : TrAt h b S t) {K : Value → Hp → Prop} (H : K (.int .i64 t.ns.length) h) : CallsH Try.prog 37 #[.pointer (some ⟨b, 0, none⟩)] h K := by
  refine trie_Trie_Arena_ok _ ?_
  unfold trie_Trie_Arena
  obtain ⟨A, c, hc, _⟩ := q.cl
  exact ⟨_, eqNil eq32, br_f rfl ⟨_, _, _, ld (hc.at_ 2 _ rfl) (by kernel_rfl), H⟩⟩
/-! ### may, bit, down -/
def mayT (w key n : Int) : Bool := decide (n ≥ 0) && decide (n ≤ w) && ((IntKind.u64.wrap key).fdiv (p2 w) == 0) && (bAnd .u64 (IntKind.u64.wrap (IntKind.u64.wrap key * p2 n)) (IntKind.u64.wrap (IntKind.u64.wrap (1 * p2 w) - 1)) == 0)
theorem may_s {h : Hp} {b : Nat} {S : Nat → Prop} {t : TT} (q : TrAt h b S t) (hw : 0 ≤ t.width) (key n : Int) {K : Value → Hp → Prop} (H : K (.bool (mayT t.width key n)) h) : CallsH Try.prog 50 #[.pointer (some ⟨b, 0, none⟩), .int .u32 key, .int .i64 n] h K := by
  refine trie_Trie_may_ok _ _ _ ?_
  unfold trie_Trie_may
  obtain ⟨A, c, hc, _⟩ := q.cl
  refine br_i (fun h0 => ?_) (fun h0 => ?_)
  · refine ⟨_, ld (hc.at_ 0 _ rfl) (by kernel_rfl), br_i (fun h1 => ?_) (fun h1 => ?_)⟩
    · refine ⟨_, ld (hc.at_ 0 _ rfl) (by kernel_rfl), _, shr64 _ _ hw, br_i (fun h2 => ?_) (fun h2 => ?_)⟩
      · refine ⟨_, shl64 _ _ (by simpa using h0), _, ld (hc.at_ 0 _ rfl) (by kernel_rfl), _, shl64 _ _ hw, ?_⟩
        rw [mayT, h0, h1, h2] at H
        simpa using H
      · rw [mayT, h0, h1, h2] at H
        simpa using H
    · rw [mayT, h0, h1] at H
      simpa using H
  · rw [mayT, h0] at H
    simpa using H
def bitT (w key i : Int) : Int := IntKind.i64.wrap (bAnd .u32 (key.fdiv (2 ^ min (w - 1 - i).toNat 32)) 1)
theorem bit_s {h : Hp} {b : Nat} {S : Nat → Prop} {t : TT} (q : TrAt h b S t) (hw : 0 ≤ t.width ∧ t.width ≤ 64) (key i : Int) (hi : 0 ≤ i ∧ i < t.width) {K : Value → Hp → Prop} (H : K (.int .i64 (bitT t.width key i)) h) : CallsH Try.prog 53 #[.pointer (some ⟨b, 0, none⟩), .int .u32 key, .int .i64 i] h K := by
  refine trie_Trie_bit_ok _ _ _ ?_
  unfold trie_Trie_bit
  obtain ⟨A, c, hc, _⟩ := q.cl
  refine ⟨_, ld (hc.at_ 0 _ rfl) (by kernel_rfl), ?_⟩
  rw [wrap_in (n := t.width - 1) (by omega) (by omega), wrap_in (by omega) (by omega)]
  exact ⟨_, shr32 _ _ (by omega), H⟩
theorem tnew_s (w m : Int) {h : Hp} {K : Value → Hp → Prop} (H0 : ¬ ((w = 8 ∨ w = 16 ∨ w = 32) ∧ 0 ≤ m ∧ m ≤ 1048576) → K (.tuple #[.pointer none, .int .i64 1]) h)
    (H1 : (w = 8 ∨ w = 16 ∨ w = 32) ∧ 0 ≤ m ∧ m ≤ 1048576 → ∀ h' b, Ext h h' → h.size ≤ b → TrAt h' b (fun k => k = b) ⟨w, m, [], 0, 0, false⟩ → K (.tuple #[.pointer (some ⟨b, 0, none⟩), .int .i64 0]) h') : CallsH Try.prog 27 #[.int .i64 w, .int .i64 m] h K := by
  refine trie_New_ok _ _ ?_
  unfold trie_New
  have go : (w = 8 ∨ w = 16 ∨ w = 32) → br (decide (m < 0)) (K (.tuple #[(.pointer none), (.int .i64 1)]) h) (br (decide (m > 1048576)) (K (.tuple #[(.pointer none), (.int .i64 1)]) h)
      (newC h (.cells #[(.int .i64 w), (.int .i64 m), (.slice none 0 0), (.int .i32 0), (.int .i64 0), (.bool false)] 110 (0, 0)) fun a4 h3 => K (.tuple #[(.pointer (some a4)), (.int .i64 0)]) h3)) := fun hw =>
    br_i (fun h0 => H0 (fun hh => by simp at h0; omega)) (fun h0 => br_i (fun h1 => H0 (fun hh => by simp at h1; omega)) (fun h1 => newC_i fun h' e c b z =>
      H1 ⟨hw, by simp at h0; omega, by simp at h1; omega⟩ h' h.size e (Nat.le_refl _) ⟨rfl, fun k hk => by omega, none, 0, b, .inl ⟨rfl, rfl, rfl, rfl⟩, (by rintro k ⟨a, ha, _⟩; cases ha), (by rintro ⟨a, ha, _⟩; cases ha)⟩))
  refine br_i (fun h0 => br_i (fun h1 => br_i (fun h2 => H0 (fun hh => by simp at h0 h1 h2; omega)) (fun h2 => go (by simp at h2; omega))) (fun h1 => go (by simp at h1; omega))) (fun h0 => go (by simp at h0; omega))
theorem right_s (w m : Int) {h : Hp} {K : Value → Hp → Prop} (H : K (.bool (decide ((w = 8 ∨ w = 16 ∨ w = 32) ∧ 0 ≤ m ∧ m ≤ 1048576))) h) : CallsH Try.prog 28 #[.int .i64 w, .int .i64 m] h K := by
  refine quintetref12_Right_ok _ _ ?_
  unfold quintetref12_Right
  have go : (w = 8 ∨ w = 16 ∨ w = 32) → br (decide (m ≥ 0)) (K (.bool (decide (m ≤ 1048576))) h) (K (.bool false) h) := fun hw => br_i (fun h0 => by
      have : decide ((w = 8 ∨ w = 16 ∨ w = 32) ∧ 0 ≤ m ∧ m ≤ 1048576) = decide (m ≤ 1048576) := by
        have : 0 ≤ m := by simpa using h0
        simp [hw, this]
      rw [this] at H; exact H) (fun h0 => by
      have : decide ((w = 8 ∨ w = 16 ∨ w = 32) ∧ 0 ≤ m ∧ m ≤ 1048576) = false := by
        have : ¬ 0 ≤ m := by simp at h0; omega
        simp [this]
      rw [this] at H; exact H)
  refine br_i (fun h0 => go (by simp at h0; omega)) (fun h0 => br_i (fun h1 => go (by simp at h1; omega)) (fun h1 => br_i (fun h2 => go (by simp at h2; omega)) (fun h2 => ?_)))
  have : decide ((w = 8 ∨ w = 16 ∨ w = 32) ∧ 0 ≤ m ∧ m ≤ 1048576) = false := by
    have : ¬ (w = 8 ∨ w = 16 ∨ w = 32) := by simp at h0 h1 h2; omega
    simp [this]
  rw [this] at H; exact H
end Go.Proofs.Ytofjbbfnkefoaaa.Fs
