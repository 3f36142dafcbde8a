/- The trie's functions, first part. -/
import Derived.Test.YtofjbbfnkefoaaaFsI
import Derived.Test.YtofjbbfnkefoaaaSxNoRound
namespace Go.Proofs.Ytofjbbfnkefoaaa.Fs
open Go Go.RowKit Go.Proofs.Ytofjbbfnkefoaaa.Sx
set_option linter.unusedVariables false
set_option linter.unusedSimpArgs false
set_option maxRecDepth 10000
theorem eq32 : Try.prog.underlying 60 = some (.pointer (Try.prog.pointee 60)) := by kernel_rfl
def p2 (y : Int) : Int := 2 ^ min y.toNat 64
theorem shr64 (x y : Int) (hy : 0 ≤ y) : PV Try.prog (binOp .shr 88 (.int .u64 x) (.int .i64 y)) (.int .u64 (x.fdiv (p2 y))) := by
  intro w
  have hn : ¬ (y < 0) := by omega
  simp only [binOp, Op.shift, hn, if_false]
  rfl
theorem shl64 (x y : Int) (hy : 0 ≤ y) : PV Try.prog (binOp .shl 88 (.int .u64 x) (.int .i64 y)) (.int .u64 (IntKind.u64.wrap (x * p2 y))) := by
  intro w
  have hn : ¬ (y < 0) := by omega
  simp only [binOp, Op.shift, hn, if_false]
  rfl
theorem shr32 (x y : Int) (hy : 0 ≤ y) : PV Try.prog (binOp .shr 33 (.int .u32 x) (.int .i64 y)) (.int .u32 (x.fdiv (2 ^ min y.toNat 32))) := by
  intro w
  have hn : ¬ (y < 0) := by omega
  simp only [binOp, Op.shift, hn, if_false]
  rfl
structure Node where
  k0 : Int
  k1 : Int
  held : Bool
  v : Int
  deriving DecidableEq
def Node.enc (x : Node) : List Value := [.int .i32 x.k0, .int .i32 x.k1, .bool x.held, .int .i64 x.v]
theorem Node.len (x : Node) : x.enc.length = 4 := rfl
theorem Node.flat (x : Node) : x.enc.all flatV = true := rfl
def Node.kid (x : Node) (b : Int) : Int := if b = 0 then x.k0 else x.k1
structure TT where
  width : Int
  most : Int
  ns : List Node
  free : Int
  nodes : Int
  rooted : Bool
  deriving DecidableEq
def TT.enc (t : TT) (A : Option Addr) (c : Nat) : List Value := [.int .i64 t.width, .int .i64 t.most, .slice A t.ns.length c, .int .i32 t.free, .int .i64 t.nodes, .bool t.rooted]
abbrev RowN (h : Hp) (A : Option Addr) (c : Nat) (ns : List Node) : Prop := Row h 116 Node.enc 4 A c ns
/-- A trie at block b; S: the blocks that are its own. -/
def TrAt (h : Hp) (b : Nat) (S : Nat → Prop) (t : TT) : Prop :=
  S b ∧ (∀ k, S k → k < h.size) ∧ ∃ A c, h[b]? = some (.cells (t.enc A c).toArray 110 (0, 0)) ∧ RowN h A c t.ns ∧ (∀ k, blk A k → S k) ∧ ¬ blk A b
theorem TrAt.keep {h h' : Hp} {b : Nat} {S S' : Nat → Prop} {t : TT} (q : TrAt h b S t) (f : Fr S' h h') (hn : ∀ k, S k → ¬ S' k) : TrAt h' b S t := by
  obtain ⟨h1, h2, A, c, hb, hr, hS, hne⟩ := q
  exact ⟨h1, fun k hk => Nat.lt_of_lt_of_le (h2 k hk) f.size, A, c, f.get hb (hn b h1), hr.keep f (fun k hk => hn k (hS k hk)), hS, hne⟩
theorem TrAt.ext {h h' : Hp} {b : Nat} {S : Nat → Prop} {t : TT} (q : TrAt h b S t) (e : Ext h h') : TrAt h' b S t := q.keep (e.fr (fun _ => False)) (fun _ _ h => h)
theorem TrAt.cl {h : Hp} {b : Nat} {S : Nat → Prop} {t : TT} (q : TrAt h b S t) : ∃ A c, Cl h ⟨b, 0, none⟩ (t.enc A c) ∧ RSl h A t.ns.length 4 (t.ns.flatMap Node.enc) := by
  obtain ⟨_, _, A, c, hb, hr, _⟩ := q
  exact ⟨A, c, Cl.of_block hb fun j v hj => by rw [Nat.zero_add]; exact hj, hr.read⟩
theorem und100 : Try.prog.underlying 108 = some (.slice 116) := by kernel_rfl
theorem size108 : (Try.prog.info? 116).map (·.size) = some 4 := by kernel_rfl
theorem info108 : ∃ i z, Try.prog.info? 116 = some i ∧ i.size = 4 ∧ i.bytes ≤ 100 ∧ 0 < i.bytes ∧ i.zero = some z ∧ z.cells = (Node.enc ⟨0, 0, false, 0⟩).toArray := ⟨_, _, rfl, rfl, by decide, by decide, rfl, rfl⟩
theorem rd_node {h : Hp} {A : Option Addr} {l c : Nat} {ns : List Node} {k : IntKind} (r : RSl h A l 4 (ns.flatMap Node.enc)) (hl : ns.length = l) {i : Nat} {x : Node} (hi : ns[i]? = some x) :
    ∃ a : Addr, a.spot = none ∧ PV Try.prog (Instr.indexAt 108 (.slice A l c) (.int k (i : Int))) (.pointer (some (a.add (i * 4)))) ∧ Cl h (a.add (i * 4)) x.enc := by
  have hlt := (List.getElem?_eq_some_iff.1 hi).1
  obtain ⟨a, rfl, hcl⟩ := r.some (by omega)
  refine ⟨a, hcl.spot, ?_, r.elem Node.len hi hl⟩
  have := ix (P := Try.prog) (T := 108) (E := 116) (a := a) (l := l) (c := c) (sz := 4) (k := k) (i := (i : Int)) (by omega) (by omega) und100 size108
  rw [Int.toNat_natCast] at this
  exact this
/-! ### No trie -/
theorem tputN (key n v : Int) {h : Hp} {K : Value → Hp → Prop} (H : K (.int .i64 3) h) : CallsH Try.prog 31 #[.pointer none, .int .u32 key, .int .i64 n, .int .i64 v] h K := by
  refine trie_Trie_Put_ok _ _ _ _ ?_
  unfold trie_Trie_Put
  exact ⟨_, eqNil eq32, br_t rfl H⟩
theorem tcutN (key n : Int) {h : Hp} {K : Value → Hp → Prop} (H : K (.int .i64 3) h) : CallsH Try.prog 32 #[.pointer none, .int .u32 key, .int .i64 n] h K := by
  refine trie_Trie_Cut_ok _ _ _ ?_
  unfold trie_Trie_Cut
  exact ⟨_, eqNil eq32, br_t rfl H⟩
theorem tgetN (key n : Int) {h : Hp} {K : Value → Hp → Prop} (H : K (.tuple #[.int .i64 0, .bool false]) h) : CallsH Try.prog 29 #[.pointer none, .int .u32 key, .int .i64 n] h K := by
  refine trie_Trie_Get_ok _ _ _ ?_
  unfold trie_Trie_Get
  exact ⟨_, eqNil eq32, br_t rfl H⟩
theorem tnodesN {h : Hp} {K : Value → Hp → Prop} (H : K (.int .i64 0) h) : CallsH Try.prog 36 #[.pointer none] h K := by
  refine trie_Trie_Nodes_ok _ ?_
  unfold trie_Trie_Nodes
  exact ⟨_, eqNil eq32, br_t rfl H⟩
theorem tarenaN {h : Hp} {K : Value → Hp → Prop} (H : K (.int .i64 0) h) : CallsH Try.prog 37 #[.pointer none] h K := by
  refine trie_Trie_Arena_ok _ ?_
  unfold trie_Trie_Arena
  exact ⟨_, eqNil eq32, br_t rfl H⟩
theorem tnodes_s {h : Hp} {b : Nat} {S : Nat → Prop} {t : TT} (q : TrAt h b S t) {K : Value → Hp → Prop} (H : K (.int .i64 t.nodes) h) : CallsH Try.prog 36 #[.pointer (some ⟨b, 0, none⟩)] h K := by
  refine trie_Trie_Nodes_ok _ ?_
  unfold trie_Trie_Nodes
  obtain ⟨A, c, hc, _⟩ := q.cl
  exact ⟨_, eqNil eq32, br_f rfl ⟨_, ld (hc.at_ 4 _ rfl) (by kernel_rfl), H⟩⟩
theorem tarena_s {h : Hp} {b : Nat} {S : Nat → Prop} {t : TT} (q : TrAt h b S t) {K : Value → Hp → Prop} (H : K (.int .i64 t.ns.length) h) : CallsH Try.prog 37 #[.pointer (some ⟨b, 0, none⟩)] h K := by
  refine trie_Trie_Arena_ok _ ?_
  unfold trie_Trie_Arena
  obtain ⟨A, c, hc, _⟩ := q.cl
  exact ⟨_, eqNil eq32, br_f rfl ⟨_, _, _, ld (hc.at_ 2 _ rfl) (by kernel_rfl), H⟩⟩
/-! ### may, bit, down -/
def mayT (w key n : Int) : Bool := decide (n ≥ 0) && decide (n ≤ w) && ((IntKind.u64.wrap key).fdiv (p2 w) == 0) && (bAnd .u64 (IntKind.u64.wrap (IntKind.u64.wrap key * p2 n)) (IntKind.u64.wrap (IntKind.u64.wrap (1 * p2 w) - 1)) == 0)
theorem may_s {h : Hp} {b : Nat} {S : Nat → Prop} {t : TT} (q : TrAt h b S t) (hw : 0 ≤ t.width) (key n : Int) {K : Value → Hp → Prop} (H : K (.bool (mayT t.width key n)) h) : CallsH Try.prog 50 #[.pointer (some ⟨b, 0, none⟩), .int .u32 key, .int .i64 n] h K := by
  refine trie_Trie_may_ok _ _ _ ?_
  unfold trie_Trie_may
  obtain ⟨A, c, hc, _⟩ := q.cl
  refine br_i (fun h0 => ?_) (fun h0 => ?_)
  · refine ⟨_, ld (hc.at_ 0 _ rfl) (by kernel_rfl), br_i (fun h1 => ?_) (fun h1 => ?_)⟩
    · refine ⟨_, ld (hc.at_ 0 _ rfl) (by kernel_rfl), _, shr64 _ _ hw, br_i (fun h2 => ?_) (fun h2 => ?_)⟩
      · refine ⟨_, shl64 _ _ (by simpa using h0), _, ld (hc.at_ 0 _ rfl) (by kernel_rfl), _, shl64 _ _ hw, ?_⟩
        rw [mayT, h0, h1, h2] at H
        simpa using H
      · rw [mayT, h0, h1, h2] at H
        simpa using H
    · rw [mayT, h0, h1] at H
      simpa using H
  · rw [mayT, h0] at H
    simpa using H
def bitT (w key i : Int) : Int := IntKind.i64.wrap (bAnd .u32 (key.fdiv (2 ^ min (w - 1 - i).toNat 32)) 1)
theorem bit_s {h : Hp} {b : Nat} {S : Nat → Prop} {t : TT} (q : TrAt h b S t) (hw : 0 ≤ t.width ∧ t.width ≤ 64) (key i : Int) (hi : 0 ≤ i ∧ i < t.width) {K : Value → Hp → Prop} (H : K (.int .i64 (bitT t.width key i)) h) : CallsH Try.prog 53 #[.pointer (some ⟨b, 0, none⟩), .int .u32 key, .int .i64 i] h K := by
  refine trie_Trie_bit_ok _ _ _ ?_
  unfold trie_Trie_bit
  obtain ⟨A, c, hc, _⟩ := q.cl
  refine ⟨_, ld (hc.at_ 0 _ rfl) (by kernel_rfl), ?_⟩
  rw [wrap_in (n := t.width - 1) (by omega) (by omega), wrap_in (by omega) (by omega)]
  exact ⟨_, shr32 _ _ (by omega), H⟩
theorem tnew_s (w m : Int) {h : Hp} {K : Value → Hp → Prop} (H0 : ¬ ((w = 8 ∨ w = 16 ∨ w = 32) ∧ 0 ≤ m ∧ m ≤ 1048576) → K (.tuple #[.pointer none, .int .i64 1]) h)
    (H1 : (w = 8 ∨ w = 16 ∨ w = 32) ∧ 0 ≤ m ∧ m ≤ 1048576 → ∀ h' b, Ext h h' → h.size ≤ b → TrAt h' b (fun k => k = b) ⟨w, m, [], 0, 0, false⟩ → K (.tuple #[.pointer (some ⟨b, 0, none⟩), .int .i64 0]) h') : CallsH Try.prog 27 #[.int .i64 w, .int .i64 m] h K := by
  refine trie_New_ok _ _ ?_
  unfold trie_New
  have go : (w = 8 ∨ w = 16 ∨ w = 32) → br (decide (m < 0)) (K (.tuple #[(.pointer none), (.int .i64 1)]) h) (br (decide (m > 1048576)) (K (.tuple #[(.pointer none), (.int .i64 1)]) h)
      (newC h (.cells #[(.int .i64 w), (.int .i64 m), (.slice none 0 0), (.int .i32 0), (.int .i64 0), (.bool false)] 110 (0, 0)) fun a4 h3 => K (.tuple #[(.pointer (some a4)), (.int .i64 0)]) h3)) := fun hw =>
    br_i (fun h0 => H0 (fun hh => by simp at h0; omega)) (fun h0 => br_i (fun h1 => H0 (fun hh => by simp at h1; omega)) (fun h1 => newC_i fun h' e c b z =>
      H1 ⟨hw, by simp at h0; omega, by simp at h1; omega⟩ h' h.size e (Nat.le_refl _) ⟨rfl, fun k hk => by omega, none, 0, b, .inl ⟨rfl, rfl, rfl, rfl⟩, (by rintro k ⟨a, ha, _⟩; cases ha), (by rintro ⟨a, ha, _⟩; cases ha)⟩))
  refine br_i (fun h0 => br_i (fun h1 => br_i (fun h2 => H0 (fun hh => by simp at h0 h1 h2; omega)) (fun h2 => go (by simp at h2; omega))) (fun h1 => go (by simp at h1; omega))) (fun h0 => go (by simp at h0; omega))
theorem right_s (w m : Int) {h : Hp} {K : Value → Hp → Prop} (H : K (.bool (decide ((w = 8 ∨ w = 16 ∨ w = 32) ∧ 0 ≤ m ∧ m ≤ 1048576))) h) : CallsH Try.prog 28 #[.int .i64 w, .int .i64 m] h K := by
  refine quintetref12_Right_ok _ _ ?_
  unfold quintetref12_Right
  have go : (w = 8 ∨ w = 16 ∨ w = 32) → br (decide (m ≥ 0)) (K (.bool (decide (m ≤ 1048576))) h) (K (.bool false) h) := fun hw => br_i (fun h0 => by
      have : decide ((w = 8 ∨ w = 16 ∨ w = 32) ∧ 0 ≤ m ∧ m ≤ 1048576) = decide (m ≤ 1048576) := by
        have : 0 ≤ m := by simpa using h0
        simp [hw, this]
      rw [this] at H; exact H) (fun h0 => by
      have : decide ((w = 8 ∨ w = 16 ∨ w = 32) ∧ 0 ≤ m ∧ m ≤ 1048576) = false := by
        have : ¬ 0 ≤ m := by simp at h0; omega
        simp [this]
      rw [this] at H; exact H)
  refine br_i (fun h0 => go (by simp at h0; omega)) (fun h0 => br_i (fun h1 => go (by simp at h1; omega)) (fun h1 => br_i (fun h2 => go (by simp at h2; omega)) (fun h2 => ?_)))
  have : decide ((w = 8 ∨ w = 16 ∨ w = 32) ∧ 0 ≤ m ∧ m ≤ 1048576) = false := by
    have : ¬ (w = 8 ∨ w = 16 ∨ w = 32) := by simp at h0 h1 h2; omega
    simp [this]
  rw [this] at H; exact H
/-- The same, its arena's slice told. -/
def TrAg (h : Hp) (b : Nat) (S : Nat → Prop) (t : TT) (A : Option Addr) (c : Nat) : Prop :=
  S b ∧ (∀ k, S k → k < h.size) ∧ h[b]? = some (.cells (t.enc A c).toArray 110 (0, 0)) ∧ RowN h A c t.ns ∧ (∀ k, blk A k → S k) ∧ ¬ blk A b
theorem TrAg.at_ {h : Hp} {b : Nat} {S : Nat → Prop} {t : TT} {A : Option Addr} {c : Nat} (q : TrAg h b S t A c) : TrAt h b S t := by
  obtain ⟨h1, h2, h3, h4, h5, h6⟩ := q
  exact ⟨h1, h2, A, c, h3, h4, h5, h6⟩
theorem TrAt.ag {h : Hp} {b : Nat} {S : Nat → Prop} {t : TT} (q : TrAt h b S t) : ∃ A c, TrAg h b S t A c := by
  obtain ⟨h1, h2, A, c, h3, h4, h5, h6⟩ := q
  exact ⟨A, c, h1, h2, h3, h4, h5, h6⟩
theorem TrAg.cl {h : Hp} {b : Nat} {S : Nat → Prop} {t : TT} {A : Option Addr} {c : Nat} (q : TrAg h b S t A c) : Cl h ⟨b, 0, none⟩ (t.enc A c) := by
  obtain ⟨_, _, hb, _⟩ := q
  exact Cl.of_block hb fun j v hj => by rw [Nat.zero_add]; exact hj
theorem TrAg.put {h h' : Hp} {b : Nat} {S : Nat → Prop} {t t' : TT} {A : Option Addr} {c : Nat} (q : TrAg h b S t A c) (hl : t'.ns = t.ns) (hb : h'[b]? = some (.cells (t'.enc A c).toArray 110 (0, 0))) (f : Fr (fun k => k = b) h h') : TrAg h' b S t' A c ∧ Fr S h h' := by
  obtain ⟨h1, h2, h3, h4, h5, h6⟩ := q
  refine ⟨⟨h1, fun k hk => Nat.lt_of_lt_of_le (h2 k hk) f.size, hb, ?_, h5, h6⟩, f.mono (fun k hk => hk ▸ h1)⟩
  rw [hl]
  exact h4.keep f (fun k hk e => h6 (e ▸ hk))
theorem TrAg.rows {h h' : Hp} {b : Nat} {S : Nat → Prop} {t : TT} {A : Option Addr} {c : Nat} (q : TrAg h b S t A c) {ns : List Node} (hl : ns.length = t.ns.length) (r : RowN h' A c ns) (f : Fr (blk A) h h') : TrAg h' b S { t with ns := ns } A c ∧ Fr S h h' := by
  obtain ⟨h1, h2, h3, h4, h5, h6⟩ := q
  refine ⟨⟨h1, fun k hk => Nat.lt_of_lt_of_le (h2 k hk) f.size, ?_, r, h5, h6⟩, f.mono h5⟩
  have := f.get h3 h6
  rw [this]
  simp [TT.enc, hl]
theorem TrAg.st_free {h : Hp} {b : Nat} {S : Nat → Prop} {t : TT} {A : Option Addr} {c : Nat} (q : TrAg h b S t A c) (x : Int) {K : Hp → Prop} (H : ∀ h', TrAg h' b S { t with free := x } A c → Fr S h h' → h'.size = h.size → K h') : HU Try.prog (Instr.storeAt 21 (.pointer (some ((⟨b, 0, none⟩ : Addr).add 3))) (.int .i32 x)) h K := by
  rw [add_eq0]
  refine HU_st (us := [.int .i32 x]) q.2.2.1 rfl (by kernel_rfl) (by simp [TT.enc]) rfl ?_
  have e : (t.enc A c).take 3 ++ [.int .i32 x] ++ (t.enc A c).drop (3 + [Value.int .i32 x].length) = ({ t with free := x } : TT).enc A c := rfl
  rw [e]
  have := q.put (t' := { t with free := x }) rfl (setB_get (lt_of_get q.2.2.1)) (setB_fr rfl)
  exact H _ this.1 this.2 setB_size
theorem TrAg.st_nodes {h : Hp} {b : Nat} {S : Nat → Prop} {t : TT} {A : Option Addr} {c : Nat} (q : TrAg h b S t A c) (x : Int) {K : Hp → Prop} (H : ∀ h', TrAg h' b S { t with nodes := x } A c → Fr S h h' → h'.size = h.size → K h') : HU Try.prog (Instr.storeAt 3 (.pointer (some ((⟨b, 0, none⟩ : Addr).add 4))) (.int .i64 x)) h K := by
  rw [add_eq0]
  refine HU_st (us := [.int .i64 x]) q.2.2.1 rfl (by kernel_rfl) (by simp [TT.enc]) rfl ?_
  have e : (t.enc A c).take 4 ++ [.int .i64 x] ++ (t.enc A c).drop (4 + [Value.int .i64 x].length) = ({ t with nodes := x } : TT).enc A c := rfl
  rw [e]
  have := q.put (t' := { t with nodes := x }) rfl (setB_get (lt_of_get q.2.2.1)) (setB_fr rfl)
  exact H _ this.1 this.2 setB_size
theorem TrAg.st_rooted {h : Hp} {b : Nat} {S : Nat → Prop} {t : TT} {A : Option Addr} {c : Nat} (q : TrAg h b S t A c) (x : Bool) {K : Hp → Prop} (H : ∀ h', TrAg h' b S { t with rooted := x } A c → Fr S h h' → h'.size = h.size → K h') : HU Try.prog (Instr.storeAt 4 (.pointer (some ((⟨b, 0, none⟩ : Addr).add 5))) (.bool x)) h K := by
  rw [add_eq0]
  refine HU_st (us := [.bool x]) q.2.2.1 rfl (by kernel_rfl) (by simp [TT.enc]) rfl ?_
  have e : (t.enc A c).take 5 ++ [.bool x] ++ (t.enc A c).drop (5 + [Value.bool x].length) = ({ t with rooted := x } : TT).enc A c := rfl
  rw [e]
  have := q.put (t' := { t with rooted := x }) rfl (setB_get (lt_of_get q.2.2.1)) (setB_fr rfl)
  exact H _ this.1 this.2 setB_size
/-- A part of a node is stored. -/
theorem TrAg.st_part {h : Hp} {b : Nat} {S : Nat → Prop} {t : TT} {A : Option Addr} {c : Nat} (q : TrAg h b S t A c) {i : Nat} {x x' : Node} (hi : t.ns[i]? = some x) {ty : TypeId} {v : Value} {us : List Value} {o : Nat} (hv : v.cells = us.toArray) (hsz : (Try.prog.info? ty).map (·.size) = some us.length) (hf : us.all flatV = true) (ho : o + us.length ≤ 4)
    (hx : x'.enc = x.enc.take o ++ us ++ x.enc.drop (o + us.length)) {K : Hp → Prop} (H : ∀ h', TrAg h' b S { t with ns := t.ns.set i x' } A c → Fr S h h' → h'.size = h.size → K h') :
    ∃ g, A = some ⟨g, 0, none⟩ ∧ HU Try.prog (Instr.storeAt ty (.pointer (some ⟨g, i * 4 + o, none⟩)) v) h K := by
  obtain ⟨hlt, hget⟩ := List.getElem?_eq_some_iff.1 hi
  obtain ⟨g, rest, hA, hb, hl, hcl⟩ := q.2.2.2.1.open Node.len (by omega)
  refine ⟨g, hA, ?_⟩
  have hX : ((t.ns.take i).flatMap Node.enc).length = i * 4 := by rw [flat_len Node.len]; simp; omega
  have hs1 : t.ns.flatMap Node.enc = (t.ns.take i).flatMap Node.enc ++ (x.enc ++ (t.ns.drop (i + 1)).flatMap Node.enc) := by
    have : t.ns = t.ns.take i ++ x :: t.ns.drop (i + 1) := by rw [← hget, ← List.drop_eq_getElem_cons hlt, List.take_append_drop]
    rw [this]
    simp
    rw [← this]
  have hs2 : t.ns.flatMap Node.enc ++ rest = (t.ns.take i).flatMap Node.enc ++ (x.enc ++ ((t.ns.drop (i + 1)).flatMap Node.enc ++ rest)) := by rw [hs1]; simp only [List.append_assoc]
  refine HU_st (us := us) hb hv hsz ?_ hf ?_
  · rw [hs2, List.length_append, List.length_append, hX, Node.len]
    omega
  · have e : (t.ns.flatMap Node.enc ++ rest).take (i * 4 + o) ++ us ++ (t.ns.flatMap Node.enc ++ rest).drop (i * 4 + o + us.length) = (t.ns.set i x').flatMap Node.enc ++ rest := by
      rw [List.set_eq_take_append_cons_drop, if_pos hlt, hs2]
      have d0 : ((t.ns.take i).flatMap Node.enc).drop (i * 4 + o + us.length) = [] := List.drop_of_length_le (by rw [hX]; omega)
      have d1 : ((t.ns.take i).flatMap Node.enc).take (i * 4 + o) = (t.ns.take i).flatMap Node.enc := List.take_of_length_le (by rw [hX]; omega)
      rw [List.take_append, List.drop_append, hX, d0, d1, show i * 4 + o - i * 4 = o by omega, show i * 4 + o + us.length - i * 4 = o + us.length by omega]
      rw [List.take_append_of_le_length (by rw [Node.len]; omega), List.drop_append_of_le_length (by rw [Node.len]; omega)]
      simp [hx]
    rw [e]
    have r := Row.shut (enc := Node.enc) (c := c) (xs := t.ns.set i x') (rest := rest) (E := 116) Node.len (setB_get (lt_of_get hb)) (by rw [← hl, List.length_append, List.length_append, flat_len Node.len, flat_len Node.len, List.length_set]) (by simpa using hcl)
    have := q.rows (ns := t.ns.set i x') (List.length_set ..) (by rw [hA]; exact r) (setB_fr ⟨_, hA, rfl⟩)
    exact H _ this.1 this.2 setB_size
/-- An index into a node's kids. -/
theorem ixA {a : Addr} {x : Int} (h0 : 0 ≤ x) (h1 : x < 2) : PV Try.prog (Instr.indexAt 114 (.pointer (some a)) (.int .i64 x)) (.pointer (some (a.add x.toNat))) := by
  intro w
  have hu : Try.prog.underlying 114 = some (.array 2 21) := by kernel_rfl
  obtain ⟨j, hj, hjs⟩ : ∃ j, Try.prog.info? 21 = some j ∧ j.size = 1 := ⟨_, rfl, rfl⟩
  simp [Instr.indexAt, asIntOf, run_underlying hu, Instr.sureAddr, h0, h1, sizeOf, typeInfo, hj, hjs]
/-- Down along a key. -/
def downI (ns : List Node) (w key n : Int) : Nat → Int → Int → Option (Int × Int)
  | 0, _, _ => none
  | f + 1, at_, i => if i < n then
      (if at_ < 0 ∨ (bitT w key i ≠ 0 ∧ bitT w key i ≠ 1) then none else match ns[at_.toNat]? with
        | none => none
        | some x => if x.kid (bitT w key i) = 0 then some (at_, i) else downI ns w key n f (x.kid (bitT w key i)) (i + 1))
    else some (at_, n)
theorem down_l1 {h : Hp} {b : Nat} {S : Nat → Prop} {t : TT} (q : TrAt h b S t) (hw : 0 ≤ t.width ∧ t.width ≤ 64) (key n : Int) (hn : n ≤ t.width) {r1 r2 : Int} {K0 K1 : Int → Int → Hp → Prop} (H0 : K0 r1 r2 h) (H1 : K1 r2 r1 h) :
    ∀ (f : Nat) (at_ i : Int), downI t.ns t.width key n f at_ i = some (r1, r2) → 0 ≤ i → trie_Trie_down_l1 (some ⟨b, 0, none⟩) key n n K0 K1 f at_ i h := by
  intro f
  obtain ⟨A, c, hc, hr⟩ := q.cl
  induction f with
  | zero => intro at_ i hd; cases hd
  | succ f ih =>
    intro at_ i hd hi
    unfold downI at hd
    unfold trie_Trie_down_l1
    by_cases hin : i < n
    · rw [if_pos hin] at hd
      refine br_t (by simpa using hin) ?_
      split at hd
      · cases hd
      · rename_i hbad
        cases hx : t.ns[at_.toNat]? with
        | none => rw [hx] at hd; cases hd
        | some x =>
          rw [hx] at hd
          simp only at hd
          have hat : 0 ≤ at_ := by omega
          obtain ⟨j, rfl⟩ := Int.eq_ofNat_of_zero_le hat
          rw [Int.toNat_natCast] at hx
          refine ⟨_, _, _, ld (hc.at_ 2 _ rfl) (by kernel_rfl), ?_⟩
          refine bit_s q hw key i ⟨hi, by omega⟩ ⟨_, rfl, ld (hc.at_ 2 _ rfl) (by kernel_rfl), ?_⟩
          obtain ⟨a, hs, hix, hcl⟩ := rd_node (c := c) (k := .i32) hr rfl hx
          refine ⟨_, hix, ?_⟩
          have hb01 : bitT t.width key i = 0 ∨ bitT t.width key i = 1 := by omega
          have hk : HV Try.prog (Instr.loadAt 21 (.pointer (some ((a.add (j * 4)).add (bitT t.width key i).toNat)))) h (.int .i32 (x.kid (bitT t.width key i))) := by
            rcases hb01 with e | e
            · rw [e]; exact ld (hcl.at_ 0 _ rfl) (by kernel_rfl)
            · rw [e]; exact ld (hcl.at_ 1 _ rfl) (by kernel_rfl)
          refine ⟨_, ixA (by omega) (by omega), _, hk, br_i (fun hz => ?_) (fun hz => ?_)⟩
          · rw [if_pos (by simpa using hz)] at hd
            injection hd with hd
            injection hd with e1 e2
            subst e1 e2
            exact H0
          · rw [if_neg (by simpa using hz)] at hd
            rw [wrap_in (by omega) (by omega)]
            exact ih _ _ hd (by omega)
    · rw [if_neg hin] at hd
      injection hd with hd
      injection hd with e1 e2
      subst e1 e2
      exact br_f (by simpa using hin) H1
def downT (t : TT) (key n : Int) : Option (Int × Int) := if t.rooted = true then downI t.ns t.width key n 40 0 0 else some (0, -1)
theorem down_s {h : Hp} {b : Nat} {S : Nat → Prop} {t : TT} (q : TrAt h b S t) (hw : 0 ≤ t.width ∧ t.width ≤ 64) (key n : Int) (hn : n ≤ t.width) {r1 r2 : Int} (hd : downT t key n = some (r1, r2)) {K : Value → Hp → Prop} (H : K (.tuple #[.int .i32 r1, .int .i64 r2]) h) : CallsH Try.prog 51 #[.pointer (some ⟨b, 0, none⟩), .int .u32 key, .int .i64 n] h K := by
  refine trie_Trie_down_ok _ _ _ ?_
  unfold trie_Trie_down
  obtain ⟨A, c, hc, hr⟩ := q.cl
  refine ⟨_, ld (hc.at_ 5 _ rfl) (by kernel_rfl), ?_⟩
  unfold downT at hd
  split at hd
  · rename_i hroot
    refine br_f (by rw [hroot]; rfl) ⟨40, ?_⟩
    exact down_l1 q hw key n hn H H 40 0 0 hd (by omega)
  · rename_i hroot
    injection hd with hd
    injection hd with e1 e2
    subst e1 e2
    exact br_t (by simpa using hroot) H
theorem TrAg.st_part' {h : Hp} {b : Nat} {S : Nat → Prop} {t : TT} {g c : Nat} (q : TrAg h b S t (some ⟨g, 0, none⟩) c) {i : Nat} {x x' : Node} (hi : t.ns[i]? = some x) {ty : TypeId} {v : Value} {us : List Value} {o : Nat} (hv : v.cells = us.toArray) (hsz : (Try.prog.info? ty).map (·.size) = some us.length) (hf : us.all flatV = true) (ho : o + us.length ≤ 4)
    (hx : x'.enc = x.enc.take o ++ us ++ x.enc.drop (o + us.length)) {K : Hp → Prop} (H : ∀ h', TrAg h' b S { t with ns := t.ns.set i x' } (some ⟨g, 0, none⟩) c → Fr S h h' → h'.size = h.size → K h') :
    HU Try.prog (Instr.storeAt ty (.pointer (some ⟨g, i * 4 + o, none⟩)) v) h K := by
  obtain ⟨g', e, H2⟩ := q.st_part hi hv hsz hf ho hx H
  injection e with e
  injection e with e
  subst e
  exact H2
theorem TrAg.blk_some {h : Hp} {b : Nat} {S : Nat → Prop} {t : TT} {A : Option Addr} {c : Nat} (q : TrAg h b S t A c) (h0 : 0 < t.ns.length) : ∃ g, A = some ⟨g, 0, none⟩ := by
  obtain ⟨g, rest, hA, _⟩ := q.2.2.2.1.open Node.len h0
  exact ⟨g, hA⟩
theorem ixN {g l c : Nat} {k : IntKind} {i : Nat} (h1 : i < l) : PV Try.prog (Instr.indexAt 108 (.slice (some ⟨g, 0, none⟩) l c) (.int k (i : Int))) (.pointer (some ⟨g, i * 4, none⟩)) := by
  have := ix (P := Try.prog) (T := 108) (E := 116) (a := ⟨g, 0, none⟩) (l := l) (c := c) (sz := 4) (k := k) (i := (i : Int)) (by omega) (by omega) und100 size108
  rw [Int.toNat_natCast, add_eq0] at this
  exact this
theorem TrAg.node {h : Hp} {b : Nat} {S : Nat → Prop} {t : TT} {g c : Nat} (q : TrAg h b S t (some ⟨g, 0, none⟩) c) {i : Nat} {x : Node} (hi : t.ns[i]? = some x) : Cl h ⟨g, i * 4, none⟩ x.enc := by
  have := q.2.2.2.1.read.elem (enc := Node.enc) Node.len hi rfl
  rw [add_eq0] at this
  exact this
theorem wrap32 {n : Int} (h0 : 0 ≤ n) (h1 : n < 2147483648) : IntKind.i32.wrap n = n := by
  simp [IntKind.wrap, IntKind.bits, IntKind.signed]
  split <;> omega
def zN : Node := ⟨0, 0, false, 0⟩
def giveT (t : TT) (i : Nat) : TT := { t with ns := t.ns.set i ⟨t.free, 0, false, 0⟩, free := i, nodes := t.nodes - 1 }
theorem give_s {h : Hp} {b : Nat} {S : Nat → Prop} {t : TT} (q : TrAt h b S t) {i : Nat} (hi : i < t.ns.length) (hn : 0 ≤ t.nodes ∧ t.nodes ≤ 2 ^ 62) {K : Value → Hp → Prop}
    (H : ∀ h', TrAt h' b S (giveT t i) → Fr S h h' → h'.size = h.size → K (.tuple #[]) h') : CallsH Try.prog 54 #[.pointer (some ⟨b, 0, none⟩), .int .i32 (i : Int)] h K := by
  refine trie_Trie_give_ok _ _ ?_
  unfold trie_Trie_give
  obtain ⟨A, c, qg⟩ := q.ag
  obtain ⟨g, rfl⟩ := qg.blk_some (by omega)
  refine ⟨_, ld (qg.cl.at_ 4 _ rfl) (by kernel_rfl), ?_⟩
  rw [wrap_in (by omega) (by omega)]
  refine qg.st_nodes _ fun h1 q1 f1 z1 => ?_
  refine ⟨_, _, _, ld (q1.cl.at_ 2 _ rfl) (by kernel_rfl), ?_⟩
  refine ⟨_, ld (q1.cl.at_ 3 _ rfl) (by kernel_rfl), ?_⟩
  refine ⟨_, ixN hi, ?_⟩
  refine q1.st_part' (i := i) (o := 0) (x := t.ns[i]) (x' := ⟨t.free, 0, false, 0⟩) (us := [.int .i32 t.free, .int .i32 0, .bool false, .int .i64 0]) (List.getElem?_eq_getElem hi) rfl (by kernel_rfl) rfl (by simp) rfl fun h2 q2 f2 z2 => ?_
  refine q2.st_free _ fun h3 q3 f3 z3 => ?_
  exact H h3 q3.at_ ((f1.trans f2).trans f3) (by omega)
def takeT (t : TT) : Option (Int × TT) := if t.free > 0 then (match t.ns[t.free.toNat]? with
    | none => none
    | some x => some (t.free, { t with nodes := t.nodes + 1, free := x.k0, ns := t.ns.set t.free.toNat zN }))
  else some (t.ns.length, { t with nodes := t.nodes + 1, ns := t.ns ++ [zN] })
theorem TrAg.st_slice {h h0 : Hp} {b : Nat} {S : Nat → Prop} {t : TT} {A : Option Addr} {c : Nat} (q : TrAg h b S t A c) {ns : List Node} {g c' : Nat} (hb : h0[b]? = some (.cells (t.enc A c).toArray 110 (0, 0))) (hr : RowN h0 (some ⟨g, 0, none⟩) c' ns) (hgb : g ≠ b) (f0 : Fr S h h0) {K : Hp → Prop} 
    (H : ∀ h', TrAg h' b (fun k => S k ∨ k = g) { t with ns := ns } (some ⟨g, 0, none⟩) c' → Fr S h h' → K h') (hg : g < h0.size) : HU Try.prog (Instr.storeAt 108 (.pointer (some ((⟨b, 0, none⟩ : Addr).add 2))) (.slice (some ⟨g, 0, none⟩) ns.length c')) h0 K := by
  rw [add_eq0]
  refine HU_st (us := [.slice (some ⟨g, 0, none⟩) ns.length c']) hb rfl (by kernel_rfl) (by simp [TT.enc]) rfl ?_
  have e : (t.enc A c).take 2 ++ [.slice (some ⟨g, 0, none⟩) ns.length c'] ++ (t.enc A c).drop (2 + [Value.slice (some ⟨g, 0, none⟩) ns.length c'].length) = ({ t with ns := ns } : TT).enc (some ⟨g, 0, none⟩) c' := rfl
  rw [e]
  obtain ⟨h1, h2, h3, h4, h5, h6⟩ := q
  have f1 := setB_fr (h := h0) (S := fun k => k = b) (b := b) (cs := ({ t with ns := ns } : TT).enc (some ⟨g, 0, none⟩) c') (T := 110) rfl
  have hbl : ∀ k, blk (some ⟨g, 0, none⟩) k → k = g := by rintro k ⟨a, ha, rfl⟩; injection ha with ha; subst ha; rfl
  refine H _ ⟨.inl h1, ?_, setB_get (lt_of_get hb), hr.keep f1 (fun k hk e => hgb ((hbl k hk).symm.trans e)), fun k hk => .inr (hbl k hk), fun hk => hgb (hbl b hk).symm⟩ (f0.trans (f1.mono fun k hk => hk ▸ h1))
  rintro k (hk | hk)
  · rw [setB_size]; exact Nat.lt_of_lt_of_le (h2 k hk) f0.size
  · rw [setB_size]; omega
theorem take_s {h : Hp} {b : Nat} {S : Nat → Prop} {t t' : TT} {r : Int} (q : TrAt h b S t) (ht : takeT t = some (r, t')) (hn : 0 ≤ t.nodes ∧ t.nodes ≤ 2 ^ 62) (hl : t.ns.length ≤ 2000000) {K : Value → Hp → Prop}
    (H : ∀ h' S', TrAt h' b S' t' → (∀ k, S' k → S k ∨ h.size ≤ k) → Fr S h h' → K (.int .i32 r) h') : CallsH Try.prog 52 #[.pointer (some ⟨b, 0, none⟩)] h K := by
  refine trie_Trie_take_ok _ ?_
  unfold trie_Trie_take
  obtain ⟨A, c, qg⟩ := q.ag
  refine ⟨_, ld (qg.cl.at_ 4 _ rfl) (by kernel_rfl), ?_⟩
  rw [wrap_in (by omega) (by omega)]
  refine qg.st_nodes _ fun h1 q1 f1 z1 => ?_
  refine ⟨_, ld (q1.cl.at_ 3 _ rfl) (by kernel_rfl), ?_⟩
  unfold takeT at ht
  by_cases hf : t.free > 0
  · rw [if_pos hf] at ht
    refine br_t (by simpa using hf) ?_
    obtain ⟨fr, hfr⟩ := Int.eq_ofNat_of_zero_le (a := t.free) (by omega)
    cases hx : t.ns[fr]? with
    | none => rw [hfr, Int.toNat_natCast, hx] at ht; cases ht
    | some x =>
      rw [hfr, Int.toNat_natCast, hx] at ht
      injection ht with ht
      injection ht with e1 e2
      have hlt := (List.getElem?_eq_some_iff.1 hx).1
      obtain ⟨g, rfl⟩ := qg.blk_some (by omega)
      have hfv : HV Try.prog (Instr.loadAt 21 (.pointer (some ((⟨b, 0, none⟩ : Addr).add 3)))) h1 (.int .i32 (fr : Int)) := hfr ▸ ld (q1.cl.at_ 3 _ rfl) (by kernel_rfl)
      refine ⟨_, hfv, ?_⟩
      refine ⟨_, _, _, ld (q1.cl.at_ 2 _ rfl) (by kernel_rfl), ?_⟩
      refine ⟨_, ixN hlt, _, ixA (by omega) (by omega), ?_⟩
      refine ⟨_, ld ((q1.node (i := fr) hx).at_ 0 _ rfl) (by kernel_rfl), ?_⟩
      refine q1.st_free _ fun h2 q2 f2 z2 => ?_
      refine ⟨_, _, _, ld (q2.cl.at_ 2 _ rfl) (by kernel_rfl), ?_⟩
      refine ⟨_, ixN hlt, ?_⟩
      refine q2.st_part' (i := fr) (o := 0) (x := x) (x' := zN) (us := zN.enc) hx rfl (by kernel_rfl) rfl (by decide) rfl fun h3 q3 f3 z3 => ?_
      rw [e1]
      exact H h3 S (e2 ▸ q3.at_) (fun k hk => .inl hk) ((f1.trans f2).trans f3)
  · rw [if_neg hf] at ht
    injection ht with ht
    injection ht with e1 e2
    refine br_f (by simpa using hf) ?_
    refine ⟨_, _, _, ld (q1.cl.at_ 2 _ rfl) (by kernel_rfl), ?_⟩
    refine newC_i (cs := zN.enc) fun h2 e2x c2 b2 z2 => ?_
    obtain ⟨i, z, hi, hisz, hiby, hiby0, hiz, hzc⟩ := info108
    have q1' := q1
    obtain ⟨g1, g2, g3, g4, g5, g6⟩ := q1'
    have hb2 := (e2x.fr (fun _ => False)).get g3 (fun h => h)
    have hr2 := g4.keep (e2x.fr (fun _ => False)) (fun _ _ h => h)
    refine HW_append1 (enc := Node.enc) (xs := t.ns) (x := zN) Node.len Node.flat und100 hi hiz (by rw [hzc]; rfl) hisz hiby0 hr2 c2 ?_ ?_
    · have : (2 * (t.ns.length + 1) + 768) * i.bytes ≤ (2 * (t.ns.length + 1) + 768) * 100 := Nat.mul_le_mul_left _ hiby
      omega
    intro h3 g c3 hr3 hg f3
    have hgb : g ≠ b := by
      rcases hg with hg | hg
      · intro e; subst e; exact g6 hg
      · have := g2 b g1; have := e2x.size; omega
    have hb3 := f3.get hb2 g6
    have hglt : g < h3.size := by
      obtain ⟨g', rest, hA, hb, _⟩ := hr3.open Node.len (by simp)
      injection hA with hA
      injection hA with hA
      subst hA
      exact lt_of_get hb
    refine ⟨_, _, _, rfl, ?_⟩
    have hlen1 : (t.ns ++ [zN]).length = t.ns.length + 1 := by simp
    rw [← hlen1]
    refine q1.st_slice hb3 hr3 hgb ((e2x.fr _).trans (f3.mono g5)) (fun h4 q4 f4 => ?_) hglt
    refine ⟨_, _, _, ld (q4.cl.at_ 2 _ rfl) (by kernel_rfl), ?_⟩
    have hw : IntKind.i32.wrap (IntKind.i64.wrap (((t.ns ++ [zN]).length : Int) - 1)) = r := by
      rw [hlen1, wrap_in (by omega) (by omega), wrap32 (by omega) (by omega), ← e1]
      omega
    show K (.int .i32 (IntKind.i32.wrap (IntKind.i64.wrap (((t.ns ++ [zN]).length : Int) - 1)))) h4
    rw [hw]
    refine H h4 _ (e2 ▸ q4.at_) ?_ (f1.trans f4)
    rintro k (hk | hk)
    · exact .inl hk
    · rcases hg with hg | hg
      · exact .inl (hk ▸ g5 g hg)
      · refine .inr ?_
        have := f1.size
        have := e2x.size
        omega
/-- The trie at b has come to t'. -/
def To (h : Hp) (S : Nat → Prop) (b : Nat) (t' : TT) (h' : Hp) : Prop := ∃ S', TrAt h' b S' t' ∧ (∀ k, S' k → S k ∨ h.size ≤ k) ∧ Fr S h h'
theorem To.refl {h : Hp} {S : Nat → Prop} {b : Nat} {t : TT} (q : TrAt h b S t) : To h S b t h := ⟨S, q, fun k hk => .inl hk, Fr.refl _ _⟩
theorem To.then_ {h h1 h2 : Hp} {S S1 : Nat → Prop} {b : Nat} {t : TT} (T : To h1 S1 b t h2) (s : ∀ k, S1 k → S k ∨ h.size ≤ k) (f : Fr S h h1) : To h S b t h2 := by
  obtain ⟨S2, q, s2, f2⟩ := T
  refine ⟨S2, q, fun k hk => ?_, f.then_ f2 s⟩
  rcases s2 k hk with hk | hk
  · exact s k hk
  · have := f.size
    exact .inr (by omega)
def getT (t : TT) (key n : Int) : Option (Int × Bool) := if mayT t.width key n = true then (match downT t key n with
    | none => none
    | some (at_, i) => if i < n then some (0, false) else if at_ < 0 then none else match t.ns[at_.toNat]? with
      | none => none
      | some x => if x.held = true then some (x.v, true) else some (0, false))
  else some (0, false)
theorem mayT_le {w key n : Int} (h : mayT w key n = true) : 0 ≤ n ∧ n ≤ w := by
  unfold mayT at h
  simp only [Bool.and_eq_true, decide_eq_true_eq] at h
  omega
theorem get_s {h : Hp} {b : Nat} {S : Nat → Prop} {t : TT} (q : TrAt h b S t) (hw : 0 ≤ t.width ∧ t.width ≤ 64) (key n : Int) {r : Int} {o : Bool} (hg : getT t key n = some (r, o)) {K : Value → Hp → Prop} (H : K (.tuple #[.int .i64 r, .bool o]) h) : CallsH Try.prog 29 #[.pointer (some ⟨b, 0, none⟩), .int .u32 key, .int .i64 n] h K := by
  refine trie_Trie_Get_ok _ _ _ ?_
  unfold trie_Trie_Get
  refine ⟨_, eqNil eq32, br_f rfl ?_⟩
  unfold getT at hg
  refine may_s q hw.1 key n ⟨_, rfl, ?_⟩
  by_cases hm : mayT t.width key n = true
  · rw [if_pos hm] at hg
    refine br_f (by rw [hm]; rfl) ?_
    unfold trie_Trie_Get_j1
    cases hd : downT t key n with
    | none => rw [hd] at hg; cases hg
    | some p =>
      obtain ⟨at_, i⟩ := p
      rw [hd] at hg
      simp only at hg
      refine down_s q hw key n (mayT_le hm).2 hd ⟨_, _, rfl, ?_⟩
      by_cases hin : i < n
      · rw [if_pos hin] at hg
        injection hg with hg
        injection hg with e1 e2
        subst e1 e2
        exact br_t (by simpa using hin) H
      · rw [if_neg hin] at hg
        refine br_f (by simpa using hin) ?_
        by_cases h0 : at_ < 0
        · rw [if_pos h0] at hg; cases hg
        · rw [if_neg h0] at hg
          obtain ⟨j, rfl⟩ := Int.eq_ofNat_of_zero_le (a := at_) (by omega)
          rw [Int.toNat_natCast] at hg
          cases hx : t.ns[j]? with
          | none => rw [hx] at hg; cases hg
          | some x =>
            rw [hx] at hg
            simp only at hg
            obtain ⟨A, c, qg⟩ := q.ag
            have hlt := (List.getElem?_eq_some_iff.1 hx).1
            obtain ⟨g, rfl⟩ := qg.blk_some (by omega)
            refine ⟨_, _, _, ld (qg.cl.at_ 2 _ rfl) (by kernel_rfl), ?_⟩
            refine ⟨_, ixN hlt, _, ld ((qg.node hx).at_ 2 _ rfl) (by kernel_rfl), ?_⟩
            cases hh : x.held with
            | false =>
              rw [hh, if_neg (by simp)] at hg
              injection hg with hg
              injection hg with e1 e2
              subst e1 e2
              exact br_t rfl H
            | true =>
              rw [hh, if_pos rfl] at hg
              injection hg with hg
              injection hg with e1 e2
              subst e1 e2
              refine br_f rfl ?_
              refine ⟨_, _, _, ld (qg.cl.at_ 2 _ rfl) (by kernel_rfl), ?_⟩
              exact ⟨_, ixN hlt, _, ld ((qg.node hx).at_ 3 _ rfl) (by kernel_rfl), H⟩
  · rw [if_neg hm] at hg
    injection hg with hg
    injection hg with e1 e2
    subst e1 e2
    exact br_t (by simpa using hm) H
def Node.setKid (x : Node) (b r : Int) : Node := if b = 0 then { x with k0 := r } else { x with k1 := r }
def loopP (key n v : Int) : Nat → Int → Int → TT → Option TT
  | 0, _, _, _ => none
  | f + 1, at_, i, t =>
    if i < n then
      (if 0 ≤ t.nodes ∧ t.nodes ≤ 2 ^ 62 ∧ t.ns.length ≤ 2000000 ∧ 0 ≤ at_ ∧ (bitT t.width key i = 0 ∨ bitT t.width key i = 1) then
        (match takeT t with
        | none => none
        | some (r, t1) => match t1.ns[at_.toNat]? with
          | none => none
          | some x => loopP key n v f r (i + 1) { t1 with ns := t1.ns.set at_.toNat (x.setKid (bitT t.width key i) r) })
      else none)
    else if at_ < 0 then none else match t.ns[at_.toNat]? with
      | none => none
      | some x => some { t with ns := t.ns.set at_.toNat { x with held := true, v := v } }
theorem take_width {t t' : TT} {r : Int} (h : takeT t = some (r, t')) : t'.width = t.width := by
  unfold takeT at h
  split at h
  · split at h
    · cases h
    · injection h with h; injection h with _ h; rw [← h]
  · injection h with h; injection h with _ h; rw [← h]
theorem putEnd_s {h : Hp} {b : Nat} {S : Nat → Prop} {t : TT} (q : TrAt h b S t) (v : Int) {j : Nat} {x : Node} (hx : t.ns[j]? = some x) {K0 : Int → Hp → Prop} (H : ∀ h', To h S b { t with ns := t.ns.set j { x with held := true, v := v } } h' → K0 0 h') :
    drf (some ⟨b, 0, none⟩) fun a170 =>
  ∃ A171 : Option Addr, ∃ l171 : Nat, ∃ c171 : Nat, HV Try.prog (Instr.loadAt 108 (.pointer (some (a170.add 2)))) h (.slice A171 l171 c171) ∧ 
  drf (some ⟨b, 0, none⟩) fun a172 =>
  ∃ A173 : Option Addr, ∃ l173 : Nat, ∃ c173 : Nat, HV Try.prog (Instr.loadAt 108 (.pointer (some (a172.add 2)))) h (.slice A173 l173 c173) ∧ 
  ∃ a174 : Addr, PV Try.prog (Instr.indexAt 108 (.slice A171 l171 c171) (.int .i32 (j : Int))) (.pointer (some a174)) ∧
  HU Try.prog (Instr.storeAt 4 (.pointer (some (a174.add 2))) (.bool true)) h fun h175 => 
  ∃ a176 : Addr, PV Try.prog (Instr.indexAt 108 (.slice A173 l173 c173) (.int .i32 (j : Int))) (.pointer (some a176)) ∧
  HU Try.prog (Instr.storeAt 3 (.pointer (some (a176.add 3))) (.int .i64 v)) h175 fun h177 => 
  K0 0 h177 := by
  obtain ⟨A, c, qg⟩ := q.ag
  have hlt := (List.getElem?_eq_some_iff.1 hx).1
  obtain ⟨g, rfl⟩ := qg.blk_some (by omega)
  refine ⟨_, _, _, ld (qg.cl.at_ 2 _ rfl) (by kernel_rfl), ?_⟩
  refine ⟨_, _, _, ld (qg.cl.at_ 2 _ rfl) (by kernel_rfl), ?_⟩
  refine ⟨_, ixN hlt, ?_⟩
  rw [add_off rfl]
  refine qg.st_part' (i := j) (o := 2) (x := x) (x' := { x with held := true }) (us := [.bool true]) hx rfl (by kernel_rfl) rfl (by decide) rfl fun h1 q1 f1 z1 => ?_
  refine ⟨_, ixN hlt, ?_⟩
  rw [add_off rfl]
  refine q1.st_part' (i := j) (o := 3) (x := { x with held := true }) (x' := { x with held := true, v := v }) (us := [.int .i64 v]) (by simp [hlt]) rfl (by kernel_rfl) rfl (by simp) rfl fun h2 q2 f2 z2 => ?_
  refine H h2 ⟨S, ?_, fun k hk => .inl hk, f1.trans f2⟩
  have := q2.at_
  simpa using this
theorem loopP_s (key n v : Int) {K0 : Int → Hp → Prop} {t' : TT} :
    ∀ (f : Nat) (at_ i : Int) (t : TT) (h : Hp) (S : Nat → Prop) (b : Nat), TrAt h b S t → 0 ≤ t.width ∧ t.width ≤ 64 → n ≤ t.width → loopP key n v f at_ i t = some t' → 0 ≤ i → (∀ h', To h S b t' h' → K0 0 h') →
    trie_Trie_Put_l4 (some ⟨b, 0, none⟩) key n v (fun (p166 : Option Addr) (x167 : Int) (x168 : Int) (h169 : Hp) =>
  drf p166 fun a170 =>
  ∃ A171 : Option Addr, ∃ l171 : Nat, ∃ c171 : Nat, HV Try.prog (Instr.loadAt 108 (.pointer (some (a170.add 2)))) h169 (.slice A171 l171 c171) ∧ 
  drf p166 fun a172 =>
  ∃ A173 : Option Addr, ∃ l173 : Nat, ∃ c173 : Nat, HV Try.prog (Instr.loadAt 108 (.pointer (some (a172.add 2)))) h169 (.slice A173 l173 c173) ∧ 
  ∃ a174 : Addr, PV Try.prog (Instr.indexAt 108 (.slice A171 l171 c171) (.int .i32 x168)) (.pointer (some a174)) ∧
  HU Try.prog (Instr.storeAt 4 (.pointer (some (a174.add 2))) (.bool true)) h169 fun h175 => 
  ∃ a176 : Addr, PV Try.prog (Instr.indexAt 108 (.slice A173 l173 c173) (.int .i32 x168)) (.pointer (some a176)) ∧
  HU Try.prog (Instr.storeAt 3 (.pointer (some (a176.add 3))) (.int .i64 x167)) h175 fun h177 => 
  K0 0 h177) f at_ i h := by
  intro f
  induction f with
  | zero => intro at_ i t h S b q hw hn hl; cases hl
  | succ f ih =>
    intro at_ i t h S b q hw hn hl hi H
    unfold loopP at hl
    unfold trie_Trie_Put_l4
    by_cases hin : i < n
    · rw [if_pos hin] at hl
      refine br_t (by simpa using hin) ?_
      split at hl
      · rename_i hg
        obtain ⟨g1, g2, g3, g4, g5⟩ := hg
        cases ht : takeT t with
        | none => rw [ht] at hl; cases hl
        | some p =>
          obtain ⟨r, t1⟩ := p
          rw [ht] at hl
          simp only at hl
          obtain ⟨j, rfl⟩ := Int.eq_ofNat_of_zero_le g4
          rw [Int.toNat_natCast] at hl
          cases hx : t1.ns[j]? with
          | none => rw [hx] at hl; cases hl
          | some x =>
            rw [hx] at hl
            simp only at hl
            have hw1 := take_width ht
            refine take_s q ht ⟨g1, g2⟩ g3 fun h1 S1 q1 s1 f1 => ⟨_, rfl, ?_⟩
            obtain ⟨A, c, qg⟩ := q1.ag
            have hlt := (List.getElem?_eq_some_iff.1 hx).1
            obtain ⟨g, rfl⟩ := qg.blk_some (by omega)
            refine ⟨_, _, _, ld (qg.cl.at_ 2 _ rfl) (by kernel_rfl), ?_⟩
            refine bit_s q1 (by rw [hw1]; exact hw) key i ⟨hi, by omega⟩ ⟨_, rfl, ld (qg.cl.at_ 2 _ rfl) (by kernel_rfl), ?_⟩
            refine ⟨_, ixN hlt, ?_⟩
            rw [hw1]
            refine ⟨_, ixA (by omega) (by omega), ?_⟩
            rw [add_off rfl, wrap_in (by omega) (by omega)]
            have go : ∀ h2, TrAg h2 b S1 { t1 with ns := t1.ns.set j (x.setKid (bitT t.width key i) r) } (some ⟨g, 0, none⟩) c → Fr S1 h1 h2 → h2.size = h1.size → trie_Trie_Put_l4 (some ⟨b, 0, none⟩) key n v _ f r (i + 1) h2 := fun h2 q2 f2 z2 =>
              ih r (i + 1) _ h2 S1 b q2.at_ (by simpa [hw1] using hw) (by simpa [hw1] using hn) hl (by omega) (fun h3 T => H h3 ((T.then_ (fun k hk => .inl hk) f2).then_ s1 f1))
            rcases g5 with e | e
            · rw [e] at go ⊢
              exact qg.st_part' (i := j) (o := 0) (x := x) (x' := x.setKid 0 r) (us := [.int .i32 r]) hx rfl (by kernel_rfl) rfl (by simp) rfl go
            · rw [e] at go ⊢
              exact qg.st_part' (i := j) (o := 1) (x := x) (x' := x.setKid 1 r) (us := [.int .i32 r]) hx rfl (by kernel_rfl) rfl (by simp) rfl go
      · cases hl
    · rw [if_neg hin] at hl
      refine br_f (by simpa using hin) ?_
      by_cases h0 : at_ < 0
      · rw [if_pos h0] at hl; cases hl
      · rw [if_neg h0] at hl
        obtain ⟨j, rfl⟩ := Int.eq_ofNat_of_zero_le (a := at_) (by omega)
        rw [Int.toNat_natCast] at hl
        cases hx : t.ns[j]? with
        | none => rw [hx] at hl; cases hl
        | some x =>
          rw [hx] at hl
          simp only at hl
          injection hl with hl
          exact putEnd_s q v hx (fun h' T => H h' (hl ▸ T))
theorem TrAg.grow {h1 : Hp} {b : Nat} {S : Nat → Prop} {t : TT} {A : Option Addr} {c : Nat} (q1 : TrAg h1 b S t A c) (hl : t.ns.length ≤ 2000000) {K : Hp → Prop}
    (H : ∀ h', To h1 S b { t with ns := t.ns ++ [zN] } h' → K h') :
  newC h1 (.cells #[(.int .i32 0), (.int .i32 0), (.bool false), (.int .i64 0)] 116 (0, 0)) fun a226 h225 => 
  HW Try.prog (Builtin.append_ #[108, 108] 108 #[(.slice A t.ns.length c), (.slice (some a226) 1 1)]) h225 fun r228 h227 =>
  ∃ A229 : Option Addr, ∃ l229 : Nat, ∃ c229 : Nat, r228 = (.slice A229 l229 c229) ∧ 
  drf (some ⟨b, 0, none⟩) fun a230 =>
  HU Try.prog (Instr.storeAt 108 (.pointer (some (a230.add 2))) (.slice A229 l229 c229)) h227 K := by
    refine newC_i (cs := zN.enc) fun h2 e2x c2 b2 z2 => ?_
    obtain ⟨i, z, hi, hisz, hiby, hiby0, hiz, hzc⟩ := info108
    have q1' := q1
    obtain ⟨g1, g2, g3, g4, g5, g6⟩ := q1'
    have hb2 := (e2x.fr (fun _ => False)).get g3 (fun h => h)
    have hr2 := g4.keep (e2x.fr (fun _ => False)) (fun _ _ h => h)
    refine HW_append1 (enc := Node.enc) (xs := t.ns) (x := zN) Node.len Node.flat und100 hi hiz (by rw [hzc]; rfl) hisz hiby0 hr2 c2 ?_ ?_
    · have : (2 * (t.ns.length + 1) + 768) * i.bytes ≤ (2 * (t.ns.length + 1) + 768) * 100 := Nat.mul_le_mul_left _ hiby
      omega
    intro h3 g c3 hr3 hg f3
    have hgb : g ≠ b := by
      rcases hg with hg | hg
      · intro e; subst e; exact g6 hg
      · have := g2 b g1; have := e2x.size; omega
    have hb3 := f3.get hb2 g6
    have hglt : g < h3.size := by
      obtain ⟨g', rest, hA, hb, _⟩ := hr3.open Node.len (by simp)
      injection hA with hA
      injection hA with hA
      subst hA
      exact lt_of_get hb
    refine ⟨_, _, _, rfl, ?_⟩
    have hlen1 : (t.ns ++ [zN]).length = t.ns.length + 1 := by simp
    rw [← hlen1]
    refine q1.st_slice hb3 hr3 hgb ((e2x.fr _).trans (f3.mono g5)) (fun h4 q4 f4 => ?_) hglt
    refine H h4 ⟨_, q4.at_, ?_, f4⟩
    rintro k (hk | hk)
    · exact .inl hk
    · rcases hg with hg | hg
      · exact .inl (hk ▸ g5 g hg)
      · refine .inr ?_
        have := e2x.size
        omega
def rootT (t : TT) : TT := { t with ns := (if t.ns.length = 0 then t.ns ++ [zN] else t.ns).set 0 zN, rooted := true, nodes := t.nodes + 1 }
def putT (f : Nat) (t : TT) (key n v : Int) : Option (Int × TT) := if mayT t.width key n = true then (match downT t key n with
    | none => none
    | some (at_, i) =>
      if 0 ≤ t.nodes ∧ t.nodes ≤ 2 ^ 60 ∧ t.ns.length ≤ 2000000 ∧ -1 ≤ i ∧ i ≤ n then
        (if t.nodes + n - i > t.most then some (122, t)
        else if i < 0 then (loopP key n v f at_ 0 (rootT t)).map fun t' => (0, t')
        else (loopP key n v f at_ i t).map fun t' => (0, t'))
      else none)
  else some (120, t)
theorem j5_s {h : Hp} {b : Nat} {S : Nat → Prop} {t : TT} (q : TrAt h b S t) (hn : 0 ≤ t.nodes ∧ t.nodes ≤ 2 ^ 62) (hl : 0 < t.ns.length) (key n v at_ : Int) {K0 : Option Addr → Int → Int → Int → Int → Int → Hp → Prop}
    (H : ∀ h', To h S b { t with ns := t.ns.set 0 zN, rooted := true, nodes := t.nodes + 1 } h' → K0 (some ⟨b, 0, none⟩) key n v at_ 0 h') : trie_Trie_Put_j5 K0 (some ⟨b, 0, none⟩) key n v at_ h := by
  unfold trie_Trie_Put_j5
  obtain ⟨A, c, qg⟩ := q.ag
  obtain ⟨g, rfl⟩ := qg.blk_some hl
  refine ⟨_, _, _, ld (qg.cl.at_ 2 _ rfl) (by kernel_rfl), ?_⟩
  refine ⟨_, ixN (i := 0) hl, ?_⟩
  refine qg.st_part' (i := 0) (o := 0) (x := t.ns[0]) (x' := zN) (us := zN.enc) (List.getElem?_eq_getElem hl) rfl (by kernel_rfl) rfl (by decide) rfl fun h1 q1 f1 z1 => ?_
  refine q1.st_rooted _ fun h2 q2 f2 z2 => ?_
  refine ⟨_, ld (q2.cl.at_ 4 _ rfl) (by kernel_rfl), ?_⟩
  rw [wrap_in (by have := hn.1; show _ ≤ t.nodes + 1; omega) (by have := hn.2; show t.nodes + 1 ≤ _; omega)]
  refine q2.st_nodes _ fun h3 q3 f3 z3 => ?_
  exact H h3 ⟨S, q3.at_, fun k hk => .inl hk, (f1.trans f2).trans f3⟩
theorem put_s {h : Hp} {b : Nat} {S : Nat → Prop} {f : Nat} {t t' : TT} {r : Int} (q : TrAt h b S t) (hw : 0 ≤ t.width ∧ t.width ≤ 64) (key n v : Int) (hp : putT f t key n v = some (r, t')) {K : Value → Hp → Prop} (H : ∀ h', To h S b t' h' → K (.int .i64 r) h') : CallsH Try.prog 31 #[.pointer (some ⟨b, 0, none⟩), .int .u32 key, .int .i64 n, .int .i64 v] h K := by
  refine trie_Trie_Put_ok _ _ _ _ ?_
  unfold trie_Trie_Put
  refine ⟨_, eqNil eq32, br_f rfl ?_⟩
  unfold putT at hp
  refine may_s q hw.1 key n ⟨_, rfl, ?_⟩
  by_cases hm : mayT t.width key n = true
  · rw [if_pos hm] at hp
    have hnw := mayT_le hm
    refine br_f (by rw [hm]; rfl) ?_
    cases hd : downT t key n with
    | none => rw [hd] at hp; cases hp
    | some p =>
      obtain ⟨at_, i⟩ := p
      rw [hd] at hp
      simp only at hp
      refine down_s q hw key n hnw.2 hd ⟨_, _, rfl, ?_⟩
      split at hp
      · rename_i hg
        obtain ⟨g1, g2, g3, g4, g5⟩ := hg
        obtain ⟨A, c, qg⟩ := q.ag
        refine ⟨_, ld (qg.cl.at_ 4 _ rfl) (by kernel_rfl), ?_⟩
        refine ⟨_, ld (qg.cl.at_ 1 _ rfl) (by kernel_rfl), ?_⟩
        rw [wrap_in (n := t.nodes + n) (by omega) (by omega), wrap_in (by omega) (by omega)]
        by_cases hmost : t.nodes + n - i > t.most
        · rw [if_pos hmost] at hp
          injection hp with hp
          injection hp with e1 e2
          subst e1 e2
          exact br_t (by simpa using hmost) (H _ (To.refl q))
        · rw [if_neg hmost] at hp
          refine br_f (by simpa using hmost) ?_
          by_cases hi : i < 0
          · rw [if_pos hi] at hp
            refine br_t (by simpa using hi) ?_
            cases hlp : loopP key n v f at_ 0 (rootT t) with
            | none => rw [hlp] at hp; cases hp
            | some t2 =>
              rw [hlp] at hp
              injection hp with hp
              injection hp with e1 e2
              subst e1 e2
              refine ⟨_, _, _, ld (qg.cl.at_ 2 _ rfl) (by kernel_rfl), ?_⟩
              refine br_i (fun h0 => ?_) (fun h0 => ?_)
              · have h0' : t.ns.length = 0 := by simpa using h0
                refine ⟨_, _, _, ld (qg.cl.at_ 2 _ rfl) (by kernel_rfl), ?_⟩
                refine qg.grow g3 fun h1 T1 => ?_
                obtain ⟨S1, q1, s1, f1⟩ := T1
                refine j5_s q1 ⟨g1, by show t.nodes ≤ _; omega⟩ (by simp) key n v at_ fun h2 T2 => ?_
                obtain ⟨S2, q2, s2, f2⟩ := T2
                have ert : rootT t = { ({ t with ns := t.ns ++ [zN] } : TT) with ns := (t.ns ++ [zN]).set 0 zN, rooted := true, nodes := t.nodes + 1 } := by
                  unfold rootT
                  rw [if_pos h0']
                rw [ert] at hlp
                refine ⟨f, ?_⟩
                exact loopP_s (K0 := fun x h' => K (.int .i64 x) h') key n v f at_ 0 _ h2 S2 b q2 hw hnw.2 hlp (by omega) fun h3 T3 => H h3 ((T3.then_ s2 f2).then_ s1 f1)
              · have h0' : t.ns.length ≠ 0 := by simpa using h0
                refine j5_s q ⟨g1, by omega⟩ (by omega) key n v at_ fun h2 T2 => ?_
                obtain ⟨S2, q2, s2, f2⟩ := T2
                have ert : rootT t = { t with ns := t.ns.set 0 zN, rooted := true, nodes := t.nodes + 1 } := by
                  unfold rootT
                  rw [if_neg h0']
                rw [ert] at hlp
                refine ⟨f, ?_⟩
                exact loopP_s (K0 := fun x h' => K (.int .i64 x) h') key n v f at_ 0 _ h2 S2 b q2 hw hnw.2 hlp (by omega) fun h3 T3 => H h3 (T3.then_ s2 f2)
          · rw [if_neg hi] at hp
            refine br_f (by simpa using hi) ?_
            cases hlp : loopP key n v f at_ i t with
            | none => rw [hlp] at hp; cases hp
            | some t2 =>
              rw [hlp] at hp
              injection hp with hp
              injection hp with e1 e2
              subst e1 e2
              refine ⟨f, ?_⟩
              exact loopP_s (K0 := fun x h' => K (.int .i64 x) h') key n v f at_ i _ h S b q hw hnw.2 hlp (by omega) fun h3 T3 => H h3 T3
      · cases hp
  · rw [if_neg hm] at hp
    injection hp with hp
    injection hp with e1 e2
    subst e1 e2
    exact br_t (by simpa using hm) (H _ (To.refl q))
theorem ne106 (x y : Int) : PV Try.prog (binOp .neq 114 (.agg #[.int .i32 x, .int .i32 y]) (.agg #[.int .i32 0, .int .i32 0])) (.bool (!(decide (x = 0 ∧ y = 0)))) := by
  intro w
  have hu : Try.prog.underlying 114 = some (.array 2 21) := by kernel_rfl
  have h21 : Try.prog.underlying 21 = some (.int .i32) := by kernel_rfl
  obtain ⟨j, hj, hjs⟩ : ∃ j, Try.prog.info? 21 = some j ∧ j.size = 1 := ⟨_, rfl, rfl⟩
  have hco : Try.prog.cellsOf 21 = 1 := by kernel_rfl
  have hr : List.range 2 = [0, 1] := rfl
  have hp : ∀ (xs : Array Value) (o : Nat) (a : Int), xs[o]? = some (.int .i32 a) → (part 21 xs o).run Try.prog w = .ok (.int .i32 a) w := by
    intro xs o a h
    have hb : scB Try.prog 21 = true := by kernel_rfl
    simp [part, h, go_sem, hj, hjs, h21]
  rw [run_neq_struct, run_equalIn_array w 9999 _ _ hu hj, hco, hr]
  simp only [Op.eqItems, Sem.run_bind]
  rw [hp _ _ x (by simp), Result.andThen_ok, hp _ _ 0 (by simp), Result.andThen_ok, run_equalIn_int w 9998 21 .i32 .i32 x 0 h21, Result.andThen_ok]
  by_cases hx : x = 0
  · subst hx
    simp only [beq_self_eq_true, Bool.not_true, Bool.false_eq_true, if_false, Sem.run_bind]
    rw [hp _ _ y (by simp), Result.andThen_ok, hp _ _ 0 (by simp), Result.andThen_ok, run_equalIn_int w 9998 21 .i32 .i32 y 0 h21, Result.andThen_ok]
    by_cases hy : y = 0
    · subst hy; simp
    · simp [hy]
  · simp [hx]
def encI (x : Int) : List Value := [.int .i32 x]
theorem encI_len (x : Int) : (encI x).length = 1 := rfl
theorem encI_flat (x : Int) : (encI x).all flatV = true := rfl
theorem und111 : Try.prog.underlying 119 = some (.slice 21) := by kernel_rfl
theorem size21 : (Try.prog.info? 21).map (·.size) = some 1 := by kernel_rfl
theorem info21 : ∃ i z, Try.prog.info? 21 = some i ∧ i.size = 1 ∧ i.bytes ≤ 8 ∧ 0 < i.bytes ∧ i.zero = some z ∧ z.cells = (encI 0).toArray := ⟨_, _, rfl, rfl, by decide, by decide, rfl, rfl⟩
abbrev RowI (h : Hp) (A : Option Addr) (c : Nat) (ps : List Int) : Prop := Row h 21 encI 1 A c ps
theorem rd_i {h : Hp} {A : Option Addr} {c : Nat} {ps : List Int} (r : RowI h A c ps) {i : Nat} {p : Int} (hi : ps[i]? = some p) :
    ∃ g, A = some ⟨g, 0, none⟩ ∧ PV Try.prog (Instr.indexAt 119 (.slice A ps.length c) (.int .i64 (i : Int))) (.pointer (some ⟨g, i, none⟩)) ∧ cell h ⟨g, i, none⟩ = some (.int .i32 p) := by
  have hlt := (List.getElem?_eq_some_iff.1 hi).1
  obtain ⟨g, rest, hA, _⟩ := Row.open encI_len r (by omega)
  subst hA
  have hc := r.read.elem (enc := encI) encI_len hi rfl
  have := ix (P := Try.prog) (T := 119) (E := 21) (a := ⟨g, 0, none⟩) (l := ps.length) (c := c) (sz := 1) (k := .i64) (i := (i : Int)) (by omega) (by omega) und111 size21
  rw [Int.toNat_natCast, add_eq0, Nat.mul_one] at this
  rw [add_eq0, Nat.mul_one] at hc
  exact ⟨g, rfl, this, hc.head⟩
def pathT (ns : List Node) (w key n : Int) : Nat → Int → List Int → Option (List Int)
  | 0, _, _ => none
  | f + 1, i, ps => if i < n then
      (if 0 ≤ i ∧ (bitT w key i = 0 ∨ bitT w key i = 1) ∧ ps.length ≤ 1000 then (match ps[i.toNat]? with
        | none => none
        | some p => if p < 0 then none else match ns[p.toNat]? with
          | none => none
          | some x => pathT ns w key n f (i + 1) (ps ++ [x.kid (bitT w key i)]))
      else none)
    else some ps
/-- The path beside the trie. -/
def Pt (h : Hp) (S : Nat → Prop) (A : Option Addr) (c : Nat) (ps : List Int) : Prop := RowI h A c ps ∧ (∀ k, blk A k → ¬ S k) ∧ (∀ k, blk A k → k < h.size)
theorem path_l6 {key n : Int} {b : Nat} {S : Nat → Prop} {t : TT} (hw : 0 ≤ t.width ∧ t.width ≤ 64) (hn : n ≤ t.width) {K0 : Option Addr → Int → Int → Option Addr → Nat → Nat → Hp → Prop} {qs : List Int} (hq : qs.length ≤ 2000) :
    ∀ (f : Nat) (i : Int) (ps : List Int) (A : Option Addr) (c : Nat) (h : Hp), TrAt h b S t → Pt h S A c ps → pathT t.ns t.width key n f i ps = some qs →
      (∀ h' A' c', TrAt h' b S t → Pt h' S A' c' qs → (∀ S' : Nat → Prop, (∀ k, blk A k → S' k) → Fr S' h h') → K0 (some ⟨b, 0, none⟩) key n A' qs.length c' h') →
      trie_Trie_Cut_l6 (some ⟨b, 0, none⟩) key n n K0 f A ps.length c i h := by
  intro f
  induction f with
  | zero => intro i ps A c h q p hd; cases hd
  | succ f ih =>
    intro i ps A c h q p hd H
    unfold pathT at hd
    unfold trie_Trie_Cut_l6
    by_cases hin : i < n
    · rw [if_pos hin] at hd
      refine br_t (by simpa using hin) ?_
      split at hd
      · rename_i hg
        obtain ⟨g1, g2, g3⟩ := hg
        obtain ⟨j, rfl⟩ := Int.eq_ofNat_of_zero_le g1
        rw [Int.toNat_natCast] at hd
        cases hx : ps[j]? with
        | none => rw [hx] at hd; cases hd
        | some pj =>
          rw [hx] at hd
          simp only at hd
          by_cases hp0 : pj < 0
          · rw [if_pos hp0] at hd; cases hd
          · rw [if_neg hp0] at hd
            obtain ⟨m, rfl⟩ := Int.eq_ofNat_of_zero_le (a := pj) (by omega)
            rw [Int.toNat_natCast] at hd
            cases hy : t.ns[m]? with
            | none => rw [hy] at hd; cases hd
            | some x =>
              rw [hy] at hd
              simp only at hd
              obtain ⟨B, d, qg⟩ := q.ag
              have hlt := (List.getElem?_eq_some_iff.1 hy).1
              obtain ⟨g, rfl⟩ := qg.blk_some (by omega)
              obtain ⟨ga, hA, hix, hcl⟩ := rd_i p.1 hx
              refine ⟨_, _, _, ld (qg.cl.at_ 2 _ rfl) (by kernel_rfl), ?_⟩
              refine ⟨_, hix, _, ld hcl (by kernel_rfl), ?_⟩
              refine bit_s q hw key (j : Int) ⟨g1, by omega⟩ ⟨_, rfl, ld hcl (by kernel_rfl), ld (qg.cl.at_ 2 _ rfl) (by kernel_rfl), ?_⟩
              refine ⟨_, ixN hlt, ?_⟩
              refine ⟨_, ixA (by omega) (by omega), ?_⟩
              have hk : HV Try.prog (Instr.loadAt 21 (.pointer (some ((⟨g, m * 4, none⟩ : Addr).add (bitT t.width key (j : Int)).toNat)))) h (.int .i32 (x.kid (bitT t.width key (j : Int)))) := by
                rcases g2 with e | e
                · rw [e]; exact ld ((qg.node hy).at_ 0 _ rfl) (by kernel_rfl)
                · rw [e]; exact ld ((qg.node hy).at_ 1 _ rfl) (by kernel_rfl)
              refine ⟨_, hk, ?_⟩
              refine newC_i (cs := encI (x.kid (bitT t.width key (j : Int)))) fun h2 e2 c2 b2 z2 => ?_
              obtain ⟨i, z, hi, hisz, hiby, hiby0, hiz, hzc⟩ := info21
              have q2 := q.ext e2
              have r2 := p.1.keep (e2.fr (fun _ => False)) (fun _ _ h => h)
              refine HW_append1 (enc := encI) (xs := ps) (x := x.kid (bitT t.width key (j : Int))) encI_len encI_flat und111 hi hiz (by rw [hzc]; rfl) hisz hiby0 r2 c2 ?_ ?_
              · have : (2 * (ps.length + 1) + 768) * i.bytes ≤ (2 * (ps.length + 1) + 768) * 8 := Nat.mul_le_mul_left _ hiby
                omega
              intro h3 g3' c3 hr3 hg f3
              refine ⟨_, _, _, rfl, ?_⟩
              have hl : (ps ++ [x.kid (bitT t.width key (j : Int))]).length = ps.length + 1 := by simp
              rw [wrap_in (by omega) (by omega), ← hl]
              have q3 := q2.keep f3 (fun k hk hb => p.2.1 k hb hk)
              have hbl : ∀ k, blk (some (⟨g3', 0, none⟩ : Addr)) k → k = g3' := by rintro k ⟨a, ha, rfl⟩; injection ha with ha; subst ha; rfl
              have hglt : g3' < h3.size := by
                obtain ⟨g', rest, hA, hb, _⟩ := Row.open encI_len hr3 (by simp)
                injection hA with hA
                injection hA with hA
                subst hA
                exact lt_of_get hb
              refine ih _ _ _ _ _ q3 ⟨hr3, ?_, ?_⟩ hd ?_
              · intro k hk hS
                have := hbl k hk
                subst this
                rcases hg with hg | hg
                · exact p.2.1 _ hg hS
                · have := q.2.1 _ hS
                  have := e2.size
                  omega
              · intro k hk
                rw [hbl k hk]; exact hglt
              · intro h4 A4 c4 q4 p4 f4
                refine H h4 A4 c4 q4 p4 fun S' hS' => ?_
                refine ((e2.fr S').trans (f3.mono hS')).then_ (f4 (fun k => S' k ∨ h.size ≤ k) ?_) (fun k hk => hk)
                intro k hk
                have := hbl k hk
                subst this
                rcases hg with hg | hg
                · exact .inl (hS' _ hg)
                · have := e2.size
                  exact .inr (by omega)
      · cases hd
    · rw [if_neg hin] at hd
      injection hd with hd
      subst hd
      exact br_f (by simpa using hin) (H h A c q p fun S' _ => Fr.refl _ _)
theorem Pt.keep {h h' : Hp} {S S' : Nat → Prop} {A : Option Addr} {c : Nat} {ps : List Int} (p : Pt h S A c ps) (f : Fr S' h h') (hn : ∀ k, blk A k → ¬ S' k) : Pt h' S A c ps :=
  ⟨p.1.keep f hn, p.2.1, fun k hk => Nat.lt_of_lt_of_le (p.2.2 k hk) f.size⟩
theorem box_node {h2 : Hp} {g : Nat} (hb : h2[g]? = some (.cells zN.enc.toArray 116 (0, 0))) (x : Node) {K : Hp → Prop} (H : ∀ h3, Cl h3 ⟨g, 0, none⟩ x.enc → Fr (fun k => k = g) h2 h3 → h3.size = h2.size → K h3) :
    HU Try.prog (Instr.storeAt 116 (.pointer (some ⟨g, 0, none⟩)) (.agg #[.int .i32 x.k0, .int .i32 x.k1, .bool x.held, .int .i64 x.v])) h2 K := by
  refine HU_st (us := x.enc) hb rfl (by kernel_rfl) (by simp [Node.len]) rfl ?_
  refine H _ (Cl.of_block (setB_get (lt_of_get hb)) fun j v hj => ?_) (setB_fr rfl) setB_size
  simpa [Node.enc, zN] using hj
def upT (w key : Int) (ps : List Int) : Nat → Int → TT → Option TT
  | 0, _, _ => none
  | f + 1, d, t => if d ≥ 0 then (match ps[d.toNat]? with
      | none => none
      | some p => if p < 0 then none else match t.ns[p.toNat]? with
        | none => none
        | some x => if x.held = true then some t else if x.k0 = 0 ∧ x.k1 = 0 then
            (if 0 ≤ t.nodes ∧ t.nodes ≤ 2 ^ 60 then
              (if d = 0 then some { t with rooted := false, nodes := t.nodes - 1 }
              else match ps[(d - 1).toNat]? with
                | none => none
                | some pp => if pp < 0 ∨ ¬ d - 1 < w ∨ ¬ (bitT w key (d - 1) = 0 ∨ bitT w key (d - 1) = 1) then none else match t.ns[pp.toNat]? with
                  | none => none
                  | some y => upT w key ps f (d - 1) (giveT { t with ns := t.ns.set pp.toNat (y.setKid (bitT w key (d - 1)) 0) } p.toNat))
            else none)
          else some t)
    else some t
theorem up_l8 {key : Int} {b : Nat} {S : Nat → Prop} {w : Int} (hw : 0 ≤ w ∧ w ≤ 64) {A : Option Addr} {c : Nat} {ps : List Int} (hps : ps.length ≤ 2000) {K0 : Int → Hp → Prop} {K1 : Hp → Prop} {t' : TT} :
    ∀ (f : Nat) (d : Int) (t : TT) (h : Hp), TrAt h b S t → t.width = w → Pt h S A c ps → upT w key ps f d t = some t' →
      (∀ h', TrAt h' b S t' → (∀ S' : Nat → Prop, (∀ k, S k → S' k) → Fr S' h h') → K0 0 h' ∧ K1 h') → trie_Trie_Cut_l8 (some ⟨b, 0, none⟩) key A ps.length c K0 K1 f d h := by
  intro f
  induction f with
  | zero => intro d t h q ht p hd; cases hd
  | succ f ih =>
    intro d t h q ht p hd H
    unfold upT at hd
    unfold trie_Trie_Cut_l8
    by_cases hd0 : d ≥ 0
    · rw [if_pos hd0] at hd
      refine br_t (by simpa using hd0) ?_
      obtain ⟨j, rfl⟩ := Int.eq_ofNat_of_zero_le hd0
      rw [Int.toNat_natCast] at hd
      cases hx : ps[j]? with
      | none => rw [hx] at hd; cases hd
      | some pj =>
        rw [hx] at hd
        simp only at hd
        have hjl := (List.getElem?_eq_some_iff.1 hx).1
        by_cases hp0 : pj < 0
        · rw [if_pos hp0] at hd; cases hd
        · rw [if_neg hp0] at hd
          obtain ⟨m, rfl⟩ := Int.eq_ofNat_of_zero_le (a := pj) (by omega)
          rw [Int.toNat_natCast] at hd
          cases hy : t.ns[m]? with
          | none => rw [hy] at hd; cases hd
          | some x =>
            rw [hy] at hd
            simp only at hd
            obtain ⟨B, e, qg⟩ := q.ag
            have hlt := (List.getElem?_eq_some_iff.1 hy).1
            obtain ⟨g, rfl⟩ := qg.blk_some (by omega)
            obtain ⟨ga, hA, hix, hcl⟩ := rd_i p.1 hx
            refine ⟨_, _, _, ld (qg.cl.at_ 2 _ rfl) (by kernel_rfl), ?_⟩
            refine ⟨_, hix, _, ld hcl (by kernel_rfl), ?_⟩
            refine ⟨_, ixN hlt, _, _, _, _, ldS (qg.node hy) (by kernel_rfl), ?_⟩
            refine newC_i (cs := zN.enc) fun h2 e2 c2 b2 z2 => ?_
            refine ⟨ldS ((qg.node hy).ext e2) (by kernel_rfl), ld (e2.cell hcl) (by kernel_rfl), ld ((qg.cl.ext e2).at_ 2 _ rfl) (by kernel_rfl), ?_⟩
            refine box_node b2 x fun h3 c3 f3 z3 => ?_
            have hSn : ∀ k, S k → ¬ k = h.size := fun k hk he => by have := q.2.1 k hk; omega
            have q3 : TrAt h3 b S t := (q.ext e2).keep f3 hSn
            have p3 : Pt h3 S A c ps := (p.keep (e2.fr (fun _ => False)) (fun _ _ h => h)).keep f3 (fun k hk he => by have := p.2.2 k hk; omega)
            have fr3 : ∀ S' : Nat → Prop, Fr S' h h3 := fun S' => ((e2.fr S').then_ f3 (fun k hk => .inr (by omega)))
            refine ⟨_, ld (c3.at_ 2 _ rfl) (by kernel_rfl), ?_⟩
            cases hh : x.held with
            | true =>
              rw [hh, if_pos rfl] at hd
              injection hd with hd
              subst hd
              exact br_t rfl (H h3 q3 fun S' _ => fr3 S').1
            | false =>
              rw [hh, if_neg (by simp)] at hd
              refine br_f rfl ?_
              refine ⟨_, _, ldS (vs := [.int .i32 x.k0, .int .i32 x.k1]) (Cl.sub c3 0 (by intro j v hj; rcases j with _ | _ | j <;> simp_all [Node.enc])) (by kernel_rfl), ?_⟩
              refine ⟨_, ne106 _ _, ?_⟩
              by_cases hk : x.k0 = 0 ∧ x.k1 = 0
              · rw [if_pos hk] at hd
                refine br_f (by simp [hk]) ?_
                split at hd
                · rename_i hnod
                  unfold trie_Trie_Cut_j9
                  obtain ⟨B3, e3, qg3⟩ := q3.ag
                  by_cases hj0 : (j : Int) = 0
                  · rw [if_pos hj0] at hd
                    injection hd with hd
                    subst hd
                    refine br_t (by simpa using hj0) ?_
                    refine qg3.st_rooted _ fun h4 q4 f4 z4 => ?_
                    refine ⟨_, ld (q4.cl.at_ 4 _ rfl) (by kernel_rfl), ?_⟩
                    rw [wrap_in (by have := hnod.1; show _ ≤ t.nodes - 1; omega) (by have := hnod.2; show t.nodes - 1 ≤ _; omega)]
                    refine q4.st_nodes _ fun h5 q5 f5 z5 => ?_
                    exact (H h5 q5.at_ fun S' hS' => ((fr3 S').trans (f4.mono hS')).trans (f5.mono hS')).1
                  · rw [if_neg hj0] at hd
                    refine br_f (by simpa using hj0) ?_
                    cases hpp : ps[((j : Int) - 1).toNat]? with
                    | none => rw [hpp] at hd; cases hd
                    | some pp =>
                      rw [hpp] at hd
                      simp only at hd
                      obtain ⟨j', rfl⟩ : ∃ j', j = j' + 1 := ⟨j - 1, by omega⟩
                      have hj1 : ((j' + 1 : Nat) : Int) - 1 = (j' : Int) := by omega
                      rw [hj1] at hd hpp ⊢
                      rw [Int.toNat_natCast] at hpp
                      split at hd
                      · cases hd
                      · rename_i hbad
                        obtain ⟨m', rfl⟩ := Int.eq_ofNat_of_zero_le (a := pp) (by omega)
                        rw [Int.toNat_natCast] at hd
                        cases hy' : t.ns[m']? with
                        | none => rw [hy'] at hd; cases hd
                        | some y =>
                          rw [hy'] at hd
                          simp only at hd
                          have hlt' := (List.getElem?_eq_some_iff.1 hy').1
                          obtain ⟨g3, rfl⟩ := qg3.blk_some (by omega)
                          obtain ⟨ga', hA', hix', hcl'⟩ := rd_i p3.1 hpp
                          refine ⟨_, _, _, ld (qg3.cl.at_ 2 _ rfl) (by kernel_rfl), ?_⟩
                          rw [wrap_in (n := (j' : Int)) (by omega) (by omega)]
                          refine ⟨_, hix', _, ld hcl' (by kernel_rfl), ?_⟩
                          refine bit_s q3 (by rw [ht]; exact hw) key (j' : Int) ⟨by omega, by omega⟩ ⟨_, rfl, ld hcl' (by kernel_rfl), ld (qg3.cl.at_ 2 _ rfl) (by kernel_rfl), ?_⟩
                          refine ⟨_, ixN hlt', ?_⟩
                          rw [ht]
                          have h01 : bitT w key (j' : Int) = 0 ∨ bitT w key (j' : Int) = 1 := by omega
                          refine ⟨_, ixA (by omega) (by omega), ?_⟩
                          rw [add_off rfl]
                          have go : ∀ h4, TrAg h4 b S { t with ns := t.ns.set m' (y.setKid (bitT w key (j' : Int)) 0) } (some ⟨g3, 0, none⟩) e3 → Fr S h3 h4 → h4.size = h3.size → (∃ a471 : Addr, PV Try.prog (Instr.indexAt 119 (.slice A ps.length c) (.int .i64 ((j' + 1 : Nat) : Int))) (.pointer (some a471)) ∧ ∃ x472 : Int, HV Try.prog (Instr.loadAt 21 (.pointer (some a471))) h4 (.int .i32 x472) ∧ CallsH Try.prog 54 #[(.pointer (some ⟨b, 0, none⟩)), (.int .i32 x472)] h4 (fun r474 h473 => r474 = (.tuple #[]) ∧ trie_Trie_Cut_l8 (some ⟨b, 0, none⟩) key A ps.length c K0 K1 f (IntKind.i64.wrap (((j' + 1 : Nat) : Int) - 1)) h473)) := by
                            intro h4 q4 f4 z4
                            have p4 := p3.keep f4 p3.2.1
                            obtain ⟨ga4, hA4, hix4, hcl4⟩ := rd_i p4.1 hx
                            refine ⟨_, hix4, _, ld hcl4 (by kernel_rfl), ?_⟩
                            refine give_s q4.at_ (by simpa using hlt) ⟨hnod.1, by have := hnod.2; show t.nodes ≤ _; omega⟩ fun h5 q5 f5 z5 => ⟨rfl, ?_⟩
                            rw [hj1, wrap_in (by omega) (by omega)]
                            refine ih (j' : Int) _ h5 q5 ht (p4.keep f5 p4.2.1) hd fun h6 q6 f6 => H h6 q6 fun S' hS' => (((fr3 S').trans (f4.mono hS')).trans (f5.mono hS')).trans (f6 S' hS')
                          rcases h01 with e | e
                          · rw [e] at go ⊢
                            exact qg3.st_part' (i := m') (o := 0) (x := y) (x' := y.setKid 0 0) (us := [.int .i32 0]) hy' rfl (by kernel_rfl) rfl (by decide) rfl go
                          · rw [e] at go ⊢
                            exact qg3.st_part' (i := m') (o := 1) (x := y) (x' := y.setKid 1 0) (us := [.int .i32 0]) hy' rfl (by kernel_rfl) rfl (by decide) rfl go
                · cases hd
              · rw [if_neg hk] at hd
                injection hd with hd
                subst hd
                exact br_t (by simp [hk]) (H h3 q3 fun S' _ => fr3 S').1
    · rw [if_neg hd0] at hd
      injection hd with hd
      subst hd
      exact br_f (by simpa using hd0) (H h q fun S' _ => Fr.refl _ _).2
end Go.Proofs.Ytofjbbfnkefoaaa.Fs
