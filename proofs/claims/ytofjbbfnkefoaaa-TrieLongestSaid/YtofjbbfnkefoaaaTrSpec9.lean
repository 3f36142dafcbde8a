/- The trie: the walk above a key. -/
import Derived.Test.YtofjbbfnkefoaaaTrSpec8
namespace Go.Proofs.Ytofjbbfnkefoaaa.Fs
open Go Go.RowKit Go.Proofs.Ytofjbbfnkefoaaa.Sx
set_option linter.unusedVariables false
set_option linter.unusedSimpArgs false
set_option maxRecDepth 10000
theorem above_s (p : Option Addr) (key n : Int) {h : Hp} {K : Value → Hp → Prop}
    (H : ∀ h' a1 a2 a3, Ext h h' → h.size ≤ a1 → h.size ≤ a2 → h.size ≤ a3 → a1 < h'.size → a2 < h'.size → a3 < h'.size → Cl h' ⟨a1, 0, none⟩ [.pointer p] → Cl h' ⟨a2, 0, none⟩ [.int .u32 key] → Cl h' ⟨a3, 0, none⟩ [.int .i64 n] → K (.func (.func 55) #[] #[.pointer (some ⟨a1, 0, none⟩), .pointer (some ⟨a2, 0, none⟩), .pointer (some ⟨a3, 0, none⟩)]) h') :
    CallsH Try.prog 34 #[.pointer p, .int .u32 key, .int .i64 n] h K := by
  refine trie_Trie_Above_ok _ _ _ ?_
  unfold trie_Trie_Above
  refine newC_i fun h1 e1 c1 b1 z1 => newC_i fun h2 e2 c2 b2 z2 => newC_i fun h3 e3 c3 b3 z3 => ?_
  exact H h3 _ _ _ ((e1.trans e2).trans e3) (by omega) (by omega) (by omega) (by omega) (by omega) (by omega) ((c1.ext e2).ext e3) (c2.ext e3) c3
theorem walk_s (p : Option Addr) {h : Hp} {K : Value → Hp → Prop}
    (H : ∀ h' a1, Ext h h' → h.size ≤ a1 → a1 < h'.size → Cl h' ⟨a1, 0, none⟩ [.pointer p] → K (.func (.func 56) #[] #[.pointer (some ⟨a1, 0, none⟩)]) h') : CallsH Try.prog 35 #[.pointer p] h K := by
  refine trie_Trie_Walk_ok _ ?_
  unfold trie_Trie_Walk
  exact newC_i fun h1 e1 c1 b1 z1 => H h1 _ e1 (by omega) (by omega) c1
abbrev En := Int × Int × Int
def En.val (e : En) : Value := .agg #[.int .u32 e.1, .int .i64 e.2.1, .int .i64 e.2.2]
def topT (w key i : Int) : Int := IntKind.u32.wrap (IntKind.u64.wrap ((IntKind.u64.wrap key).fdiv (p2 (w - i)) * p2 (w - i)))
def aboveT (ns : List Node) (w key n : Int) : Nat → Int → Int → Option (List En)
  | 0, _, _ => none
  | f + 1, at_, i => if at_ < 0 ∨ ¬ (0 ≤ i ∧ i ≤ w) then none else match ns[at_.toNat]? with
    | none => none
    | some x => (if i = n then some [] else if ¬ i < w ∨ ¬ (bitT w key i = 0 ∨ bitT w key i = 1) then none else if x.kid (bitT w key i) = 0 then some [] else aboveT ns w key n f (x.kid (bitT w key i)) (i + 1)).map
        fun r => if x.held = true then (topT w key i, i, x.v) :: r else r
/-- What a walk above a key needs of its heap. -/
structure Above (J : List En → Hp → Prop) (b : Nat) (S : Nat → Prop) (t : TT) (key n : Int) (a1 a2 a3 : Addr) (v : Value) : Prop where
  at_ : ∀ done h, J done h → TrAt h b S t ∧ Cl h a1 [.pointer (some ⟨b, 0, none⟩)] ∧ Cl h a2 [.int .u32 key] ∧ Cl h a3 [.int .i64 n]
  ext : ∀ done h h', J done h → Fr (fun _ => False) h h' → J done h'
  round : ∀ done e h K, J done h → (∀ h', J (done ++ [e]) h' → K (.bool true) h') → HN Try.prog (callS v #[En.val e]) h K
theorem above_l6 {J : List En → Hp → Prop} {b : Nat} {S : Nat → Prop} {t : TT} {key n : Int} {a1 a2 a3 : Addr} {v : Value} (a : Above J b S t key n a1 a2 a3 v) (hw : 0 ≤ t.width ∧ t.width ≤ 64) {K0 : Hp → Prop} :
    ∀ (f : Nat) (at_ i : Int) (done es : List En) (h : Hp), J done h → aboveT t.ns t.width key n f at_ i = some es → (∀ h', J (done ++ es) h' → K0 h') → trie_Trie_Above_1_l6 v a1 a2 a3 K0 f at_ i h := by
  intro f
  induction f with
  | zero => intro at_ i done es h q hd; cases hd
  | succ f ih =>
    intro at_ i done es h q hd H
    unfold aboveT at hd
    unfold trie_Trie_Above_1_l6
    split at hd
    · cases hd
    · rename_i hbad
      obtain ⟨m, rfl⟩ := Int.eq_ofNat_of_zero_le (a := at_) (by omega)
      rw [Int.toNat_natCast] at hd
      cases hx : t.ns[m]? with
      | none => rw [hx] at hd; cases hd
      | some x =>
        rw [hx] at hd
        simp only at hd
        have tail : ∀ done' h' rest, J done' h' → (if i = n then some [] else if ¬ i < t.width ∨ ¬ (bitT t.width key i = 0 ∨ bitT t.width key i = 1) then none else if x.kid (bitT t.width key i) = 0 then some [] else aboveT t.ns t.width key n f (x.kid (bitT t.width key i)) (i + 1)) = some rest → (∀ h'', J (done' ++ rest) h'' → K0 h'') →
            (∃ x432 : Int, HV Try.prog (Instr.loadAt 3 (.pointer (some a3))) h' (.int .i64 x432) ∧ br (i == x432) (K0 h') (trie_Trie_Above_1_j7 (fun  (h433 : Hp) => K0 h433)
              (fun (v434 : Value) (a435 : Addr) (a436 : Addr) (a437 : Addr) (x438 : Int) (x439 : Int) (h440 : Hp) => trie_Trie_Above_1_l6 v a1 a2 a3 K0 f x438 (IntKind.i64.wrap (x439 + 1)) h440) v a1 a2 a3 (m : Int) i h')) := by
          intro done' h' rest q' hr H'
          obtain ⟨qt, k1, k2, k3⟩ := a.at_ _ _ q'
          refine ⟨_, ld k3.head (by kernel_rfl), br_i (fun h0 => ?_) (fun h0 => ?_)⟩
          · rw [if_pos (by simpa using h0)] at hr
            injection hr with hr
            subst hr
            exact H' h' (by simpa using q')
          · rw [if_neg (by simpa using h0)] at hr
            split at hr
            · cases hr
            · rename_i hb2
              unfold trie_Trie_Above_1_j7
              obtain ⟨A, c, qg⟩ := qt.ag
              have hlt := (List.getElem?_eq_some_iff.1 hx).1
              obtain ⟨g, rfl⟩ := qg.blk_some (by omega)
              refine ⟨_, ld k1.head (by kernel_rfl), ?_⟩
              refine ⟨_, _, _, ld (qg.cl.at_ 2 _ rfl) (by kernel_rfl), ?_⟩
              refine ⟨_, ld k1.head (by kernel_rfl), _, ld k2.head (by kernel_rfl), ?_⟩
              refine bit_s qt hw key i ⟨by omega, by omega⟩ ⟨_, rfl, ld (qg.cl.at_ 2 _ rfl) (by kernel_rfl), ld k1.head (by kernel_rfl), ?_⟩
              refine ⟨_, ixN hlt, _, ixA (by omega) (by omega), ?_⟩
              have hk : HV Try.prog (Instr.loadAt 21 (.pointer (some ((⟨g, m * 4, none⟩ : Addr).add (bitT t.width key i).toNat)))) h' (.int .i32 (x.kid (bitT t.width key i))) := by
                have h01 : bitT t.width key i = 0 ∨ bitT t.width key i = 1 := by omega
                rcases h01 with e | e
                · rw [e]; exact ld ((qg.node hx).at_ 0 _ rfl) (by kernel_rfl)
                · rw [e]; exact ld ((qg.node hx).at_ 1 _ rfl) (by kernel_rfl)
              refine ⟨_, hk, br_i (fun hz => ?_) (fun hz => ?_)⟩
              · rw [if_pos (by simpa using hz)] at hr
                injection hr with hr
                subst hr
                exact H' h' (by simpa using q')
              · rw [if_neg (by simpa using hz)] at hr
                show trie_Trie_Above_1_l6 v a1 a2 a3 K0 f (x.kid (bitT t.width key i)) (IntKind.i64.wrap (i + 1)) h'
                rw [wrap_in (by omega) (by omega)]
                exact ih _ _ done' rest h' q' hr H'
        obtain ⟨qt, k1, k2, k3⟩ := a.at_ _ _ q
        obtain ⟨A, c, qg⟩ := qt.ag
        have hlt := (List.getElem?_eq_some_iff.1 hx).1
        obtain ⟨g, rfl⟩ := qg.blk_some (by omega)
        refine ⟨_, ld k1.head (by kernel_rfl), ?_⟩
        refine ⟨_, _, _, ld (qg.cl.at_ 2 _ rfl) (by kernel_rfl), ?_⟩
        refine ⟨_, ixN hlt, _, _, _, _, ldS (qg.node hx) (by kernel_rfl), ?_⟩
        refine newC_i (cs := zN.enc) fun h2 e2 c2 b2 z2 => ?_
        refine box_node b2 x fun h3 c3 f3 z3 => ?_
        have fr3 : Fr (fun _ => False) h h3 := (e2.fr _).then_ f3 (fun k hk => .inr (by omega))
        have q3 := a.ext _ _ _ q fr3
        refine ⟨_, ld (c3.at_ 2 _ rfl) (by kernel_rfl), ?_⟩
        cases hrest : (if i = n then some [] else if ¬ i < t.width ∨ ¬ (bitT t.width key i = 0 ∨ bitT t.width key i = 1) then none else if x.kid (bitT t.width key i) = 0 then some [] else aboveT t.ns t.width key n f (x.kid (bitT t.width key i)) (i + 1)) with
        | none => rw [hrest] at hd; cases hd
        | some rest =>
          rw [hrest] at hd
          injection hd with hd
          subst hd
          obtain ⟨qt3, k13, k23, k33⟩ := a.at_ _ _ q3
          obtain ⟨A3, d3, qg3⟩ := qt3.ag
          cases hh : x.held with
          | true =>
            rw [hh] at H
            simp only [if_true] at H
            refine br_t rfl ?_
            refine ⟨_, ld k23.head (by kernel_rfl), _, ld k13.head (by kernel_rfl), ?_⟩
            refine ⟨_, ld (qg3.cl.at_ 0 _ rfl) (by kernel_rfl), ?_⟩
            rw [wrap_in (n := t.width - i) (by omega) (by omega)]
            refine ⟨_, shr64 _ _ (by omega), _, ld k13.head (by kernel_rfl), ?_⟩
            refine ⟨_, ld (qg3.cl.at_ 0 _ rfl) (by kernel_rfl), ?_⟩
            rw [wrap_in (n := t.width - i) (by omega) (by omega)]
            refine ⟨_, shl64 _ _ (by omega), _, ld (c3.at_ 3 _ rfl) (by kernel_rfl), ?_⟩
            refine a.round done (topT t.width key i, i, x.v) h3 _ q3 fun h4 q4 => ⟨true, rfl, br_f rfl ?_⟩
            exact tail _ h4 rest q4 hrest (fun h'' q'' => H h'' (by simpa using q''))
          | false =>
            rw [hh] at H
            simp only [Bool.false_eq_true, if_false] at H
            exact br_f rfl (tail _ h3 rest q3 hrest H)
end Go.Proofs.Ytofjbbfnkefoaaa.Fs
