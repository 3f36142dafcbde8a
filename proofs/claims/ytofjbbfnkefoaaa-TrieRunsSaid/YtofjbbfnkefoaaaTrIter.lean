/- The trie's iterators: each entry is yielded in its turn, until yield says no. -/
import Derived.Test.YtofjbbfnkefoaaaTrKeys
import Derived.Test.YtofjbbfnkefoaaaTrS2
import Derived.Test.YtofjbbfnkefoaaaFsW
import Derived.Test.YtofjbbfnkefoaaaSxFunc
namespace Go.Proofs.Ytofjbbfnkefoaaa.Fs
open Go Go.RowKit Go.Proofs.Ytofjbbfnkefoaaa.Sx Go.Proofs.Ytofjbbfnkefoaaa.Tp
set_option linter.unusedVariables false
set_option linter.unusedSimpArgs false
set_option maxRecDepth 10000
/-- What a yield does: L is all that is told; J: so many are told; Stop: yield said no. -/
structure It (J : List En → Hp → Prop) (Stop : Hp → Prop) (L : List En) (v : Value) : Prop where
  ext : ∀ done h h', J done h → Ext h h' → J done h'
  round : ∀ done e rest h (K : Value → Hp → Prop), L = done ++ e :: rest → J done h → (∀ h', J (done ++ [e]) h' → K (.bool true) h') → (∀ h', Stop h' → K (.bool false) h') → HN Try.prog (callS v #[En.val e]) h K
theorem It.go {J : List En → Hp → Prop} {Stop : Hp → Prop} {L : List En} {v : Value} (it : It J Stop L v) {done rest : List En} (e : En) {u : Value} (hu : En.val e = u) {h : Hp} {K : Value → Hp → Prop} (hL : L = done ++ e :: rest) (hJ : J done h) (H1 : ∀ h', J (done ++ [e]) h' → K (.bool true) h') (H0 : ∀ h', Stop h' → K (.bool false) h') : HN Try.prog (callS v #[u]) h K :=
  hu ▸ it.round done e rest h K hL hJ H1 H0
theorem boxExt {h h1 h2 : Hp} {g : Nat} (e : Ext h h1) (hg : h.size ≤ g) (f : Fr (fun k => k = g) h1 h2) : Ext h h2 :=
  ⟨Nat.le_trans e.size f.size, fun k hk => by rw [f.keep k (Nat.lt_of_lt_of_le hk e.size) (by omega), e.old k hk]⟩
theorem above2_l6 {J : List En → Hp → Prop} {Stop : Hp → Prop} {L : List En} {v : Value} (it : It J Stop L v) {b : Nat} {S : Nat → Prop} {t : TT} {w k n : Nat} {a1 a2 a3 : Addr} (htw : t.width = w) (hw : w ≤ 32) (hk : k < 4294967296) (hkw : k < 2 ^ w) (hn : n ≤ w)
    (hat : ∀ done h, J done h → TrAt h b S t ∧ Cl h a1 [.pointer (some ⟨b, 0, none⟩)] ∧ Cl h a2 [.int .u32 (k : Int)] ∧ Cl h a3 [.int .i64 (n : Int)]) {K0 : Hp → Prop} (HS : ∀ h', Stop h' → K0 h') :
    ∀ (p : List Bool) (T : Tr) (i : Nat) (fp : List Nat) (q : List Bool) (f : Nat) (done rest : List En) (h : Hp), Rep t.ns T i fp → T ≠ .nil → Bits w k q.length p → q ++ p = pa w k n → p.length < f → L = done ++ ((Tr.above p T q).map (enW w) ++ rest) → J done h → (∀ h', J (done ++ (Tr.above p T q).map (enW w)) h' → K0 h') →
      trie_Trie_Above_1_l6 v a1 a2 a3 K0 f (i : Int) (q.length : Nat) h := by
  have hw64 : 0 ≤ t.width ∧ t.width ≤ 64 := by omega
  intro p
  induction p with
  | nil =>
    intro T i fp q f done rest h hr hT hb hq hf hL hJ H
    obtain ⟨f, rfl⟩ : ∃ f', f = f' + 1 := ⟨f - 1, by simp at hf; omega⟩
    obtain ⟨kk, o, f1, g0, hx, h1, h2, hp, z1, z2⟩ := hr.open_ hT false
    rw [List.append_nil] at hq
    have hql : q.length = n := by rw [hq, pa_len]
    have htop : topT t.width k (q.length : Nat) = (kv w q : Nat) := by
      rw [htw, topT_nat (by omega) hw hk hkw]
      congr 1
      rw [hq, pa_len]
    unfold trie_Trie_Above_1_l6
    obtain ⟨qt, k1, k2, k3⟩ := hat _ _ hJ
    obtain ⟨A, c, qg⟩ := qt.ag
    have hlt := (List.getElem?_eq_some_iff.1 hx).1
    obtain ⟨g, rfl⟩ := qg.blk_some (by omega)
    refine ⟨_, ld k1.head (by kernel_rfl), ?_⟩
    refine ⟨_, _, _, ld (qg.cl.at_ 2 _ rfl) (by kernel_rfl), ?_⟩
    refine ⟨_, ixN hlt, _, _, _, _, ldS (qg.node hx) (by kernel_rfl), ?_⟩
    refine newC_i (cs := zN.enc) fun h2 e2 c2 b2 z2 => ?_
    refine box_node b2 (mkN T.h false kk o) fun h3 c3 f3 z3 => ?_
    have e03 : Ext h h3 := boxExt e2 (Nat.le_refl _) f3
    have J3 := it.ext _ _ _ hJ e03
    obtain ⟨qt3, k13, k23, k33⟩ := hat _ _ J3
    have tail : ∀ h', J (done ++ (Tr.above [] T q).map (enW w)) h' → ∃ x432 : Int, HV Try.prog (Instr.loadAt 3 (.pointer (some a3))) h' (.int .i64 x432) ∧ br (((q.length : Nat) : Int) == x432) (K0 h') (trie_Trie_Above_1_j7 (fun  (h433 : Hp) => K0 h433)
              (fun (v434 : Value) (a435 : Addr) (a436 : Addr) (a437 : Addr) (x438 : Int) (x439 : Int) (h440 : Hp) => trie_Trie_Above_1_l6 v a1 a2 a3 K0 f x438 (IntKind.i64.wrap (x439 + 1)) h440) v a1 a2 a3 (i : Int) (q.length : Nat) h') := by
      intro h' hJ'
      obtain ⟨_, _, _, k3'⟩ := hat _ _ hJ'
      exact ⟨_, ld k3'.head (by kernel_rfl), br_t (by rw [hql]; simp) (H h' hJ')⟩
    refine ⟨_, ld (c3.at_ 2 _ rfl) (by kernel_rfl), ?_⟩
    rw [mkN_held]
    obtain ⟨A3, d3, qg3⟩ := qt3.ag
    cases hh : T.h with
    | some x =>
      refine br_t rfl ?_
      refine ⟨_, ld k23.head (by kernel_rfl), _, ld k13.head (by kernel_rfl), ?_⟩
      refine ⟨_, ld (qg3.cl.at_ 0 _ rfl) (by kernel_rfl), ?_⟩
      rw [wrap_in (n := t.width - _) (by omega) (by omega)]
      refine ⟨_, shr64 _ _ (by omega), _, ld k13.head (by kernel_rfl), ?_⟩
      refine ⟨_, ld (qg3.cl.at_ 0 _ rfl) (by kernel_rfl), ?_⟩
      rw [wrap_in (n := t.width - _) (by omega) (by omega)]
      refine ⟨_, shl64 _ _ (by omega), _, ld (c3.at_ 3 _ rfl) (by kernel_rfl), ?_⟩
      have hab : Tr.above [] T q = [(q, x)] := by rw [Tr.above, hh]; rfl
      rw [hab] at tail hL
      have hev : En.val (enW w (q, x)) = .agg #[.int .u32 (topT t.width k (q.length : Nat)), .int .i64 (q.length : Nat), .int .i64 (mkN T.h false kk o).v] := by rw [htop, mkN_v, hh]; rfl
      exact it.go (enW w (q, x)) hev hL J3 (fun h4 J4 => ⟨true, rfl, br_f rfl (tail h4 J4)⟩) (fun h4 s4 => ⟨false, rfl, br_t rfl (HS h4 s4)⟩)
    | none =>
      have hab : Tr.above [] T q = [] := by rw [Tr.above, hh]; rfl
      rw [hab] at tail
      exact br_f rfl (tail h3 (by simpa using J3))
  | cons bb p ih =>
    intro T i fp q f done rest h hr hT hb hq hf hL hJ H
    obtain ⟨f, rfl⟩ : ∃ f', f = f' + 1 := ⟨f - 1, by simp at hf; omega⟩
    rw [List.length_cons] at hf
    obtain ⟨kk, o, f1, g0, hx, h1, h2, hp, z1, z2⟩ := hr.open_ hT bb
    obtain ⟨hb0, hb1⟩ := hb
    have hql : q.length + p.length + 1 = n := by
      have := congrArg List.length hq
      rw [pa_len, List.length_append, List.length_cons] at this
      omega
    have hqp : q = pa w k q.length := by
      have := pa_take n q.length w k (by omega)
      rw [← hq] at this
      simpa using this
    have htop : topT t.width k (q.length : Nat) = (kv w q : Nat) := by
      rw [htw, topT_nat (by omega) hw hk hkw, ← hqp]
    unfold trie_Trie_Above_1_l6
    obtain ⟨qt, k1, k2, k3⟩ := hat _ _ hJ
    obtain ⟨A, c, qg⟩ := qt.ag
    have hlt := (List.getElem?_eq_some_iff.1 hx).1
    obtain ⟨g, rfl⟩ := qg.blk_some (by omega)
    refine ⟨_, ld k1.head (by kernel_rfl), ?_⟩
    refine ⟨_, _, _, ld (qg.cl.at_ 2 _ rfl) (by kernel_rfl), ?_⟩
    refine ⟨_, ixN hlt, _, _, _, _, ldS (qg.node hx) (by kernel_rfl), ?_⟩
    refine newC_i (cs := zN.enc) fun h2 e2 c2 b2 z2 => ?_
    refine box_node b2 (mkN T.h bb kk o) fun h3 c3 f3 z3 => ?_
    have e03 : Ext h h3 := boxExt e2 (Nat.le_refl _) f3
    have J3 := it.ext _ _ _ hJ e03
    obtain ⟨qt3, k13, k23, k33⟩ := hat _ _ J3
    have tail : ∀ h' done', J done' h' → L = done' ++ ((Tr.above p (T.sub bb) (q ++ [bb])).map (enW w) ++ rest) → (∀ h'', J (done' ++ (Tr.above p (T.sub bb) (q ++ [bb])).map (enW w)) h'' → K0 h'') → ∃ x432 : Int, HV Try.prog (Instr.loadAt 3 (.pointer (some a3))) h' (.int .i64 x432) ∧ br (((q.length : Nat) : Int) == x432) (K0 h') (trie_Trie_Above_1_j7 (fun  (h433 : Hp) => K0 h433)
              (fun (v434 : Value) (a435 : Addr) (a436 : Addr) (a437 : Addr) (x438 : Int) (x439 : Int) (h440 : Hp) => trie_Trie_Above_1_l6 v a1 a2 a3 K0 f x438 (IntKind.i64.wrap (x439 + 1)) h440) v a1 a2 a3 (i : Int) (q.length : Nat) h') := by
      intro h' done' hJ' hL' H'
      obtain ⟨qt', k1', k2', k3'⟩ := hat _ _ hJ'
      refine ⟨_, ld k3'.head (by kernel_rfl), br_f (by simp; omega) ?_⟩
      unfold trie_Trie_Above_1_j7
      obtain ⟨A, c, qg⟩ := qt'.ag
      obtain ⟨g, rfl⟩ := qg.blk_some (by omega)
      refine ⟨_, ld k1'.head (by kernel_rfl), ?_⟩
      refine ⟨_, _, _, ld (qg.cl.at_ 2 _ rfl) (by kernel_rfl), ?_⟩
      refine ⟨_, ld k1'.head (by kernel_rfl), _, ld k2'.head (by kernel_rfl), ?_⟩
      refine bit_s qt' hw64 (k : Int) (q.length : Nat) ⟨by omega, by omega⟩ ⟨_, rfl, ld (qg.cl.at_ 2 _ rfl) (by kernel_rfl), ld k1'.head (by kernel_rfl), ?_⟩
      rw [htw, hb0]
      refine ⟨_, ixN hlt, _, ixA (by have := bi01 bb; omega) (by have := bi01 bb; omega), ?_⟩
      have hkv : HV Try.prog (Instr.loadAt 21 (.pointer (some ((⟨g, i * 4, none⟩ : Addr).add (bi bb).toNat)))) h' (.int .i32 (kk : Int)) := by
        cases bb
        · exact ld ((qg.node hx).at_ 0 _ rfl) (by kernel_rfl)
        · exact ld ((qg.node hx).at_ 1 _ rfl) (by kernel_rfl)
      refine ⟨_, hkv, br_i (fun hz => ?_) (fun hz => ?_)⟩
      · have hk0 : kk = 0 := by simp at hz; omega
        have hs := (h1.kid0 z1).1 hk0
        rw [hs, Tr.above_nil] at H'
        exact H' h' (by simpa using hJ')
      · have hk0 : kk ≠ 0 := by simp at hz; omega
        have hs : T.sub bb ≠ .nil := fun e => hk0 ((h1.kid0 z1).2 e)
        show trie_Trie_Above_1_l6 v a1 a2 a3 K0 f (kk : Int) (IntKind.i64.wrap (((q.length : Nat) : Int) + 1)) h'
        rw [wrap_in (by omega) (by omega)]
        have hlen : ((q ++ [bb]).length : Int) = (q.length : Int) + 1 := by simp
        rw [← hlen]
        exact ih (T.sub bb) kk f1 (q ++ [bb]) f done' rest h' h1 hs (by rw [hlen]; exact hb1) (by rw [← hq]; simp) (by omega) hL' hJ' H'
    refine ⟨_, ld (c3.at_ 2 _ rfl) (by kernel_rfl), ?_⟩
    rw [mkN_held]
    obtain ⟨A3, d3, qg3⟩ := qt3.ag
    cases hh : T.h with
    | some x =>
      refine br_t rfl ?_
      refine ⟨_, ld k23.head (by kernel_rfl), _, ld k13.head (by kernel_rfl), ?_⟩
      refine ⟨_, ld (qg3.cl.at_ 0 _ rfl) (by kernel_rfl), ?_⟩
      rw [wrap_in (n := t.width - _) (by omega) (by omega)]
      refine ⟨_, shr64 _ _ (by omega), _, ld k13.head (by kernel_rfl), ?_⟩
      refine ⟨_, ld (qg3.cl.at_ 0 _ rfl) (by kernel_rfl), ?_⟩
      rw [wrap_in (n := t.width - _) (by omega) (by omega)]
      refine ⟨_, shl64 _ _ (by omega), _, ld (c3.at_ 3 _ rfl) (by kernel_rfl), ?_⟩
      have hab : Tr.above (bb :: p) T q = (q, x) :: Tr.above p (T.sub bb) (q ++ [bb]) := by rw [Tr.above, hh]; rfl
      rw [hab, List.map_cons] at hL H
      have hev : En.val (enW w (q, x)) = .agg #[.int .u32 (topT t.width k (q.length : Nat)), .int .i64 (q.length : Nat), .int .i64 (mkN T.h bb kk o).v] := by rw [htop, mkN_v, hh]; rfl
      exact it.go (enW w (q, x)) (rest := (Tr.above p (T.sub bb) (q ++ [bb])).map (enW w) ++ rest) hev (by rw [hL]; simp) J3 (fun h4 J4 => ⟨true, rfl, br_f rfl (tail h4 _ J4 (by rw [hL]; simp) (fun h'' J'' => H h'' (by simpa using J'')))⟩) (fun h4 s4 => ⟨false, rfl, br_t rfl (HS h4 s4)⟩)
    | none =>
      have hab : Tr.above (bb :: p) T q = Tr.above p (T.sub bb) (q ++ [bb]) := by rw [Tr.above, hh]; rfl
      rw [hab] at hL H
      exact br_f rfl (tail h3 done J3 hL H)
end Go.Proofs.Ytofjbbfnkefoaaa.Fs
