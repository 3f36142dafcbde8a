/- The trie: no trie's walks; an iterator that yields nothing. -/
import Derived.Test.YtofjbbfnkefoaaaTrSpec12
namespace Go.Proofs.Ytofjbbfnkefoaaa.Fs
open Go Go.RowKit Go.Proofs.Ytofjbbfnkefoaaa.Sx
set_option linter.unusedVariables false
set_option linter.unusedSimpArgs false
set_option maxRecDepth 10000
theorem noRoundE {P : Program} {n : Nat} {f : FuncId} {lb : Array Value} {ps : Array Tmp} {cas bd : Code} {tm : Tm} {h : Hp} {Kn : Nat → Hp → Prop} {Kj : Code → Nat → Hp → Prop} (hen : enters P f = true)
    (hc : ∀ l h1, Ext h h1 → CallsH P f (#[yieldV l] ++ lb) h1 fun _ h2 => Ext h1 h2)
    (H : ∀ h', Ext h h' → h'[h.size]? = some (.deferred (some [])) → h.size < h'.size → Kn h.size h') : RangeW P n (.func (.func f) #[] lb) ps cas bd tm h Kn Kj := by
  refine ⟨f, lb, rfl, hen, fun r hr => ?_⟩
  have e2 : Ext h ((h.push (.deferred (some []))).push (.loop r)) := (Ext.push h _).trans (Ext.push _ _)
  refine (hc _ _ e2).mono fun v h2 hh => ?_
  have hz := hh.size
  have hs : ((h.push (.deferred (some []))).push (.loop r)).size = h.size + 2 := by simp
  refine ⟨r, by rw [hh.old _ (by omega), Array.getElem?_push, if_pos (by simp)], by rw [hr.state]; decide, ?_⟩
  rw [hr.pending]
  refine H _ ((e2.trans hh).set (by omega) _) ?_ (by simp; omega)
  rw [Array.getElem?_setIfInBounds_ne (by omega), hh.old _ (by omega), Array.getElem?_push, if_neg (by simp), Array.getElem?_push, if_pos rfl]
theorem above1N {a1 a2 a3 : Addr} {h : Hp} (c : Cl h a1 [.pointer none]) (l : Nat) {K : Value → Hp → Prop} (H : K (.tuple #[]) h) : CallsH Try.prog 55 #[yieldV l, .pointer (some a1), .pointer (some a2), .pointer (some a3)] h K := by
  refine trie_Trie_Above_1_ok _ _ _ _ _ _ ?_
  unfold trie_Trie_Above_1
  exact ⟨_, ld c.head (by kernel_rfl), _, eqNil eq32, br_t rfl H⟩
theorem walk1N {a1 : Addr} {h : Hp} (c : Cl h a1 [.pointer none]) (l : Nat) {K : Value → Hp → Prop} (H : ∀ h', Ext h h' → K (.tuple #[]) h') : CallsH Try.prog 56 #[yieldV l, .pointer (some a1)] h K := by
  refine trie_Trie_Walk_1_ok _ _ _ _ ?_
  unfold trie_Trie_Walk_1
  exact newC_i fun h1 e1 c1 b1 z1 => ⟨_, ld (c.ext e1).head (by kernel_rfl), _, eqNil eq32, br_t rfl (H h1 e1)⟩
theorem walk1_empty {a1 : Addr} {h : Hp} {b : Nat} {S : Nat → Prop} {t : TT} (q : TrAt h b S t) (hr : t.rooted = false) (c : Cl h a1 [.pointer (some ⟨b, 0, none⟩)]) (l : Nat) {K : Value → Hp → Prop} (H : ∀ h', Ext h h' → K (.tuple #[]) h') : CallsH Try.prog 56 #[yieldV l, .pointer (some a1)] h K := by
  refine trie_Trie_Walk_1_ok _ _ _ _ ?_
  unfold trie_Trie_Walk_1
  refine newC_i fun h1 e1 c1 b1 z1 => ⟨_, ld (c.ext e1).head (by kernel_rfl), _, eqNil eq32, br_f rfl ⟨_, ld (c.ext e1).head (by kernel_rfl), ?_⟩⟩
  obtain ⟨A, cc, qg⟩ := (q.ext e1).ag
  exact ⟨_, ld (qg.cl.at_ 5 _ rfl) (by kernel_rfl), br_t (by rw [hr]; rfl) (H h1 e1)⟩
theorem longestN (key : Int) {h : Hp} {K : Value → Hp → Prop} (H : ∀ h', Ext h h' → K (.tuple #[En.val (0, 0, 0), .bool false]) h') : CallsH Try.prog 30 #[.pointer none, .int .u32 key] h K := by
  refine trie_Trie_Longest_ok _ _ ?_
  unfold trie_Trie_Longest
  refine newC_i (cs := (lastE []).enc) fun h1 e1 c1 b1 z1 => newC_i (cs := (lastE []).enc) fun h2 e2 c2 b2 z2 => ?_
  refine newV (cs := [Value.bool false]) (us := [Value.bool false]) rfl rfl size4 rfl fun h3 e3 c3 b3 z3 => ?_
  refine ⟨_, eqNil eq32, br_t rfl ⟨_, _, _, ldS (c2.ext e3) (by kernel_rfl), ?_⟩⟩
  have b1' := ((e2.trans e3).fr (fun _ => False)).get b1 (fun h => h)
  refine HU_box (us := (lastE []).enc) (cs := (lastE []).enc) b1' rfl rfl size39 rfl fun h4 c4 b4 f4 z4 => ?_
  refine ⟨_, _, _, ldS c4 (by kernel_rfl), H h4 ⟨?_, fun k hk => ?_⟩⟩
  · have := e1.size; have := e2.size; have := e3.size; omega
  · have := e1.size; have := e2.size; have := e3.size
    rw [f4.keep k (by omega) (by omega), e3.old k (by omega), e2.old k (by omega), e1.old k hk]
end Go.Proofs.Ytofjbbfnkefoaaa.Fs
