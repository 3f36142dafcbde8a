/- The trie: Above's iterator, Longest. -/
import Derived.Test.YtofjbbfnkefoaaaTrSpec9
namespace Go.Proofs.Ytofjbbfnkefoaaa.Fs
open Go Go.RowKit Go.Proofs.Ytofjbbfnkefoaaa.Sx
set_option linter.unusedVariables false
set_option linter.unusedSimpArgs false
set_option maxRecDepth 10000
def aboveAll (F : Nat) (t : TT) (key n : Int) : Option (List En) := if mayT t.width key n = true then (if t.rooted = true then aboveT t.ns t.width key n F 0 0 else some []) else some []
theorem above1_s {J : List En → Hp → Prop} {b : Nat} {S : Nat → Prop} {t : TT} {key n : Int} {a1 a2 a3 : Addr} {f : Fn} {fr fc : Array Value} (a : Above J b S t key n a1 a2 a3 (.func f fr fc)) (hw : 0 ≤ t.width ∧ t.width ≤ 64) {F : Nat} {es : List En} (he : aboveAll F t key n = some es) {h : Hp} (q : J [] h) {K : Value → Hp → Prop}
    (H : ∀ h', J es h' → K (.tuple #[]) h') : CallsH Try.prog 55 #[.func f fr fc, .pointer (some a1), .pointer (some a2), .pointer (some a3)] h K := by
  refine trie_Trie_Above_1_ok _ _ _ _ _ _ ?_
  unfold trie_Trie_Above_1
  obtain ⟨qt, k1, k2, k3⟩ := a.at_ _ _ q
  obtain ⟨A, c, qg⟩ := qt.ag
  unfold aboveAll at he
  refine ⟨_, ld k1.head (by kernel_rfl), _, eqNil eq32, br_f rfl ?_⟩
  refine ⟨_, ld k1.head (by kernel_rfl), _, ld k2.head (by kernel_rfl), _, ld k3.head (by kernel_rfl), ?_⟩
  refine may_s qt hw.1 key n ⟨_, rfl, ?_⟩
  by_cases hm : mayT t.width key n = true
  · rw [if_pos hm] at he
    refine br_f (by rw [hm]; rfl) ⟨_, ld k1.head (by kernel_rfl), _, ld (qg.cl.at_ 5 _ rfl) (by kernel_rfl), ?_⟩
    by_cases hr : t.rooted = true
    · rw [if_pos hr] at he
      refine br_f (by rw [hr]; rfl) ?_
      unfold trie_Trie_Above_1_j4
      refine ⟨F, ?_⟩
      exact above_l6 a hw F 0 0 [] es h q he fun h' q' => H h' (by simpa using q')
    · rw [if_neg hr] at he
      injection he with he
      subst he
      exact br_t (by simpa using hr) (H h q)
  · rw [if_neg hm] at he
    injection he with he
    subst he
    exact br_t (by simpa using hm) (H h q)
end Go.Proofs.Ytofjbbfnkefoaaa.Fs
