/- TrieNews: the walk. -/
import Derived.Test.YtjdgbkgkkimcpaaTrSpec14
namespace Go.Proofs.Ytjdgbkgkkimcpaa.Fs
open Go Go.RowKit Go.Proofs.Ytjdgbkgkkimcpaa.Sx
set_option linter.unusedVariables false
set_option linter.unusedSimpArgs false
set_option maxRecDepth 10000
theorem same48 {a1 a2 a3 : Addr} {h : Hp} (c : Cl h a1 [.pointer none]) {K : Value → Hp → Prop} (H : ∀ h', Ext h h' → K (.bool true) h') : CallsH Try.prog 21 #[.func (.func 48) #[] #[.pointer (some a1), .pointer (some a2), .pointer (some a3)], .slice none 0 0, .int .i64 0] h K :=
  same0 (by kernel_rfl) (fun l h1 e => by show CallsH Try.prog 48 #[yieldV l, .pointer (some a1), .pointer (some a2), .pointer (some a3)] _ _; exact above1N (c.ext e) l (Ext.refl _)) H
theorem same49N {a1 : Addr} {h : Hp} (c : Cl h a1 [.pointer none]) {K : Value → Hp → Prop} (H : ∀ h', Ext h h' → K (.bool true) h') : CallsH Try.prog 21 #[.func (.func 49) #[] #[.pointer (some a1)], .slice none 0 0, .int .i64 0] h K :=
  same0 (by kernel_rfl) (fun l h1 e => by show CallsH Try.prog 49 #[yieldV l, .pointer (some a1)] _ _; exact walk1N (c.ext e) l fun _ e => e) H
theorem same49E {a1 : Addr} {h : Hp} {b : Nat} {S : Nat → Prop} {t : TT} (q : TrAt h b S t) (hr : t.rooted = false) (c : Cl h a1 [.pointer (some ⟨b, 0, none⟩)]) {K : Value → Hp → Prop} (H : ∀ h', Ext h h' → K (.bool true) h') : CallsH Try.prog 21 #[.func (.func 49) #[] #[.pointer (some a1)], .slice none 0 0, .int .i64 0] h K :=
  same0 (by kernel_rfl) (fun l h1 e => by show CallsH Try.prog 49 #[yieldV l, .pointer (some a1)] _ _; exact walk1_empty (q.ext e) hr (c.ext e) l fun _ e => e) H
theorem j3N {h : Hp} {K0 : Bool → Hp → Prop} (H : ∀ h', Ext h h' → K0 true h') : quintetlaw12_TrieNews_j3 K0 none false true h := by
  unfold quintetlaw12_TrieNews_j3
  exact awake_s fun h1 e1 => ⟨_, rfl, br_t rfl (br_t rfl (br_t rfl (H h1 e1)))⟩
theorem j3E {h : Hp} {b : Nat} {S : Nat → Prop} {w m : Int} (q : TrAt h b S ⟨w, m, [], 0, 0, false⟩) {K0 : Bool → Hp → Prop} (H : ∀ h', Ext h h' → K0 true h') : quintetlaw12_TrieNews_j3 K0 (some ⟨b, 0, none⟩) true true h := by
  unfold quintetlaw12_TrieNews_j3
  refine awake_s fun h1 e1 => ⟨_, rfl, br_t rfl (br_t rfl (br_f rfl ?_))⟩
  refine tnodes_s (q.ext e1) ⟨_, rfl, br_t rfl ?_⟩
  refine tarena_s (q.ext e1) ⟨_, rfl, br_t rfl ?_⟩
  refine walk_s _ fun h2 a1 e2 _ _ k1 => ⟨_, rfl, ?_⟩
  exact same49E ((q.ext e1).ext e2) rfl k1 fun h3 e3 => ⟨_, rfl, H h3 ((e1.trans e2).trans e3)⟩
theorem j2_s (key n : Int) (p : Option Addr) (bb : Bool) {h : Hp} {K0 : Bool → Hp → Prop} (H : ∀ h', Ext h h' → quintetlaw12_TrieNews_j3 K0 p bb true h') : quintetlaw12_TrieNews_j2 K0 key n p bb h := by
  unfold quintetlaw12_TrieNews_j2
  refine tgetN key n ⟨_, _, rfl, ?_⟩
  refine longestN key fun h1 e1 => ⟨_, _, _, _, rfl, ?_⟩
  refine newV (us := En.enc (0, 0, 0)) rfl rfl size39 rfl fun h2 e2 c2 b2 z2 => ?_
  refine tputN key n 1 ⟨_, rfl, br_t rfl ?_⟩
  refine tcutN key n ⟨_, rfl, br_t rfl (br_t rfl (br_t rfl ?_))⟩
  refine ⟨_, _, _, ldS c2 (by kernel_rfl), _, eq39 _ _ _ _ _ _, br_t (by decide) (br_t rfl ?_)⟩
  refine above_s none key n fun h3 a1 a2 a3 e3 _ _ _ _ _ _ k1 k2 k3 => ⟨_, rfl, ?_⟩
  refine same48 k1 fun h4 e4 => ⟨_, rfl, br_t rfl ?_⟩
  refine walk_s none fun h5 a5 e5 _ _ k5 => ⟨_, rfl, ?_⟩
  refine same49N k5 fun h6 e6 => ⟨_, rfl, br_t rfl ?_⟩
  refine tnodesN ⟨_, rfl, br_t rfl ?_⟩
  exact tarenaN ⟨_, rfl, H h6 (((((e1.trans e2).trans e3).trans e4).trans e5).trans e6)⟩
theorem TrieNews_s (w m key n : Int) {h : Hp} {K : Value → Hp → Prop} (H : ∀ h', Ext h h' → K (.bool true) h') : CallsH Try.prog 4 #[.int .i64 w, .int .i64 m, .int .u32 key, .int .i64 n] h K := by
  refine quintetlaw12_TrieNews_ok _ _ _ _ ?_
  unfold quintetlaw12_TrieNews
  refine tnew_s w m (fun hn => ⟨_, _, rfl, ?_⟩) (fun hn h1 b e1 hb q => ⟨_, _, rfl, ?_⟩)
  · refine right_s w m ⟨_, rfl, ?_⟩
    rw [decide_eq_false hn]
    refine br_f rfl ⟨_, neNil eq32, br_f rfl (br_t rfl (br_f rfl ?_))⟩
    exact j2_s key n none false fun h2 e2 => j3N fun h3 e3 => H h3 (e2.trans e3)
  · refine right_s w m ⟨_, rfl, ?_⟩
    rw [decide_eq_true hn]
    refine br_f rfl ⟨_, neNil eq32, br_f rfl (br_f rfl ?_)⟩
    exact j2_s key n _ true fun h2 e2 => j3E (q.ext e2) fun h3 e3 => H h3 ((e1.trans e2).trans e3)
end Go.Proofs.Ytjdgbkgkkimcpaa.Fs
