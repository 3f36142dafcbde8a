/- The trie: same, of an iterator that yields nothing. -/
import Derived.Test.YtofjbbfnkefoaaaTrSpec13
namespace Go.Proofs.Ytofjbbfnkefoaaa.Fs
open Go Go.RowKit Go.Proofs.Ytofjbbfnkefoaaa.Sx
set_option linter.unusedVariables false
set_option linter.unusedSimpArgs false
set_option maxRecDepth 10000
theorem size3 : (Try.prog.info? 3).map (·.size) = some 1 := by kernel_rfl
theorem same0 {g : FuncId} {lb : Array Value} (hen : enters Try.prog g = true) {h : Hp} (hc : ∀ l h1, Ext h h1 → CallsH Try.prog g (#[yieldV l] ++ lb) h1 fun _ h2 => Ext h1 h2) {K : Value → Hp → Prop} (H : ∀ h', Ext h h' → K (.bool true) h') :
    CallsH Try.prog 33 #[.func (.func g) #[] lb, .slice none 0 0, .int .i64 0] h K := by
  refine quintetlaw12_same_ok _ _ _ _ _ _ _ ?_
  unfold quintetlaw12_same
  refine newC_i fun h1 e1 c1 b1 z1 => newC_i fun h2 e2 c2 b2 z2 => newC_i fun h3 e3 c3 b3 z3 => newC_i (cs := [Value.bool false]) fun h4 e4 c4 b4 z4 => ?_
  refine ⟨_, ld (((c1.ext e2).ext e3).ext e4).head (by kernel_rfl), ?_⟩
  refine ⟨false, fun w => pureRun_run Try.prog _ _ (by kernel_rfl) w, br_f rfl ?_⟩
  refine ⟨_, ld (c3.ext e4).head (by kernel_rfl), br_f rfl ?_⟩
  refine ⟨_, ld (c3.ext e4).head (by kernel_rfl), _, _, _, ld ((c2.ext e3).ext e4).head (by kernel_rfl), 0, fun w => pureRun_run Try.prog _ _ (by kernel_rfl) w, ?_⟩
  have fN := fun (x y : Hp) (e : Ext x y) => e.fr (fun _ => False)
  refine HU_box (us := [.int .i64 0]) (cs := [.int .i64 0]) ((fN _ _ e4).get b3 (fun h => h)) rfl rfl size3 rfl fun h5 c5 b5 f5 z5 => ?_
  refine newV (us := [.int .i64 0]) (cs := [.int .i64 0]) rfl rfl size3 rfl fun h6 e6 c6 b6 z6 => ?_
  have cA := (f5.cl (((c1.ext e2).ext e3).ext e4) (by intro e; simp at e; omega)).ext e6
  have cB := (f5.cl ((c2.ext e3).ext e4) (by intro e; simp at e; omega)).ext e6
  have bD := (fN _ _ e6).get (f5.get b4 (by omega)) (fun h => h)
  have E6 : Ext h h6 := ⟨by omega, fun k hk => by rw [e6.old k (by omega), f5.keep k (by omega) (by omega), e4.old k (by omega), e3.old k (by omega), e2.old k (by omega), e1.old k hk]⟩
  refine ⟨_, ld cA.head (by kernel_rfl), noRoundE hen (fun l hh e => hc l hh (E6.trans e)) fun h7 e7 hD7 hlt7 => ?_⟩
  have s7 := e7.size
  refine ⟨_, ld ((c5.ext e6).ext e7).head (by kernel_rfl), br_f rfl ?_⟩
  refine HU_box (us := [.int .i64 0]) (cs := [.int .i64 0]) ((fN _ _ e7).get b6 (fun h => h)) rfl rfl size3 rfl fun h8 c8 b8 f8 z8 => ?_
  have cA8 := f8.cl (cA.ext e7) (by intro e; simp at e; omega)
  have cB8 := f8.cl (cB.ext e7) (by intro e; simp at e; omega)
  have bD8 := f8.get ((fN _ _ e7).get bD (fun h => h)) (by omega)
  have hD8 := f8.get hD7 (by omega)
  have E8 : Ext h h8 := ⟨by omega, fun k hk => by rw [f8.keep k (by omega) (by omega), e7.old k (by omega), E6.old k hk]⟩
  refine ⟨_, ld cA8.head (by kernel_rfl), noRoundE hen (fun l hh e => hc l hh (E8.trans e)) fun h9 e9 hD9 hlt9 => ?_⟩
  have s9 := e9.size
  refine ⟨_, ld (c8.ext e9).head (by kernel_rfl), _, _, _, ld (cB8.ext e9).head (by kernel_rfl), ?_⟩
  refine HU_box (us := [.bool true]) (cs := [Value.bool false]) ((fN _ _ e9).get bD8 (fun h => h)) rfl rfl size4 rfl fun h10 c10 b10 f10 z10 => ?_
  have d1 := f10.get hD9 (by omega)
  have d2 := f10.get ((fN _ _ e9).get hD8 (fun h => h)) (by omega)
  refine ⟨d1, ?_, ?_⟩
  · rw [Array.getElem?_setIfInBounds_ne (by omega)]
    exact d2
  refine ⟨_, ld (cell_set (cell_set c10.head (by show h3.size ≠ _; omega)) (by show h3.size ≠ _; omega)) (by kernel_rfl), H _ ⟨by simp; omega, fun k hk => ?_⟩⟩
  rw [Array.getElem?_setIfInBounds_ne (by omega), Array.getElem?_setIfInBounds_ne (by omega), f10.keep k (by omega) (by omega), e9.old k (by omega), E8.old k hk]
end Go.Proofs.Ytofjbbfnkefoaaa.Fs
