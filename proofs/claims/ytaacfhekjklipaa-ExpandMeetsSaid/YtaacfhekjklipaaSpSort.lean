/- slices.SortFunc of spans, span.Union, span.Gaps. -/
import Derived.Test.YtaacfhekjklipaaSxSort
import Derived.Test.YtaacfhekjklipaaShelf
import Derived.Test.YtaacfhekjklipaaSpSpec1
namespace Go.Proofs.Ytaacfhekjklipaa.Fs
open Go Go.RowKit Go.Sort Go.Proofs.Ytaacfhekjklipaa.Sx Go.Proofs.Ytaacfhekjklipaa.Sp
set_option linter.unusedVariables false
set_option linter.unusedSimpArgs false
set_option maxRecDepth 10000
theorem enters_calls {g : Nat} {fn : Func} (hf : Try.prog.funcs[g]? = some fn) (hb : fn.body.isSome = true) (hn : (fn.name == "runtime.NumGoroutine") = false) : ∀ args w, (callFunc g args).run Try.prog w = .ok (.enter g args) w := by
  intro args w
  have h4 : fn.body ≠ none := by intro e; rw [e] at hb; cases hb
  have h5 : fn.name ≠ "runtime.NumGoroutine" := by simpa using hn
  unfold callFunc
  simp [go_sem, hf, h5, h4]
theorem swo_sp : SWO (ltOf cmpS) where
  irrefl x := by simp [ltOf, cmpS]
  trans x y z h1 h2 := by
    unfold ltOf at *; rw [cmp_lt, ltc] at *; omega
  ntrans x y z h1 h2 := by
    unfold ltOf at *; rw [cmp_lt, nlt] at *; omega
theorem sort_sp {h : Hp} {g c : Nat} {l : List Sp} (r : RowP h (some ⟨g, 0, none⟩) c l) (hl : l.length < 2 ^ 62) {K : Value → Hp → Prop} (H : ∀ h', RowP h' (some ⟨g, 0, none⟩) c (sort l) → Fr (fun k => k = g) h h' → K (.tuple #[]) h') :
    CallsH Try.prog 51 #[.slice (some ⟨g, 0, none⟩) l.length c, .func (.func 49) #[] #[]] h K := by
  refine sort_row (enc := Sp.enc) (sz := 2) Sp.len (by decide) (sort_length l) r.row (fun w hw hlt hH => ?_) fun h' r' f => H h' ⟨r', r.cap⟩ f
  have hT := Try.slices_SortFunc_total (α := Sp) 2 Try.isAgg24 Try.sizeOf24 Sp.enc Sp.len (by intro x v hv; simp [Sp.enc] at hv; rcases hv with rfl | rfl <;> rfl) cmpS swo_sp 49 #[] g 0 c l.toArray w
    (enters_calls Try.func49 (by kernel_rfl) (by kernel_rfl)) (cmp_lays fun h' _ x y => span_Compare_s x y fun h'' e => ⟨rfl, e⟩) hH hlt (by simpa using hl)
    (fun x y h1 h2 => by unfold ltOf at h1 h2; rw [cmp_lt] at h1 h2; exact tot x y h1 h2)
  refine hT.mono ?_
  rintro e w' ⟨rfl, n, os, rfl⟩
  refine ⟨rfl, n, os, ?_⟩
  congr 1
  congr 1
  refine sort_uniq _ _ (List.mergeSort_perm _ _) ?_
  have := List.pairwise_mergeSort (le := fun x y => !(ltOf cmpS) y x) (fun a b c h1 h2 => by
      simp only [ltOf, cmp_lt, Bool.not_eq_true', nlt] at *; omega) (fun a b => by
      cases h1 : ltOf cmpS b a <;> cases h2 : ltOf cmpS a b <;> simp
      unfold ltOf at h1 h2; rw [cmp_lt, ltc] at h1 h2; omega) l
  refine this.imp fun h => ?_
  simpa [ltOf, cmp_lt] using h
end Go.Proofs.Ytaacfhekjklipaa.Fs
