/- A range over a function within a round of one. -/
import Derived.Test.YtoheablfncdibaaDoorSxRound
namespace Go.Proofs.YtoheablfncdibaaDoor.Sx
open Go
set_option linter.unusedVariables false
set_option linter.unusedSimpArgs false
/-- Behind the inner iterator's call. -/
def endN (h2 : Hp) (L : Nat) (Kn : Hp → Prop) (Kj : Code → Hp → Prop) : Prop :=
  ∃ r2 : Loop, h2[L]? = some (.loop r2) ∧ r2.state ≠ .busy ∧ (match r2.pending with
    | none => Kn (h2.setIfInBounds L (.loop { r2 with state := .exhausted }))
    | some c => Kj c (h2.setIfInBounds L (.loop { r2 with state := .exhausted })))
/-- The range within a round of the loop l. -/
def RangeN (P : Program) (n l : Nat) (fv : Value) (ps : Array Tmp) (as bd : Code) (tm : Tm) (h : Hp) (Kn : Hp → Prop) (Kj : Code → Hp → Prop) : Prop :=
  ∃ f lb r0, fv = .func (.func f) #[] lb ∧ enters P f = true ∧ h[l]? = some (.loop r0) ∧ ∀ r : Loop, RecOK n ps as bd tm r0.defers r →
    CallsH P f (#[yieldV h.size] ++ lb) (h.push (.loop r)) fun _ h2 => endN h2 h.size Kn Kj
def rngN (P : Program) (n l : Nat) (g : Operand) (ps : Array Tmp) (as bd : Code) (live : List Nat) (Q : Qx) (tm : Tm) (h : Hp) : Prop := match ev? tm g with
  | some fv => RangeN P n l fv ps as bd (mask live tm) h (fun h' => Q .normal tm h') (fun c h' => jmpQ c (Q .ret tm h') ((exitsOf bd).map fun e => (e, Q (.exit e) tm h')))
  | none => False
theorem enterLoop_inner {P : Program} {w : World} {l₀ : Nat} {r₀ : Loop} (h : w.heap[l₀]? = some (.loop r₀)) (fn : FuncId) (tmps : Array Value) (ps : Array Tmp) (assign body : Code) :
    (Instr.enterLoop fn tmps ps assign body (some l₀)).run P w =
      .ok (w.heap.size, []) (w.alloc (.loop { state := .ready, pending := none, fn, tmps, params := ps, assign, body, defers := r₀.defers })) := by
  unfold Instr.enterLoop
  simp only [Sem.run_bind, run_getLoop h, run_newObj_alloc, Result.andThen, Sem.run_pure]
theorem rngN_sound {P : Program} {n l : Nat} {g : Operand} {ps : Array Tmp} {as bd : Code} {live : List Nat} : SndAt P n (some l) (.rangeFunc g ps as bd) (rngN P n l g ps as bd live) := by
  intro ds Q tm a w w0 h hl hz hs m
  unfold rngN at h
  cases hg : ev? tm g with
  | none => rw [hg] at h; exact h.elim
  | some fv =>
    rw [hg] at h
    obtain ⟨f, lb, r0, rfl, hen, hl0, hr⟩ := h
    refine wpIn_rangeFunc ?_
    intro fn hfn
    have hgv : a.eval g = .func (.func f) #[] lb := hl.ev hg
    obtain ⟨rec, hrec⟩ : ∃ rec : Loop, rec = { state := .ready, pending := none, fn, tmps := a.tmps, params := ps, assign := as, body := bd, defers := r0.defers } := ⟨_, rfl⟩
    obtain ⟨W1, hW1⟩ : ∃ W1, w.alloc (.loop rec) = W1 := ⟨_, rfl⟩
    have hH : W1.heap = w.heap.push (.loop rec) := by rw [← hW1]; rfl
    have hS : Same w W1 := by rw [← hW1]; exact same_alloc _ _
    refine ⟨w.heap.size, [], W1, { target := .fn (.func f) lb, args := #[.func (.yield w.heap.size) #[] #[]] }, W1, f,
      #[.func (.yield w.heap.size) #[] #[]] ++ lb, W1, ?_, ?_, ?_, ?_, (fun h => by cases h), ?_⟩
    · rw [← hW1, hrec]; exact enterLoop_inner hl0 _ _ _ _ _
    · simp only [resolve, hgv]
      simp [go_sem]
    · intro f' _; trivial
    · simp [invoke, go_sem, enters_run hen]
    · have hc := hr rec ⟨by rw [hrec], by rw [hrec], by rw [hrec], by rw [hrec], by rw [hrec], by rw [hrec], fun i v hi => by rw [hrec]; exact hl.at_ i v (mkTm_mask tm live i v hi), by rw [hrec]; exact hz⟩
      have hc2 : CallsIn Fence.wide (m - 1) P f (#[.func (.yield w.heap.size) #[] #[]] ++ lb) W1 _ := callsIn_wide.2 (hc W1 hH)
      refine CallsIn.mono hc2 ?_
      rintro e w3 ⟨v, rfl, hs3, r2, hr2, hb, hK⟩
      refine ⟨r2.pending, w3.putObj w.heap.size (.loop { r2 with state := .exhausted }), run_endLoop hr2 hb, ?_⟩
      have hS3 := (hs.trans hS).trans hs3
      have hl' : Le ds tm { a with defers := ([] : List Deferred) ++ a.defers } := ⟨hl.at_, by rw [← hl.defers]; rfl⟩
      cases hp : r2.pending with
      | none =>
        rw [hp] at hK
        exact ⟨tm, hl', hz, hS3.trans (same_put _ _ _), hK⟩
      | some c =>
        rw [hp] at hK
        cases c <;> simp only [jmpQ] at hK <;> try exact hK.elim
        case ret => exact wpIn_ret ⟨tm, hl', hz, hS3.trans (same_put _ _ _), hK⟩
        case exit id => exact wpIn_exit ⟨tm, hl', hz, hS3.trans (same_put _ _ _), pickX_map (F := fun e => Q (.exit e) tm _) _ hK⟩
theorem rngN_snd {P : Program} {n l : Nat} {g : Operand} {ps : Array Tmp} {c ca cb : Code} {live : List Nat} (e : c = .rangeFunc g ps ca cb) : SndAt P n (some l) c (rngN P n l g ps ca cb live) := by
  subst e
  exact rngN_sound
end Go.Proofs.YtoheablfncdibaaDoor.Sx
