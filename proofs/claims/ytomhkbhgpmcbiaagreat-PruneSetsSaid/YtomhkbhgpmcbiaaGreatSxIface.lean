/- Calls of a pointer's methods through an interface. -/
import Derived.Test.YtomhkbhgpmcbiaaGreatSxFunc
namespace Go.Proofs.YtomhkbhgpmcbiaaGreat.Sx
open Go Go.RowKit
set_option linter.unusedVariables false
set_option linter.unusedSimpArgs false
/-- Is the method of that name of the pointer type t the function f? -/
def methB (P : Program) (t : TypeId) (name : String) (f : FuncId) : Bool :=
  match P.info? t with
  | some i => match i.methods.find? (·.name == name) with
    | some m => m.path.isEmpty && (match m.func with
      | some (g, true) => g == f
      | _ => false) && (match P.underlying t with
      | some (.pointer _) => true
      | _ => false)
    | none => false
  | none => false
theorem callI {P : Program} {t : TypeId} {v : Value} {name : String} {f : FuncId} {args : Array Value} (hm : methB P t name f = true) (hen : enters P f = true) {h : Hp} {K : Value → Hp → Prop} (H : CallsH P f (#[v] ++ args) h K) : HN P (callMethod (.iface t v) name args) h K := by
  unfold methB at hm
  cases hi : P.info? t with
  | none => rw [hi] at hm; cases hm
  | some i =>
    rw [hi] at hm
    simp only at hm
    cases hf : i.methods.find? (·.name == name) with
    | none => rw [hf] at hm; cases hm
    | some m =>
      rw [hf] at hm
      simp only [Bool.and_eq_true] at hm
      obtain ⟨⟨h1, h2⟩, h3⟩ := hm
      cases hu : P.underlying t with
      | none => rw [hu] at h3; cases h3
      | some d =>
        rw [hu] at h3
        cases d <;> first | (cases h3; done) | skip
        rename_i el
        have hpath : m.path.toList = [] := by simpa using h1
        have hfn : m.func = some (f, true) := by
          cases hg : m.func with
          | none => rw [hg] at h2; cases h2
          | some q =>
            obtain ⟨g, b⟩ := q
            rw [hg] at h2
            cases b
            · cases h2
            · simp only [beq_iff_eq] at h2
              rw [h2]
        have hn : ∃ n, P.types.size + Made.depth = n + 1 := ⟨P.types.size + Made.depth - 1, by
          have : 0 < Made.depth := by decide
          omega⟩
        obtain ⟨n, hn⟩ := hn
        unfold HN callMethod
        simp only [program, semWp_bind_eq, semWp_pure_eq, semWp]
        rw [hn]
        unfold method
        rw [semWp_bind_eq, info_eq hi, hf]
        simp only
        rw [semWp_bind_eq, hpath]
        simp only [follow, semWp_pure_eq, hfn]
        rw [semWp_bind_eq]
        unfold receiverAt
        rw [semWp_bind_eq, underlying_eq hu]
        simp only [Place.get, semWp_pure_eq]
        unfold callFunc
        unfold enters at hen
        cases hf : P.funcs[f]? with
        | none => rw [hf] at hen; cases hen
        | some fn =>
          rw [hf] at hen
          simp only [Bool.and_eq_true, Bool.not_eq_true'] at hen
          obtain ⟨h1, h2⟩ := hen
          have h4 : fn.body ≠ none := by intro hb; rw [hb] at h2; cases h2
          have h5 : fn.name ≠ "runtime.NumGoroutine" := by simpa using h1
          simp only [program, semWp_bind_eq, semWp_pure_eq, semWp, hf]
          simp [h5, h4, semWp_pure_eq, nextWp, H]
end Go.Proofs.YtomhkbhgpmcbiaaGreat.Sx
