/- Calls of a function's value; append of a whole slice, and of none. -/
import Derived.Test.YtgahbkbmolfpnaaGreatSxPart
import Derived.Test.YtgahbkbmolfpnaaGreatSxRange
namespace Go.Proofs.YtgahbkbmolfpnaaGreat.Sx
open Go Go.RowKit
set_option linter.unusedVariables false
set_option linter.unusedSimpArgs false
set_option maxRecDepth 10000
theorem callF {P : Program} {f : FuncId} {lb args : Array Value} (hen : enters P f = true) {h : Hp} {K : Value → Hp → Prop} (H : CallsH P f (args ++ lb) h K) : HN P (callS (.func (.func f) #[] lb) args) h K := by
  unfold HN callS
  simp only [Deferred.ofValue, semWp_bind_eq, semWp_pure_eq, invoke]
  unfold callFunc
  unfold enters at hen
  cases hf : P.funcs[f]? with
  | none => rw [hf] at hen; cases hen
  | some fn =>
    rw [hf] at hen
    simp only [Bool.and_eq_true, Bool.not_eq_true'] at hen
    obtain ⟨h1, h2⟩ := hen
    have h4 : fn.body ≠ none := by intro hb; rw [hb] at h2; cases h2
    have h5 : fn.name ≠ "runtime.NumGoroutine" := by simpa using h1
    simp only [program, semWp_bind_eq, semWp_pure_eq, semWp, hf]
    simp [h5, h4, semWp_pure_eq, nextWp, H]
theorem rem64 {P : Program} {t : TypeId} (x y : Int) (hy : y ≠ 0) : PV P (binOp .rem t (.int .i64 x) (.int .i64 y)) (.int .i64 (Int.tmod x y)) := by
  intro w
  simp [binOp, Op.intDiv, go_sem, hy]
theorem shl64i {P : Program} {t : TypeId} (x y : Int) (hy : 0 ≤ y) : PV P (binOp .shl t (.int .i64 x) (.int .i64 y)) (.int .i64 (IntKind.i64.wrap (x * 2 ^ min y.toNat 64))) := by
  intro w
  have hn : ¬ (y < 0) := by omega
  simp only [binOp, Op.shift, hn, if_false]
  rfl
theorem shr16 {P : Program} {t : TypeId} (x y : Int) (hy : 0 ≤ y) : PV P (binOp .shr t (.int .u16 x) (.int .i64 y)) (.int .u16 (x.fdiv (2 ^ min y.toNat 16))) := by
  intro w
  have hn : ¬ (y < 0) := by omega
  simp only [binOp, Op.shift, hn, if_false]
  rfl
section
variable {α : Type} {enc : α → List Value} {sz : Nat}
/-- append(s, nothing...). -/
theorem HW_append0 {P : Program} {T E : TypeId} {i : TypeInfo} {h : Hp} {A : Option Addr} {n c : Nat} {K : Value → Hp → Prop}
    (hu : P.underlying T = some (.slice E)) (hi : P.info? E = some i) (hnc : n ≤ c) (hA : A = none → n = 0 ∧ c = 0) (H : K (.slice A n c) h) :
    HW P (Builtin.append_ #[T, T] T #[.slice A n c, .slice none 0 0]) h K := by
  unfold HW
  simp [Builtin.append_, semWp_bind_eq, underlying_eq hu, size_eq hi, Builtin.lenOf, semWp_pure_eq]
  rw [if_pos hnc, semWp_bind_eq]
  show semWp P (pure #[] : Sem (Array Value)) h _
  rw [semWp_pure_eq]
  cases A with
  | none => exact H
  | some a =>
    simp only [semWp_map_eq]
    exact H
theorem RowC.le {h : Hp} {E : Nat} {A : Option Addr} {c : Nat} {xs : List α} (r : RowC h E enc sz A c xs) : xs.length ≤ c := by
  rcases r.row with ⟨_, h1, h2, _⟩ | ⟨g, rest, rfl, hb, h1, h2, h3⟩
  · omega
  · exact h3
theorem RowC.none0 {h : Hp} {E : Nat} {c : Nat} {xs : List α} (r : RowC h E enc sz none c xs) : xs = [] ∧ c = 0 := by
  rcases r.row with ⟨_, h1, h2, _⟩ | ⟨g, rest, h0, _⟩
  · exact ⟨List.eq_nil_of_length_eq_zero h1, h2⟩
  · cases h0
/-- More elements, of a fresh row: out of another row. -/
theorem appRow {P : Program} {T E : TypeId} {i : TypeInfo} {z : Value} (he : ∀ x, (enc x).length = sz) (hf : ∀ x, (enc x).all flatV = true) {h0 h : Hp} {A B : Option Addr} {c cx : Nat} {xs ys : List α} {K : Value → Hp → Prop}
    (hu : P.underlying T = some (.slice E)) (hi : P.info? E = some i) (hz : i.zero = some z) (hzl : z.cells.size = sz) (hsz : i.size = sz) (hb0 : 0 < i.bytes) (hb1 : i.bytes ≤ 1000)
    (e : Ext h0 h) (r : RowC h E enc sz A c xs) (hF : Fresh h0 A) (rB : RowC h E enc sz B cx ys) (hl : xs.length + ys.length ≤ 1000000000)
    (H : ∀ h' A' c', Ext h0 h' → RowC h' E enc sz A' c' (xs ++ ys) → Fresh h0 A' → Fr (blk A) h h' → K (.slice A' (xs ++ ys).length c') h') :
    HW P (Builtin.append_ #[T, T] T #[.slice A xs.length c, .slice B ys.length cx]) h K := by
  rcases Nat.eq_zero_or_pos ys.length with h00 | h00
  · have hy : ys = [] := List.eq_nil_of_length_eq_zero h00
    subst hy
    rw [List.append_nil] at H
    cases B with
    | none =>
      obtain ⟨_, rfl⟩ := rB.none0
      exact HW_append0 hu hi r.le (fun hA => by subst hA; have := r.none0; exact ⟨by rw [this.1]; rfl, this.2⟩) (H h A c e r hF (Fr.refl _ _))
    | some b =>
      unfold HW
      simp [Builtin.append_, semWp_bind_eq, underlying_eq hu, size_eq hi, Builtin.lenOf, semWp_pure_eq]
      rw [if_pos r.le, semWp_bind_eq]
      show semWp P (loadCells b (0 * i.size)) h _
      rw [Nat.zero_mul]
      show semWp P (pure #[] : Sem (Array Value)) h _
      rw [semWp_pure_eq]
      cases A with
      | none => exact H h none c e r hF (Fr.refl _ _)
      | some a =>
        simp only [semWp_map_eq]
        exact H h (some a) c e r hF (Fr.refl _ _)
  · obtain ⟨g, rfl⟩ := rB.blk0 he h00
    obtain ⟨hlb, hcb⟩ := rB.read
    rcases hcb with hcb | ⟨ax, hax, hcl⟩
    · omega
    · cases hax
      have hb : (2 * (xs.length + ys.length) + 768) * i.bytes ≤ 2 ^ 48 := by
        have h1 := Nat.mul_le_mul_left (2 * (xs.length + ys.length) + 768) hb1
        have h2 : (2 * (xs.length + ys.length) + 768) * 1000 ≤ 2 ^ 48 := by
          have : (2 * (xs.length + ys.length) + 768) ≤ 2000000770 := by omega
          exact Nat.le_trans (Nat.mul_le_mul_right 1000 this) (by decide)
        exact Nat.le_trans h1 h2
      refine HW_appendC (ns := ys.flatMap enc) hu hi hz (by rw [hzl, hsz]) hb0 (by rw [hsz]; exact r.row) hcl (by rw [flat_len he, hsz]) h00 ?_ hb ?_
      · rw [List.all_eq_true]
        intro u hu
        obtain ⟨y, _, hy⟩ := List.mem_flatMap.1 hu
        exact List.all_eq_true.1 (hf y) u hy
      · intro h' A' c' hO hA' hsome hfr hc
        rw [hsz] at hO
        have := H h' A' c' (extOwn e hfr hF) ⟨by unfold Row; rw [List.length_append, List.flatMap_append]; exact hO, hc.elim (fun e => e ▸ r.cap) id⟩ (by
          rcases hA' with rfl | hA'
          · exact hF
          · intro k hk; have := hA' k hk; have := e.size; omega) hfr
        rw [List.length_append] at this
        exact this
end
end Go.Proofs.YtgahbkbmolfpnaaGreat.Sx
