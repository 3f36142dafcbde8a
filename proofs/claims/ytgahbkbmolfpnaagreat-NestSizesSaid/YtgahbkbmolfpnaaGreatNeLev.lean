/- nest.levelled. -/
import Derived.Test.YtgahbkbmolfpnaaGreatNeLib
import Derived.Test.YtgahbkbmolfpnaaGreatNePure3
namespace Go.Proofs.YtgahbkbmolfpnaaGreat.Fs
open Go Go.RowKit Go.Sort Go.Proofs.YtgahbkbmolfpnaaGreat.Sx Go.Proofs.YtgahbkbmolfpnaaGreat.Sp Go.Proofs.YtgahbkbmolfpnaaGreat.Ne
set_option linter.unusedVariables false
set_option linter.unusedSimpArgs false
set_option maxRecDepth 10000
theorem enters_calls {g : Nat} {fn : Func} (hf : Tryz.prog.funcs[g]? = some fn) (hb : fn.body.isSome = true) (hn : (fn.name == "runtime.NumGoroutine") = false) : ∀ args w, (callFunc g args).run Tryz.prog w = .ok (.enter g args) w := by
  intro args w
  have h4 : fn.body ≠ none := by intro e; rw [e] at hb; cases hb
  have h5 : fn.name ≠ "runtime.NumGoroutine" := by simpa using hn
  unfold callFunc
  simp [go_sem, hf, h5, h4]
def cfA (a b : Sp) : Int := or2 (cmp3 a.lo b.lo) (cmp3 b.hi a.hi)
theorem cfA_lt (a b : Sp) : decide (cfA a b < 0) = aheadB a b := by
  unfold cfA or2 cmp3 aheadB
  rw [decide_eq_decide]
  repeat' split
  all_goals omega
theorem lev1_s {h : Hp} {a3 : Addr} {A : Option Addr} {c : Nat} {l : List Sp} (cb : cell h a3 = some (.slice A l.length c)) (r : RSl h A l.length 2 (l.flatMap Sp.enc)) {i k : Nat} {x y : Sp} (hx : l[i]? = some x) (hy : l[k]? = some y) :
    CallsH Tryz.prog 55 #[.int .i64 (i : Int), .int .i64 (k : Int), .pointer (some a3)] h fun v h' => v = .int .i64 (cfA x y) ∧ Ext h h' := by
  refine nest_levelled_1_ok _ _ _ ?_
  unfold nest_levelled_1
  obtain ⟨ax, _, _, ix1, cx⟩ := ixR (P := Tryz.prog) (T := 37) (E := 36) (c := c) (k := .i64) Sp.len r rfl und_sps size_sp hx
  obtain ⟨ay, _, _, ix2, cy⟩ := ixR (P := Tryz.prog) (T := 37) (E := 36) (c := c) (k := .i64) Sp.len r rfl und_sps size_sp hy
  have lb : HV Tryz.prog (Instr.loadAt 37 (.pointer (some a3))) h (.slice A l.length c) := ld cb (by kernel_rfl)
  have lx0 : HV Tryz.prog (Instr.loadAt 24 (.pointer (some ax))) h (.int .u16 x.lo) := ld cx.head (by kernel_rfl)
  have ly0 : HV Tryz.prog (Instr.loadAt 24 (.pointer (some ay))) h (.int .u16 y.lo) := ld cy.head (by kernel_rfl)
  have lx1 : HV Tryz.prog (Instr.loadAt 24 (.pointer (some (ax.add 1)))) h (.int .u16 x.hi) := ld (cx.at_ 1 _ rfl) (by kernel_rfl)
  have ly1 : HV Tryz.prog (Instr.loadAt 24 (.pointer (some (ay.add 1)))) h (.int .u16 y.hi) := ld (cy.at_ 1 _ rfl) (by kernel_rfl)
  refine ⟨_, _, _, lb, _, ix1, _, lx0, _, _, _, lb, _, ix2, _, ly0, cmpU16_s _ _ ⟨_, rfl, _, _, _, lb, lb, _, ix2, _, ly1, ly1, _, _, _, lb, lb, _, ix1, _, lx1, lx1, cmpU16_s _ _ ⟨_, rfl, newC_i fun h1 e1 c1 b1 z1 => ?_⟩⟩⟩
  exact or2_s _ _ c1 rfl ⟨_, rfl, rfl, e1⟩
theorem recode {α β : Type} {e1 : α → List Value} {e2 : β → List Value} {h : Hp} {E sz c : Nat} {A : Option Addr} {xs : List α} {ys : List β} (r : Row h E e1 sz A c xs) (hl : xs.length = ys.length) (hf : xs.flatMap e1 = ys.flatMap e2) : Row h E e2 sz A c ys := by
  unfold Row at *
  rw [← hl, ← hf]
  exact r
theorem fin_range (n : Nat) : List.map (fun (i : Fin n) => i.val) (List.finRange n) = List.range n := List.ext_getElem (by simp) fun i h1 h2 => by simp
abbrev ints (os : List Nat) : List Int := List.map (fun (i : Nat) => (i : Int)) os
theorem sort_ix {h : Hp} {g c : Nat} {a3 : Addr} {A : Option Addr} {cc : Nat} {l : List Sp} (ho : RowI h (some ⟨g, 0, none⟩) c (ints (List.range l.length))) (cb : cell h a3 = some (.slice A l.length cc)) (r : RSl h A l.length 2 (l.flatMap Sp.enc)) (h3 : a3.block ≠ g) (hA : 0 < l.length → ∀ a, A = some a → a.block ≠ g) (hl : l.length < 2 ^ 62) {K : Value → Hp → Prop}
    (H : ∀ (h' : Hp) (os : List Nat) (ss : List Sp), os.Perm (List.range l.length) → ss.length = l.length → (∀ (m i : Nat), os[m]? = some i → ss[m]? = l[i]?) → Orde ss → RowI h' (some ⟨g, 0, none⟩) c (ints os) → Fr (fun k => k = g) h h' → K (.tuple #[]) h') :
    CallsH Tryz.prog 54 #[.slice (some ⟨g, 0, none⟩) l.length c, .func (.func 55) #[] #[.pointer (some a3)]] h K := by
  rcases Nat.eq_zero_or_pos l.length with h0 | h0
  · have e : l = [] := List.eq_nil_of_length_eq_zero h0
    subst e
    intro w hw
    subst hw
    refine (Tryz.slices_SortFunc_none_f54 (α := Int) (some ⟨g, 0, none⟩) c (.func (.func 55) #[] #[.pointer (some a3)]) w).mono ?_
    rintro e w' ⟨rfl, rfl⟩
    exact ⟨_, rfl, Same.refl _, H _ [] [] (List.Perm.refl _) rfl (by simp) List.Pairwise.nil ho (Fr.refl _ _)⟩
  · letI : Inhabited (Fin l.length) := ⟨⟨0, h0⟩⟩
    let enc : Fin l.length → Value := fun i => .int .i64 ((i.val : Nat) : Int)
    let cf : Fin l.length → Fin l.length → Int := fun i k => cfA l[i] l[k]
    have hlt : ∀ i k, ltOf cf i k = aheadB l[i] l[k] := fun i k => cfA_lt _ _
    have hr : Row h 3 (fun x => [enc x]) 1 (some ⟨g, 0, none⟩) c (List.finRange l.length) := by
      refine recode ho.row (by simp) ?_
      rw [List.flatMap_map, ← fin_range, List.flatMap_map]
      rfl
    have hlen : (List.finRange l.length).length = l.length := by simp
    have := sort_row1 (P := Tryz.prog) (f := 54) (g := 55) (cb := #[.pointer (some a3)]) (enc := enc) (lt := ltOf cf) hr (K := K) (fun w hw hgb hH => ?_) fun h' ys hp hs r' f => ?_
    · rwa [hlen] at this
    · refine Tryz.slices_SortFunc_f54 enc (fun _ => rfl) cf ⟨fun x => ?_, fun x y z h1 h2 => ?_, fun x y z h1 h2 => ?_⟩ 55 #[.pointer (some a3)] g 0 c (List.finRange l.length).toArray w (enters_calls Tryz.func55 (by kernel_rfl) (by kernel_rfl)) ?_ hH hgb (by rw [List.size_toArray, hlen]; exact hl)
      · rw [hlt, ahead_ir]
      · rw [hlt] at *; exact ahead_tr h1 h2
      · rw [hlt] at *
        simp only [aheadB, decide_eq_false_iff_not] at *
        omega
      · refine cmp_lays1 fun h' f x y => ?_
        have cb' : cell h' a3 = some (.slice A l.length cc) := by
          subst hw
          have hk := f.keep a3.block (cell_lt cb) h3
          rw [cell_same hk]; exact cb
        have r' : RSl h' A l.length 2 (l.flatMap Sp.enc) := by
          subst hw
          refine ⟨r.1, r.2.imp id fun ⟨a, ha, cl⟩ => ⟨a, ha, ⟨cl.spot, fun j v hj => ?_⟩⟩⟩
          have hc := cl.at_ j v hj
          have hk := f.keep (a.add j).block (cell_lt hc) (by rw [add_off cl.spot]; exact hA h0 a ha)
          rw [cell_same hk]; exact hc
        exact lev1_s cb' r' (x := l[x]) (y := l[y]) (by simp) (by simp)
    · refine H h' (ys.map (·.val)) (ys.map fun i => l[i]) ?_ (by simp [hp.length_eq]) ?_ ?_ ⟨recode r' (by simp) ?_, ho.cap⟩ f
      · rw [← fin_range]
        exact hp.map _
      · intro m i hi
        rw [List.getElem?_map] at hi ⊢
        cases hy : ys[m]? with
        | none => rw [hy] at hi; cases hi
        | some y =>
          rw [hy] at hi
          simp only [Option.map_some, Option.some.injEq] at hi
          subst hi
          simp
      · rw [Orde, List.pairwise_map]
        exact hs.imp fun h => by rw [hlt] at h; exact h
      · rw [List.flatMap_map, List.flatMap_map]
        rfl
end Go.Proofs.YtgahbkbmolfpnaaGreat.Fs
