/- A range over a function that never yields; shutting the marks. -/
import Derived.Test.YtofjbbfnkefoaaaSxRange
import Derived.Test.YtofjbbfnkefoaaaSxRow
namespace Go.Proofs.Ytofjbbfnkefoaaa.Sx
open Go
set_option linter.unusedVariables false
theorem Ext.set {h0 h : Hp} (e : Ext h0 h) {D : Nat} (hD : h0.size ≤ D) (o : Obj) : Ext h0 (h.setIfInBounds D o) :=
  ⟨by simpa using e.size, fun k hk => by rw [Array.getElem?_setIfInBounds_ne (by omega)]; exact e.old k hk⟩
theorem noRound {P : Program} {n : Nat} {f : FuncId} {lb : Array Value} {ps : Array Tmp} {as bd : Code} {tm : Tm} {h : Hp} {Kn : Nat → Hp → Prop} {Kj : Code → Nat → Hp → Prop} (hen : enters P f = true)
    (hc : ∀ l h1, Ext h h1 → CallsH P f (#[yieldV l] ++ lb) h1 fun _ h2 => h2 = h1)
    (H : ∀ h', Ext h h' → h'[h.size]? = some (.deferred (some [])) → h.size < h'.size → Kn h.size h') : RangeW P n (.func (.func f) #[] lb) ps as bd tm h Kn Kj := by
  refine ⟨f, lb, rfl, hen, fun r hr => ?_⟩
  have e2 : Ext h ((h.push (.deferred (some []))).push (.loop r)) := (Ext.push h _).trans (Ext.push _ _)
  refine (hc _ _ e2).mono fun v h2 hh => ?_
  subst hh
  refine ⟨r, by rw [Array.getElem?_push, if_pos (by simp)], by rw [hr.state]; decide, ?_⟩
  rw [hr.pending]
  refine H _ (e2.set (by omega) _) ?_ (by simp; omega)
  rw [Array.getElem?_setIfInBounds_ne (by omega)]
  rw [Array.getElem?_push, if_neg (by simp), Array.getElem?_push, if_pos rfl]
/-- One mark, on the way out. -/
theorem shut1 {h : Hp} {D : Nat} {K : Hp → Prop} (hD : h[D]? = some (.deferred (some []))) (H : K (h.setIfInBounds D (.deferred none))) : shut [D] h K := ⟨hD, H⟩
theorem cell_set {h : Hp} {D : Nat} {o : Obj} {a : Addr} {v : Value} (hc : cell h a = some v) (hne : a.block ≠ D) : cell (h.setIfInBounds D o) a = some v := by
  rw [cell_same (h := h) (Array.getElem?_setIfInBounds_ne (fun e => hne e.symm))]
  exact hc
/-- A result in a box, behind one mark. -/
theorem endBox {P : Program} {h : Hp} {D b T : Nat} {t : TypeId} {v0 v : Value} {K : Value → Prop → Prop} {G : Hp → Prop} (hb : h[b]? = some (.cells #[v0] T (0, 0))) (hv : v.cells = #[v]) (hsz : (P.info? t).map (·.size) = some 1) (hf : flatV v = true) (hsc : scB P t = true)
    (hD : h[D]? = some (.deferred (some []))) (hne : b ≠ D)
    (H : ∀ h', Fr (fun k => k = b ∨ k = D) h h' → HV P (Instr.loadAt t (.pointer (some ⟨b, 0, none⟩))) h' v → G h') : HU P (Instr.storeAt t (.pointer (some ⟨b, 0, none⟩)) v) h fun h1 => shut [D] h1 G := by
  refine HU_box (us := [v]) (cs := [v0]) hb hv rfl hsz (by simp [hf]) fun h1 c1 b1 f1 z1 => ?_
  have hD1 := f1.get hD (fun e => hne e.symm)
  refine shut1 hD1 (H _ ⟨by simp; omega, fun k hk hn => ?_⟩ ?_)
  · rw [Array.getElem?_setIfInBounds_ne (fun e => hn (.inr e.symm))]
    exact f1.keep k hk (fun e => hn (.inl e))
  · exact ld (cell_set c1.head hne) hsc
end Go.Proofs.Ytofjbbfnkefoaaa.Sx
