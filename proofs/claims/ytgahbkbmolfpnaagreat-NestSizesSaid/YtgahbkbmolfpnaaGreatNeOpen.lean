/- Spans and rules as arguments. -/
import Derived.Test.YtgahbkbmolfpnaaGreatNeSz
import Derived.Test.YtgahbkbmolfpnaaGreatRuRows
import Derived.Test.YtgahbkbmolfpnaaGreatRuRef
import Derived.Test.YtgahbkbmolfpnaaGreatSxOpen
namespace Go.Proofs.YtgahbkbmolfpnaaGreat.Fs
open Go Go.RowKit Go.Proofs.YtgahbkbmolfpnaaGreat.Sx Go.Proofs.YtgahbkbmolfpnaaGreat.Sp
set_option linter.unusedVariables false
theorem ok_of {a b : Int} (ha : (Lit.int .u16 a).wf = true) (hb : (Lit.int .u16 b).wf = true) : Ok ⟨a, b⟩ := ⟨(wf_u16 ha).1, (wf_u16 ha).2, (wf_u16 hb).1, (wf_u16 hb).2⟩
def toSp : List Int → Sp
  | [a, b] => ⟨a, b⟩
  | _ => ⟨0, 0⟩
theorem spRows {h : Hp} {A : Option Addr} {l : List (List Int)} (hr : RSl h A l.length 2 (l.flatMap (List.zipWith Value.int [.u16, .u16]))) (wf : ∀ ns ∈ l, ns.length = [IntKind.u16, IntKind.u16].length ∧ ∀ p ∈ [IntKind.u16, IntKind.u16].zip ns, (Lit.int p.1 p.2).wf = true) :
    RSl h A (l.map toSp).length 2 ((l.map toSp).flatMap Sp.enc) ∧ ∀ s ∈ l.map toSp, Ok s := by
  constructor
  · rw [List.length_map]
    have e : (l.map toSp).flatMap Sp.enc = l.flatMap (List.zipWith Value.int [.u16, .u16]) := by
      rw [List.flatMap_map]
      clear hr
      induction l with
      | nil => rfl
      | cons ns l ih =>
        rw [List.flatMap_cons, List.flatMap_cons, ih fun x hx => wf x (List.mem_cons_of_mem _ hx)]
        congr 1
        have := (wf ns (List.mem_cons_self ..)).1
        match ns, this with
        | [a, b], _ => rfl
    rw [e]; exact hr
  · intro s hs
    obtain ⟨ns, hn, rfl⟩ := List.mem_map.1 hs
    have h1 := (wf ns hn).1
    have h2 := (wf ns hn).2
    match ns, h1, h2 with
    | [a, b], _, h2 => exact ok_of (h2 (.u16, a) (by simp)) (h2 (.u16, b) (by simp))
theorem toRul_wf : ∀ (ns : List Int), ns.length = 12 → (∀ p ∈ rulK.zip ns, (Lit.int p.1 p.2).wf = true) → (toRul ns).wf ∧ (toRul ns).okP
  | [n0, n1, n2, n3, n4, n5, n6, n7, n8, n9, n10, n11], _, h => ⟨⟨wf_u32 (h (.u32, n1) (by simp [rulK])), wf_u32 (h (.u32, n3) (by simp [rulK])), wf_u8 (h (.u8, n9) (by simp [rulK])), wf_u8 (h (.u8, n10) (by simp [rulK]))⟩, ok_of (h (.u16, n5) (by simp [rulK])) (h (.u16, n6) (by simp [rulK])), ok_of (h (.u16, n7) (by simp [rulK])) (h (.u16, n8) (by simp [rulK]))⟩
theorem ruRows {h : Hp} {A : Option Addr} {l : List (List Int)} (r : RSl h A l.length 12 (l.flatMap (List.zipWith Value.int rulK))) (wf : ∀ ns ∈ l, ns.length = rulK.length ∧ ∀ p ∈ rulK.zip ns, (Lit.int p.1 p.2).wf = true) :
    RSl h A (l.map toRul).length 12 ((l.map toRul).flatMap Rul.enc) ∧ ∀ x ∈ l.map toRul, x.wf ∧ x.okP := by
  refine ⟨by rw [List.length_map]; exact rows_of r wf, fun x hx => ?_⟩
  obtain ⟨ns, hn, rfl⟩ := List.mem_map.1 hx
  exact toRul_wf ns (wf ns hn).1 (wf ns hn).2
end Go.Proofs.YtgahbkbmolfpnaaGreat.Fs
