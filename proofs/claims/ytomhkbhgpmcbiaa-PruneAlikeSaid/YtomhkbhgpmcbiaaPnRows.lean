/- Numbers and headers as arguments. -/
import Derived.Test.YtomhkbhgpmcbiaaPnPure4
import Derived.Test.YtomhkbhgpmcbiaaRuRows
import Derived.Test.YtomhkbhgpmcbiaaSxOpen
namespace Go.Proofs.Ytomhkbhgpmcbiaa.Fs
open Go Go.RowKit Go.Proofs.Ytomhkbhgpmcbiaa.Sx
set_option linter.unusedVariables false
theorem intRows {h : Hp} {A : Option Addr} {l : List (List Int)} (r : RSl h A l.length 1 (l.flatMap (List.zipWith Value.int [IntKind.i64]))) (wf : ∀ ns ∈ l, ns.length = [IntKind.i64].length ∧ ∀ p ∈ [IntKind.i64].zip ns, (Lit.int p.1 p.2).wf = true) :
    RSl h A (l.map fun ns => ns.getD 0 0).length 1 ((l.map fun ns => ns.getD 0 0).flatMap encI) ∧ ∀ x, x ∈ (l.map fun ns => ns.getD 0 0) → -9223372036854775808 ≤ x ∧ x ≤ 9223372036854775807 := by
  have one : ∀ ns : List Int, ns.length = 1 → ∃ a, ns = [a] := fun ns hn => List.length_eq_one_iff.1 hn
  have e : (l.map fun ns => ns.getD 0 0).flatMap encI = l.flatMap (List.zipWith Value.int [IntKind.i64]) := by
    clear r
    induction l with
    | nil => rfl
    | cons ns l ih =>
      rw [List.map_cons, List.flatMap_cons, List.flatMap_cons, ih fun x hx => wf x (List.mem_cons_of_mem _ hx)]
      obtain ⟨a, rfl⟩ := one ns (wf ns (List.mem_cons_self ..)).1
      rfl
  refine ⟨by rw [List.length_map, e]; exact r, fun x hx => ?_⟩
  obtain ⟨ns, hn, rfl⟩ := List.mem_map.1 hx
  obtain ⟨h1, h2⟩ := wf ns hn
  obtain ⟨a, rfl⟩ := one ns h1
  exact wf_i64 (h2 (.i64, a) (by simp))
def hdrK : List IntKind := [.u32, .u32, .u16, .u16, .u8]
def toHdr (ns : List Int) : Hdr := ⟨ns.getD 0 0, ns.getD 1 0, ns.getD 2 0, ns.getD 3 0, ns.getD 4 0⟩
structure HWf (g : Hdr) : Prop where
  s : AdOk g.src
  d : AdOk g.dst
  sp : 0 ≤ g.sp ∧ g.sp ≤ 65535
  dp : 0 ≤ g.dp ∧ g.dp ≤ 65535
  pr : 0 ≤ g.pr ∧ g.pr ≤ 255
theorem toHdr_wf : ∀ ns : List Int, ns.length = 5 → (∀ p ∈ hdrK.zip ns, (Lit.int p.1 p.2).wf = true) → List.zipWith Value.int hdrK ns = (toHdr ns).enc ∧ HWf (toHdr ns)
  | [a, b, c, d, e], _, h => ⟨rfl, wf_u32 (h (.u32, a) (by simp [hdrK])), wf_u32 (h (.u32, b) (by simp [hdrK])), wf_u16 (h (.u16, c) (by simp [hdrK])), wf_u16 (h (.u16, d) (by simp [hdrK])), wf_u8 (h (.u8, e) (by simp [hdrK]))⟩
theorem hdrRows {h : Hp} {A : Option Addr} {l : List (List Int)} (r : RSl h A l.length 5 (l.flatMap (List.zipWith Value.int hdrK))) (wf : ∀ ns ∈ l, ns.length = hdrK.length ∧ ∀ p ∈ hdrK.zip ns, (Lit.int p.1 p.2).wf = true) :
    RSl h A (l.map toHdr).length 5 ((l.map toHdr).flatMap Hdr.enc) ∧ ∀ x, x ∈ l.map toHdr → HWf x := by
  have e : (l.map toHdr).flatMap Hdr.enc = l.flatMap (List.zipWith Value.int hdrK) := by
    clear r
    induction l with
    | nil => rfl
    | cons ns l ih =>
      rw [List.map_cons, List.flatMap_cons, List.flatMap_cons, ih fun x hx => wf x (List.mem_cons_of_mem _ hx)]
      obtain ⟨h1, h2⟩ := wf ns (List.mem_cons_self ..)
      rw [(toHdr_wf ns h1 h2).1]
  refine ⟨by rw [List.length_map, e]; exact r, fun x hx => ?_⟩
  obtain ⟨ns, hn, rfl⟩ := List.mem_map.1 hx
  obtain ⟨h1, h2⟩ := wf ns hn
  exact (toHdr_wf ns h1 h2).2
end Go.Proofs.Ytomhkbhgpmcbiaa.Fs
