/- Rows of numbers as rules. -/
import Derived.Test.YtgahbkbmolfpnaaGreatRuSpec
namespace Go.Proofs.YtgahbkbmolfpnaaGreat.Fs
open Go Go.RowKit Go.Proofs.YtgahbkbmolfpnaaGreat.Sx
set_option linter.unusedVariables false
def rulK : List IntKind := [.i64, .u32, .i64, .u32, .i64, .u16, .u16, .u16, .u16, .u8, .u8, .i64]
def toRul (ns : List Int) : Rul := ⟨ns.getD 0 0, ns.getD 1 0, ns.getD 2 0, ns.getD 3 0, ns.getD 4 0, ns.getD 5 0, ns.getD 6 0, ns.getD 7 0, ns.getD 8 0, ns.getD 9 0, ns.getD 10 0, ns.getD 11 0⟩
theorem toRul_enc : ∀ (ns : List Int), ns.length = 12 → List.zipWith Value.int rulK ns = (toRul ns).enc
  | [_, _, _, _, _, _, _, _, _, _, _, _], _ => rfl
theorem rows_enc : ∀ (l : List (List Int)), (∀ ns ∈ l, ns.length = 12) → l.flatMap (List.zipWith Value.int rulK) = (l.map toRul).flatMap Rul.enc
  | [], _ => rfl
  | ns :: l, h => by
    rw [List.flatMap_cons, List.map_cons, List.flatMap_cons, toRul_enc ns (h ns List.mem_cons_self), rows_enc l (fun m hm => h m (List.mem_cons_of_mem _ hm))]
theorem rows_of {h : Hp} {A : Option Addr} {l : List (List Int)} (r : RSl h A l.length 12 (l.flatMap (List.zipWith Value.int rulK))) (wf : ∀ ns ∈ l, ns.length = rulK.length ∧ ∀ p ∈ rulK.zip ns, (Lit.int p.1 p.2).wf = true) : RSl h A l.length 12 ((l.map toRul).flatMap Rul.enc) := by
  rw [← rows_enc l (fun ns h => (wf ns h).1)]
  exact r
end Go.Proofs.YtgahbkbmolfpnaaGreat.Fs
