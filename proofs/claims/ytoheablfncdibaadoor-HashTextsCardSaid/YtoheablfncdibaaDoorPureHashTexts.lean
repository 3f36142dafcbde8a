/-
HashTexts: two hash tables of texts, one with its keys turned: what is put last under a key is what is got, whatever is done under others.
Conditions: none beyond the statement's own (the listed variables read as the row lists them).
-/
import Derived.Test.YtoheablfncdibaaDoorHTexts
import Derived.Test.YtoheablfncdibaaDoorSxOpen
import Derived.Test.YtoheablfncdibaaDoorRows
import Derived.Stop.LaidErr
namespace Go.Proofs.YtoheablfncdibaaDoor.PureHashTexts
open Go Go.RowKit Go.Proofs.YtoheablfncdibaaDoor.Sx Go.Proofs.YtoheablfncdibaaDoor.FsS
set_option linter.unusedVariables false
def toOp : List Int → OpH
  | [a, b, c, d, e, f, g] => ⟨a, ⟨b, c, d, e, f⟩, g⟩
  | _ => ⟨0, h0, 0⟩
theorem opRows {h : Hp} {A : Option Addr} {l : List (List Int)} (hr : RSl h A l.length 7 (l.flatMap (List.zipWith Value.int [.i64, .u32, .u32, .u16, .u16, .u8, .i64]))) (wf : ∀ ns ∈ l, ns.length = [IntKind.i64, IntKind.u32, IntKind.u32, IntKind.u16, IntKind.u16, IntKind.u8, IntKind.i64].length ∧ ∀ p ∈ [IntKind.i64, IntKind.u32, IntKind.u32, IntKind.u16, IntKind.u16, IntKind.u8, IntKind.i64].zip ns, (Lit.int p.1 p.2).wf = true) :
    RSl h A (l.map toOp).length 7 ((l.map toOp).flatMap OpH.enc) ∧ ∀ o ∈ l.map toOp, o.ok := by
  constructor
  · rw [List.length_map]
    have e : (l.map toOp).flatMap OpH.enc = l.flatMap (List.zipWith Value.int [.i64, .u32, .u32, .u16, .u16, .u8, .i64]) := by
      rw [List.flatMap_map]
      clear hr
      induction l with
      | nil => rfl
      | cons ns l ih =>
        rw [List.flatMap_cons, List.flatMap_cons, ih fun x hx => wf x (List.mem_cons_of_mem _ hx)]
        congr 1
        have := (wf ns (List.mem_cons_self ..)).1
        match ns, this with
        | [a, b, c, d, e, f, g], _ => rfl
    rw [e]; exact hr
  · intro s hs
    obtain ⟨ns, hn, rfl⟩ := List.mem_map.1 hs
    have h1 := (wf ns hn).1
    have h2 := (wf ns hn).2
    match ns, h1, h2 with
    | [a, b, c, d, e, f, g], _, h2 =>
      have q1 := h2 (.u32, b) (by simp)
      have q2 := h2 (.i64, g) (by simp)
      simp [Lit.wf, IntKind.min, IntKind.max, IntKind.bits, IntKind.signed] at q1 q2
      show 0 ≤ b ∧ b < 4294967296 ∧ -9223372036854775808 ≤ g ∧ g ≤ 9223372036854775807
      omega
theorem tab_row : (Rows.laid_internal_strconv_uint64pow10 : DataW Unit) = Lib.tabData .u64 Lib.pow10Tab := by kernel_rfl
theorem tab_laid {W : World} (hL : laidMet Tryd.prog Rows.hashTextsRow.laid W) : Tab W.heap := by
  have h : laidMet Tryd.prog [("internal/strconv.uint64pow10", Rows.laid_internal_strconv_uint64pow10)] W := hL.tail.tail
  rw [tab_row] at h
  exact tab_of (Lib.tabIs_of_head (t := 76) (e := 57) (n := 20) glob (by kernel_rfl) (by kernel_rfl) (by kernel_rfl) (by kernel_rfl) (by kernel_rfl) h)
theorem walk {W : World} (A : Option Addr) (l : List (List Int)) (c : Nat) (hr : RSl W.heap A l.length 7 (l.flatMap (List.zipWith Value.int [.i64, .u32, .u32, .u16, .u16, .u8, .i64]))) (hc : l.length ≤ c) (hm : c ≤ maxLen) (wf : ∀ ns ∈ l, ns.length = [IntKind.i64, IntKind.u32, IntKind.u32, IntKind.u16, IntKind.u16, IntKind.u8, IntKind.i64].length ∧ ∀ p ∈ [IntKind.i64, IntKind.u32, IntKind.u32, IntKind.u16, IntKind.u16, IntKind.u8, IntKind.i64].zip ns, (Lit.int p.1 p.2).wf = true)
    (a b c1 d e : Int) (wa : (Lit.int .u32 a).wf = true) (wb : (Lit.int .u32 b).wf = true) (wc : (Lit.int .u16 c1).wf = true) (wd : (Lit.int .u16 d).wf = true) (we : (Lit.int .u8 e).wf = true) (hL : laidMet Tryd.prog Rows.hashTextsRow.laid W) :
    Calls Tryd.prog 3 #[.slice A l.length c, .agg #[.int .u32 a, .int .u32 b, .int .u16 c1, .int .u16 d, .int .u8 e]] W fun e w' => e = .returned (.bool true) ∧ Below W.heap.size W w' := by
  obtain ⟨rs, hw⟩ := opRows hr wf
  simp [Lit.wf, IntKind.min, IntKind.max, IntKind.bits, IntKind.signed] at wa
  have := walk_of (HashTexts_s (tab_laid hL) A c (l.map toOp) rs hw ⟨a, b, c1, d, e⟩ (by show 0 ≤ a; omega) (by show a < 4294967296; omega) fun h' e => ⟨rfl, e⟩)
  rwa [List.length_map] at this
end Go.Proofs.YtoheablfncdibaaDoor.PureHashTexts
