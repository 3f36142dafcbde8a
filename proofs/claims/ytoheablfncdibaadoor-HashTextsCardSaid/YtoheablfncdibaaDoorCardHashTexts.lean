/-
The tied card of HashTexts: the row's statement, and what it lists tied to the program's text.
Conditions: none beyond the statement's own.
-/
import Derived.Test.YtoheablfncdibaaDoorLawHashTexts
import Derived.Test.YtoheablfncdibaaDoorTie
import Derived.Test.YtoheablfncdibaaDoorCards
import Derived.SevenTiedAt
namespace Go.Proofs.YtoheablfncdibaaDoor
open Go
set_option maxRecDepth 100000
theorem hashTextsCard_holds : Rows.HashTextsCardSaid :=
  Claim7.holds_tied_plain_at .later [] [.data, .data, .data] true (true, "681276ec87de8d5b0a649d6108c16733fcb8d63ec5a8f3a501dd5a50245cea8f") false
    hashTexts_holds (fun _ h => by cases h) (by kernel_rfl) (fun _ h => by cases h) hashTexts_row_tie rfl ⟨rfl, rfl⟩ (by kernel_rfl) rfl
    (fun f fn hf hfn => by
      obtain rfl : f = 3 := Option.some.inj ((show Tryd.prog.funcNamed "quintet/quintetlaw15.HashTexts" = some 3 by kernel_rfl).symm.trans hf) |>.symm
      obtain rfl : fn = Tryd.f3 := (Option.some.inj (Tryd.func3.symm.trans hfn)).symm
      exact ⟨by kernel_rfl, fun j t ht => by
        rw [Tryd.params3] at ht
        have hm : t ∈ [22, 26] := by simpa using Array.mem_of_getElem? ht
        have hall : ([22, 26].all fun u => !Tryd.prog.wantsStandIn u) = true := by kernel_rfl
        exact (show Tryd.prog.wantsStandIn t = false by simpa using List.all_eq_true.1 hall t hm)⟩)
    (by kernel_rfl)
#print axioms hashTextsCard_holds
end Go.Proofs.YtoheablfncdibaaDoor
