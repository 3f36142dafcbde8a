/-
  DERIVED. GIVEN WITH THE SEED: THE CARDS: each row of YtoheablfncdibaaDoorRows.lean that lists a variable, with what it lists TIED to the program's text (the seventh form; the later family's looks); each row that meets fmt, with fmt's text TOLD by the authors' own Lean function (tested against real Go, not proved from fmt's source: count such statements apart). THE CARD IS WHAT COUNTS. Prove the row's statement (the work); the ties are given (YtoheablfncdibaaDoorTie.lean); close each card by the builder's one call (the guide's Derived/Test/ToyasCard.lean, 'card_holds'). Laid BY PROGRAM, IN A SANDBOX (cutbox-door.mjs). By AI agents, Wed Nov 11 2026. No macro, syntax, notation, axiom, sorry.
-/
import Derived.Test.YtoheablfncdibaaDoorRows
import GoSem.ClaimSeven
namespace Go.Proofs.YtoheablfncdibaaDoor
namespace Rows

/-- THE TIED CARD OF 'quintetlaw15.HashTexts'. -/
def hashTextsCard : Claim7 := { stood := { row := hashTextsRow, standIns := [], harness := (true, "681276ec87de8d5b0a649d6108c16733fcb8d63ec5a8f3a501dd5a50245cea8f"), looks := false }, kinds := [], alts := [], laidByText := true, laidKinds := [.data, .data, .data], laidTests := true, laidLooks := .later }
def HashTextsCardSaid : Prop := Claim7.holds Tryd.pinned (.plain (OpenSpec.ofChange hashTextsSpec)) hashTextsCard

/-- THE SECOND FORM's CARD OF 'quintetlaw15.HashTexts'. -/
def hashTextsUptoCard : Claim7 := { stood := { row := hashTextsUptoRow, standIns := [], harness := (true, "681276ec87de8d5b0a649d6108c16733fcb8d63ec5a8f3a501dd5a50245cea8f"), looks := false }, kinds := [], alts := [], laidByText := true, laidKinds := [.data, .data, .data], laidTests := true, laidLooks := .later }
def HashTextsUptoCardSaid : Prop := Claim7.holds Tryd.pinned (.plain (OpenSpec.upto hashTextsSpec)) hashTextsUptoCard
end Rows
end Go.Proofs.YtoheablfncdibaaDoor
