/-
  DERIVED. GIVEN WITH THE SEED: THE CARDS: each row of YtfdpccbajaiepaaGreatDoorRows.lean that lists a variable, with what it lists TIED to the program's text (the seventh form; the later family's looks); each row that meets fmt, with fmt's text TOLD by the authors' own Lean function (tested against real Go, not proved from fmt's source: count such statements apart). THE CARD IS WHAT COUNTS. Prove the row's statement (the work); the ties are given (YtfdpccbajaiepaaGreatDoorTie.lean); close each card by the builder's one call (the guide's Derived/Test/ToyasCard.lean, 'card_holds'). Laid BY PROGRAM, IN A SANDBOX (cutbox-door.mjs). By AI agents, Wed Nov 11 2026. No macro, syntax, notation, axiom, sorry.
-/
import Derived.Test.YtfdpccbajaiepaaGreatDoorRows
import GoSem.ClaimSeven
namespace Go.Proofs.YtfdpccbajaiepaaGreatDoor
namespace Rows

/-- THE TIED CARD OF 'quintettop.TopReads'. -/
def topReadsCard : Claim7 := { stood := { row := topReadsRow, standIns := [], harness := (true, "143c36606b7964ae0f9c95efd951f96b7357ec8e0c28080261581f388e6240d3"), looks := true }, kinds := [], alts := [], laidByText := true, laidKinds := [.data, .data, .data, .handle], laidTests := true, laidLooks := .later }
def TopReadsCardSaid : Prop := Claim7.holds Tryz.pinned (.plain (OpenSpec.ofChange topReadsSpec)) topReadsCard

/-- THE TIED CARD OF 'quintettop.TopAsks'. -/
def topAsksCard : Claim7 := { stood := { row := topAsksRow, standIns := [], harness := (true, "143c36606b7964ae0f9c95efd951f96b7357ec8e0c28080261581f388e6240d3"), looks := true }, kinds := [], alts := [], laidByText := true, laidKinds := [.data, .data, .data, .handle], laidTests := true, laidLooks := .later }
def TopAsksCardSaid : Prop := Claim7.holds Tryz.pinned (.plain (OpenSpec.ofChange topAsksSpec)) topAsksCard

/-- THE SECOND FORM's CARD OF 'quintettop.TopReads'. -/
def topReadsUptoCard : Claim7 := { stood := { row := topReadsUptoRow, standIns := [], harness := (true, "143c36606b7964ae0f9c95efd951f96b7357ec8e0c28080261581f388e6240d3"), looks := true }, kinds := [], alts := [], laidByText := true, laidKinds := [.data, .data, .data, .handle], laidTests := true, laidLooks := .later }
def TopReadsUptoCardSaid : Prop := Claim7.holds Tryz.pinned (.plain (OpenSpec.upto topReadsSpec)) topReadsUptoCard

/-- THE SECOND FORM's CARD OF 'quintettop.TopAsks'. -/
def topAsksUptoCard : Claim7 := { stood := { row := topAsksUptoRow, standIns := [], harness := (true, "143c36606b7964ae0f9c95efd951f96b7357ec8e0c28080261581f388e6240d3"), looks := true }, kinds := [], alts := [], laidByText := true, laidKinds := [.data, .data, .data, .handle], laidTests := true, laidLooks := .later }
def TopAsksUptoCardSaid : Prop := Claim7.holds Tryz.pinned (.plain (OpenSpec.upto topAsksSpec)) topAsksUptoCard
end Rows
end Go.Proofs.YtfdpccbajaiepaaGreatDoor
