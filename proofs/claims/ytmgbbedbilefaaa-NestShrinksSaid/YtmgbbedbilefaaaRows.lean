/-
  No cell of these rows narrows 'for every input' (looked for: loops, veiled, ifaces, maps, wideKeys, modest, calm, conditions, laid).
  DERIVED. THE GIVEN ROWS OF THIS SEAT. 6 by the template 'for every input the law returns true; each argument reads behind the call as it read before'; 0 by the template 'total and deterministic' (their statements: YtmgbbedbilefaaaTotals.lean).
  GIVEN WITH THE SEED: the statements are not yours to turn. If you find one false, say at which input.
  Laid BY PROGRAM, IN A SANDBOX (cutbox-rows.mjs): the forced cells as the released guide's own fill.sh prints them over the translation 36e81403db39336c… (all of the seat's roots in one cut). By AI agents, Wed Nov 11 2026. No macro, syntax, notation, axiom, sorry.
-/
import Derived.Test.YtmgbbedbilefaaaChecked
import GoSem.Claim
import GoSem.ClaimJoined
import GoSem.ClaimMapViews
import Derived.JoinedTies
import Derived.KernelRfl
namespace Go.Proofs.Ytmgbbedbilefaaa
/- THE CELL 'sum', in the pinned program and in every row, IS THE sha256 OF THE DUMP (.gsa) THAT YtmgbbedbilefaaaProg.lean LOADS. Nothing in Lean hashes anything: it is a label: what it is worth is what the hold of that sum in a sandbox is worth. -/
noncomputable def Try.pinned : Pinned := { name := "ytmgbbedbilefaaa", sum := "36e81403db39336c93e8dcdd6a7fce2b6e3fe81a8fad6fc4dcd902859619c210", checked := Try.checked }
namespace Rows
def none {H : Type} : Left H := { results := [], args := [] }

/-- 'quintetlaw14.NestLevels': WHATEVER THE INPUT: true; the input reads as it did. -/
def nestLevelsSpec : ChangeSpec := { name := "nestLevels", fn := fun _ => fun
  | [d] => { results := [.lit (.bool true)], args := [d] }
  | _ => none }
def nestLevelsRow : OpenClaim := { program := "ytmgbbedbilefaaa", sum := "36e81403db39336c93e8dcdd6a7fce2b6e3fe81a8fad6fc4dcd902859619c210", func := "quintet/quintetlaw14.NestLevels", spec := "nestLevels", unfollowed := true, recurses := true, apart := false }
def NestLevelsSaid : Prop := nestLevelsRow.holds Try.pinned (OpenSpec.ofChange nestLevelsSpec)

/-- ITS FALSE NEIGHBOUR: 'it returns false'. Refute it at one input. -/
def nestLevelsWrong : ChangeSpec := { name := "nestLevels", fn := fun _ => fun
  | [d] => { results := [.lit (.bool false)], args := [d] }
  | _ => none }
def NestLevelsWrongFalsely : Prop := nestLevelsRow.holds Try.pinned (OpenSpec.ofChange nestLevelsWrong)

/-- 'quintetlaw14.NestFinds': WHATEVER THE INPUT: true; the input reads as it did. -/
def nestFindsSpec : ChangeSpec := { name := "nestFinds", fn := fun _ => fun
  | [d1, d2] => { results := [.lit (.bool true)], args := [d1, d2] }
  | _ => none }
def nestFindsRow : OpenClaim := { program := "ytmgbbedbilefaaa", sum := "36e81403db39336c93e8dcdd6a7fce2b6e3fe81a8fad6fc4dcd902859619c210", func := "quintet/quintetlaw14.NestFinds", spec := "nestFinds", unfollowed := true, recurses := true, apart := false }
def NestFindsSaid : Prop := nestFindsRow.holds Try.pinned (OpenSpec.ofChange nestFindsSpec)

/-- ITS FALSE NEIGHBOUR: 'it returns false'. Refute it at one input. -/
def nestFindsWrong : ChangeSpec := { name := "nestFinds", fn := fun _ => fun
  | [d1, d2] => { results := [.lit (.bool false)], args := [d1, d2] }
  | _ => none }
def NestFindsWrongFalsely : Prop := nestFindsRow.holds Try.pinned (OpenSpec.ofChange nestFindsWrong)

/-- 'quintetlaw14.NestApart': WHATEVER THE INPUT: true; the input reads as it did. -/
def nestApartSpec : ChangeSpec := { name := "nestApart", fn := fun _ => fun
  | [d] => { results := [.lit (.bool true)], args := [d] }
  | _ => none }
def nestApartRow : OpenClaim := { program := "ytmgbbedbilefaaa", sum := "36e81403db39336c93e8dcdd6a7fce2b6e3fe81a8fad6fc4dcd902859619c210", func := "quintet/quintetlaw14.NestApart", spec := "nestApart", unfollowed := true, recurses := true, apart := false }
def NestApartSaid : Prop := nestApartRow.holds Try.pinned (OpenSpec.ofChange nestApartSpec)

/-- ITS FALSE NEIGHBOUR: 'it returns false'. Refute it at one input. -/
def nestApartWrong : ChangeSpec := { name := "nestApart", fn := fun _ => fun
  | [d] => { results := [.lit (.bool false)], args := [d] }
  | _ => none }
def NestApartWrongFalsely : Prop := nestApartRow.holds Try.pinned (OpenSpec.ofChange nestApartWrong)

/-- 'quintetlaw14.NestHolds': WHATEVER THE INPUT: true; the input reads as it did. -/
def nestHoldsSpec : ChangeSpec := { name := "nestHolds", fn := fun _ => fun
  | [d1, d2] => { results := [.lit (.bool true)], args := [d1, d2] }
  | _ => none }
def nestHoldsRow : OpenClaim := { program := "ytmgbbedbilefaaa", sum := "36e81403db39336c93e8dcdd6a7fce2b6e3fe81a8fad6fc4dcd902859619c210", func := "quintet/quintetlaw14.NestHolds", spec := "nestHolds", unfollowed := true, recurses := true, apart := false }
def NestHoldsSaid : Prop := nestHoldsRow.holds Try.pinned (OpenSpec.ofChange nestHoldsSpec)

/-- ITS FALSE NEIGHBOUR: 'it returns false'. Refute it at one input. -/
def nestHoldsWrong : ChangeSpec := { name := "nestHolds", fn := fun _ => fun
  | [d1, d2] => { results := [.lit (.bool false)], args := [d1, d2] }
  | _ => none }
def NestHoldsWrongFalsely : Prop := nestHoldsRow.holds Try.pinned (OpenSpec.ofChange nestHoldsWrong)

/-- 'quintetlaw14.NestShrinks': WHATEVER THE INPUT: true; the input reads as it did. -/
def nestShrinksSpec : ChangeSpec := { name := "nestShrinks", fn := fun _ => fun
  | [d1, d2] => { results := [.lit (.bool true)], args := [d1, d2] }
  | _ => none }
def nestShrinksRow : OpenClaim := { program := "ytmgbbedbilefaaa", sum := "36e81403db39336c93e8dcdd6a7fce2b6e3fe81a8fad6fc4dcd902859619c210", func := "quintet/quintetlaw14.NestShrinks", spec := "nestShrinks", unfollowed := true, recurses := true, apart := false }
def NestShrinksSaid : Prop := nestShrinksRow.holds Try.pinned (OpenSpec.ofChange nestShrinksSpec)

/-- ITS FALSE NEIGHBOUR: 'it returns false'. Refute it at one input. -/
def nestShrinksWrong : ChangeSpec := { name := "nestShrinks", fn := fun _ => fun
  | [d1, d2] => { results := [.lit (.bool false)], args := [d1, d2] }
  | _ => none }
def NestShrinksWrongFalsely : Prop := nestShrinksRow.holds Try.pinned (OpenSpec.ofChange nestShrinksWrong)

/-- 'quintetlaw14.NestPairs': WHATEVER THE INPUT: true; the input reads as it did. -/
def nestPairsSpec : ChangeSpec := { name := "nestPairs", fn := fun _ => fun
  | [d1, d2] => { results := [.lit (.bool true)], args := [d1, d2] }
  | _ => none }
def nestPairsRow : OpenClaim := { program := "ytmgbbedbilefaaa", sum := "36e81403db39336c93e8dcdd6a7fce2b6e3fe81a8fad6fc4dcd902859619c210", func := "quintet/quintetlaw14.NestPairs", spec := "nestPairs", unfollowed := true, recurses := true, apart := false }
def NestPairsSaid : Prop := nestPairsRow.holds Try.pinned (OpenSpec.ofChange nestPairsSpec)

/-- ITS FALSE NEIGHBOUR: 'it returns false'. Refute it at one input. -/
def nestPairsWrong : ChangeSpec := { name := "nestPairs", fn := fun _ => fun
  | [d1, d2] => { results := [.lit (.bool false)], args := [d1, d2] }
  | _ => none }
def NestPairsWrongFalsely : Prop := nestPairsRow.holds Try.pinned (OpenSpec.ofChange nestPairsWrong)

/- THE SECOND FORM. 'bulk': how many values and letters a reading holds, each counted each time it is reached (what is shared counts as often as it is met; a slice's spare places count too). A statement '..UptoSaid' is the law's where the arguments, and the package variables that the reading takes, are together of bulk at most 1048576: NARROWER than '..Said'. Prove '..Said' where nothing that the law and all that it calls make is longer than what came in: it says more and counts as full. Else prove '..UptoSaid'. A law counts once. -/
mutual
def uptoBulk {H : Type} : DataW H → Nat
  | .lit (.string bytes) => bytes.length + 1
  | .lit _ => 1
  | .nil => 1
  | .ptr d => uptoBulk d + 1
  | .slice elems spare => uptoBulkAll elems + uptoBulkAll spare + 1
  | .agg parts => uptoBulkAll parts + 1
  | .iface _ d => uptoBulk d + 1
  | .map entries => uptoBulkEntries entries + 1
  | .held _ => 1
def uptoBulkAll {H : Type} : List (DataW H) → Nat
  | [] => 0
  | d :: r => uptoBulk d + uptoBulkAll r
def uptoBulkEntries {H : Type} : List (Lit × DataW H) → Nat
  | [] => 0
  | x :: r => uptoBulkEntry x + uptoBulkEntries r
def uptoBulkEntry {H : Type} : Lit × DataW H → Nat
  | (.string bytes, d) => bytes.length + uptoBulk d + 1
  | (_, d) => uptoBulk d + 1
 end
def uptoSmall : (H : Type) → List (DataW H) → Bool := fun _ ds => decide (uptoBulkAll ds ≤ 1048576)
def OpenSpec.upto (s : _root_.Go.ChangeSpec) : _root_.Go.OpenSpec := { _root_.Go.OpenSpec.ofChange s with cond := some uptoSmall }

/-- 'quintetlaw14.NestLevels', WHERE WHAT IT READS IS OF BULK AT MOST 1048576: true; the input reads as it did. -/
def nestLevelsUptoRow : OpenClaim := { program := "ytmgbbedbilefaaa", sum := "36e81403db39336c93e8dcdd6a7fce2b6e3fe81a8fad6fc4dcd902859619c210", func := "quintet/quintetlaw14.NestLevels", spec := "nestLevels", unfollowed := true, recurses := true, apart := false, narrowed := true }
def NestLevelsUptoSaid : Prop := nestLevelsUptoRow.holds Try.pinned (OpenSpec.upto nestLevelsSpec)

/-- 'quintetlaw14.NestFinds', WHERE WHAT IT READS IS OF BULK AT MOST 1048576: true; the input reads as it did. -/
def nestFindsUptoRow : OpenClaim := { program := "ytmgbbedbilefaaa", sum := "36e81403db39336c93e8dcdd6a7fce2b6e3fe81a8fad6fc4dcd902859619c210", func := "quintet/quintetlaw14.NestFinds", spec := "nestFinds", unfollowed := true, recurses := true, apart := false, narrowed := true }
def NestFindsUptoSaid : Prop := nestFindsUptoRow.holds Try.pinned (OpenSpec.upto nestFindsSpec)

/-- 'quintetlaw14.NestApart', WHERE WHAT IT READS IS OF BULK AT MOST 1048576: true; the input reads as it did. -/
def nestApartUptoRow : OpenClaim := { program := "ytmgbbedbilefaaa", sum := "36e81403db39336c93e8dcdd6a7fce2b6e3fe81a8fad6fc4dcd902859619c210", func := "quintet/quintetlaw14.NestApart", spec := "nestApart", unfollowed := true, recurses := true, apart := false, narrowed := true }
def NestApartUptoSaid : Prop := nestApartUptoRow.holds Try.pinned (OpenSpec.upto nestApartSpec)

/-- 'quintetlaw14.NestHolds', WHERE WHAT IT READS IS OF BULK AT MOST 1048576: true; the input reads as it did. -/
def nestHoldsUptoRow : OpenClaim := { program := "ytmgbbedbilefaaa", sum := "36e81403db39336c93e8dcdd6a7fce2b6e3fe81a8fad6fc4dcd902859619c210", func := "quintet/quintetlaw14.NestHolds", spec := "nestHolds", unfollowed := true, recurses := true, apart := false, narrowed := true }
def NestHoldsUptoSaid : Prop := nestHoldsUptoRow.holds Try.pinned (OpenSpec.upto nestHoldsSpec)

/-- 'quintetlaw14.NestShrinks', WHERE WHAT IT READS IS OF BULK AT MOST 1048576: true; the input reads as it did. -/
def nestShrinksUptoRow : OpenClaim := { program := "ytmgbbedbilefaaa", sum := "36e81403db39336c93e8dcdd6a7fce2b6e3fe81a8fad6fc4dcd902859619c210", func := "quintet/quintetlaw14.NestShrinks", spec := "nestShrinks", unfollowed := true, recurses := true, apart := false, narrowed := true }
def NestShrinksUptoSaid : Prop := nestShrinksUptoRow.holds Try.pinned (OpenSpec.upto nestShrinksSpec)

/-- 'quintetlaw14.NestPairs', WHERE WHAT IT READS IS OF BULK AT MOST 1048576: true; the input reads as it did. -/
def nestPairsUptoRow : OpenClaim := { program := "ytmgbbedbilefaaa", sum := "36e81403db39336c93e8dcdd6a7fce2b6e3fe81a8fad6fc4dcd902859619c210", func := "quintet/quintetlaw14.NestPairs", spec := "nestPairs", unfollowed := true, recurses := true, apart := false, narrowed := true }
def NestPairsUptoSaid : Prop := nestPairsUptoRow.holds Try.pinned (OpenSpec.upto nestPairsSpec)

end Rows
end Go.Proofs.Ytmgbbedbilefaaa
