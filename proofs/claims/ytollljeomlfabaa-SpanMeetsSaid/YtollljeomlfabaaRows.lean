/-
  No cell of these rows narrows 'for every input' (looked for: loops, veiled, ifaces, maps, wideKeys, modest, calm, conditions, laid).
  DERIVED. THE GIVEN ROWS OF THIS SEAT. 8 by the template 'for every input the law returns true; each argument reads behind the call as it read before'; 0 by the template 'total and deterministic' (their statements: YtollljeomlfabaaTotals.lean).
  GIVEN WITH THE SEED: the statements are not yours to turn. If you find one false, say at which input.
  Laid BY PROGRAM, IN A SANDBOX (cutbox-rows.mjs): the forced cells as the released guide's own fill.sh prints them over the translation 04a961be21f3894d… (all of the seat's roots in one cut). By AI agents, Wed Nov 11 2026. No macro, syntax, notation, axiom, sorry.
-/
import Derived.Test.YtollljeomlfabaaChecked
import GoSem.Claim
import GoSem.ClaimJoined
import GoSem.ClaimMapViews
import Derived.JoinedTies
import Derived.KernelRfl
namespace Go.Proofs.Ytollljeomlfabaa
/- THE CELL 'sum', in the pinned program and in every row, IS THE sha256 OF THE DUMP (.gsa) THAT YtollljeomlfabaaProg.lean LOADS. Nothing in Lean hashes anything: it is a label: what it is worth is what the hold of that sum in a sandbox is worth. -/
noncomputable def Try.pinned : Pinned := { name := "ytollljeomlfabaa", sum := "04a961be21f3894d5d99cd2f61682b50a0b2781a417e30d53490fb244e82cdc0", checked := Try.checked }
namespace Rows
def none {H : Type} : Left H := { results := [], args := [] }

/-- 'quintetlaw03.SpanChecks': WHATEVER THE INPUT: true; the input reads as it did. -/
def spanChecksSpec : ChangeSpec := { name := "spanChecks", fn := fun _ => fun
  | [d1, d2] => { results := [.lit (.bool true)], args := [d1, d2] }
  | _ => none }
def spanChecksRow : OpenClaim := { program := "ytollljeomlfabaa", sum := "04a961be21f3894d5d99cd2f61682b50a0b2781a417e30d53490fb244e82cdc0", func := "quintet/quintetlaw03.SpanChecks", spec := "spanChecks", unfollowed := true, recurses := true, apart := false }
def SpanChecksSaid : Prop := spanChecksRow.holds Try.pinned (OpenSpec.ofChange spanChecksSpec)

/-- ITS FALSE NEIGHBOUR: 'it returns false'. Refute it at one input. -/
def spanChecksWrong : ChangeSpec := { name := "spanChecks", fn := fun _ => fun
  | [d1, d2] => { results := [.lit (.bool false)], args := [d1, d2] }
  | _ => none }
def SpanChecksWrongFalsely : Prop := spanChecksRow.holds Try.pinned (OpenSpec.ofChange spanChecksWrong)

/-- 'quintetlaw03.SpanMeets': WHATEVER THE INPUT: true; the input reads as it did. -/
def spanMeetsSpec : ChangeSpec := { name := "spanMeets", fn := fun _ => fun
  | [d1, d2] => { results := [.lit (.bool true)], args := [d1, d2] }
  | _ => none }
def spanMeetsRow : OpenClaim := { program := "ytollljeomlfabaa", sum := "04a961be21f3894d5d99cd2f61682b50a0b2781a417e30d53490fb244e82cdc0", func := "quintet/quintetlaw03.SpanMeets", spec := "spanMeets", unfollowed := true, recurses := true, apart := false }
def SpanMeetsSaid : Prop := spanMeetsRow.holds Try.pinned (OpenSpec.ofChange spanMeetsSpec)

/-- ITS FALSE NEIGHBOUR: 'it returns false'. Refute it at one input. -/
def spanMeetsWrong : ChangeSpec := { name := "spanMeets", fn := fun _ => fun
  | [d1, d2] => { results := [.lit (.bool false)], args := [d1, d2] }
  | _ => none }
def SpanMeetsWrongFalsely : Prop := spanMeetsRow.holds Try.pinned (OpenSpec.ofChange spanMeetsWrong)

/-- 'quintetlaw03.SpanCompares': WHATEVER THE INPUT: true; the input reads as it did. -/
def spanComparesSpec : ChangeSpec := { name := "spanCompares", fn := fun _ => fun
  | [d1, d2] => { results := [.lit (.bool true)], args := [d1, d2] }
  | _ => none }
def spanComparesRow : OpenClaim := { program := "ytollljeomlfabaa", sum := "04a961be21f3894d5d99cd2f61682b50a0b2781a417e30d53490fb244e82cdc0", func := "quintet/quintetlaw03.SpanCompares", spec := "spanCompares", unfollowed := true, recurses := true, apart := false }
def SpanComparesSaid : Prop := spanComparesRow.holds Try.pinned (OpenSpec.ofChange spanComparesSpec)

/-- ITS FALSE NEIGHBOUR: 'it returns false'. Refute it at one input. -/
def spanComparesWrong : ChangeSpec := { name := "spanCompares", fn := fun _ => fun
  | [d1, d2] => { results := [.lit (.bool false)], args := [d1, d2] }
  | _ => none }
def SpanComparesWrongFalsely : Prop := spanComparesRow.holds Try.pinned (OpenSpec.ofChange spanComparesWrong)

/-- 'quintetlaw03.SpanParts': WHATEVER THE INPUT: true; the input reads as it did. -/
def spanPartsSpec : ChangeSpec := { name := "spanParts", fn := fun _ => fun
  | [d1, d2, d3] => { results := [.lit (.bool true)], args := [d1, d2, d3] }
  | _ => none }
def spanPartsRow : OpenClaim := { program := "ytollljeomlfabaa", sum := "04a961be21f3894d5d99cd2f61682b50a0b2781a417e30d53490fb244e82cdc0", func := "quintet/quintetlaw03.SpanParts", spec := "spanParts", unfollowed := true, recurses := true, apart := false }
def SpanPartsSaid : Prop := spanPartsRow.holds Try.pinned (OpenSpec.ofChange spanPartsSpec)

/-- ITS FALSE NEIGHBOUR: 'it returns false'. Refute it at one input. -/
def spanPartsWrong : ChangeSpec := { name := "spanParts", fn := fun _ => fun
  | [d1, d2, d3] => { results := [.lit (.bool false)], args := [d1, d2, d3] }
  | _ => none }
def SpanPartsWrongFalsely : Prop := spanPartsRow.holds Try.pinned (OpenSpec.ofChange spanPartsWrong)

/-- 'quintetlaw03.SpanRound': WHATEVER THE INPUT: true; the input reads as it did. -/
def spanRoundSpec : ChangeSpec := { name := "spanRound", fn := fun _ => fun
  | [d1, d2] => { results := [.lit (.bool true)], args := [d1, d2] }
  | _ => none }
def spanRoundRow : OpenClaim := { program := "ytollljeomlfabaa", sum := "04a961be21f3894d5d99cd2f61682b50a0b2781a417e30d53490fb244e82cdc0", func := "quintet/quintetlaw03.SpanRound", spec := "spanRound", unfollowed := true, recurses := true, apart := false }
def SpanRoundSaid : Prop := spanRoundRow.holds Try.pinned (OpenSpec.ofChange spanRoundSpec)

/-- ITS FALSE NEIGHBOUR: 'it returns false'. Refute it at one input. -/
def spanRoundWrong : ChangeSpec := { name := "spanRound", fn := fun _ => fun
  | [d1, d2] => { results := [.lit (.bool false)], args := [d1, d2] }
  | _ => none }
def SpanRoundWrongFalsely : Prop := spanRoundRow.holds Try.pinned (OpenSpec.ofChange spanRoundWrong)

/-- 'quintetlaw05.ExpandChecks': WHATEVER THE INPUT: true; the input reads as it did. -/
def expandChecksSpec : ChangeSpec := { name := "expandChecks", fn := fun _ => fun
  | [d1, d2] => { results := [.lit (.bool true)], args := [d1, d2] }
  | _ => none }
def expandChecksRow : OpenClaim := { program := "ytollljeomlfabaa", sum := "04a961be21f3894d5d99cd2f61682b50a0b2781a417e30d53490fb244e82cdc0", func := "quintet/quintetlaw05.ExpandChecks", spec := "expandChecks", unfollowed := true, recurses := true, apart := false }
def ExpandChecksSaid : Prop := expandChecksRow.holds Try.pinned (OpenSpec.ofChange expandChecksSpec)

/-- ITS FALSE NEIGHBOUR: 'it returns false'. Refute it at one input. -/
def expandChecksWrong : ChangeSpec := { name := "expandChecks", fn := fun _ => fun
  | [d1, d2] => { results := [.lit (.bool false)], args := [d1, d2] }
  | _ => none }
def ExpandChecksWrongFalsely : Prop := expandChecksRow.holds Try.pinned (OpenSpec.ofChange expandChecksWrong)

/-- 'quintetlaw05.ExpandRound': WHATEVER THE INPUT: true; the input reads as it did. -/
def expandRoundSpec : ChangeSpec := { name := "expandRound", fn := fun _ => fun
  | [d1, d2] => { results := [.lit (.bool true)], args := [d1, d2] }
  | _ => none }
def expandRoundRow : OpenClaim := { program := "ytollljeomlfabaa", sum := "04a961be21f3894d5d99cd2f61682b50a0b2781a417e30d53490fb244e82cdc0", func := "quintet/quintetlaw05.ExpandRound", spec := "expandRound", unfollowed := true, recurses := true, apart := false }
def ExpandRoundSaid : Prop := expandRoundRow.holds Try.pinned (OpenSpec.ofChange expandRoundSpec)

/-- ITS FALSE NEIGHBOUR: 'it returns false'. Refute it at one input. -/
def expandRoundWrong : ChangeSpec := { name := "expandRound", fn := fun _ => fun
  | [d1, d2] => { results := [.lit (.bool false)], args := [d1, d2] }
  | _ => none }
def ExpandRoundWrongFalsely : Prop := expandRoundRow.holds Try.pinned (OpenSpec.ofChange expandRoundWrong)

/-- 'quintetlaw05.ExpandMeets': WHATEVER THE INPUT: true; the input reads as it did. -/
def expandMeetsSpec : ChangeSpec := { name := "expandMeets", fn := fun _ => fun
  | [d1, d2, d3] => { results := [.lit (.bool true)], args := [d1, d2, d3] }
  | _ => none }
def expandMeetsRow : OpenClaim := { program := "ytollljeomlfabaa", sum := "04a961be21f3894d5d99cd2f61682b50a0b2781a417e30d53490fb244e82cdc0", func := "quintet/quintetlaw05.ExpandMeets", spec := "expandMeets", unfollowed := true, recurses := true, apart := false }
def ExpandMeetsSaid : Prop := expandMeetsRow.holds Try.pinned (OpenSpec.ofChange expandMeetsSpec)

/-- ITS FALSE NEIGHBOUR: 'it returns false'. Refute it at one input. -/
def expandMeetsWrong : ChangeSpec := { name := "expandMeets", fn := fun _ => fun
  | [d1, d2, d3] => { results := [.lit (.bool false)], args := [d1, d2, d3] }
  | _ => none }
def ExpandMeetsWrongFalsely : Prop := expandMeetsRow.holds Try.pinned (OpenSpec.ofChange expandMeetsWrong)

/- THE SECOND FORM. 'bulk': how many values and letters a reading holds, each counted each time it is reached (what is shared counts as often as it is met; a slice's spare places count too). A statement '..UptoSaid' is the law's where the arguments, and the package variables that the reading takes, are together of bulk at most 1048576: NARROWER than '..Said'. Prove '..Said' where nothing that the law and all that it calls make is longer than what came in: it says more and counts as full. Else prove '..UptoSaid'. A law counts once. -/
mutual
def uptoBulk {H : Type} : DataW H → Nat
  | .lit (.string bytes) => bytes.length + 1
  | .lit _ => 1
  | .nil => 1
  | .ptr d => uptoBulk d + 1
  | .slice elems spare => uptoBulkAll elems + uptoBulkAll spare + 1
  | .agg parts => uptoBulkAll parts + 1
  | .iface _ d => uptoBulk d + 1
  | .map entries => uptoBulkEntries entries + 1
  | .held _ => 1
def uptoBulkAll {H : Type} : List (DataW H) → Nat
  | [] => 0
  | d :: r => uptoBulk d + uptoBulkAll r
def uptoBulkEntries {H : Type} : List (Lit × DataW H) → Nat
  | [] => 0
  | x :: r => uptoBulkEntry x + uptoBulkEntries r
def uptoBulkEntry {H : Type} : Lit × DataW H → Nat
  | (.string bytes, d) => bytes.length + uptoBulk d + 1
  | (_, d) => uptoBulk d + 1
 end
def uptoSmall : (H : Type) → List (DataW H) → Bool := fun _ ds => decide (uptoBulkAll ds ≤ 1048576)
def OpenSpec.upto (s : _root_.Go.ChangeSpec) : _root_.Go.OpenSpec := { _root_.Go.OpenSpec.ofChange s with cond := some uptoSmall }

/-- 'quintetlaw03.SpanChecks', WHERE WHAT IT READS IS OF BULK AT MOST 1048576: true; the input reads as it did. -/
def spanChecksUptoRow : OpenClaim := { program := "ytollljeomlfabaa", sum := "04a961be21f3894d5d99cd2f61682b50a0b2781a417e30d53490fb244e82cdc0", func := "quintet/quintetlaw03.SpanChecks", spec := "spanChecks", unfollowed := true, recurses := true, apart := false, narrowed := true }
def SpanChecksUptoSaid : Prop := spanChecksUptoRow.holds Try.pinned (OpenSpec.upto spanChecksSpec)

/-- 'quintetlaw03.SpanMeets', WHERE WHAT IT READS IS OF BULK AT MOST 1048576: true; the input reads as it did. -/
def spanMeetsUptoRow : OpenClaim := { program := "ytollljeomlfabaa", sum := "04a961be21f3894d5d99cd2f61682b50a0b2781a417e30d53490fb244e82cdc0", func := "quintet/quintetlaw03.SpanMeets", spec := "spanMeets", unfollowed := true, recurses := true, apart := false, narrowed := true }
def SpanMeetsUptoSaid : Prop := spanMeetsUptoRow.holds Try.pinned (OpenSpec.upto spanMeetsSpec)

/-- 'quintetlaw03.SpanCompares', WHERE WHAT IT READS IS OF BULK AT MOST 1048576: true; the input reads as it did. -/
def spanComparesUptoRow : OpenClaim := { program := "ytollljeomlfabaa", sum := "04a961be21f3894d5d99cd2f61682b50a0b2781a417e30d53490fb244e82cdc0", func := "quintet/quintetlaw03.SpanCompares", spec := "spanCompares", unfollowed := true, recurses := true, apart := false, narrowed := true }
def SpanComparesUptoSaid : Prop := spanComparesUptoRow.holds Try.pinned (OpenSpec.upto spanComparesSpec)

/-- 'quintetlaw03.SpanParts', WHERE WHAT IT READS IS OF BULK AT MOST 1048576: true; the input reads as it did. -/
def spanPartsUptoRow : OpenClaim := { program := "ytollljeomlfabaa", sum := "04a961be21f3894d5d99cd2f61682b50a0b2781a417e30d53490fb244e82cdc0", func := "quintet/quintetlaw03.SpanParts", spec := "spanParts", unfollowed := true, recurses := true, apart := false, narrowed := true }
def SpanPartsUptoSaid : Prop := spanPartsUptoRow.holds Try.pinned (OpenSpec.upto spanPartsSpec)

/-- 'quintetlaw03.SpanRound', WHERE WHAT IT READS IS OF BULK AT MOST 1048576: true; the input reads as it did. -/
def spanRoundUptoRow : OpenClaim := { program := "ytollljeomlfabaa", sum := "04a961be21f3894d5d99cd2f61682b50a0b2781a417e30d53490fb244e82cdc0", func := "quintet/quintetlaw03.SpanRound", spec := "spanRound", unfollowed := true, recurses := true, apart := false, narrowed := true }
def SpanRoundUptoSaid : Prop := spanRoundUptoRow.holds Try.pinned (OpenSpec.upto spanRoundSpec)

/-- 'quintetlaw05.ExpandChecks', WHERE WHAT IT READS IS OF BULK AT MOST 1048576: true; the input reads as it did. -/
def expandChecksUptoRow : OpenClaim := { program := "ytollljeomlfabaa", sum := "04a961be21f3894d5d99cd2f61682b50a0b2781a417e30d53490fb244e82cdc0", func := "quintet/quintetlaw05.ExpandChecks", spec := "expandChecks", unfollowed := true, recurses := true, apart := false, narrowed := true }
def ExpandChecksUptoSaid : Prop := expandChecksUptoRow.holds Try.pinned (OpenSpec.upto expandChecksSpec)

/-- 'quintetlaw05.ExpandRound', WHERE WHAT IT READS IS OF BULK AT MOST 1048576: true; the input reads as it did. -/
def expandRoundUptoRow : OpenClaim := { program := "ytollljeomlfabaa", sum := "04a961be21f3894d5d99cd2f61682b50a0b2781a417e30d53490fb244e82cdc0", func := "quintet/quintetlaw05.ExpandRound", spec := "expandRound", unfollowed := true, recurses := true, apart := false, narrowed := true }
def ExpandRoundUptoSaid : Prop := expandRoundUptoRow.holds Try.pinned (OpenSpec.upto expandRoundSpec)

/-- 'quintetlaw05.ExpandMeets', WHERE WHAT IT READS IS OF BULK AT MOST 1048576: true; the input reads as it did. -/
def expandMeetsUptoRow : OpenClaim := { program := "ytollljeomlfabaa", sum := "04a961be21f3894d5d99cd2f61682b50a0b2781a417e30d53490fb244e82cdc0", func := "quintet/quintetlaw05.ExpandMeets", spec := "expandMeets", unfollowed := true, recurses := true, apart := false, narrowed := true }
def ExpandMeetsUptoSaid : Prop := expandMeetsUptoRow.holds Try.pinned (OpenSpec.upto expandMeetsSpec)

end Rows
end Go.Proofs.Ytollljeomlfabaa
