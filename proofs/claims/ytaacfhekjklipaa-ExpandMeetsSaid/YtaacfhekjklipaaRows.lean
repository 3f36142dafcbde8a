/-
  No cell of these rows narrows 'for every input' (looked for: loops, veiled, ifaces, maps, wideKeys, modest, calm, conditions, laid).
  DERIVED. THE GIVEN ROWS OF THIS SEAT. 9 by the template 'for every input the law returns true; each argument reads behind the call as it read before'; 0 by the template 'total and deterministic' (their statements: YtaacfhekjklipaaTotals.lean).
  GIVEN WITH THE SEED: the statements are not yours to turn. If you find one false, say at which input.
  Laid BY PROGRAM, IN A SANDBOX (cutbox-rows.mjs): the forced cells as the released guide's own fill.sh prints them over the translation 5a67dc0ae9b6088f… (all of the seat's roots in one cut). By AI agents, Wed Nov 11 2026. No macro, syntax, notation, axiom, sorry.
-/
import Derived.Test.YtaacfhekjklipaaChecked
import GoSem.Claim
import GoSem.ClaimJoined
import GoSem.ClaimMapViews
import Derived.JoinedTies
import Derived.KernelRfl
namespace Go.Proofs.Ytaacfhekjklipaa
/- THE CELL 'sum', in the pinned program and in every row, IS THE sha256 OF THE DUMP (.gsa) THAT YtaacfhekjklipaaProg.lean LOADS. Nothing in Lean hashes anything: it is a label: what it is worth is what the hold of that sum in a sandbox is worth. -/
noncomputable def Try.pinned : Pinned := { name := "ytaacfhekjklipaa", sum := "5a67dc0ae9b6088fc99512a8f9f284690136e24986dde9633203199175a58ac1", checked := Try.checked }
namespace Rows
def none {H : Type} : Left H := { results := [], args := [] }

/-- 'quintetlaw03.SpanLess': WHATEVER THE INPUT: true; the input reads as it did. -/
def spanLessSpec : ChangeSpec := { name := "spanLess", fn := fun _ => fun
  | [d1, d2] => { results := [.lit (.bool true)], args := [d1, d2] }
  | _ => none }
def spanLessRow : OpenClaim := { program := "ytaacfhekjklipaa", sum := "5a67dc0ae9b6088fc99512a8f9f284690136e24986dde9633203199175a58ac1", func := "quintet/quintetlaw03.SpanLess", spec := "spanLess", unfollowed := true, recurses := true, apart := false }
def SpanLessSaid : Prop := spanLessRow.holds Try.pinned (OpenSpec.ofChange spanLessSpec)

/-- ITS FALSE NEIGHBOUR: 'it returns false'. Refute it at one input. -/
def spanLessWrong : ChangeSpec := { name := "spanLess", fn := fun _ => fun
  | [d1, d2] => { results := [.lit (.bool false)], args := [d1, d2] }
  | _ => none }
def SpanLessWrongFalsely : Prop := spanLessRow.holds Try.pinned (OpenSpec.ofChange spanLessWrong)

/-- 'quintetlaw03.SpanUnions': WHATEVER THE INPUT: true; the input reads as it did. -/
def spanUnionsSpec : ChangeSpec := { name := "spanUnions", fn := fun _ => fun
  | [d] => { results := [.lit (.bool true)], args := [d] }
  | _ => none }
def spanUnionsRow : OpenClaim := { program := "ytaacfhekjklipaa", sum := "5a67dc0ae9b6088fc99512a8f9f284690136e24986dde9633203199175a58ac1", func := "quintet/quintetlaw03.SpanUnions", spec := "spanUnions", unfollowed := true, recurses := true, apart := false }
def SpanUnionsSaid : Prop := spanUnionsRow.holds Try.pinned (OpenSpec.ofChange spanUnionsSpec)

/-- ITS FALSE NEIGHBOUR: 'it returns false'. Refute it at one input. -/
def spanUnionsWrong : ChangeSpec := { name := "spanUnions", fn := fun _ => fun
  | [d] => { results := [.lit (.bool false)], args := [d] }
  | _ => none }
def SpanUnionsWrongFalsely : Prop := spanUnionsRow.holds Try.pinned (OpenSpec.ofChange spanUnionsWrong)

/-- 'quintetlaw03.SpanGaps': WHATEVER THE INPUT: true; the input reads as it did. -/
def spanGapsSpec : ChangeSpec := { name := "spanGaps", fn := fun _ => fun
  | [d] => { results := [.lit (.bool true)], args := [d] }
  | _ => none }
def spanGapsRow : OpenClaim := { program := "ytaacfhekjklipaa", sum := "5a67dc0ae9b6088fc99512a8f9f284690136e24986dde9633203199175a58ac1", func := "quintet/quintetlaw03.SpanGaps", spec := "spanGaps", unfollowed := true, recurses := true, apart := false }
def SpanGapsSaid : Prop := spanGapsRow.holds Try.pinned (OpenSpec.ofChange spanGapsSpec)

/-- ITS FALSE NEIGHBOUR: 'it returns false'. Refute it at one input. -/
def spanGapsWrong : ChangeSpec := { name := "spanGaps", fn := fun _ => fun
  | [d] => { results := [.lit (.bool false)], args := [d] }
  | _ => none }
def SpanGapsWrongFalsely : Prop := spanGapsRow.holds Try.pinned (OpenSpec.ofChange spanGapsWrong)

/-- 'quintetlaw05.ExpandOf': WHATEVER THE INPUT: true; the input reads as it did. -/
def expandOfSpec : ChangeSpec := { name := "expandOf", fn := fun _ => fun
  | [d] => { results := [.lit (.bool true)], args := [d] }
  | _ => none }
def expandOfRow : OpenClaim := { program := "ytaacfhekjklipaa", sum := "5a67dc0ae9b6088fc99512a8f9f284690136e24986dde9633203199175a58ac1", func := "quintet/quintetlaw05.ExpandOf", spec := "expandOf", unfollowed := true, recurses := true, apart := false }
def ExpandOfSaid : Prop := expandOfRow.holds Try.pinned (OpenSpec.ofChange expandOfSpec)

/-- ITS FALSE NEIGHBOUR: 'it returns false'. Refute it at one input. -/
def expandOfWrong : ChangeSpec := { name := "expandOf", fn := fun _ => fun
  | [d] => { results := [.lit (.bool false)], args := [d] }
  | _ => none }
def ExpandOfWrongFalsely : Prop := expandOfRow.holds Try.pinned (OpenSpec.ofChange expandOfWrong)

/-- 'quintetlaw05.ExpandBacks': WHATEVER THE INPUT: true; the input reads as it did. -/
def expandBacksSpec : ChangeSpec := { name := "expandBacks", fn := fun _ => fun
  | [d] => { results := [.lit (.bool true)], args := [d] }
  | _ => none }
def expandBacksRow : OpenClaim := { program := "ytaacfhekjklipaa", sum := "5a67dc0ae9b6088fc99512a8f9f284690136e24986dde9633203199175a58ac1", func := "quintet/quintetlaw05.ExpandBacks", spec := "expandBacks", unfollowed := true, recurses := true, apart := false }
def ExpandBacksSaid : Prop := expandBacksRow.holds Try.pinned (OpenSpec.ofChange expandBacksSpec)

/-- ITS FALSE NEIGHBOUR: 'it returns false'. Refute it at one input. -/
def expandBacksWrong : ChangeSpec := { name := "expandBacks", fn := fun _ => fun
  | [d] => { results := [.lit (.bool false)], args := [d] }
  | _ => none }
def ExpandBacksWrongFalsely : Prop := expandBacksRow.holds Try.pinned (OpenSpec.ofChange expandBacksWrong)

/-- 'quintetlaw05.ExpandLeasts': WHATEVER THE INPUT: true; the input reads as it did. -/
def expandLeastsSpec : ChangeSpec := { name := "expandLeasts", fn := fun _ => fun
  | [d] => { results := [.lit (.bool true)], args := [d] }
  | _ => none }
def expandLeastsRow : OpenClaim := { program := "ytaacfhekjklipaa", sum := "5a67dc0ae9b6088fc99512a8f9f284690136e24986dde9633203199175a58ac1", func := "quintet/quintetlaw05.ExpandLeasts", spec := "expandLeasts", unfollowed := true, recurses := true, apart := false }
def ExpandLeastsSaid : Prop := expandLeastsRow.holds Try.pinned (OpenSpec.ofChange expandLeastsSpec)

/-- ITS FALSE NEIGHBOUR: 'it returns false'. Refute it at one input. -/
def expandLeastsWrong : ChangeSpec := { name := "expandLeasts", fn := fun _ => fun
  | [d] => { results := [.lit (.bool false)], args := [d] }
  | _ => none }
def ExpandLeastsWrongFalsely : Prop := expandLeastsRow.holds Try.pinned (OpenSpec.ofChange expandLeastsWrong)

/-- 'quintetlaw05.ExpandChecks': WHATEVER THE INPUT: true; the input reads as it did. -/
def expandChecksSpec : ChangeSpec := { name := "expandChecks", fn := fun _ => fun
  | [d1, d2] => { results := [.lit (.bool true)], args := [d1, d2] }
  | _ => none }
def expandChecksRow : OpenClaim := { program := "ytaacfhekjklipaa", sum := "5a67dc0ae9b6088fc99512a8f9f284690136e24986dde9633203199175a58ac1", func := "quintet/quintetlaw05.ExpandChecks", spec := "expandChecks", unfollowed := true, recurses := true, apart := false }
def ExpandChecksSaid : Prop := expandChecksRow.holds Try.pinned (OpenSpec.ofChange expandChecksSpec)

/-- ITS FALSE NEIGHBOUR: 'it returns false'. Refute it at one input. -/
def expandChecksWrong : ChangeSpec := { name := "expandChecks", fn := fun _ => fun
  | [d1, d2] => { results := [.lit (.bool false)], args := [d1, d2] }
  | _ => none }
def ExpandChecksWrongFalsely : Prop := expandChecksRow.holds Try.pinned (OpenSpec.ofChange expandChecksWrong)

/-- 'quintetlaw05.ExpandRound': WHATEVER THE INPUT: true; the input reads as it did. -/
def expandRoundSpec : ChangeSpec := { name := "expandRound", fn := fun _ => fun
  | [d1, d2] => { results := [.lit (.bool true)], args := [d1, d2] }
  | _ => none }
def expandRoundRow : OpenClaim := { program := "ytaacfhekjklipaa", sum := "5a67dc0ae9b6088fc99512a8f9f284690136e24986dde9633203199175a58ac1", func := "quintet/quintetlaw05.ExpandRound", spec := "expandRound", unfollowed := true, recurses := true, apart := false }
def ExpandRoundSaid : Prop := expandRoundRow.holds Try.pinned (OpenSpec.ofChange expandRoundSpec)

/-- ITS FALSE NEIGHBOUR: 'it returns false'. Refute it at one input. -/
def expandRoundWrong : ChangeSpec := { name := "expandRound", fn := fun _ => fun
  | [d1, d2] => { results := [.lit (.bool false)], args := [d1, d2] }
  | _ => none }
def ExpandRoundWrongFalsely : Prop := expandRoundRow.holds Try.pinned (OpenSpec.ofChange expandRoundWrong)

/-- 'quintetlaw05.ExpandMeets': WHATEVER THE INPUT: true; the input reads as it did. -/
def expandMeetsSpec : ChangeSpec := { name := "expandMeets", fn := fun _ => fun
  | [d1, d2, d3] => { results := [.lit (.bool true)], args := [d1, d2, d3] }
  | _ => none }
def expandMeetsRow : OpenClaim := { program := "ytaacfhekjklipaa", sum := "5a67dc0ae9b6088fc99512a8f9f284690136e24986dde9633203199175a58ac1", func := "quintet/quintetlaw05.ExpandMeets", spec := "expandMeets", unfollowed := true, recurses := true, apart := false }
def ExpandMeetsSaid : Prop := expandMeetsRow.holds Try.pinned (OpenSpec.ofChange expandMeetsSpec)

/-- ITS FALSE NEIGHBOUR: 'it returns false'. Refute it at one input. -/
def expandMeetsWrong : ChangeSpec := { name := "expandMeets", fn := fun _ => fun
  | [d1, d2, d3] => { results := [.lit (.bool false)], args := [d1, d2, d3] }
  | _ => none }
def ExpandMeetsWrongFalsely : Prop := expandMeetsRow.holds Try.pinned (OpenSpec.ofChange expandMeetsWrong)

/- THE SECOND FORM. 'bulk': how many values and letters a reading holds, each counted each time it is reached (what is shared counts as often as it is met; a slice's spare places count too). A statement '..UptoSaid' is the law's where the arguments, and the package variables that the reading takes, are together of bulk at most 1048576: NARROWER than '..Said'. Prove '..Said' where nothing that the law and all that it calls make is longer than what came in: it says more and counts as full. Else prove '..UptoSaid'. A law counts once. -/
mutual
def uptoBulk {H : Type} : DataW H → Nat
  | .lit (.string bytes) => bytes.length + 1
  | .lit _ => 1
  | .nil => 1
  | .ptr d => uptoBulk d + 1
  | .slice elems spare => uptoBulkAll elems + uptoBulkAll spare + 1
  | .agg parts => uptoBulkAll parts + 1
  | .iface _ d => uptoBulk d + 1
  | .map entries => uptoBulkEntries entries + 1
  | .held _ => 1
def uptoBulkAll {H : Type} : List (DataW H) → Nat
  | [] => 0
  | d :: r => uptoBulk d + uptoBulkAll r
def uptoBulkEntries {H : Type} : List (Lit × DataW H) → Nat
  | [] => 0
  | x :: r => uptoBulkEntry x + uptoBulkEntries r
def uptoBulkEntry {H : Type} : Lit × DataW H → Nat
  | (.string bytes, d) => bytes.length + uptoBulk d + 1
  | (_, d) => uptoBulk d + 1
 end
def uptoSmall : (H : Type) → List (DataW H) → Bool := fun _ ds => decide (uptoBulkAll ds ≤ 1048576)
def OpenSpec.upto (s : _root_.Go.ChangeSpec) : _root_.Go.OpenSpec := { _root_.Go.OpenSpec.ofChange s with cond := some uptoSmall }

/-- 'quintetlaw03.SpanLess', WHERE WHAT IT READS IS OF BULK AT MOST 1048576: true; the input reads as it did. -/
def spanLessUptoRow : OpenClaim := { program := "ytaacfhekjklipaa", sum := "5a67dc0ae9b6088fc99512a8f9f284690136e24986dde9633203199175a58ac1", func := "quintet/quintetlaw03.SpanLess", spec := "spanLess", unfollowed := true, recurses := true, apart := false, narrowed := true }
def SpanLessUptoSaid : Prop := spanLessUptoRow.holds Try.pinned (OpenSpec.upto spanLessSpec)

/-- 'quintetlaw03.SpanUnions', WHERE WHAT IT READS IS OF BULK AT MOST 1048576: true; the input reads as it did. -/
def spanUnionsUptoRow : OpenClaim := { program := "ytaacfhekjklipaa", sum := "5a67dc0ae9b6088fc99512a8f9f284690136e24986dde9633203199175a58ac1", func := "quintet/quintetlaw03.SpanUnions", spec := "spanUnions", unfollowed := true, recurses := true, apart := false, narrowed := true }
def SpanUnionsUptoSaid : Prop := spanUnionsUptoRow.holds Try.pinned (OpenSpec.upto spanUnionsSpec)

/-- 'quintetlaw03.SpanGaps', WHERE WHAT IT READS IS OF BULK AT MOST 1048576: true; the input reads as it did. -/
def spanGapsUptoRow : OpenClaim := { program := "ytaacfhekjklipaa", sum := "5a67dc0ae9b6088fc99512a8f9f284690136e24986dde9633203199175a58ac1", func := "quintet/quintetlaw03.SpanGaps", spec := "spanGaps", unfollowed := true, recurses := true, apart := false, narrowed := true }
def SpanGapsUptoSaid : Prop := spanGapsUptoRow.holds Try.pinned (OpenSpec.upto spanGapsSpec)

/-- 'quintetlaw05.ExpandOf', WHERE WHAT IT READS IS OF BULK AT MOST 1048576: true; the input reads as it did. -/
def expandOfUptoRow : OpenClaim := { program := "ytaacfhekjklipaa", sum := "5a67dc0ae9b6088fc99512a8f9f284690136e24986dde9633203199175a58ac1", func := "quintet/quintetlaw05.ExpandOf", spec := "expandOf", unfollowed := true, recurses := true, apart := false, narrowed := true }
def ExpandOfUptoSaid : Prop := expandOfUptoRow.holds Try.pinned (OpenSpec.upto expandOfSpec)

/-- 'quintetlaw05.ExpandBacks', WHERE WHAT IT READS IS OF BULK AT MOST 1048576: true; the input reads as it did. -/
def expandBacksUptoRow : OpenClaim := { program := "ytaacfhekjklipaa", sum := "5a67dc0ae9b6088fc99512a8f9f284690136e24986dde9633203199175a58ac1", func := "quintet/quintetlaw05.ExpandBacks", spec := "expandBacks", unfollowed := true, recurses := true, apart := false, narrowed := true }
def ExpandBacksUptoSaid : Prop := expandBacksUptoRow.holds Try.pinned (OpenSpec.upto expandBacksSpec)

/-- 'quintetlaw05.ExpandLeasts', WHERE WHAT IT READS IS OF BULK AT MOST 1048576: true; the input reads as it did. -/
def expandLeastsUptoRow : OpenClaim := { program := "ytaacfhekjklipaa", sum := "5a67dc0ae9b6088fc99512a8f9f284690136e24986dde9633203199175a58ac1", func := "quintet/quintetlaw05.ExpandLeasts", spec := "expandLeasts", unfollowed := true, recurses := true, apart := false, narrowed := true }
def ExpandLeastsUptoSaid : Prop := expandLeastsUptoRow.holds Try.pinned (OpenSpec.upto expandLeastsSpec)

/-- 'quintetlaw05.ExpandChecks', WHERE WHAT IT READS IS OF BULK AT MOST 1048576: true; the input reads as it did. -/
def expandChecksUptoRow : OpenClaim := { program := "ytaacfhekjklipaa", sum := "5a67dc0ae9b6088fc99512a8f9f284690136e24986dde9633203199175a58ac1", func := "quintet/quintetlaw05.ExpandChecks", spec := "expandChecks", unfollowed := true, recurses := true, apart := false, narrowed := true }
def ExpandChecksUptoSaid : Prop := expandChecksUptoRow.holds Try.pinned (OpenSpec.upto expandChecksSpec)

/-- 'quintetlaw05.ExpandRound', WHERE WHAT IT READS IS OF BULK AT MOST 1048576: true; the input reads as it did. -/
def expandRoundUptoRow : OpenClaim := { program := "ytaacfhekjklipaa", sum := "5a67dc0ae9b6088fc99512a8f9f284690136e24986dde9633203199175a58ac1", func := "quintet/quintetlaw05.ExpandRound", spec := "expandRound", unfollowed := true, recurses := true, apart := false, narrowed := true }
def ExpandRoundUptoSaid : Prop := expandRoundUptoRow.holds Try.pinned (OpenSpec.upto expandRoundSpec)

/-- 'quintetlaw05.ExpandMeets', WHERE WHAT IT READS IS OF BULK AT MOST 1048576: true; the input reads as it did. -/
def expandMeetsUptoRow : OpenClaim := { program := "ytaacfhekjklipaa", sum := "5a67dc0ae9b6088fc99512a8f9f284690136e24986dde9633203199175a58ac1", func := "quintet/quintetlaw05.ExpandMeets", spec := "expandMeets", unfollowed := true, recurses := true, apart := false, narrowed := true }
def ExpandMeetsUptoSaid : Prop := expandMeetsUptoRow.holds Try.pinned (OpenSpec.upto expandMeetsSpec)

end Rows
end Go.Proofs.Ytaacfhekjklipaa
