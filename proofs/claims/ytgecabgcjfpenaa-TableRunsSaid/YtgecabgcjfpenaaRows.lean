/-
  No cell of these rows narrows 'for every input' (looked for: loops, veiled, ifaces, maps, wideKeys, modest, calm, conditions, laid).
  DERIVED. THE GIVEN ROWS OF THIS SEAT. 6 by the template 'for every input the law returns true; each argument reads behind the call as it read before'; 0 by the template 'total and deterministic' (their statements: YtgecabgcjfpenaaTotals.lean).
  GIVEN WITH THE SEED: the statements are not yours to turn. If you find one false, say at which input.
  Laid BY PROGRAM, IN A SANDBOX (cutbox-rows.mjs): the forced cells as the released guide's own fill.sh prints them over the translation ec33838a15073afa… (all of the seat's roots in one cut). By AI agents, Wed Nov 11 2026. No macro, syntax, notation, axiom, sorry.
-/
import Derived.Test.YtgecabgcjfpenaaChecked
import GoSem.Claim
import GoSem.ClaimJoined
import GoSem.ClaimMapViews
import Derived.JoinedTies
import Derived.KernelRfl
namespace Go.Proofs.Ytgecabgcjfpenaa
/- THE CELL 'sum', in the pinned program and in every row, IS THE sha256 OF THE DUMP (.gsa) THAT YtgecabgcjfpenaaProg.lean LOADS. Nothing in Lean hashes anything: it is a label: what it is worth is what the hold of that sum in a sandbox is worth. -/
noncomputable def Try.pinned : Pinned := { name := "ytgecabgcjfpenaa", sum := "ec33838a15073afab6fe5b524d63f228af11c68041de038144db7f0db11891fe", checked := Try.checked }
namespace Rows
def none {H : Type} : Left H := { results := [], args := [] }

/-- 'quintetlaw11.TableConfigs': WHATEVER THE INPUT: true; the input reads as it did. -/
def tableConfigsSpec : ChangeSpec := { name := "tableConfigs", fn := fun _ => fun
  | [d] => { results := [.lit (.bool true)], args := [d] }
  | _ => none }
def tableConfigsRow : OpenClaim := { program := "ytgecabgcjfpenaa", sum := "ec33838a15073afab6fe5b524d63f228af11c68041de038144db7f0db11891fe", func := "quintet/quintetlaw11.TableConfigs", spec := "tableConfigs", apart := false }
def TableConfigsSaid : Prop := tableConfigsRow.holds Try.pinned (OpenSpec.ofChange tableConfigsSpec)

/-- ITS FALSE NEIGHBOUR: 'it returns false'. Refute it at one input. -/
def tableConfigsWrong : ChangeSpec := { name := "tableConfigs", fn := fun _ => fun
  | [d] => { results := [.lit (.bool false)], args := [d] }
  | _ => none }
def TableConfigsWrongFalsely : Prop := tableConfigsRow.holds Try.pinned (OpenSpec.ofChange tableConfigsWrong)

/-- 'quintetlaw11.TableMatches': WHATEVER THE INPUT: true; the input reads as it did. -/
def tableMatchesSpec : ChangeSpec := { name := "tableMatches", fn := fun _ => fun
  | [d1, d2, d3, d4] => { results := [.lit (.bool true)], args := [d1, d2, d3, d4] }
  | _ => none }
def tableMatchesRow : OpenClaim := { program := "ytgecabgcjfpenaa", sum := "ec33838a15073afab6fe5b524d63f228af11c68041de038144db7f0db11891fe", func := "quintet/quintetlaw11.TableMatches", spec := "tableMatches", apart := false }
def TableMatchesSaid : Prop := tableMatchesRow.holds Try.pinned (OpenSpec.ofChange tableMatchesSpec)

/-- ITS FALSE NEIGHBOUR: 'it returns false'. Refute it at one input. -/
def tableMatchesWrong : ChangeSpec := { name := "tableMatches", fn := fun _ => fun
  | [d1, d2, d3, d4] => { results := [.lit (.bool false)], args := [d1, d2, d3, d4] }
  | _ => none }
def TableMatchesWrongFalsely : Prop := tableMatchesRow.holds Try.pinned (OpenSpec.ofChange tableMatchesWrong)

/-- 'quintetlaw11.TableLast': WHATEVER THE INPUT: true; the input reads as it did. -/
def tableLastSpec : ChangeSpec := { name := "tableLast", fn := fun _ => fun
  | [d1, d2] => { results := [.lit (.bool true)], args := [d1, d2] }
  | _ => none }
def tableLastRow : OpenClaim := { program := "ytgecabgcjfpenaa", sum := "ec33838a15073afab6fe5b524d63f228af11c68041de038144db7f0db11891fe", func := "quintet/quintetlaw11.TableLast", spec := "tableLast", apart := false }
def TableLastSaid : Prop := tableLastRow.holds Try.pinned (OpenSpec.ofChange tableLastSpec)

/-- ITS FALSE NEIGHBOUR: 'it returns false'. Refute it at one input. -/
def tableLastWrong : ChangeSpec := { name := "tableLast", fn := fun _ => fun
  | [d1, d2] => { results := [.lit (.bool false)], args := [d1, d2] }
  | _ => none }
def TableLastWrongFalsely : Prop := tableLastRow.holds Try.pinned (OpenSpec.ofChange tableLastWrong)

/-- 'quintetlaw11.TableBack': WHATEVER THE INPUT: true; the input reads as it did. -/
def tableBackSpec : ChangeSpec := { name := "tableBack", fn := fun _ => fun
  | [d1, d2, d3] => { results := [.lit (.bool true)], args := [d1, d2, d3] }
  | _ => none }
def tableBackRow : OpenClaim := { program := "ytgecabgcjfpenaa", sum := "ec33838a15073afab6fe5b524d63f228af11c68041de038144db7f0db11891fe", func := "quintet/quintetlaw11.TableBack", spec := "tableBack", apart := false }
def TableBackSaid : Prop := tableBackRow.holds Try.pinned (OpenSpec.ofChange tableBackSpec)

/-- ITS FALSE NEIGHBOUR: 'it returns false'. Refute it at one input. -/
def tableBackWrong : ChangeSpec := { name := "tableBack", fn := fun _ => fun
  | [d1, d2, d3] => { results := [.lit (.bool false)], args := [d1, d2, d3] }
  | _ => none }
def TableBackWrongFalsely : Prop := tableBackRow.holds Try.pinned (OpenSpec.ofChange tableBackWrong)

/-- 'quintetlaw11.TableRuns': WHATEVER THE INPUT: true; the input reads as it did. -/
def tableRunsSpec : ChangeSpec := { name := "tableRuns", fn := fun _ => fun
  | [d1, d2] => { results := [.lit (.bool true)], args := [d1, d2] }
  | _ => none }
def tableRunsRow : OpenClaim := { program := "ytgecabgcjfpenaa", sum := "ec33838a15073afab6fe5b524d63f228af11c68041de038144db7f0db11891fe", func := "quintet/quintetlaw11.TableRuns", spec := "tableRuns", unfollowed := true, recurses := true, apart := false }
def TableRunsSaid : Prop := tableRunsRow.holds Try.pinned (OpenSpec.ofChange tableRunsSpec)

/-- ITS FALSE NEIGHBOUR: 'it returns false'. Refute it at one input. -/
def tableRunsWrong : ChangeSpec := { name := "tableRuns", fn := fun _ => fun
  | [d1, d2] => { results := [.lit (.bool false)], args := [d1, d2] }
  | _ => none }
def TableRunsWrongFalsely : Prop := tableRunsRow.holds Try.pinned (OpenSpec.ofChange tableRunsWrong)

/-- 'quintetlaw11.TableNil': WHATEVER THE INPUT: true; the input reads as it did. -/
def tableNilSpec : ChangeSpec := { name := "tableNil", fn := fun _ => fun
  | [d] => { results := [.lit (.bool true)], args := [d] }
  | _ => none }
def tableNilRow : OpenClaim := { program := "ytgecabgcjfpenaa", sum := "ec33838a15073afab6fe5b524d63f228af11c68041de038144db7f0db11891fe", func := "quintet/quintetlaw11.TableNil", spec := "tableNil", unfollowed := true, recurses := true, apart := false }
def TableNilSaid : Prop := tableNilRow.holds Try.pinned (OpenSpec.ofChange tableNilSpec)

/-- ITS FALSE NEIGHBOUR: 'it returns false'. Refute it at one input. -/
def tableNilWrong : ChangeSpec := { name := "tableNil", fn := fun _ => fun
  | [d] => { results := [.lit (.bool false)], args := [d] }
  | _ => none }
def TableNilWrongFalsely : Prop := tableNilRow.holds Try.pinned (OpenSpec.ofChange tableNilWrong)

/- THE SECOND FORM. 'bulk': how many values and letters a reading holds, each counted each time it is reached (what is shared counts as often as it is met; a slice's spare places count too). A statement '..UptoSaid' is the law's where the arguments, and the package variables that the reading takes, are together of bulk at most 1048576: NARROWER than '..Said'. Prove '..Said' where nothing that the law and all that it calls make is longer than what came in: it says more and counts as full. Else prove '..UptoSaid'. A law counts once. -/
mutual
def uptoBulk {H : Type} : DataW H → Nat
  | .lit (.string bytes) => bytes.length + 1
  | .lit _ => 1
  | .nil => 1
  | .ptr d => uptoBulk d + 1
  | .slice elems spare => uptoBulkAll elems + uptoBulkAll spare + 1
  | .agg parts => uptoBulkAll parts + 1
  | .iface _ d => uptoBulk d + 1
  | .map entries => uptoBulkEntries entries + 1
  | .held _ => 1
def uptoBulkAll {H : Type} : List (DataW H) → Nat
  | [] => 0
  | d :: r => uptoBulk d + uptoBulkAll r
def uptoBulkEntries {H : Type} : List (Lit × DataW H) → Nat
  | [] => 0
  | x :: r => uptoBulkEntry x + uptoBulkEntries r
def uptoBulkEntry {H : Type} : Lit × DataW H → Nat
  | (.string bytes, d) => bytes.length + uptoBulk d + 1
  | (_, d) => uptoBulk d + 1
 end
def uptoSmall : (H : Type) → List (DataW H) → Bool := fun _ ds => decide (uptoBulkAll ds ≤ 1048576)
def OpenSpec.upto (s : _root_.Go.ChangeSpec) : _root_.Go.OpenSpec := { _root_.Go.OpenSpec.ofChange s with cond := some uptoSmall }

/-- 'quintetlaw11.TableConfigs', WHERE WHAT IT READS IS OF BULK AT MOST 1048576: true; the input reads as it did. -/
def tableConfigsUptoRow : OpenClaim := { program := "ytgecabgcjfpenaa", sum := "ec33838a15073afab6fe5b524d63f228af11c68041de038144db7f0db11891fe", func := "quintet/quintetlaw11.TableConfigs", spec := "tableConfigs", apart := false, narrowed := true }
def TableConfigsUptoSaid : Prop := tableConfigsUptoRow.holds Try.pinned (OpenSpec.upto tableConfigsSpec)

/-- 'quintetlaw11.TableMatches', WHERE WHAT IT READS IS OF BULK AT MOST 1048576: true; the input reads as it did. -/
def tableMatchesUptoRow : OpenClaim := { program := "ytgecabgcjfpenaa", sum := "ec33838a15073afab6fe5b524d63f228af11c68041de038144db7f0db11891fe", func := "quintet/quintetlaw11.TableMatches", spec := "tableMatches", apart := false, narrowed := true }
def TableMatchesUptoSaid : Prop := tableMatchesUptoRow.holds Try.pinned (OpenSpec.upto tableMatchesSpec)

/-- 'quintetlaw11.TableLast', WHERE WHAT IT READS IS OF BULK AT MOST 1048576: true; the input reads as it did. -/
def tableLastUptoRow : OpenClaim := { program := "ytgecabgcjfpenaa", sum := "ec33838a15073afab6fe5b524d63f228af11c68041de038144db7f0db11891fe", func := "quintet/quintetlaw11.TableLast", spec := "tableLast", apart := false, narrowed := true }
def TableLastUptoSaid : Prop := tableLastUptoRow.holds Try.pinned (OpenSpec.upto tableLastSpec)

/-- 'quintetlaw11.TableBack', WHERE WHAT IT READS IS OF BULK AT MOST 1048576: true; the input reads as it did. -/
def tableBackUptoRow : OpenClaim := { program := "ytgecabgcjfpenaa", sum := "ec33838a15073afab6fe5b524d63f228af11c68041de038144db7f0db11891fe", func := "quintet/quintetlaw11.TableBack", spec := "tableBack", apart := false, narrowed := true }
def TableBackUptoSaid : Prop := tableBackUptoRow.holds Try.pinned (OpenSpec.upto tableBackSpec)

/-- 'quintetlaw11.TableRuns', WHERE WHAT IT READS IS OF BULK AT MOST 1048576: true; the input reads as it did. -/
def tableRunsUptoRow : OpenClaim := { program := "ytgecabgcjfpenaa", sum := "ec33838a15073afab6fe5b524d63f228af11c68041de038144db7f0db11891fe", func := "quintet/quintetlaw11.TableRuns", spec := "tableRuns", unfollowed := true, recurses := true, apart := false, narrowed := true }
def TableRunsUptoSaid : Prop := tableRunsUptoRow.holds Try.pinned (OpenSpec.upto tableRunsSpec)

/-- 'quintetlaw11.TableNil', WHERE WHAT IT READS IS OF BULK AT MOST 1048576: true; the input reads as it did. -/
def tableNilUptoRow : OpenClaim := { program := "ytgecabgcjfpenaa", sum := "ec33838a15073afab6fe5b524d63f228af11c68041de038144db7f0db11891fe", func := "quintet/quintetlaw11.TableNil", spec := "tableNil", unfollowed := true, recurses := true, apart := false, narrowed := true }
def TableNilUptoSaid : Prop := tableNilUptoRow.holds Try.pinned (OpenSpec.upto tableNilSpec)

end Rows
end Go.Proofs.Ytgecabgcjfpenaa
