/-
  No cell of these rows narrows 'for every input' (looked for: loops, veiled, ifaces, maps, wideKeys, modest, calm, conditions, laid).
  DERIVED. THE GIVEN ROWS OF THIS SEAT. 9 by the template 'for every input the law returns true; each argument reads behind the call as it read before'; 0 by the template 'total and deterministic' (their statements: YtofjbbfnkefoaaaTotals.lean).
  GIVEN WITH THE SEED: the statements are not yours to turn. If you find one false, say at which input.
  Laid BY PROGRAM, IN A SANDBOX (cutbox-rows.mjs): the forced cells as the released guide's own fill.sh prints them over the translation 2c9aebc79b21fdec… (all of the seat's roots in one cut). By AI agents, Wed Nov 11 2026. No macro, syntax, notation, axiom, sorry.
-/
import Derived.Test.YtofjbbfnkefoaaaChecked
import GoSem.Claim
import GoSem.ClaimJoined
import GoSem.ClaimMapViews
import Derived.JoinedTies
import Derived.KernelRfl
namespace Go.Proofs.Ytofjbbfnkefoaaa
/- THE CELL 'sum', in the pinned program and in every row, IS THE sha256 OF THE DUMP (.gsa) THAT YtofjbbfnkefoaaaProg.lean LOADS. Nothing in Lean hashes anything: it is a label: what it is worth is what the hold of that sum in a sandbox is worth. -/
noncomputable def Try.pinned : Pinned := { name := "ytofjbbfnkefoaaa", sum := "2c9aebc79b21fdec8bf5626109d89bc87361df720e5220b3ea1bb42887ef70eb", checked := Try.checked }
namespace Rows
def none {H : Type} : Left H := { results := [], args := [] }

/-- 'quintetlaw15.HashNew': WHATEVER THE INPUT: true; the input reads as it did. -/
def hashNewSpec : ChangeSpec := { name := "hashNew", fn := fun _ => fun
  | [d] => { results := [.lit (.bool true)], args := [d] }
  | _ => none }
def hashNewRow : OpenClaim := { program := "ytofjbbfnkefoaaa", sum := "2c9aebc79b21fdec8bf5626109d89bc87361df720e5220b3ea1bb42887ef70eb", func := "quintet/quintetlaw15.HashNew", spec := "hashNew", apart := false }
def HashNewSaid : Prop := hashNewRow.holds Try.pinned (OpenSpec.ofChange hashNewSpec)

/-- ITS FALSE NEIGHBOUR: 'it returns false'. Refute it at one input. -/
def hashNewWrong : ChangeSpec := { name := "hashNew", fn := fun _ => fun
  | [d] => { results := [.lit (.bool false)], args := [d] }
  | _ => none }
def HashNewWrongFalsely : Prop := hashNewRow.holds Try.pinned (OpenSpec.ofChange hashNewWrong)

/-- 'quintetlaw15.HashRuns': WHATEVER THE INPUT: true; the input reads as it did. -/
def hashRunsSpec : ChangeSpec := { name := "hashRuns", fn := fun _ => fun
  | [d1, d2] => { results := [.lit (.bool true)], args := [d1, d2] }
  | _ => none }
def hashRunsRow : OpenClaim := { program := "ytofjbbfnkefoaaa", sum := "2c9aebc79b21fdec8bf5626109d89bc87361df720e5220b3ea1bb42887ef70eb", func := "quintet/quintetlaw15.HashRuns", spec := "hashRuns", unfollowed := true, recurses := true, apart := false }
def HashRunsSaid : Prop := hashRunsRow.holds Try.pinned (OpenSpec.ofChange hashRunsSpec)

/-- ITS FALSE NEIGHBOUR: 'it returns false'. Refute it at one input. -/
def hashRunsWrong : ChangeSpec := { name := "hashRuns", fn := fun _ => fun
  | [d1, d2] => { results := [.lit (.bool false)], args := [d1, d2] }
  | _ => none }
def HashRunsWrongFalsely : Prop := hashRunsRow.holds Try.pinned (OpenSpec.ofChange hashRunsWrong)

/-- 'quintetlaw15.HashGrows': WHATEVER THE INPUT: true; the input reads as it did. -/
def hashGrowsSpec : ChangeSpec := { name := "hashGrows", fn := fun _ => fun
  | [d1, d2, d3, d4] => { results := [.lit (.bool true)], args := [d1, d2, d3, d4] }
  | _ => none }
def hashGrowsRow : OpenClaim := { program := "ytofjbbfnkefoaaa", sum := "2c9aebc79b21fdec8bf5626109d89bc87361df720e5220b3ea1bb42887ef70eb", func := "quintet/quintetlaw15.HashGrows", spec := "hashGrows", unfollowed := true, recurses := true, apart := false }
def HashGrowsSaid : Prop := hashGrowsRow.holds Try.pinned (OpenSpec.ofChange hashGrowsSpec)

/-- ITS FALSE NEIGHBOUR: 'it returns false'. Refute it at one input. -/
def hashGrowsWrong : ChangeSpec := { name := "hashGrows", fn := fun _ => fun
  | [d1, d2, d3, d4] => { results := [.lit (.bool false)], args := [d1, d2, d3, d4] }
  | _ => none }
def HashGrowsWrongFalsely : Prop := hashGrowsRow.holds Try.pinned (OpenSpec.ofChange hashGrowsWrong)

/-- 'quintetlaw15.HashNil': WHATEVER THE INPUT: true; the input reads as it did. -/
def hashNilSpec : ChangeSpec := { name := "hashNil", fn := fun _ => fun
  | [d1, d2] => { results := [.lit (.bool true)], args := [d1, d2] }
  | _ => none }
def hashNilRow : OpenClaim := { program := "ytofjbbfnkefoaaa", sum := "2c9aebc79b21fdec8bf5626109d89bc87361df720e5220b3ea1bb42887ef70eb", func := "quintet/quintetlaw15.HashNil", spec := "hashNil", unfollowed := true, recurses := true, apart := false }
def HashNilSaid : Prop := hashNilRow.holds Try.pinned (OpenSpec.ofChange hashNilSpec)

/-- ITS FALSE NEIGHBOUR: 'it returns false'. Refute it at one input. -/
def hashNilWrong : ChangeSpec := { name := "hashNil", fn := fun _ => fun
  | [d1, d2] => { results := [.lit (.bool false)], args := [d1, d2] }
  | _ => none }
def HashNilWrongFalsely : Prop := hashNilRow.holds Try.pinned (OpenSpec.ofChange hashNilWrong)

/-- 'quintetlaw12.TrieNews': WHATEVER THE INPUT: true; the input reads as it did. -/
def trieNewsSpec : ChangeSpec := { name := "trieNews", fn := fun _ => fun
  | [d1, d2, d3, d4] => { results := [.lit (.bool true)], args := [d1, d2, d3, d4] }
  | _ => none }
def trieNewsRow : OpenClaim := { program := "ytofjbbfnkefoaaa", sum := "2c9aebc79b21fdec8bf5626109d89bc87361df720e5220b3ea1bb42887ef70eb", func := "quintet/quintetlaw12.TrieNews", spec := "trieNews", unfollowed := true, recurses := true, apart := false }
def TrieNewsSaid : Prop := trieNewsRow.holds Try.pinned (OpenSpec.ofChange trieNewsSpec)

/-- ITS FALSE NEIGHBOUR: 'it returns false'. Refute it at one input. -/
def trieNewsWrong : ChangeSpec := { name := "trieNews", fn := fun _ => fun
  | [d1, d2, d3, d4] => { results := [.lit (.bool false)], args := [d1, d2, d3, d4] }
  | _ => none }
def TrieNewsWrongFalsely : Prop := trieNewsRow.holds Try.pinned (OpenSpec.ofChange trieNewsWrong)

/-- 'quintetlaw12.TrieRuns': WHATEVER THE INPUT: true; the input reads as it did. -/
def trieRunsSpec : ChangeSpec := { name := "trieRuns", fn := fun _ => fun
  | [d1, d2, d3] => { results := [.lit (.bool true)], args := [d1, d2, d3] }
  | _ => none }
def trieRunsRow : OpenClaim := { program := "ytofjbbfnkefoaaa", sum := "2c9aebc79b21fdec8bf5626109d89bc87361df720e5220b3ea1bb42887ef70eb", func := "quintet/quintetlaw12.TrieRuns", spec := "trieRuns", unfollowed := true, recurses := true, apart := false }
def TrieRunsSaid : Prop := trieRunsRow.holds Try.pinned (OpenSpec.ofChange trieRunsSpec)

/-- ITS FALSE NEIGHBOUR: 'it returns false'. Refute it at one input. -/
def trieRunsWrong : ChangeSpec := { name := "trieRuns", fn := fun _ => fun
  | [d1, d2, d3] => { results := [.lit (.bool false)], args := [d1, d2, d3] }
  | _ => none }
def TrieRunsWrongFalsely : Prop := trieRunsRow.holds Try.pinned (OpenSpec.ofChange trieRunsWrong)

/-- 'quintetlaw12.TrieLongest': WHATEVER THE INPUT: true; the input reads as it did. -/
def trieLongestSpec : ChangeSpec := { name := "trieLongest", fn := fun _ => fun
  | [d1, d2, d3] => { results := [.lit (.bool true)], args := [d1, d2, d3] }
  | _ => none }
def trieLongestRow : OpenClaim := { program := "ytofjbbfnkefoaaa", sum := "2c9aebc79b21fdec8bf5626109d89bc87361df720e5220b3ea1bb42887ef70eb", func := "quintet/quintetlaw12.TrieLongest", spec := "trieLongest", unfollowed := true, recurses := true, apart := false }
def TrieLongestSaid : Prop := trieLongestRow.holds Try.pinned (OpenSpec.ofChange trieLongestSpec)

/-- ITS FALSE NEIGHBOUR: 'it returns false'. Refute it at one input. -/
def trieLongestWrong : ChangeSpec := { name := "trieLongest", fn := fun _ => fun
  | [d1, d2, d3] => { results := [.lit (.bool false)], args := [d1, d2, d3] }
  | _ => none }
def TrieLongestWrongFalsely : Prop := trieLongestRow.holds Try.pinned (OpenSpec.ofChange trieLongestWrong)

/-- 'quintetlaw12.TrieTurned': WHATEVER THE INPUT: true; the input reads as it did. -/
def trieTurnedSpec : ChangeSpec := { name := "trieTurned", fn := fun _ => fun
  | [d1, d2] => { results := [.lit (.bool true)], args := [d1, d2] }
  | _ => none }
def trieTurnedRow : OpenClaim := { program := "ytofjbbfnkefoaaa", sum := "2c9aebc79b21fdec8bf5626109d89bc87361df720e5220b3ea1bb42887ef70eb", func := "quintet/quintetlaw12.TrieTurned", spec := "trieTurned", unfollowed := true, recurses := true, apart := false }
def TrieTurnedSaid : Prop := trieTurnedRow.holds Try.pinned (OpenSpec.ofChange trieTurnedSpec)

/-- ITS FALSE NEIGHBOUR: 'it returns false'. Refute it at one input. -/
def trieTurnedWrong : ChangeSpec := { name := "trieTurned", fn := fun _ => fun
  | [d1, d2] => { results := [.lit (.bool false)], args := [d1, d2] }
  | _ => none }
def TrieTurnedWrongFalsely : Prop := trieTurnedRow.holds Try.pinned (OpenSpec.ofChange trieTurnedWrong)

/-- 'quintetlaw12.TrieUndone': WHATEVER THE INPUT: true; the input reads as it did. -/
def trieUndoneSpec : ChangeSpec := { name := "trieUndone", fn := fun _ => fun
  | [d1, d2, d3, d4] => { results := [.lit (.bool true)], args := [d1, d2, d3, d4] }
  | _ => none }
def trieUndoneRow : OpenClaim := { program := "ytofjbbfnkefoaaa", sum := "2c9aebc79b21fdec8bf5626109d89bc87361df720e5220b3ea1bb42887ef70eb", func := "quintet/quintetlaw12.TrieUndone", spec := "trieUndone", unfollowed := true, recurses := true, apart := false }
def TrieUndoneSaid : Prop := trieUndoneRow.holds Try.pinned (OpenSpec.ofChange trieUndoneSpec)

/-- ITS FALSE NEIGHBOUR: 'it returns false'. Refute it at one input. -/
def trieUndoneWrong : ChangeSpec := { name := "trieUndone", fn := fun _ => fun
  | [d1, d2, d3, d4] => { results := [.lit (.bool false)], args := [d1, d2, d3, d4] }
  | _ => none }
def TrieUndoneWrongFalsely : Prop := trieUndoneRow.holds Try.pinned (OpenSpec.ofChange trieUndoneWrong)

/- THE SECOND FORM. 'bulk': how many values and letters a reading holds, each counted each time it is reached (what is shared counts as often as it is met; a slice's spare places count too). A statement '..UptoSaid' is the law's where the arguments, and the package variables that the reading takes, are together of bulk at most 1048576: NARROWER than '..Said'. Prove '..Said' where nothing that the law and all that it calls make is longer than what came in: it says more and counts as full. Else prove '..UptoSaid'. A law counts once. -/
mutual
def uptoBulk {H : Type} : DataW H → Nat
  | .lit (.string bytes) => bytes.length + 1
  | .lit _ => 1
  | .nil => 1
  | .ptr d => uptoBulk d + 1
  | .slice elems spare => uptoBulkAll elems + uptoBulkAll spare + 1
  | .agg parts => uptoBulkAll parts + 1
  | .iface _ d => uptoBulk d + 1
  | .map entries => uptoBulkEntries entries + 1
  | .held _ => 1
def uptoBulkAll {H : Type} : List (DataW H) → Nat
  | [] => 0
  | d :: r => uptoBulk d + uptoBulkAll r
def uptoBulkEntries {H : Type} : List (Lit × DataW H) → Nat
  | [] => 0
  | x :: r => uptoBulkEntry x + uptoBulkEntries r
def uptoBulkEntry {H : Type} : Lit × DataW H → Nat
  | (.string bytes, d) => bytes.length + uptoBulk d + 1
  | (_, d) => uptoBulk d + 1
 end
def uptoSmall : (H : Type) → List (DataW H) → Bool := fun _ ds => decide (uptoBulkAll ds ≤ 1048576)
def OpenSpec.upto (s : _root_.Go.ChangeSpec) : _root_.Go.OpenSpec := { _root_.Go.OpenSpec.ofChange s with cond := some uptoSmall }

/-- 'quintetlaw15.HashNew', WHERE WHAT IT READS IS OF BULK AT MOST 1048576: true; the input reads as it did. -/
def hashNewUptoRow : OpenClaim := { program := "ytofjbbfnkefoaaa", sum := "2c9aebc79b21fdec8bf5626109d89bc87361df720e5220b3ea1bb42887ef70eb", func := "quintet/quintetlaw15.HashNew", spec := "hashNew", apart := false, narrowed := true }
def HashNewUptoSaid : Prop := hashNewUptoRow.holds Try.pinned (OpenSpec.upto hashNewSpec)

/-- 'quintetlaw15.HashRuns', WHERE WHAT IT READS IS OF BULK AT MOST 1048576: true; the input reads as it did. -/
def hashRunsUptoRow : OpenClaim := { program := "ytofjbbfnkefoaaa", sum := "2c9aebc79b21fdec8bf5626109d89bc87361df720e5220b3ea1bb42887ef70eb", func := "quintet/quintetlaw15.HashRuns", spec := "hashRuns", unfollowed := true, recurses := true, apart := false, narrowed := true }
def HashRunsUptoSaid : Prop := hashRunsUptoRow.holds Try.pinned (OpenSpec.upto hashRunsSpec)

/-- 'quintetlaw15.HashGrows', WHERE WHAT IT READS IS OF BULK AT MOST 1048576: true; the input reads as it did. -/
def hashGrowsUptoRow : OpenClaim := { program := "ytofjbbfnkefoaaa", sum := "2c9aebc79b21fdec8bf5626109d89bc87361df720e5220b3ea1bb42887ef70eb", func := "quintet/quintetlaw15.HashGrows", spec := "hashGrows", unfollowed := true, recurses := true, apart := false, narrowed := true }
def HashGrowsUptoSaid : Prop := hashGrowsUptoRow.holds Try.pinned (OpenSpec.upto hashGrowsSpec)

/-- 'quintetlaw15.HashNil', WHERE WHAT IT READS IS OF BULK AT MOST 1048576: true; the input reads as it did. -/
def hashNilUptoRow : OpenClaim := { program := "ytofjbbfnkefoaaa", sum := "2c9aebc79b21fdec8bf5626109d89bc87361df720e5220b3ea1bb42887ef70eb", func := "quintet/quintetlaw15.HashNil", spec := "hashNil", unfollowed := true, recurses := true, apart := false, narrowed := true }
def HashNilUptoSaid : Prop := hashNilUptoRow.holds Try.pinned (OpenSpec.upto hashNilSpec)

/-- 'quintetlaw12.TrieNews', WHERE WHAT IT READS IS OF BULK AT MOST 1048576: true; the input reads as it did. -/
def trieNewsUptoRow : OpenClaim := { program := "ytofjbbfnkefoaaa", sum := "2c9aebc79b21fdec8bf5626109d89bc87361df720e5220b3ea1bb42887ef70eb", func := "quintet/quintetlaw12.TrieNews", spec := "trieNews", unfollowed := true, recurses := true, apart := false, narrowed := true }
def TrieNewsUptoSaid : Prop := trieNewsUptoRow.holds Try.pinned (OpenSpec.upto trieNewsSpec)

/-- 'quintetlaw12.TrieRuns', WHERE WHAT IT READS IS OF BULK AT MOST 1048576: true; the input reads as it did. -/
def trieRunsUptoRow : OpenClaim := { program := "ytofjbbfnkefoaaa", sum := "2c9aebc79b21fdec8bf5626109d89bc87361df720e5220b3ea1bb42887ef70eb", func := "quintet/quintetlaw12.TrieRuns", spec := "trieRuns", unfollowed := true, recurses := true, apart := false, narrowed := true }
def TrieRunsUptoSaid : Prop := trieRunsUptoRow.holds Try.pinned (OpenSpec.upto trieRunsSpec)

/-- 'quintetlaw12.TrieLongest', WHERE WHAT IT READS IS OF BULK AT MOST 1048576: true; the input reads as it did. -/
def trieLongestUptoRow : OpenClaim := { program := "ytofjbbfnkefoaaa", sum := "2c9aebc79b21fdec8bf5626109d89bc87361df720e5220b3ea1bb42887ef70eb", func := "quintet/quintetlaw12.TrieLongest", spec := "trieLongest", unfollowed := true, recurses := true, apart := false, narrowed := true }
def TrieLongestUptoSaid : Prop := trieLongestUptoRow.holds Try.pinned (OpenSpec.upto trieLongestSpec)

/-- 'quintetlaw12.TrieTurned', WHERE WHAT IT READS IS OF BULK AT MOST 1048576: true; the input reads as it did. -/
def trieTurnedUptoRow : OpenClaim := { program := "ytofjbbfnkefoaaa", sum := "2c9aebc79b21fdec8bf5626109d89bc87361df720e5220b3ea1bb42887ef70eb", func := "quintet/quintetlaw12.TrieTurned", spec := "trieTurned", unfollowed := true, recurses := true, apart := false, narrowed := true }
def TrieTurnedUptoSaid : Prop := trieTurnedUptoRow.holds Try.pinned (OpenSpec.upto trieTurnedSpec)

/-- 'quintetlaw12.TrieUndone', WHERE WHAT IT READS IS OF BULK AT MOST 1048576: true; the input reads as it did. -/
def trieUndoneUptoRow : OpenClaim := { program := "ytofjbbfnkefoaaa", sum := "2c9aebc79b21fdec8bf5626109d89bc87361df720e5220b3ea1bb42887ef70eb", func := "quintet/quintetlaw12.TrieUndone", spec := "trieUndone", unfollowed := true, recurses := true, apart := false, narrowed := true }
def TrieUndoneUptoSaid : Prop := trieUndoneUptoRow.holds Try.pinned (OpenSpec.upto trieUndoneSpec)

end Rows
end Go.Proofs.Ytofjbbfnkefoaaa
