/-
  No cell of these rows narrows 'for every input' (looked for: loops, veiled, ifaces, maps, wideKeys, modest, calm, conditions, laid).
  DERIVED. THE GIVEN ROWS OF THIS SEAT. 4 by the template 'for every input the law returns true; each argument reads behind the call as it read before'; 0 by the template 'total and deterministic' (their statements: YtomhkbhgpmcbiaaTotals.lean).
  GIVEN WITH THE SEED: the statements are not yours to turn. If you find one false, say at which input.
  Laid BY PROGRAM, IN A SANDBOX (cutbox-rows.mjs): the forced cells as the released guide's own fill.sh prints them over the translation 99e48f56d8126097… (all of the seat's roots in one cut). By AI agents, Wed Nov 11 2026. No macro, syntax, notation, axiom, sorry.
-/
import Derived.Test.YtomhkbhgpmcbiaaChecked
import GoSem.Claim
import GoSem.ClaimJoined
import GoSem.ClaimMapViews
import Derived.JoinedTies
import Derived.KernelRfl
namespace Go.Proofs.Ytomhkbhgpmcbiaa
/- THE CELL 'sum', in the pinned program and in every row, IS THE sha256 OF THE DUMP (.gsa) THAT YtomhkbhgpmcbiaaProg.lean LOADS. Nothing in Lean hashes anything: it is a label: what it is worth is what the hold of that sum in a sandbox is worth. -/
noncomputable def Try.pinned : Pinned := { name := "ytomhkbhgpmcbiaa", sum := "99e48f56d8126097d1cb5bc3142c918ba28713caaa910cd90e68cb3a63479856", checked := Try.checked }
namespace Rows
def none {H : Type} : Left H := { results := [], args := [] }

/-- 'quintetlaw16.PruneNew': WHATEVER THE INPUT: true; the input reads as it did. -/
def pruneNewSpec : ChangeSpec := { name := "pruneNew", fn := fun _ => fun
  | [d1, d2] => { results := [.lit (.bool true)], args := [d1, d2] }
  | _ => none }
def pruneNewRow : OpenClaim := { program := "ytomhkbhgpmcbiaa", sum := "99e48f56d8126097d1cb5bc3142c918ba28713caaa910cd90e68cb3a63479856", func := "quintet/quintetlaw16.PruneNew", spec := "pruneNew", unfollowed := true, recurses := true, apart := false }
def PruneNewSaid : Prop := pruneNewRow.holds Try.pinned (OpenSpec.ofChange pruneNewSpec)

/-- ITS FALSE NEIGHBOUR: 'it returns false'. Refute it at one input. -/
def pruneNewWrong : ChangeSpec := { name := "pruneNew", fn := fun _ => fun
  | [d1, d2] => { results := [.lit (.bool false)], args := [d1, d2] }
  | _ => none }
def PruneNewWrongFalsely : Prop := pruneNewRow.holds Try.pinned (OpenSpec.ofChange pruneNewWrong)

/-- 'quintetlaw16.PruneAlike': WHATEVER THE INPUT: true; the input reads as it did. -/
def pruneAlikeSpec : ChangeSpec := { name := "pruneAlike", fn := fun _ => fun
  | [d1, d2, d3, d4] => { results := [.lit (.bool true)], args := [d1, d2, d3, d4] }
  | _ => none }
def pruneAlikeRow : OpenClaim := { program := "ytomhkbhgpmcbiaa", sum := "99e48f56d8126097d1cb5bc3142c918ba28713caaa910cd90e68cb3a63479856", func := "quintet/quintetlaw16.PruneAlike", spec := "pruneAlike", unfollowed := true, recurses := true, apart := false }
def PruneAlikeSaid : Prop := pruneAlikeRow.holds Try.pinned (OpenSpec.ofChange pruneAlikeSpec)

/-- ITS FALSE NEIGHBOUR: 'it returns false'. Refute it at one input. -/
def pruneAlikeWrong : ChangeSpec := { name := "pruneAlike", fn := fun _ => fun
  | [d1, d2, d3, d4] => { results := [.lit (.bool false)], args := [d1, d2, d3, d4] }
  | _ => none }
def PruneAlikeWrongFalsely : Prop := pruneAlikeRow.holds Try.pinned (OpenSpec.ofChange pruneAlikeWrong)

/-- 'quintetlaw16.PruneApart': WHATEVER THE INPUT: true; the input reads as it did. -/
def pruneApartSpec : ChangeSpec := { name := "pruneApart", fn := fun _ => fun
  | [d1, d2, d3, d4] => { results := [.lit (.bool true)], args := [d1, d2, d3, d4] }
  | _ => none }
def pruneApartRow : OpenClaim := { program := "ytomhkbhgpmcbiaa", sum := "99e48f56d8126097d1cb5bc3142c918ba28713caaa910cd90e68cb3a63479856", func := "quintet/quintetlaw16.PruneApart", spec := "pruneApart", unfollowed := true, recurses := true, apart := false }
def PruneApartSaid : Prop := pruneApartRow.holds Try.pinned (OpenSpec.ofChange pruneApartSpec)

/-- ITS FALSE NEIGHBOUR: 'it returns false'. Refute it at one input. -/
def pruneApartWrong : ChangeSpec := { name := "pruneApart", fn := fun _ => fun
  | [d1, d2, d3, d4] => { results := [.lit (.bool false)], args := [d1, d2, d3, d4] }
  | _ => none }
def PruneApartWrongFalsely : Prop := pruneApartRow.holds Try.pinned (OpenSpec.ofChange pruneApartWrong)

/-- 'quintetlaw16.PruneNil': WHATEVER THE INPUT: true; the input reads as it did. -/
def pruneNilSpec : ChangeSpec := { name := "pruneNil", fn := fun _ => fun
  | [d1, d2] => { results := [.lit (.bool true)], args := [d1, d2] }
  | _ => none }
def pruneNilRow : OpenClaim := { program := "ytomhkbhgpmcbiaa", sum := "99e48f56d8126097d1cb5bc3142c918ba28713caaa910cd90e68cb3a63479856", func := "quintet/quintetlaw16.PruneNil", spec := "pruneNil", unfollowed := true, recurses := true, apart := false }
def PruneNilSaid : Prop := pruneNilRow.holds Try.pinned (OpenSpec.ofChange pruneNilSpec)

/-- ITS FALSE NEIGHBOUR: 'it returns false'. Refute it at one input. -/
def pruneNilWrong : ChangeSpec := { name := "pruneNil", fn := fun _ => fun
  | [d1, d2] => { results := [.lit (.bool false)], args := [d1, d2] }
  | _ => none }
def PruneNilWrongFalsely : Prop := pruneNilRow.holds Try.pinned (OpenSpec.ofChange pruneNilWrong)

/- THE SECOND FORM. 'bulk': how many values and letters a reading holds, each counted each time it is reached (what is shared counts as often as it is met; a slice's spare places count too). A statement '..UptoSaid' is the law's where the arguments, and the package variables that the reading takes, are together of bulk at most 1048576: NARROWER than '..Said'. Prove '..Said' where nothing that the law and all that it calls make is longer than what came in: it says more and counts as full. Else prove '..UptoSaid'. A law counts once. -/
mutual
def uptoBulk {H : Type} : DataW H → Nat
  | .lit (.string bytes) => bytes.length + 1
  | .lit _ => 1
  | .nil => 1
  | .ptr d => uptoBulk d + 1
  | .slice elems spare => uptoBulkAll elems + uptoBulkAll spare + 1
  | .agg parts => uptoBulkAll parts + 1
  | .iface _ d => uptoBulk d + 1
  | .map entries => uptoBulkEntries entries + 1
  | .held _ => 1
def uptoBulkAll {H : Type} : List (DataW H) → Nat
  | [] => 0
  | d :: r => uptoBulk d + uptoBulkAll r
def uptoBulkEntries {H : Type} : List (Lit × DataW H) → Nat
  | [] => 0
  | x :: r => uptoBulkEntry x + uptoBulkEntries r
def uptoBulkEntry {H : Type} : Lit × DataW H → Nat
  | (.string bytes, d) => bytes.length + uptoBulk d + 1
  | (_, d) => uptoBulk d + 1
 end
def uptoSmall : (H : Type) → List (DataW H) → Bool := fun _ ds => decide (uptoBulkAll ds ≤ 1048576)
def OpenSpec.upto (s : _root_.Go.ChangeSpec) : _root_.Go.OpenSpec := { _root_.Go.OpenSpec.ofChange s with cond := some uptoSmall }

/-- 'quintetlaw16.PruneNew', WHERE WHAT IT READS IS OF BULK AT MOST 1048576: true; the input reads as it did. -/
def pruneNewUptoRow : OpenClaim := { program := "ytomhkbhgpmcbiaa", sum := "99e48f56d8126097d1cb5bc3142c918ba28713caaa910cd90e68cb3a63479856", func := "quintet/quintetlaw16.PruneNew", spec := "pruneNew", unfollowed := true, recurses := true, apart := false, narrowed := true }
def PruneNewUptoSaid : Prop := pruneNewUptoRow.holds Try.pinned (OpenSpec.upto pruneNewSpec)

/-- 'quintetlaw16.PruneAlike', WHERE WHAT IT READS IS OF BULK AT MOST 1048576: true; the input reads as it did. -/
def pruneAlikeUptoRow : OpenClaim := { program := "ytomhkbhgpmcbiaa", sum := "99e48f56d8126097d1cb5bc3142c918ba28713caaa910cd90e68cb3a63479856", func := "quintet/quintetlaw16.PruneAlike", spec := "pruneAlike", unfollowed := true, recurses := true, apart := false, narrowed := true }
def PruneAlikeUptoSaid : Prop := pruneAlikeUptoRow.holds Try.pinned (OpenSpec.upto pruneAlikeSpec)

/-- 'quintetlaw16.PruneApart', WHERE WHAT IT READS IS OF BULK AT MOST 1048576: true; the input reads as it did. -/
def pruneApartUptoRow : OpenClaim := { program := "ytomhkbhgpmcbiaa", sum := "99e48f56d8126097d1cb5bc3142c918ba28713caaa910cd90e68cb3a63479856", func := "quintet/quintetlaw16.PruneApart", spec := "pruneApart", unfollowed := true, recurses := true, apart := false, narrowed := true }
def PruneApartUptoSaid : Prop := pruneApartUptoRow.holds Try.pinned (OpenSpec.upto pruneApartSpec)

/-- 'quintetlaw16.PruneNil', WHERE WHAT IT READS IS OF BULK AT MOST 1048576: true; the input reads as it did. -/
def pruneNilUptoRow : OpenClaim := { program := "ytomhkbhgpmcbiaa", sum := "99e48f56d8126097d1cb5bc3142c918ba28713caaa910cd90e68cb3a63479856", func := "quintet/quintetlaw16.PruneNil", spec := "pruneNil", unfollowed := true, recurses := true, apart := false, narrowed := true }
def PruneNilUptoSaid : Prop := pruneNilUptoRow.holds Try.pinned (OpenSpec.upto pruneNilSpec)

end Rows
end Go.Proofs.Ytomhkbhgpmcbiaa
