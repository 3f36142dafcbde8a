/- How a word takes the temporaries that it needs. -/
import Derived.Test.YtoheablfncdibaaDoorSxCode
namespace Go.Proofs.YtoheablfncdibaaDoor.Sx
open Go
def selI (k : IntKind) (v : Option Value) (K : Int → Prop) : Prop := match v with
  | some (.int k' x) => (match decEq k' k with
    | isTrue _ => K x
    | isFalse _ => False)
  | _ => False
def selB (v : Option Value) (K : Bool → Prop) : Prop := match v with
  | some (.bool x) => K x
  | _ => False
def selT (v : Option Value) (K : ByteArray → Prop) : Prop := match v with
  | some (.string x) => K x
  | _ => False
def selS (v : Option Value) (K : Option Addr → Nat → Nat → Prop) : Prop := match v with
  | some (.slice x y z) => K x y z
  | _ => False
def selP (v : Option Value) (K : Option Addr → Prop) : Prop := match v with
  | some (.pointer x) => K x
  | _ => False
def selA (v : Option Value) (K : Addr → Prop) : Prop := match v with
  | some (.pointer (some x)) => K x
  | _ => False
def selV (v : Option Value) (K : Value → Prop) : Prop := match v with
  | some x => K x
  | _ => False
def selAg (v : Option Value) (K : List Value → Prop) : Prop := match v with
  | some (.agg a) => K a.toList
  | _ => False
def selC (l : List Value) (K : Value → List Value → Prop) : Prop := match l with
  | x :: r => K x r
  | [] => False
def selN (l : List Value) (K : Prop) : Prop := match l with
  | [] => K
  | _ :: _ => False
/-- A type's zero cells. -/
def zcOf (P : Program) (t : TypeId) : Array Value := match P.info? t with
  | some i => (match i.zero with
    | some z => z.cells
    | none => #[])
  | none => #[]
theorem selAg_ex {v : Option Value} {K : List Value → Prop} (h : selAg v K) : ∃ l : List Value, v = some (.agg l.toArray) ∧ K l := by
  unfold selAg at h; split at h
  · exact ⟨_, by simp, h⟩
  · exact h.elim
theorem selC_ex {l : List Value} {K : Value → List Value → Prop} (h : selC l K) : ∃ x r, l = x :: r ∧ K x r := by
  unfold selC at h; split at h
  · exact ⟨_, _, rfl, h⟩
  · exact h.elim
theorem selN_ex {l : List Value} {K : Prop} (h : selN l K) : l = [] ∧ K := by
  unfold selN at h; split at h
  · exact ⟨rfl, h⟩
  · exact h.elim
theorem selI_ex {k : IntKind} {v : Option Value} {K : Int → Prop} (h : selI k v K) : ∃ x, v = some (.int k x) ∧ K x := by
  unfold selI at h
  split at h
  · split at h
    · rename_i e _; exact ⟨_, by rw [e], h⟩
    · exact h.elim
  · exact h.elim
theorem selB_ex {v : Option Value} {K : Bool → Prop} (h : selB v K) : ∃ x, v = some (.bool x) ∧ K x := by
  unfold selB at h; split at h
  · exact ⟨_, rfl, h⟩
  · exact h.elim
theorem selT_ex {v : Option Value} {K : ByteArray → Prop} (h : selT v K) : ∃ x, v = some (.string x) ∧ K x := by
  unfold selT at h; split at h
  · exact ⟨_, rfl, h⟩
  · exact h.elim
theorem selS_ex {v : Option Value} {K : Option Addr → Nat → Nat → Prop} (h : selS v K) : ∃ x y z, v = some (.slice x y z) ∧ K x y z := by
  unfold selS at h; split at h
  · exact ⟨_, _, _, rfl, h⟩
  · exact h.elim
theorem selP_ex {v : Option Value} {K : Option Addr → Prop} (h : selP v K) : ∃ x, v = some (.pointer x) ∧ K x := by
  unfold selP at h; split at h
  · exact ⟨_, rfl, h⟩
  · exact h.elim
theorem selA_ex {v : Option Value} {K : Addr → Prop} (h : selA v K) : ∃ x, v = some (.pointer (some x)) ∧ K x := by
  unfold selA at h; split at h
  · exact ⟨_, rfl, h⟩
  · exact h.elim
theorem selV_ex {v : Option Value} {K : Value → Prop} (h : selV v K) : ∃ x, v = some x ∧ K x := by
  unfold selV at h; split at h
  · exact ⟨_, rfl, h⟩
  · exact h.elim
end Go.Proofs.YtoheablfncdibaaDoor.Sx
