/- Texts laid together: Sx, SxOps, SxDraw, SxCode, SxSel, SxMem, LxModel, SxpOps. -/
import Derived.WalkKit
import Derived.CallsIn
import Derived.OrdersIn
import Derived.KernelRfl
import Derived.WalkSmall
/- Words of this session's own: a clean reading of the code over the heap alone (no memory of the machine's steps), and that it is right. -/
namespace Go.Proofs.YtfdpccbajaiepaaGreatDoor.Sx
open Go
set_option linter.unusedVariables false
set_option linter.unusedSimpArgs false

abbrev Hp := Array Obj
/-- A world of this heap. -/
def W (h : Hp) : World := { (default : World) with heap := h }
structure Same (w w' : World) : Prop where
  os : w'.os = w.os
  tape : w'.tape = w.tape
  output : w'.output = w.output
  drawn : True
theorem Same.refl (w : World) : Same w w := ⟨rfl, rfl, rfl, trivial⟩
theorem Same.trans {a b c : World} (h : Same a b) (k : Same b c) : Same a c := ⟨k.os.trans h.os, k.tape.trans h.tape, k.output.trans h.output, trivial⟩

/-! ### What an instruction does to the heap -/
def notCells : Obj → Bool
  | .cells .. => false
  | _ => true
def flatV : Value → Bool
  | .agg _ => false
  | .tuple _ => false
  | _ => true
def semWp (P : Program) {α : Type} : Sem α → Hp → (α → Hp → Prop) → Prop
  | .pure a, h, K => K a h
  | .load _ a k, h, K => ∃ v, (W h).cell? a = some v ∧ semWp P (k v) h K
  | .store _ a v k, h, K => flatV v = true ∧ (∃ u, (W h).cell? a = some u) ∧ (W h).frozen? a = false ∧ semWp P k ((W h).setCell a v).heap K
  | .new o k, h, K => semWp P (k h.size) (h.push o) K
  | .shape r k, h, K => semWp P (k ((W h).shape? r)) h K
  | .freeze a n k, h, K => semWp P k ((W h).freeze a n).heap K
  | .frozen a k, h, K => semWp P (k ((W h).frozen? a)) h K
  | .getObj r k, h, K => ∃ o, h[r]? = some o ∧ notCells o = true ∧ semWp P (k o) h K
  | .setObj r o k, h, K => (∃ o', h[r]? = some o' ∧ notCells o' = true) ∧ semWp P k (h.setIfInBounds r o) K
  | .choose q k, h, K => (q.forced = true → semWp P (k 0) h K) ∧ (q.forced = false → ∀ t, semWp P (k (q.cut t)) h K)
  | .sys _ _, _, _ => False
  | .program k, h, K => semWp P (k P) h K
  | .mark _ k, h, K => semWp P k h K
  | .halt _, _, _ => False

theorem cell_W (w : World) (a : Addr) : (W w.heap).cell? a = w.cell? a := rfl
theorem frozen_W (w : World) (a : Addr) : (W w.heap).frozen? a = w.frozen? a := rfl

theorem semWp_run (P : Program) {α : Type} (s : Sem α) : ∀ (K : α → Hp → Prop) (w : World), semWp P s w.heap K → ∃ a w', s.run P w = .ok a w' ∧ Same w w' ∧ K a w'.heap := by
  induction s with
  | pure a => intro K w h; exact ⟨a, w, rfl, .refl w, h⟩
  | load m a k ih =>
    intro K w ⟨v, hv, h⟩
    obtain ⟨x, w', hr, hs, hK⟩ := ih v K w h
    exact ⟨x, w', by rw [cell_W] at hv; simp only [Sem.run, hv]; exact hr, hs, hK⟩
  | store m a v k ih =>
    intro K w ⟨hf, ⟨u, hu⟩, hz, h⟩
    obtain ⟨x, w', hr, hs, hK⟩ := ih K (w.setCell a v) h
    rw [cell_W] at hu
    rw [frozen_W] at hz
    refine ⟨x, w', ?_, ⟨hs.os, hs.tape, hs.output, hs.drawn⟩, hK⟩
    cases v <;> first | (simp [flatV] at hf; done) | (simp only [Sem.run, hu, hz]; exact hr)
  | new o k ih =>
    intro K w h
    obtain ⟨x, w', hr, hs, hK⟩ := ih _ K { w with heap := w.heap.push o } h
    exact ⟨x, w', hr, ⟨hs.os, hs.tape, hs.output, hs.drawn⟩, hK⟩
  | shape r k ih => intro K w h; exact ih _ K w h
  | freeze a n k ih =>
    intro K w h
    have e : ((W w.heap).freeze a n).heap = (w.freeze a n).heap := by unfold World.freeze; split <;> rfl
    rw [semWp, e] at h
    obtain ⟨x, w', hr, hs, hK⟩ := ih K (w.freeze a n) h
    have e2 : Same w (w.freeze a n) := by unfold World.freeze; split <;> exact ⟨rfl, rfl, rfl, trivial⟩
    exact ⟨x, w', hr, e2.trans hs, hK⟩
  | frozen a k ih => intro K w h; exact ih _ K w h
  | getObj r k ih =>
    intro K w ⟨o, ho, hn, h⟩
    obtain ⟨x, w', hr, hs, hK⟩ := ih o K w h
    refine ⟨x, w', ?_, hs, hK⟩
    cases o <;> first | (simp [notCells] at hn; done) | (simp only [Sem.run, ho]; exact hr)
  | setObj r o k ih =>
    intro K w ⟨⟨o', ho, hn⟩, h⟩
    obtain ⟨x, w', hr, hs, hK⟩ := ih K { w with heap := w.heap.setIfInBounds r o } h
    refine ⟨x, w', ?_, ⟨hs.os, hs.tape, hs.output, hs.drawn⟩, hK⟩
    cases o' <;> first | (simp [notCells] at hn; done) | (simp only [Sem.run, ho]; exact hr)
  | choose q k ih =>
    intro K w ⟨h1, h2⟩
    cases hq : q.forced with
    | true =>
      obtain ⟨x, w', hr, hs, hK⟩ := ih 0 K w (h1 hq)
      exact ⟨x, w', by simp only [Sem.run, hq, if_true]; exact hr, hs, hK⟩
    | false =>
      obtain ⟨x, w', hr, hs, hK⟩ := ih _ K { w with drawn := w.drawn + 1 } (h2 hq (w.tape w.drawn q))
      exact ⟨x, w', by simp only [Sem.run, hq]; exact hr, ⟨hs.os, hs.tape, hs.output, trivial⟩, hK⟩
  | sys c k ih => intro K w h; exact h.elim
  | program k ih => intro K w h; exact ih P K w h
  | mark m k ih => intro K w h; exact ih K w h
  | halt x => intro K w h; exact h.elim

theorem semWp_mono (P : Program) {α : Type} (s : Sem α) : ∀ {K K' : α → Hp → Prop} (h : Hp), (∀ a h', K a h' → K' a h') → semWp P s h K → semWp P s h K' := by
  induction s with
  | pure a => intro K K' h hm hh; exact hm _ _ hh
  | load m a k ih => intro K K' h hm ⟨v, hv, hh⟩; exact ⟨v, hv, ih v h hm hh⟩
  | store m a v k ih => intro K K' h hm ⟨hf, hu, hz, hh⟩; exact ⟨hf, hu, hz, ih _ hm hh⟩
  | new o k ih => intro K K' h hm hh; exact ih _ _ hm hh
  | shape r k ih => intro K K' h hm hh; exact ih _ _ hm hh
  | freeze a n k ih => intro K K' h hm hh; exact ih _ hm hh
  | frozen a k ih => intro K K' h hm hh; exact ih _ _ hm hh
  | getObj r k ih => intro K K' h hm ⟨o, ho, hn, hh⟩; exact ⟨o, ho, hn, ih _ _ hm hh⟩
  | setObj r o k ih => intro K K' h hm ⟨ho, hh⟩; exact ⟨ho, ih _ hm hh⟩
  | choose q k ih => intro K K' h hm ⟨h1, h2⟩; exact ⟨fun e => ih _ _ hm (h1 e), fun e t => ih _ _ hm (h2 e t)⟩
  | sys c k ih => intro K K' h hm hh; exact hh.elim
  | program k ih => intro K K' h hm hh; exact ih _ _ hm hh
  | mark m k ih => intro K K' h hm hh; exact ih _ hm hh
  | halt x => intro K K' h hm hh; exact hh.elim

/-- An instruction that looks at nothing. -/
def pureRun (P : Program) {α : Type} : Sem α → Option α
  | .pure a => some a
  | .program k => pureRun P (k P)
  | .mark _ k => pureRun P k
  | _ => none
theorem pureRun_run (P : Program) {α : Type} (s : Sem α) (a : α) : pureRun P s = some a → ∀ w, s.run P w = .ok a w := by
  induction s with
  | pure b => intro h w; simp [pureRun] at h; subst h; rfl
  | program k ih => intro h w; exact ih P h w
  | mark m k ih => intro h w; exact ih h w
  | _ => intro h; simp [pureRun] at h
/-- It yields v, whatever the world. -/
def PV (P : Program) (s : Sem Value) (v : Value) : Prop := ∀ w, s.run P w = .ok v w
/-- It yields v at this heap, and leaves it. -/
def HV (P : Program) (s : Sem Value) (h : Hp) (v : Value) : Prop := ∀ w : World, w.heap = h → s.run P w = .ok v w
theorem HV.uniq {P : Program} {s : Sem Value} {h : Hp} {v v' : Value} (a : HV P s h v) (b : HV P s h v') : v = v' := by
  have := (a (W h) rfl).symm.trans (b (W h) rfl)
  injection this
/-- It changes the heap. -/
def HW (P : Program) (s : Sem Value) (h : Hp) (K : Value → Hp → Prop) : Prop := semWp P s h K
def HU (P : Program) (s : Sem Unit) (h : Hp) (K : Hp → Prop) : Prop := semWp P s h (fun _ h' => K h')

/-! ### Calls -/
def CallsH (P : Program) (f : FuncId) (args : Array Value) (h : Hp) (K : Value → Hp → Prop) : Prop :=
  ∀ w : World, w.heap = h → Calls P f args w (fun e w' => ∃ v, e = .returned v ∧ Same w w' ∧ K v w'.heap)
theorem CallsH.mono {P : Program} {f : FuncId} {args : Array Value} {h : Hp} {K K' : Value → Hp → Prop} (hc : CallsH P f args h K) (hm : ∀ v h', K v h' → K' v h') : CallsH P f args h K' :=
  fun w hw => (hc w hw).mono fun e w' ⟨v, he, hs, hK⟩ => ⟨v, he, hs, hm _ _ hK⟩
theorem CallsH.some {P : Program} {f : FuncId} {args : Array Value} {h : Hp} {K : Value → Hp → Prop} (hc : CallsH P f args h K) : ∃ v h', K v h' := by
  obtain ⟨e, w', fr, ⟨v, _, _, hK⟩, _⟩ := hc (W h) rfl []
  exact ⟨v, _, hK⟩
abbrev FW (ρ : Option Nat) : Fence := { Fence.wide with round := ρ }
def RoundH (P : Program) (l : Nat) (f : FuncId) (tmps : Array Value) (assign body : Code) (h : Hp) (K : Value → Hp → Prop) : Prop :=
  ∀ (w : World), w.heap = h → ∀ n, RoundIn Fence.wide n P l f tmps assign body w (fun e w' => ∃ v, e = .returned v ∧ Same w w' ∧ K v w'.heap)
theorem RoundH.mono {P : Program} {l : Nat} {f : FuncId} {tmps : Array Value} {assign body : Code} {h : Hp} {K K' : Value → Hp → Prop} (hc : RoundH P l f tmps assign body h K) (hm : ∀ v h', K v h' → K' v h') : RoundH P l f tmps assign body h K' :=
  fun w hw n => (hc w hw n).mono fun e w' ⟨v, he, hs, hK⟩ => ⟨v, he, hs, hm _ _ hK⟩
theorem RoundH.some {P : Program} {l : Nat} {f : FuncId} {tmps : Array Value} {assign body : Code} {h : Hp} {K : Value → Hp → Prop} (hc : RoundH P l f tmps assign body h K) : ∃ v h', K v h' := by
  obtain ⟨e, w', ⟨v, _, _, hK⟩, _⟩ := (hc (W h) rfl 0).2 default [] (room_wide _)
  exact ⟨v, _, hK⟩
def nextWp (P : Program) (K : Value → Hp → Prop) : Next → Hp → Prop
  | .value v, h => K v h
  | .skip, h => K undef h
  | .enter f args, h => CallsH P f args h K
  | .round l f tmps a b, h => RoundH P l f tmps a b h K
  | _, _ => False
theorem nextWp_mono {P : Program} {K K' : Value → Hp → Prop} (hm : ∀ v h', K v h' → K' v h') : ∀ (nx : Next) (h : Hp), nextWp P K nx h → nextWp P K' nx h := by
  intro nx h hh
  cases nx <;> first | exact hm _ _ hh | exact CallsH.mono hh hm | exact RoundH.mono hh hm | exact hh
theorem nextWp_some {P : Program} {K : Value → Hp → Prop} : ∀ (nx : Next) (h : Hp), nextWp P K nx h → ∃ v h', K v h' := by
  intro nx h hh
  cases nx <;> first | exact ⟨_, _, hh⟩ | exact CallsH.some hh | exact RoundH.some hh | exact hh.elim
/-- A call of a function's value. -/
def HN (P : Program) (s : Sem Next) (h : Hp) (K : Value → Hp → Prop) : Prop := semWp P s h (fun nx h' => nextWp P K nx h')
theorem HN_mono {P : Program} {s : Sem Next} {h : Hp} {K K' : Value → Hp → Prop} (hm : ∀ v h', K v h' → K' v h') (hh : HN P s h K) : HN P s h K' :=
  semWp_mono P s h (fun nx h' => nextWp_mono hm nx h') hh
theorem HN_some {P : Program} {s : Sem Next} {h : Hp} {K : Value → Hp → Prop} (hh : HN P s h K) : ∃ v h', K v h' := by
  obtain ⟨nx, w', _, _, hn⟩ := semWp_run P s _ (W h) hh
  exact nextWp_some _ _ hn

/-! ### Shapes of values -/
inductive Sc where
  | int (k : IntKind) | bool | str | slice | ptr | any | adr
inductive S1 where
  | sc (s : Sc) | agg (l : List Sc)
inductive Sh where
  | one (s : S1) | tup (l : List S1)
def exSc : Sc → (Value → Prop) → Prop
  | .int k, K => ∃ x : Int, K (.int k x)
  | .bool, K => ∃ b : Bool, K (.bool b)
  | .str, K => ∃ s : ByteArray, K (.string s)
  | .slice, K => ∃ (A : Option Addr) (l c : Nat), K (.slice A l c)
  | .ptr, K => ∃ p : Option Addr, K (.pointer p)
  | .any, K => ∃ v : Value, K v
  | .adr, K => ∃ a : Addr, K (.pointer (some a))
def exScs : List Sc → (List Value → Prop) → Prop
  | [], K => K []
  | s :: r, K => exSc s fun v => exScs r fun l => K (v :: l)
def ex1 : S1 → (Value → Prop) → Prop
  | .sc s, K => exSc s K
  | .agg l, K => exScs l fun vs => K (.agg vs.toArray)
def ex1s : List S1 → (List Value → Prop) → Prop
  | [], K => K []
  | s :: r, K => ex1 s fun v => ex1s r fun l => K (v :: l)
def exT : Sh → (Value → Prop) → Prop
  | .one s, K => ex1 s K
  | .tup l, K => ex1s l fun vs => K (.tuple vs.toArray)
theorem exSc_ex : ∀ (s : Sc) {K : Value → Prop}, exSc s K → ∃ v, K v
  | .int k, K, ⟨x, h⟩ => ⟨_, h⟩
  | .bool, K, ⟨x, h⟩ => ⟨_, h⟩
  | .str, K, ⟨x, h⟩ => ⟨_, h⟩
  | .slice, K, ⟨x, _, _, h⟩ => ⟨_, h⟩
  | .ptr, K, ⟨x, h⟩ => ⟨_, h⟩
  | .any, K, ⟨x, h⟩ => ⟨_, h⟩
  | .adr, K, ⟨x, h⟩ => ⟨_, h⟩
theorem exScs_ex : ∀ (s : List Sc) {K : List Value → Prop}, exScs s K → ∃ v, K v
  | [], K, h => ⟨_, h⟩
  | s :: r, K, h => by
    obtain ⟨v, hv⟩ := exSc_ex s h
    obtain ⟨l, hl⟩ := exScs_ex r hv
    exact ⟨_, hl⟩
theorem ex1_ex : ∀ (s : S1) {K : Value → Prop}, ex1 s K → ∃ v, K v
  | .sc s, K, h => exSc_ex s h
  | .agg l, K, h => by
    obtain ⟨vs, hv⟩ := exScs_ex l h
    exact ⟨_, hv⟩
theorem ex1s_ex : ∀ (s : List S1) {K : List Value → Prop}, ex1s s K → ∃ v, K v
  | [], K, h => ⟨_, h⟩
  | s :: r, K, h => by
    obtain ⟨v, hv⟩ := ex1_ex s h
    obtain ⟨l, hl⟩ := ex1s_ex r hv
    exact ⟨_, hl⟩
theorem exT_ex : ∀ (s : Sh) {K : Value → Prop}, exT s K → ∃ v, K v
  | .one s, K, h => ex1_ex s h
  | .tup l, K, h => by
    obtain ⟨vs, hv⟩ := ex1s_ex l h
    exact ⟨_, hv⟩
theorem exSc_mono : ∀ (s : Sc) {K K' : Value → Prop}, (∀ v, K v → K' v) → exSc s K → exSc s K'
  | .int k, K, K', hm, ⟨x, h⟩ => ⟨x, hm _ h⟩
  | .bool, K, K', hm, ⟨x, h⟩ => ⟨x, hm _ h⟩
  | .str, K, K', hm, ⟨x, h⟩ => ⟨x, hm _ h⟩
  | .slice, K, K', hm, ⟨x, y, z, h⟩ => ⟨x, y, z, hm _ h⟩
  | .ptr, K, K', hm, ⟨x, h⟩ => ⟨x, hm _ h⟩
  | .any, K, K', hm, ⟨x, h⟩ => ⟨x, hm _ h⟩
  | .adr, K, K', hm, ⟨x, h⟩ => ⟨x, hm _ h⟩
def scOf (P : Program) (t : TypeId) : Sc :=
  match P.underlying t with
  | some (.int k) => .int k
  | some .bool => .bool
  | some .string => .str
  | some (.slice _) => .slice
  | some (.pointer _) => .ptr
  | _ => .any
def scsOf (P : Program) : Nat → TypeId → List Sc
  | 0, _ => []
  | n + 1, t =>
    match P.underlying t with
    | some (.struct fs) => fs.toList.flatMap fun f => scsOf P n f.type
    | some (.array k e) => (List.replicate k (scsOf P n e)).flatten
    | _ => [scOf P t]
def s1Of (P : Program) (t : TypeId) : S1 :=
  match P.underlying t with
  | some (.struct _) => .agg (scsOf P 9 t)
  | some (.array _ _) => .agg (scsOf P 9 t)
  | _ => .sc (scOf P t)
def shOf (P : Program) (t : TypeId) : Sh :=
  match P.underlying t with
  | some (.tuple ts) => .tup (ts.toList.map (s1Of P))
  | _ => .one (s1Of P t)

/-! ### The temporaries -/
abbrev Tm := Nat → Option Value
def Tm.put (tm : Tm) (d : Nat) (v : Value) : Tm := fun i => match Nat.beq i d with
  | true => some v
  | false => tm i
def Tm.putO (tm : Tm) (d : Option Nat) (v : Value) : Tm := match d with
  | some d => tm.put d v
  | none => tm
def mkTm : List (Nat × Option Value) → Tm
  | [], _ => none
  | (j, v) :: r, i => match Nat.beq i j with
    | true => v
    | false => mkTm r i
def mask (live : List Nat) (tm : Tm) : Tm := mkTm (live.map fun i => (i, tm i))
theorem mkTm_mask (tm : Tm) : ∀ (live : List Nat) (i : Nat) (v : Value), mask live tm i = some v → tm i = some v
  | [], i, v, h => by simp [mask, mkTm] at h
  | j :: r, i, v, h => by
    simp only [mask, List.map_cons, mkTm] at h
    cases hb : Nat.beq i j with
    | true => rw [hb] at h; simp only at h; rw [Nat.eq_of_beq_eq_true hb]; exact h
    | false => rw [hb] at h; exact mkTm_mask tm r i v h
def ev? (tm : Tm) : Operand → Option Value
  | .tmp t => tm t
  | .const v => some v
  | .global g => some (.pointer (some ⟨g, 0, none⟩))
  | .func f => some (.func (.func f) #[] #[])
def ev (tm : Tm) (x : Operand) : Value := match ev? tm x with
  | some v => v
  | none => undef
/-- What is told of the temporaries holds of them. -/
structure Le (ds : List Deferred) (tm : Tm) (a : Act) : Prop where
  at_ : ∀ i v, tm i = some v → a.tmps[i]? = some v
  defers : a.defers = ds
theorem Le.mask {ds : List Deferred} {tm : Tm} {a : Act} (h : Le ds tm a) (live : List Nat) : Le ds (mask live tm) a := ⟨fun i v hi => h.at_ i v (mkTm_mask tm live i v hi), h.defers⟩
theorem Le.ev {ds : List Deferred} {tm : Tm} {a : Act} (h : Le ds tm a) {x : Operand} {v : Value} (hx : ev? tm x = some v) : a.eval x = v := by
  cases x with
  | tmp t => have := h.at_ t v hx; simp [Act.eval, this]
  | const u => simpa [ev?, Act.eval] using hx
  | global g => simpa [ev?, Act.eval] using hx
  | func f => simpa [ev?, Act.eval] using hx
theorem Le.put {ds : List Deferred} {tm : Tm} {a : Act} (h : Le ds tm a) {d : Nat} (v : Value) (hd : d < a.tmps.size) : Le ds (tm.put d v) (a.put (some d) v) := by
  refine ⟨fun i u hi => ?_, h.defers⟩
  unfold Tm.put at hi
  simp only [Act.put]
  cases hb : Nat.beq i d with
  | true =>
    rw [hb] at hi
    have := Nat.eq_of_beq_eq_true hb
    subst this
    simp only [Option.some.injEq] at hi
    subst hi
    simp [hd]
  | false =>
    rw [hb] at hi
    have hne : d ≠ i := fun e => by subst e; simp at hb
    rw [Array.getElem?_setIfInBounds_ne hne]
    exact h.at_ i u hi
theorem Tm.put_same {tm : Tm} {d : Nat} {v : Value} (h : tm d = some v) : tm.put d v = tm := by
  funext i
  unfold Tm.put
  cases hb : Nat.beq i d with
  | true => rw [Nat.eq_of_beq_eq_true hb, h]
  | false => rfl
end Go.Proofs.YtfdpccbajaiepaaGreatDoor.Sx

/- A region's operations over the heap alone: read in the order of the text; where the order is open, what is read is asked to stand at every heap of the region. -/
namespace Go.Proofs.YtfdpccbajaiepaaGreatDoor.Sx
open Go
set_option linter.unusedVariables false
set_option linter.unusedSimpArgs false

/-- Kinds of operations: plain (reckoned), a nil check, one that may panic, a load, a store, new cells, the heap's words, a call of a known function, a call of a value, none of these. -/
inductive Cls where
  | a | n | p | b | l | u | e | w | k | v | x
def isIntC : Operand → Bool
  | .const (.int _ _) => true
  | _ => false
def cls (P : Program) (o : Oper) : Cls :=
  match o.op with
  | .move _ | .assign _ | .pick .. | .build .. | .fieldAddr .. | .field .. | .extract .. | .makeFunc .. | .makeInterface .. | .unOp .. => .a
  | .nilCheck _ => .n
  | .binOp op t _ y _ =>
    match op with
    | .quo | .rem | .shl | .shr => match isIntC y with
      | true => .a
      | false => .b
    | .eql | .neq => match P.underlying t with
      | some (.int _) | some .bool | some .string => .a
      | _ => .b
    | .add => match P.underlying t with
      | some (.int _) => .a
      | _ => .b
    | _ => .a
  | .convert s d _ =>
    match P.underlying s, P.underlying d with
    | some (.int _), some (.int _) => .a
    | some (.slice _), _ => .l
    | _, some (.slice _) => .w
    | _, _ => .p
  | .load .. => .l
  | .indexAddr .. | .index .. | .slice .. => .p
  | .store .. => .u
  | .alloc _ | .box .. | .buildSlice .. => .e
  | .makeSlice .. => .w
  | .call { callee := .builtin .len, .. } | .call { callee := .builtin .cap, .. } => .a
  | .call { callee := .builtin .min, .. } | .call { callee := .builtin .max, .. } => .p
  | .call { callee := .builtin .append, .. } | .call { callee := .builtin .copy, .. } | .call { callee := .builtin .clear, .. } => .w
  | .call { callee := .value (.func _), .. } => .k
  | .call { callee := .value _, .. } => .v
  | .call { callee := .invoke .., .. } => .v
  | _ => .x
/-- Does it change the heap? -/
def isE (P : Program) (o : Oper) : Bool :=
  match cls P o with
  | .u | .e | .w | .k | .v => true
  | _ => false
def argsL (ρ : Operand → Value) (l : Array Operand) : Array Value := (l.toList.map ρ).toArray
def partsL (ρ : Operand → Value) (l : Array (Nat × Operand)) : Array (Nat × Value) := (l.toList.map fun x => (x.1, ρ x.2)).toArray
def opVal (ρ : Operand → Value) (o : Oper) : Sem Value :=
  match o.op with
  | .load t a => Instr.loadAt t (ρ a)
  | .indexAddr t x ix => Instr.indexAt t (ρ x) (ρ ix)
  | .index t x ix => Instr.index t (ρ x) (ρ ix)
  | .slice t x lo hi mx => Instr.sliceAt t (ρ x) (lo.map ρ) (hi.map ρ) (mx.map ρ)
  | .binOp op t x y _ => binOp op t (ρ x) (ρ y)
  | .convert s d x => convert s d (ρ x)
  | .makeSlice t l c => Instr.makeSlice t (ρ l) (ρ c)
  | .alloc elem => Instr.alloc elem true (.tuple #[])
  | .box elem x => Instr.box elem (ρ x)
  | .buildSlice t len parts => Instr.buildSlice t len (partsL ρ parts)
  | .call { callee := .builtin .append, args, argTypes } => Builtin.append_ argTypes o.type (argsL ρ args)
  | .call { callee := .builtin .copy, args, argTypes } => Builtin.copy_ argTypes o.type (argsL ρ args)
  | .call { callee := .builtin .clear, args, argTypes } => Builtin.clear_ argTypes o.type (argsL ρ args)
  | .call { callee := .builtin .min, args, argTypes } => Builtin.min_ argTypes o.type (argsL ρ args)
  | .call { callee := .builtin .max, args, argTypes } => Builtin.max_ argTypes o.type (argsL ρ args)
  | _ => stuck ""
/-- A call of a function's value. -/
def callS (fv : Value) (args : Array Value) : Sem Next := do
  let d ← Deferred.ofValue fv args
  invoke d.target d.args
def definedB (tm : Tm) (o : Oper) : Bool := o.op.operands.toList.all fun x => (ev? tm x).isSome
def drf (p : Option Addr) (K : Addr → Prop) : Prop := match p with
  | some a => K a
  | none => False
abbrev Past := List (Nat × Hp)
abbrev Reads := List (Nat × (Hp → Prop))
/-- Does i wait for j? -/
def hasPred (ops : Array Oper) : Nat → Nat → Nat → Bool
  | 0, _, _ => false
  | f + 1, j, i => match ops[i]? with
    | none => false
    | some o => (o.after.toList.any fun e => Region.binds .any e && Nat.beq e.on j) || (o.after.toList.any fun e => Region.binds .any e && hasPred ops f j e.on)
def allR (pr : Nat → Nat → Bool) (i : Nat) (reads : Reads) (h : Hp) (X : Prop) : Prop := match reads with
  | [] => X
  | (j, r) :: rs => match pr j i with
    | true => allR pr i rs h X
    | false => r h ∧ allR pr i rs h X
def allHV (P : Program) (pr : Nat → Nat → Bool) (i : Nat) (s : Sem Value) (v : Value) (past : Past) (X : Prop) : Prop := match past with
  | [] => X
  | (e, hp) :: rs => match pr e i with
    | true => allHV P pr i s v rs X
    | false => HV P s hp v ∧ allHV P pr i s v rs X
abbrev KD := Value → Hp → Past → Reads → Prop
def rdK (P : Program) (dr : Bool) (pr : Nat → Nat → Bool) (i : Nat) (s : Sem Value) (h : Hp) (past : Past) (reads : Reads) (K : KD) (v : Value) : Prop := match dr with
  | true => HV P s h v ∧ allHV P pr i s v past (K v h past ((i, fun h' => HV P s h' v) :: reads))
  | false => HV P s h v ∧ K v h past reads
def efK (dr : Bool) (pr : Nat → Nat → Bool) (i : Nat) (h : Hp) (past : Past) (reads : Reads) (K : KD) (v : Value) (h' : Hp) : Prop := match dr with
  | true => allR pr i reads h' (K v h' ((i, h) :: past) reads)
  | false => K v h' past reads
/-- What comes back is of its shape. -/
def asT (P : Program) (t : TypeId) (K : Value → Hp → Prop) (v : Value) (h' : Hp) : Prop := exT (shOf P t) fun u => v = u ∧ K u h'
/-- The shape of what an operation yields. -/
def shO (P : Program) (o : Oper) : Sh := match o.op with
  | .indexAddr .. => .one (.sc .adr)
  | _ => shOf P o.type
def someB {α : Type} : Option α → Bool
  | some _ => true
  | none => false
/-- The guard of an equality goes through. -/
def guardB (P : Program) (op : BinOp) (t : TypeId) (x y : Operand) (a b : Value) : Bool := match b with
  | .nilFunc => true
  | _ => someB (pureRun P (eqGuard op t x y a b))
theorem guardB_run {P : Program} {op : BinOp} {t : TypeId} {x y : Operand} {a b : Value} (h : guardB P op t x y a b = true) (w : World) : (eqGuard op t x y a b).run P w = .ok () w := by
  have key : someB (pureRun P (eqGuard op t x y a b)) = true → (eqGuard op t x y a b).run P w = .ok () w := fun h => by
    cases hp : pureRun P (eqGuard op t x y a b) with
    | none => rw [hp] at h; cases h
    | some u => exact pureRun_run P _ _ hp w
  cases b <;> first | exact key h | skip
  unfold eqGuard
  cases op <;> cases a <;> simp [Result.andThen]
/-- Two pointers are told apart at a heap. -/
def eqS (P : Program) (dr : Bool) (t : TypeId) (y : Operand) (s : Sem Value) (h : Hp) (v : Value) : Prop := match dr with
  | true => PV P s v
  | false => match P.underlying t with
    | some (.pointer _) => (match y with
      | .const _ => PV P s v
      | _ => HV P s h v)
    | _ => PV P s v
theorem eqS_run {P : Program} {dr : Bool} {t : TypeId} {y : Operand} {s : Sem Value} {h : Hp} {v : Value} (hh : eqS P dr t y s h v) (w : World) (hw : w.heap = h) : s.run P w = .ok v w := by
  unfold eqS at hh
  split at hh
  · exact hh w
  · split at hh
    · split at hh
      · exact hh w
      · exact hh w hw
    · exact hh w
def opD (P : Program) (dr : Bool) (pr : Nat → Nat → Bool) (i : Nat) (o : Oper) (tm : Tm) (h : Hp) (past : Past) (reads : Reads) (K : KD) : Prop :=
  match definedB tm o with
  | false => False
  | true =>
  match cls P o with
  | .a => match pureRun P (execOp (ev tm) o) with
    | some (.value v) => K v h past reads
    | _ => False
  | .n => match o.op with
    | .nilCheck x => match ev tm x with
      | .pointer p => drf p fun a => K (.pointer (some a)) h past reads
      | _ => match pureRun P (execOp (ev tm) o) with
        | some (.value v) => K v h past reads
        | _ => False
    | _ => False
  | .b => match o.op with
    | .binOp op t x y _ => match guardB P op t x y (ev tm x) (ev tm y) with
      | true => exT (shOf P o.type) fun v => eqS P dr t y (opVal (ev tm) o) h v ∧ K v h past reads
      | false => False
    | _ => False
  | .p => exT (shO P o) fun v => PV P (opVal (ev tm) o) v ∧ K v h past reads
  | .l => exT (shOf P o.type) fun v => rdK P dr pr i (opVal (ev tm) o) h past reads K v
  | .u => match o.op with
    | .store t a x => HU P (Instr.storeAt t (ev tm a) (ev tm x)) h fun h' => efK dr pr i h past reads K undef h'
    | _ => False
  | .e => semWp P (opVal (ev tm) o) h (efK dr pr i h past reads K)
  | .w => HW P (opVal (ev tm) o) h (asT P o.type (efK dr pr i h past reads K))
  | .k => match pureRun P (execOp (ev tm) o) with
    | some (.enter f args) => CallsH P f args h (asT P o.type (efK dr pr i h past reads K))
    | _ => False
  | .v => match o.op with
    | .call { callee := .value f, args, .. } => HN P (callS (ev tm f) (argsL (ev tm) args)) h (asT P o.type (efK dr pr i h past reads K))
    | .call { callee := .invoke r m, args, .. } => HN P (callMethod (ev tm r) m (argsL (ev tm) args)) h (asT P o.type (efK dr pr i h past reads K))
    | _ => False
  | .x => False
def br (b : Bool) (A B : Prop) : Prop := match b with
  | true => A
  | false => B
def okDst (n : Nat) : Option Nat → Bool
  | none => true
  | some d => Nat.blt d n
def opsW (P : Program) (ops : Array Oper) (n : Nat) (dr : Bool) (Q : Tm → Hp → Prop) : List Nat → Tm → Hp → Past → Reads → Prop
  | [], tm, h, _, _ => Q tm h
  | i :: rest, tm, h, past, reads =>
    match ops[i]? with
    | none => False
    | some o =>
      match okDst n o.dst with
      | false => False
      | true =>
        match o.guard with
        | none => opD P dr (hasPred ops ops.size) i o tm h past reads (fun v h' p r => opsW P ops n dr Q rest (tm.putO o.dst v) h' p r)
        | some (j, want) =>
          match (ops[j]?).bind (·.dst) with
          | none => False
          | some d =>
            match tm d with
            | some (.bool b) =>
              br b
                (match want with
                 | true => opD P dr (hasPred ops ops.size) i o (tm.put d (.bool true)) h past reads (fun v h' p r => opsW P ops n dr Q rest ((tm.put d (.bool true)).putO o.dst v) h' p r)
                 | false => opsW P ops n dr Q rest ((tm.put d (.bool true)).putO o.dst undef) h past reads)
                (match want with
                 | true => opsW P ops n dr Q rest ((tm.put d (.bool false)).putO o.dst undef) h past reads
                 | false => opD P dr (hasPred ops ops.size) i o (tm.put d (.bool false)) h past reads (fun v h' p r => opsW P ops n dr Q rest ((tm.put d (.bool false)).putO o.dst v) h' p r))
            | some _ => opsW P ops n dr Q rest (tm.putO o.dst undef) h past reads
            | none => False

/-- New cells. -/
def newC (h : Hp) (o : Obj) (K : Addr → Hp → Prop) : Prop := K ⟨h.size, 0, none⟩ (h.push o)
def bAnd (k : IntKind) (x y : Int) : Int := k.wrap (((BitVec.ofInt k.bits x &&& BitVec.ofInt k.bits y).toNat : Nat) : Int)
def bOr (k : IntKind) (x y : Int) : Int := k.wrap (((BitVec.ofInt k.bits x ||| BitVec.ofInt k.bits y).toNat : Nat) : Int)
def bXor (k : IntKind) (x y : Int) : Int := k.wrap (((BitVec.ofInt k.bits x ^^^ BitVec.ofInt k.bits y).toNat : Nat) : Int)
def bAndNot (k : IntKind) (x y : Int) : Int := k.wrap (((BitVec.ofInt k.bits x &&& ~~~ BitVec.ofInt k.bits y).toNat : Nat) : Int)
/-! ### The abstract steps -/
def plainOp (o : Oper) : Prop := (∀ cs b, o.op ≠ .select cs b) ∧ (∀ c, o.op ≠ .defer c)
def RdS (P : Program) (o : Oper) (tm : Tm) (h : Hp) (v : Value) : Prop := ∀ w : World, w.heap = h → (execOp (ev tm) o).run P w = .ok (.value v) w
def EfS (P : Program) (o : Oper) (tm : Tm) (h : Hp) (K : Value → Hp → Prop) : Prop := semWp P (execOp (ev tm) o) h (fun nx h' => nextWp P K nx h')
theorem RdS.uniq {P : Program} {o : Oper} {tm : Tm} {h : Hp} {v v' : Value} (a : RdS P o tm h v) (b : RdS P o tm h v') : v = v' := by
  have := (a (W h) rfl).symm.trans (b (W h) rfl)
  injection this with e1 e2
  injection e1
theorem EfS.mono {P : Program} {o : Oper} {tm : Tm} {h : Hp} {K K' : Value → Hp → Prop} (hm : ∀ v h', K v h' → K' v h') (hh : EfS P o tm h K) : EfS P o tm h K' :=
  semWp_mono P _ h (fun nx h' => nextWp_mono hm nx h') hh
theorem EfS.some {P : Program} {o : Oper} {tm : Tm} {h : Hp} {K : Value → Hp → Prop} (hh : EfS P o tm h K) : ∃ v h', K v h' := by
  obtain ⟨nx, w', _, _, hn⟩ := semWp_run P _ _ (W h) hh
  exact nextWp_some _ _ hn
theorem semWp_bind (P : Program) {α β : Type} (s : Sem α) (f : α → Sem β) : ∀ (h : Hp) (K : β → Hp → Prop), semWp P s h (fun a h' => semWp P (f a) h' K) → semWp P (s >>= f) h K := by
  show ∀ (h : Hp) (K : β → Hp → Prop), _ → semWp P (Sem.bind s f) h K
  induction s with
  | pure a => intro h K hh; exact hh
  | load m a k ih => intro h K ⟨v, hv, hh⟩; exact ⟨v, hv, ih v h K hh⟩
  | store m a v k ih => intro h K ⟨h1, h2, h3, hh⟩; exact ⟨h1, h2, h3, ih _ K hh⟩
  | new o k ih => intro h K hh; exact ih _ _ K hh
  | shape r k ih => intro h K hh; exact ih _ _ K hh
  | freeze a n k ih => intro h K hh; exact ih _ K hh
  | frozen a k ih => intro h K hh; exact ih _ _ K hh
  | getObj r k ih => intro h K ⟨o, h1, h2, hh⟩; exact ⟨o, h1, h2, ih _ _ K hh⟩
  | setObj r o k ih => intro h K ⟨h1, hh⟩; exact ⟨h1, ih _ K hh⟩
  | choose q k ih => intro h K ⟨h1, h2⟩; exact ⟨fun e => ih _ _ K (h1 e), fun e t => ih _ _ K (h2 e t)⟩
  | sys c k ih => intro h K hh; exact hh.elim
  | program k ih => intro h K hh; exact ih _ _ K hh
  | mark m k ih => intro h K hh; exact ih _ K hh
  | halt x => intro h K hh; exact hh.elim
theorem argsL_eq (ρ : Operand → Value) (l : Array Operand) : argsL ρ l = l.map ρ := by apply Array.ext'; simp [argsL]
theorem partsL_eq (ρ : Operand → Value) (l : Array (Nat × Operand)) : partsL ρ l = l.map fun (i, x) => (i, ρ x) := by apply Array.ext'; simp [partsL]
theorem invoke_eq (ρ : Operand → Value) (r : Operand) (m : String) (args : Array Operand) (at_ : Array TypeId) (t : TypeId) : (do let d ← resolve ρ { callee := .invoke r m, args := args, argTypes := at_ } t; invoke d.target d.args) = callMethod (ρ r) m (argsL ρ args) := by
  have e1 : (#[ρ r] ++ args.map ρ)[0]? = some (ρ r) := by rw [Array.getElem?_append_left (show 0 < (#[ρ r] : Array Value).size from Nat.zero_lt_one)]; rfl
  have e2 : (#[ρ r] ++ args.map ρ).extract 1 (#[ρ r] ++ args.map ρ).size = argsL ρ args := by
    rw [argsL_eq]
    apply Array.ext'
    simp
    rw [← List.length_map (f := ρ) (as := args.toList) |>.trans Array.length_toList, List.take_length]
  have e3 : (do let d ← resolve ρ { callee := .invoke r m, args := args, argTypes := at_ } t; invoke d.target d.args) = invoke (.fn (.method m) #[]) (#[ρ r] ++ args.map ρ) := rfl
  rw [e3]
  unfold invoke
  simp only [e1, e2]

/-- The kinds that yield by opVal. -/
theorem execOp_val (P : Program) (ρ : Operand → Value) (o : Oper) (hc : cls P o = .p ∨ cls P o = .l ∨ cls P o = .e ∨ cls P o = .w) :
    execOp ρ o = (opVal ρ o >>= fun v => pure (.value v)) ∨ ∃ op t x y yt, o.op = .binOp op t x y yt := by
  obtain ⟨dst, op, type, pos, after, guard⟩ := o
  cases op <;> (try (simp [cls] at hc; done)) <;> (try (exact .inl rfl)) <;> (try (exact .inr ⟨_, _, _, _, _, rfl⟩))
  case buildSlice t len parts => refine .inl ?_; simp only [execOp, opVal, partsL_eq]
  case call c =>
    obtain ⟨callee, args, argTypes⟩ := c
    cases callee with
    | builtin b =>
      refine .inl ?_
      cases b <;> first | (simp [cls] at hc; done) | (simp only [opVal, argsL_eq]; simp [execOp, resolve, invoke, builtin, Bind.bind, Pure.pure, Sem.bind])
    | invoke r m => simp [cls] at hc
    | value f => cases f <;> simp [cls] at hc
theorem cls_binOp {P : Program} {o : Oper} {op t x y yt} (h : o.op = .binOp op t x y yt) : cls P o = .a ∨ cls P o = .b := by
  obtain ⟨dst, op', type, pos, after, guard⟩ := o
  simp only at h
  subst h
  cases op <;> simp only [cls] <;> repeat' (first | (split) | (exact .inl trivial) | (exact .inl rfl) | (exact .inr rfl))
theorem rd_of_HV {P : Program} {o : Oper} {tm : Tm} {h : Hp} {v : Value} (hc : cls P o = .p ∨ cls P o = .l) (hv : HV P (opVal (ev tm) o) h v) : RdS P o tm h v := by
  intro w hw
  rcases execOp_val P (ev tm) o (by rcases hc with h | h <;> simp [h]) with he | ⟨op, t, x, y, yt, he⟩
  · rw [he]
    have := hv w hw
    simp [this, Result.andThen]
  · rcases cls_binOp (P := P) he with h1 | h1 <;> rw [h1] at hc <;> simp at hc
theorem ef_of_HW {P : Program} {o : Oper} {tm : Tm} {h : Hp} {K : Value → Hp → Prop} (hc : cls P o = .e ∨ cls P o = .w) (hv : semWp P (opVal (ev tm) o) h K) : EfS P o tm h K := by
  unfold EfS
  rcases execOp_val P (ev tm) o (by rcases hc with h | h <;> simp [h]) with he | ⟨op, t, x, y, yt, he⟩
  · rw [he]
    refine semWp_bind P _ _ h _ (semWp_mono P _ h (fun v h' hK => ?_) hv)
    exact hK
  · rcases cls_binOp (P := P) he with h1 | h1 <;> rw [h1] at hc <;> simp at hc
theorem rd_of_pure {P : Program} {o : Oper} {tm : Tm} {h : Hp} {v : Value} (hv : pureRun P (execOp (ev tm) o) = some (.value v)) : RdS P o tm h v :=
  fun w _ => pureRun_run P _ _ hv w

/-! ### In the order of the text -/
theorem defined_ev {ds : List Deferred} {tm : Tm} {o : Oper} {a : Act} (hd : definedB tm o = true) (hl : Le ds tm a) : ∀ x ∈ o.op.operands, ev tm x = a.eval x := by
  intro x hx
  have h := List.all_eq_true.1 hd x (by simpa using hx)
  cases hx2 : ev? tm x with
  | none => rw [hx2] at h; cases h
  | some v => rw [hl.ev hx2]; simp [ev, hx2]
theorem exec_same {ds : List Deferred} {tm : Tm} {o : Oper} {a : Act} (hp : plainOp o) (hd : definedB tm o = true) (hl : Le ds tm a) : execOp (ev tm) o = execOp a.eval o :=
  execOp_congr o hp.1 (defined_ev hd hl)
theorem plain_of_cls {P : Program} {o : Oper} (h : cls P o ≠ .x) : plainOp o := by
  obtain ⟨dst, op, type, pos, after, guard⟩ := o
  constructor
  · intro cs b he; simp only at he; subst he; exact h rfl
  · intro c he; simp only at he; subst he; exact h rfl
/-- What holds behind: of the temporaries, and of the heap. -/
def LQ (ds : List Deferred) (w0 : World) (n : Nat) (Q : Tm → Hp → Prop) (a : Act) (w : World) : Prop := ∃ tm, Le ds tm a ∧ a.tmps.size = n ∧ Same w0 w ∧ Q tm w.heap
section
variable {P : Program} {ρ : Option Nat} {m n : Nat} {o : Oper} {tm : Tm} {a : Act} {w : World} {next : Act → World → Prop} {Q' : Exit → Act → World → Prop}
theorem wpIn_rd {ds : List Deferred} {v : Value} (hp : plainOp o) (hd : definedB tm o = true) (hl : Le ds tm a) (hr : RdS P o tm w.heap v) (hn : next (a.put o.dst v) w) : o.wpIn (FW ρ) m P a w next Q' := by
  refine ⟨fun _ _ => trivial, ?_⟩
  rw [Oper.semAt_eq _ _ _ hp.2, ← exec_same hp hd hl, hr w rfl]
  exact hn
theorem wpIn_ef {ds : List Deferred} {K : Value → Hp → Prop} (hp : plainOp o) (hd : definedB tm o = true) (hl : Le ds tm a) (hr : EfS P o tm w.heap K) (hn : ∀ v w', Same w w' → K v w'.heap → next (a.put o.dst v) w') : o.wpIn (FW ρ) m P a w next Q' := by
  refine ⟨fun _ _ => trivial, ?_⟩
  rw [Oper.semAt_eq _ _ _ hp.2, ← exec_same hp hd hl]
  obtain ⟨nx, w', hrun, hs, hK⟩ := semWp_run P _ _ w hr
  rw [hrun]
  cases nx <;> simp only [nextWp] at hK
  case value v => exact hn v w' hs hK
  case skip => exact hn _ w' hs hK
  case enter f args =>
    refine ⟨(fun h => by cases h), ?_⟩
    have h1 : CallsIn Fence.wide (m - 1) P f args w' _ := callsIn_wide.2 (hK w' rfl)
    exact CallsIn.mono h1 (fun e w'' ⟨v, he, hs2, hK2⟩ => by subst he; exact hn v w'' (hs.trans hs2) hK2)
  case round l f tmps as9 bd =>
    refine ⟨(fun h => by cases h), ?_⟩
    have h1 : RoundIn Fence.wide (m - 1) P l f tmps as9 bd w' _ := hK w' rfl (m - 1)
    exact RoundIn.mono h1 (fun e w'' ⟨v, he, hs2, hK2⟩ => by subst he; exact hn v w'' (hs.trans hs2) hK2)
theorem putO_le {ds : List Deferred} (hl : Le ds tm a) (hz : a.tmps.size = n) (hk : okDst n o.dst = true) (v : Value) : Le ds (tm.putO o.dst v) (a.put o.dst v) ∧ (a.put o.dst v).tmps.size = n := by
  cases hd : o.dst with
  | none => exact ⟨hl, hz⟩
  | some d =>
    rw [hd] at hk
    have : d < a.tmps.size := by rw [hz]; simpa [okDst] using hk
    exact ⟨hl.put v this, by simp [Act.put, hz]⟩
end
/-- What a guard says. -/
def wantB (ops : Array Oper) (tm : Tm) (o : Oper) : Option Bool :=
  match o.guard with
  | none => some true
  | some (j, want) =>
    match (ops[j]?).bind (·.dst) with
    | none => none
    | some d =>
      match tm d with
      | some (.bool b) => some (b == want)
      | some _ => some false
      | none => none
theorem wanted_of_wantB {ds : List Deferred} {ops : Array Oper} {tm : Tm} {o : Oper} {a : Act} {b : Bool} (hl : Le ds tm a) (h : wantB ops tm o = some b) : Region.wanted o (yielded ops a.tmps) = b := by
  unfold wantB at h
  unfold Region.wanted
  cases hg : o.guard with
  | none => rw [hg] at h; simpa using h
  | some jw =>
    obtain ⟨j, want⟩ := jw
    rw [hg] at h
    simp only at h ⊢
    unfold yielded
    cases hj : (ops[j]?).bind (·.dst) with
    | none => rw [hj] at h; cases h
    | some d =>
      rw [hj] at h
      simp only [Option.bind_some] at h ⊢
      cases ht : tm d with
      | none => rw [ht] at h; cases h
      | some v =>
        rw [ht] at h
        rw [hl.at_ d v ht]
        cases v <;> simp only [Option.some.injEq] at h <;> subst h <;> first | rfl | (cases want <;> rename_i b <;> cases b <;> rfl)
/-- The abstract walk in the order of the text. -/
def iW (P : Program) (ops : Array Oper) (n : Nat) (Q : Tm → Hp → Prop) : List Nat → Tm → Hp → Prop
  | [], tm, h => Q tm h
  | i :: rest, tm, h => ∃ o, ops[i]? = some o ∧ okDst n o.dst = true ∧
      ((wantB ops tm o = some false ∧ iW P ops n Q rest (tm.putO o.dst undef) h) ∨
       (wantB ops tm o = some true ∧ plainOp o ∧ definedB tm o = true ∧
         ((∃ v, RdS P o tm h v ∧ iW P ops n Q rest (tm.putO o.dst v) h) ∨ EfS P o tm h (fun v h' => iW P ops n Q rest (tm.putO o.dst v) h'))))
theorem iW_sound {ds : List Deferred} {P : Program} {ops : Array Oper} {n m : Nat} {ρ : Option Nat} {Q : Tm → Hp → Prop} {Q' : Exit → Act → World → Prop} {w0 : World} (hQ : ∀ a w, LQ ds w0 n Q a w → Q' .normal a w) :
    ∀ (l : List Nat) (tm : Tm) (a : Act) (w : World), iW P ops n Q l tm w.heap → Le ds tm a → a.tmps.size = n → Same w0 w → wpOpsIn (FW ρ) m P ops Q' l a w
  | [], tm, a, w, h, hl, hz, hs => hQ a w ⟨tm, hl, hz, hs, h⟩
  | i :: rest, tm, a, w, h, hl, hz, hs => by
    obtain ⟨o, ho, hk, h⟩ := h
    simp only [wpOpsIn, ho]
    rcases h with ⟨hw, h⟩ | ⟨hw, hp, hd, h⟩
    · rw [wanted_of_wantB hl hw]
      simp only [Bool.false_eq_true, if_false]
      obtain ⟨h1, h2⟩ := putO_le hl hz hk undef
      exact ⟨fun _ _ => trivial, iW_sound hQ rest _ _ w h h1 h2 hs⟩
    · rw [wanted_of_wantB hl hw]
      simp only [if_true]
      rcases h with ⟨v, hr, h⟩ | h
      · obtain ⟨h1, h2⟩ := putO_le hl hz hk v
        exact wpIn_rd hp hd hl hr (iW_sound hQ rest _ _ w h h1 h2 hs)
      · refine wpIn_ef hp hd hl h (fun v w' hs2 hK => ?_)
        obtain ⟨h1, h2⟩ := putO_le hl hz hk v
        exact iW_sound hQ rest _ _ w' hK h1 h2 (hs.trans hs2)
/-- One operation, as it stands. -/
theorem opD_step {P : Program} {pr : Nat → Nat → Bool} {i : Nat} {o : Oper} {tm : Tm} {h : Hp} {past : Past} {reads : Reads} {K : KD} (hh : opD P false pr i o tm h past reads K) :
    plainOp o ∧ definedB tm o = true ∧ ((∃ v, RdS P o tm h v ∧ K v h past reads) ∨ EfS P o tm h (fun v h' => K v h' past reads)) := by
  unfold opD at hh
  cases hd : definedB tm o with
  | false => rw [hd] at hh; exact hh.elim
  | true =>
    rw [hd] at hh
    simp only at hh
    have asT_v : ∀ (t : TypeId) (K' : Value → Hp → Prop) (v : Value) (h' : Hp), asT P t K' v h' → K' v h' := fun t K' v h' ha => by
      obtain ⟨u, hu, hK⟩ := exT_ex _ ha
      rw [hu]; exact hK
    refine ⟨?_, rfl, ?_⟩
    · refine plain_of_cls (P := P) (fun hx => ?_)
      rw [hx] at hh; exact hh
    · cases hc : cls P o <;> rw [hc] at hh <;> simp only at hh
      case a =>
        split at hh
        · rename_i v hv; exact .inl ⟨v, rd_of_pure hv, hh⟩
        · exact hh.elim
      case n =>
        split at hh
        · rename_i x hx
          split at hh
          · rename_i p hp
            unfold drf at hh
            split at hh
            · rename_i a
              refine .inl ⟨_, rd_of_pure ?_, hh⟩
              simp only [execOp, hx, hp]
              rfl
            · exact hh.elim
          · split at hh
            · rename_i v hv; exact .inl ⟨v, rd_of_pure hv, hh⟩
            · exact hh.elim
        · exact hh.elim
      case p =>
        obtain ⟨v, hv, hK⟩ := exT_ex _ hh
        exact .inl ⟨v, rd_of_HV (.inl hc) (fun w _ => hv w), hK⟩
      case b =>
        split at hh
        · rename_i op t x y yt hx
          split at hh
          · rename_i hg
            obtain ⟨v, hv, hK⟩ := exT_ex _ hh
            refine .inl ⟨v, fun w hw => ?_, hK⟩
            have h1 := guardB_run hg w
            have h2 := eqS_run hv w hw
            simp only [opVal, hx] at h2
            simp [execOp, hx, h1, h2, Result.andThen]
          · exact hh.elim
        · exact hh.elim
      case l =>
        obtain ⟨v, hv⟩ := exT_ex _ hh
        exact .inl ⟨v, rd_of_HV (.inr hc) hv.1, hv.2⟩
      case u =>
        split at hh
        · rename_i t x y hx
          refine .inr ?_
          unfold EfS
          simp only [execOp, hx]
          exact semWp_bind P _ _ h _ hh
        · exact hh.elim
      case e => exact .inr (ef_of_HW (.inl hc) hh)
      case w => exact .inr (ef_of_HW (.inr hc) (semWp_mono P _ h (fun v h' ha => asT_v _ _ v h' ha) hh))
      case k =>
        split at hh
        · rename_i f args hf
          refine .inr ?_
          unfold EfS
          have : ∀ {α : Type} (s : Sem α) (x : α) (K : α → Hp → Prop), pureRun P s = some x → K x h → semWp P s h K := by
            intro α s x K
            induction s with
            | pure b => intro e hK; simp [pureRun] at e; subst e; exact hK
            | program k ih => intro e hK; exact ih P e hK
            | mark m k ih => intro e hK; exact ih e hK
            | _ => intro e; simp [pureRun] at e
          exact this _ _ _ hf (CallsH.mono hh (fun v h' ha => asT_v _ _ v h' ha))
        · exact hh.elim
      case v =>
        split at hh
        · rename_i f args at_ hx
          refine .inr ?_
          unfold EfS
          simp only [execOp, hx]
          have h3 := HN_mono (fun v h' ha => asT_v _ _ v h' ha) hh
          have e : (do let d ← resolve (ev tm) { callee := .value f, args := args, argTypes := at_ } o.type; invoke d.target d.args) = callS (ev tm f) (argsL (ev tm) args) := by
            simp only [resolve, callS, argsL_eq]
          rw [e]
          exact h3
        · rename_i r m args at_ hx
          refine .inr ?_
          unfold EfS
          simp only [execOp, hx]
          have h3 := HN_mono (fun v h' ha => asT_v _ _ v h' ha) hh
          rw [invoke_eq]
          exact h3
        · exact hh.elim
theorem opsW_iW {P : Program} {ops : Array Oper} {n : Nat} {Q : Tm → Hp → Prop} : ∀ (l : List Nat) (tm : Tm) (h : Hp) (past : Past) (reads : Reads), opsW P ops n false Q l tm h past reads → iW P ops n Q l tm h
  | [], tm, h, past, reads, hh => hh
  | i :: rest, tm, h, past, reads, hh => by
    rw [opsW] at hh
    cases ho : ops[i]? with
    | none => rw [ho] at hh; exact hh.elim
    | some o =>
      rw [ho] at hh
      simp only at hh
      cases hk : okDst n o.dst with
      | false => rw [hk] at hh; exact hh.elim
      | true =>
        rw [hk] at hh
        simp only at hh
        have step : ∀ tm2, tm2 = tm → wantB ops tm o = some true → opD P false (hasPred ops ops.size) i o tm2 h past reads (fun v h' p r => opsW P ops n false Q rest (tm2.putO o.dst v) h' p r) → iW P ops n Q (i :: rest) tm h := by
          intro tm2 e hw hop
          subst e
          obtain ⟨h1, h2, h3⟩ := opD_step hop
          refine ⟨o, ho, hk, .inr ⟨hw, h1, h2, ?_⟩⟩
          rcases h3 with ⟨v, hr, hK⟩ | h3
          · exact .inl ⟨v, hr, opsW_iW rest _ _ _ _ hK⟩
          · exact .inr (h3.mono fun v h' hK => opsW_iW rest _ _ _ _ hK)
        have skip : ∀ tm2, tm2 = tm → wantB ops tm o = some false → opsW P ops n false Q rest (tm2.putO o.dst undef) h past reads → iW P ops n Q (i :: rest) tm h := by
          intro tm2 e hw hop
          subst e
          exact ⟨o, ho, hk, .inl ⟨hw, opsW_iW rest _ _ _ _ hop⟩⟩
        cases hg : o.guard with
        | none =>
          rw [hg] at hh
          exact step tm rfl (by simp [wantB, hg]) hh
        | some jw =>
          obtain ⟨j, want⟩ := jw
          rw [hg] at hh
          simp only at hh
          cases hj : (ops[j]?).bind (·.dst) with
          | none => rw [hj] at hh; exact hh.elim
          | some d =>
            rw [hj] at hh
            simp only at hh
            cases ht : tm d with
            | none => rw [ht] at hh; exact hh.elim
            | some v =>
              rw [ht] at hh
              have hput : tm.put d v = tm := Tm.put_same ht
              have hwb : ∀ b, v = .bool b → wantB ops tm o = some (b == want) := fun b e => by simp [wantB, hg, hj, ht, e]
              cases v <;> first
                | (exact skip tm rfl (by simp [wantB, hg, hj, ht]) hh)
                | skip
              rename_i b
              cases b <;> cases want <;> simp only [br] at hh
              · exact step _ hput (hwb _ rfl) hh
              · exact skip _ hput (hwb _ rfl) hh
              · exact skip _ hput (hwb _ rfl) hh
              · exact step _ hput (hwb _ rfl) hh
theorem opsW_sound {ds : List Deferred} {P : Program} {ops : Array Oper} {n m : Nat} {ρ : Option Nat} {id : Nat} {Q : Tm → Hp → Prop} {Q' : Exit → Act → World → Prop} {w0 : World} (hQ : ∀ a w, LQ ds w0 n Q a w → Q' .normal a w)
    {tm : Tm} {a : Act} {w : World} (h : opsW P ops n false Q (List.range ops.size) tm w.heap [] []) (hl : Le ds tm a) (hz : a.tmps.size = n) (hs : Same w0 w) : (Code.region id ops false).wpIn (FW ρ) m P Q' a w :=
  wpIn_region (iW_sound hQ _ _ _ _ (opsW_iW _ _ _ _ _ h) hl hz hs)
end Go.Proofs.YtfdpccbajaiepaaGreatDoor.Sx

/- A region whose order is open: one reading in the order of the text serves every order, if what writes stands in a row, and what is read stands at every heap of the region. -/
namespace Go.Proofs.YtfdpccbajaiepaaGreatDoor.Sx
open Go
set_option linter.unusedVariables false
set_option linter.unusedSimpArgs false
section
variable {P : Program} {ops : Array Oper} {n : Nat}
abbrev Pr (ops : Array Oper) (j i : Nat) : Bool := hasPred ops ops.size j i
/-- The abstract walk, with what is asked of reads. -/
def dW (P : Program) (ops : Array Oper) (n : Nat) (Q : Tm → Hp → Prop) : List Nat → Tm → Hp → Past → Reads → Prop
  | [], tm, h, _, _ => Q tm h
  | i :: rest, tm, h, past, reads => ∃ o, ops[i]? = some o ∧ okDst n o.dst = true ∧
      ((wantB ops tm o = some false ∧ dW P ops n Q rest (tm.putO o.dst undef) h past reads) ∨
       (wantB ops tm o = some true ∧ plainOp o ∧ definedB tm o = true ∧
         ((isE P o = false ∧ ∃ v, (∀ hp, hp = h ∨ (∃ e, (e, hp) ∈ past ∧ Pr ops e i = false) → RdS P o tm hp v) ∧ dW P ops n Q rest (tm.putO o.dst v) h past ((i, fun h' => RdS P o tm h' v) :: reads)) ∨
          (isE P o = true ∧ EfS P o tm h (fun v h' => (∀ j r, (j, r) ∈ reads → Pr ops j i = false → r h') ∧ dW P ops n Q rest (tm.putO o.dst v) h' ((i, h) :: past) reads)))))
theorem dW_mono {Q : Tm → Hp → Prop} : ∀ (l : List Nat) (tm : Tm) (h : Hp) (past past' : Past) (reads reads' : Reads),
    (∀ x ∈ past', x ∈ past) → (∀ h' i, (∀ j r, (j, r) ∈ reads → Pr ops j i = false → r h') → ∀ j r, (j, r) ∈ reads' → Pr ops j i = false → r h') → dW P ops n Q l tm h past reads → dW P ops n Q l tm h past' reads'
  | [], tm, h, past, past', reads, reads', hp, hr, hh => hh
  | i :: rest, tm, h, past, past', reads, reads', hp, hr, hh => by
    obtain ⟨o, ho, hk, hh⟩ := hh
    refine ⟨o, ho, hk, ?_⟩
    rcases hh with ⟨hw, hh⟩ | ⟨hw, h1, h2, hh⟩
    · exact .inl ⟨hw, dW_mono rest _ _ _ _ _ _ hp hr hh⟩
    · refine .inr ⟨hw, h1, h2, ?_⟩
      rcases hh with ⟨he, v, hv, hh⟩ | ⟨he, hh⟩
      · refine .inl ⟨he, v, fun q hq => hv q (hq.imp id (fun ⟨e, h3, h4⟩ => ⟨e, hp _ h3, h4⟩)), dW_mono rest _ _ _ _ _ _ hp ?_ hh⟩
        intro h' i' hall j r hmem hpr
        rcases List.mem_cons.1 hmem with e | hm
        · injection e with e1 e2
          subst e1 e2
          exact hall _ _ (List.mem_cons_self ..) hpr
        · exact hr h' i' (fun j' r' hr' => hall j' r' (List.mem_cons_of_mem _ hr')) j r hm hpr
      · refine .inr ⟨he, hh.mono fun v h' ⟨hall, hd⟩ => ⟨hr h' i hall, dW_mono rest _ _ _ _ _ _ ?_ hr hd⟩⟩
        intro q hq
        rcases List.mem_cons.1 hq with rfl | hm
        · exact List.mem_cons_self ..
        · exact List.mem_cons_of_mem _ (hp q hm)
/-! ### What does not look at one another -/
theorem putO_comm (tm : Tm) {x y : Option Nat} (v u : Value) (h : ∀ d, x = some d → y ≠ some d) : (tm.putO x v).putO y u = (tm.putO y u).putO x v := by
  cases x with
  | none => rfl
  | some d =>
    cases y with
    | none => rfl
    | some e =>
      have hne : e ≠ d := fun he => h d rfl (by rw [he])
      funext i
      simp only [Tm.putO, Tm.put]
      cases h1 : Nat.beq i e <;> cases h2 : Nat.beq i d <;> try rfl
      exact absurd ((Nat.eq_of_beq_eq_true h1).symm.trans (Nat.eq_of_beq_eq_true h2)) hne
theorem put_at (tm : Tm) {d t : Nat} (v : Value) (h : t ≠ d) : tm.put d v t = tm t := by
  unfold Tm.put
  cases hb : Nat.beq t d with
  | true => exact absurd (Nat.eq_of_beq_eq_true hb) h
  | false => rfl
theorem ev?_put {tm : Tm} {x : Option Nat} {v : Value} {y : Operand} (h : ∀ d, x = some d → y ≠ .tmp d) : ev? (tm.putO x v) y = ev? tm y := by
  cases x with
  | none => rfl
  | some d =>
    cases y with
    | tmp t => exact put_at tm v (fun e => h d rfl (by rw [e]))
    | _ => rfl
section
variable {o : Oper} {tm : Tm} {x : Option Nat} {v : Value} (h : ∀ d, x = some d → d ∉ o.looksAt ops)
include h
theorem look_ev : ∀ y ∈ o.op.operands, ev? (tm.putO x v) y = ev? tm y := fun y hy =>
  ev?_put fun d hd hyd => h d hd (by
    subst hyd
    exact List.mem_append_left _ (List.mem_filterMap.2 ⟨.tmp d, by simpa using hy, rfl⟩))
theorem look_defined : definedB (tm.putO x v) o = definedB tm o := by
  unfold definedB
  have : ∀ (l : List Operand), (∀ y ∈ l, ev? (tm.putO x v) y = ev? tm y) → (l.all fun y => (ev? (tm.putO x v) y).isSome) = l.all fun y => (ev? tm y).isSome := by
    intro l
    induction l with
    | nil => intro _; rfl
    | cons y l ih => intro hl; simp only [List.all_cons]; rw [hl y (List.mem_cons_self ..), ih (fun z hz => hl z (List.mem_cons_of_mem _ hz))]
  exact this _ (fun y hy => look_ev h y (by simpa using hy))
theorem look_exec (hp : plainOp o) : execOp (ev (tm.putO x v)) o = execOp (ev tm) o :=
  execOp_congr o hp.1 fun y hy => by unfold ev; rw [look_ev h y hy]
theorem look_want : wantB ops (tm.putO x v) o = wantB ops tm o := by
  unfold wantB
  cases hg : o.guard with
  | none => rfl
  | some jw =>
    obtain ⟨j, want⟩ := jw
    simp only
    cases hj : (ops[j]?).bind (·.dst) with
    | none => rfl
    | some d =>
      simp only
      have : (tm.putO x v) d = tm d := by
        cases x with
        | none => rfl
        | some e =>
          refine put_at tm v (fun he => h e rfl ?_)
          subst he
          exact List.mem_append_right _ (by rw [hg]; simp [hj])
      rw [this]
theorem look_rd (hp : plainOp o) (hh : Hp) (u : Value) : RdS P o (tm.putO x v) hh u = RdS P o tm hh u := by unfold RdS; rw [look_exec h hp]
theorem look_ef (hp : plainOp o) (hh : Hp) (K : Value → Hp → Prop) : EfS P o (tm.putO x v) hh K = EfS P o tm hh K := by unfold EfS; rw [look_exec h hp]
end
/-- Two operations that do not look at one another. -/
def Apart (ops : Array Oper) (i j : Nat) : Prop := ∀ oi oj, ops[i]? = some oi → ops[j]? = some oj → oi.apart ops oj = true

/-- A read, or an operation that is passed over, may be taken first. -/
theorem dW_first {Q : Tm → Hp → Prop} {i : Nat} {oi : Oper} (hoi : ops[i]? = some oi) (hki : okDst n oi.dst = true) : ∀ (pre post : List Nat) (tm : Tm) (h : Hp) (past : Past) (reads : Reads),
    (∀ j ∈ pre, Apart ops i j) → (∀ j ∈ pre, Pr ops j i = false) → (wantB ops tm oi = some false ∨ isE P oi = false) → dW P ops n Q (pre ++ i :: post) tm h past reads →
    ∃ v, ((wantB ops tm oi = some false ∧ v = undef) ∨ (wantB ops tm oi = some true ∧ plainOp oi ∧ definedB tm oi = true ∧ ∀ hp, hp = h ∨ (∃ e, (e, hp) ∈ past ∧ Pr ops e i = false) → RdS P oi tm hp v)) ∧
      dW P ops n Q (pre ++ post) (tm.putO oi.dst v) h past reads
  | [], post, tm, h, past, reads, _, _, hE, hh => by
    obtain ⟨o, ho, hk, hh⟩ := hh
    obtain rfl : oi = o := Option.some.inj (hoi.symm.trans ho)
    rcases hh with ⟨hw, hh⟩ | ⟨hw, h1, h2, hh⟩
    · exact ⟨undef, .inl ⟨hw, rfl⟩, hh⟩
    · rcases hh with ⟨he, v, hv, hh⟩ | ⟨he, hh⟩
      · exact ⟨v, .inr ⟨hw, h1, h2, hv⟩, dW_mono _ _ _ _ _ _ _ (fun _ h => h) (fun h' i' hall j r hr => hall j r (List.mem_cons_of_mem _ hr)) hh⟩
      · rcases hE with hE | hE
        · rw [hw] at hE; cases hE
        · rw [he] at hE; cases hE
  | j :: pre, post, tm, h, past, reads, hap, hnp, hE, hh => by
    obtain ⟨oj, hoj, hk, hh⟩ := hh
    have hA := hap j (List.mem_cons_self ..) oi oj hoi hoj
    obtain ⟨a1, a2, a3⟩ := Oper.apart_spec hA
    have hrest : ∀ k ∈ pre, Apart ops i k := fun k hk => hap k (List.mem_cons_of_mem _ hk)
    have hrp : ∀ k ∈ pre, Pr ops k i = false := fun k hk => hnp k (List.mem_cons_of_mem _ hk)
    have wi : ∀ u, wantB ops (tm.putO oj.dst u) oi = wantB ops tm oi := fun u => look_want a3
    have di : ∀ u, definedB (tm.putO oj.dst u) oi = definedB tm oi := fun u => look_defined a3
    have wj : ∀ u, wantB ops (tm.putO oi.dst u) oj = wantB ops tm oj := fun u => look_want a1
    have dj : ∀ u, definedB (tm.putO oi.dst u) oj = definedB tm oj := fun u => look_defined a1
    have comm : ∀ v u, (tm.putO oj.dst u).putO oi.dst v = (tm.putO oi.dst v).putO oj.dst u := fun v u => (putO_comm tm v u a2).symm
    rcases hh with ⟨hw, hh⟩ | ⟨hw, h1, h2, hh⟩
    · obtain ⟨v, hv, hd⟩ := dW_first hoi hki pre post _ h past reads hrest hrp (by rw [wi]; exact hE) hh
      rw [wi, di] at hv
      refine ⟨v, ?_, oj, hoj, hk, .inl ⟨by rw [wj]; exact hw, by rw [← comm]; exact hd⟩⟩
      rcases hv with hv | ⟨b1, b2, b3, b4⟩
      · exact .inl hv
      · exact .inr ⟨b1, b2, b3, fun q hq => by have := b4 q hq; rwa [look_rd a3 b2] at this⟩
    · rcases hh with ⟨he, u, hu, hh⟩ | ⟨he, hh⟩
      · obtain ⟨v, hv, hd⟩ := dW_first hoi hki pre post _ h past _ hrest hrp (by rw [wi]; exact hE) hh
        rw [wi, di] at hv
        refine ⟨v, ?_, oj, hoj, hk, .inr ⟨by rw [wj]; exact hw, h1, by rw [dj]; exact h2, .inl ⟨he, u, fun q hq => by rw [look_rd a1 h1]; exact hu q hq, ?_⟩⟩⟩
        · rcases hv with hv | ⟨b1, b2, b3, b4⟩
          · exact .inl hv
          · exact .inr ⟨b1, b2, b3, fun q hq => by have := b4 q hq; rwa [look_rd a3 b2] at this⟩
        · rw [← comm]
          have e : (fun h' => RdS P oj (tm.putO oi.dst v) h' u) = fun h' => RdS P oj tm h' u := funext fun h' => look_rd a1 h1 h' u
          rw [e]; exact hd
      · -- an effect: what is read behind it could be read ahead
        have key : EfS P oj tm h (fun u h' => (∀ j' r, (j', r) ∈ reads → Pr ops j' j = false → r h') ∧ ∃ v, ((wantB ops tm oi = some false ∧ v = undef) ∨ (wantB ops tm oi = some true ∧ plainOp oi ∧ definedB tm oi = true ∧ ∀ hp, hp = h' ∨ (∃ e, (e, hp) ∈ (j, h) :: past ∧ Pr ops e i = false) → RdS P oi tm hp v)) ∧
            dW P ops n Q (pre ++ post) ((tm.putO oi.dst v).putO oj.dst u) h' ((j, h) :: past) reads) := by
          refine hh.mono fun u h' ⟨hall, hd⟩ => ⟨hall, ?_⟩
          obtain ⟨v, hv, hd'⟩ := dW_first hoi hki pre post _ h' ((j, h) :: past) reads hrest hrp (by rw [wi]; exact hE) hd
          rw [wi, di] at hv
          rw [comm] at hd'
          refine ⟨v, ?_, hd'⟩
          rcases hv with hv | ⟨b1, b2, b3, b4⟩
          · exact .inl hv
          · exact .inr ⟨b1, b2, b3, fun q hq => by have := b4 q hq; rwa [look_rd a3 b2] at this⟩
        obtain ⟨u0, h0, _, v0, hv0, _⟩ := key.some
        have hv0' : (wantB ops tm oi = some false ∧ v0 = undef) ∨ (wantB ops tm oi = some true ∧ plainOp oi ∧ definedB tm oi = true ∧ ∀ hp, hp = h ∨ (∃ e, (e, hp) ∈ past ∧ Pr ops e i = false) → RdS P oi tm hp v0) :=
          hv0.imp id fun ⟨b1, b2, b3, b4⟩ => ⟨b1, b2, b3, fun q hq => b4 q (.inr (hq.elim (fun e => ⟨j, by rw [e]; exact List.mem_cons_self .., hnp j (List.mem_cons_self ..)⟩) (fun ⟨e, h3, h4⟩ => ⟨e, List.mem_cons_of_mem _ h3, h4⟩)))⟩
        refine ⟨v0, hv0', oj, hoj, hk, .inr ⟨by rw [wj]; exact hw, h1, by rw [dj]; exact h2, .inr ⟨he, ?_⟩⟩⟩
        rw [look_ef a1 h1]
        refine key.mono fun u h' ⟨hall, v, hv, hd⟩ => ⟨hall, ?_⟩
        have : v = v0 := by
          rcases hv with ⟨c1, c2⟩ | ⟨c1, _, _, c4⟩
          · rcases hv0' with ⟨d1, d2⟩ | ⟨d1, _⟩
            · rw [c2, d2]
            · rw [c1] at d1; cases d1
          · rcases hv0' with ⟨d1, _⟩ | ⟨_, _, _, d4⟩
            · rw [c1] at d1; cases d1
            · exact (c4 h (.inr ⟨j, List.mem_cons_self .., hnp j (List.mem_cons_self ..)⟩)).uniq (d4 h (.inl rfl))
        rw [← this]; exact hd
/-- An effect may be taken first, if no other stands ahead of it. -/
theorem dW_effect {Q : Tm → Hp → Prop} {i : Nat} {oi : Oper} (hoi : ops[i]? = some oi) : ∀ (pre post : List Nat) (tm : Tm) (h : Hp) (past : Past) (reads : Reads),
    (∀ j ∈ pre, Apart ops i j) → (∀ j ∈ pre, Pr ops j i = false) → (∀ j ∈ pre, ∀ oj, ops[j]? = some oj → isE P oj = false) → wantB ops tm oi = some true → isE P oi = true → dW P ops n Q (pre ++ i :: post) tm h past reads →
    plainOp oi ∧ definedB tm oi = true ∧ EfS P oi tm h (fun v h' => (∀ j r, (j, r) ∈ reads → Pr ops j i = false → r h') ∧ dW P ops n Q (pre ++ post) (tm.putO oi.dst v) h' [] reads)
  | [], post, tm, h, past, reads, _, _, _, hwi, hE, hh => by
    obtain ⟨o, ho, hk, hh⟩ := hh
    obtain rfl : oi = o := Option.some.inj (hoi.symm.trans ho)
    rcases hh with ⟨hw, hh⟩ | ⟨hw, h1, h2, hh⟩
    · rw [hwi] at hw; cases hw
    · rcases hh with ⟨he, _⟩ | ⟨he, hh⟩
      · rw [he] at hE; cases hE
      · exact ⟨h1, h2, hh.mono fun v h' ⟨hall, hd⟩ => ⟨hall, dW_mono _ _ _ _ _ _ _ (fun _ h => by cases h) (fun _ _ h => h) hd⟩⟩
  | j :: pre, post, tm, h, past, reads, hap, hnp, hne, hwi, hE, hh => by
    obtain ⟨oj, hoj, hk, hh⟩ := hh
    have hA := hap j (List.mem_cons_self ..) oi oj hoi hoj
    obtain ⟨a1, a2, a3⟩ := Oper.apart_spec hA
    have hrest : ∀ k ∈ pre, Apart ops i k := fun k hk => hap k (List.mem_cons_of_mem _ hk)
    have hne' : ∀ k ∈ pre, ∀ ok, ops[k]? = some ok → isE P ok = false := fun k hk => hne k (List.mem_cons_of_mem _ hk)
    have hrp : ∀ k ∈ pre, Pr ops k i = false := fun k hk => hnp k (List.mem_cons_of_mem _ hk)
    have wi : ∀ u, wantB ops (tm.putO oj.dst u) oi = wantB ops tm oi := fun u => look_want a3
    have di : ∀ u, definedB (tm.putO oj.dst u) oi = definedB tm oi := fun u => look_defined a3
    have wj : ∀ u, wantB ops (tm.putO oi.dst u) oj = wantB ops tm oj := fun u => look_want a1
    have dj : ∀ u, definedB (tm.putO oi.dst u) oj = definedB tm oj := fun u => look_defined a1
    have comm : ∀ v u, (tm.putO oj.dst u).putO oi.dst v = (tm.putO oi.dst v).putO oj.dst u := fun v u => (putO_comm tm v u a2).symm
    have hje := hne j (List.mem_cons_self ..) oj hoj
    rcases hh with ⟨hw, hh⟩ | ⟨hw, h1, h2, hh⟩
    · obtain ⟨b1, b2, b3⟩ := dW_effect hoi pre post _ h past reads hrest hrp hne' (by rw [wi]; exact hwi) hE hh
      rw [di] at b2
      rw [look_ef a3 b1] at b3
      exact ⟨b1, b2, b3.mono fun v h' ⟨hall, hd⟩ => ⟨hall, oj, hoj, hk, .inl ⟨by rw [wj]; exact hw, by rw [← comm]; exact hd⟩⟩⟩
    · rcases hh with ⟨he, u, hu, hh⟩ | ⟨he, hh⟩
      · obtain ⟨b1, b2, b3⟩ := dW_effect hoi pre post _ h past _ hrest hrp hne' (by rw [wi]; exact hwi) hE hh
        rw [di] at b2
        rw [look_ef a3 b1] at b3
        refine ⟨b1, b2, b3.mono fun v h' ⟨hall, hd⟩ => ⟨fun j' r hr => hall j' r (List.mem_cons_of_mem _ hr), oj, hoj, hk, .inr ⟨by rw [wj]; exact hw, h1, by rw [dj]; exact h2, .inl ⟨he, u, fun q hq => ?_, ?_⟩⟩⟩⟩
        · rw [look_rd a1 h1]
          rcases hq with rfl | hq
          · exact hall _ _ (List.mem_cons_self ..) (hnp j (List.mem_cons_self ..))
          · obtain ⟨_, hq, _⟩ := hq; cases hq
        · rw [← comm]
          have e : (fun h' => RdS P oj (tm.putO oi.dst v) h' u) = fun h' => RdS P oj tm h' u := funext fun h' => look_rd a1 h1 h' u
          rw [e]; exact hd
      · rw [hje] at he; cases he
theorem dW_want {Q : Tm → Hp → Prop} {i : Nat} {oi : Oper} (hoi : ops[i]? = some oi) : ∀ (pre post : List Nat) (tm : Tm) (h : Hp) (past : Past) (reads : Reads),
    (∀ j ∈ pre, Apart ops i j) → dW P ops n Q (pre ++ i :: post) tm h past reads → (wantB ops tm oi = some false ∨ wantB ops tm oi = some true) ∧ okDst n oi.dst = true
  | [], post, tm, h, past, reads, _, hh => by
    obtain ⟨o, ho, hk, hh⟩ := hh
    obtain rfl : oi = o := Option.some.inj (hoi.symm.trans ho)
    exact ⟨hh.imp (fun h => h.1) (fun h => h.1), hk⟩
  | j :: pre, post, tm, h, past, reads, hap, hh => by
    obtain ⟨oj, hoj, hk, hh⟩ := hh
    obtain ⟨a1, a2, a3⟩ := Oper.apart_spec (hap j (List.mem_cons_self ..) oi oj hoi hoj)
    have hrest : ∀ k ∈ pre, Apart ops i k := fun k hk => hap k (List.mem_cons_of_mem _ hk)
    have wi : ∀ u, wantB ops (tm.putO oj.dst u) oi = wantB ops tm oi := fun u => look_want a3
    rcases hh with ⟨hw, hh⟩ | ⟨hw, h1, h2, hh⟩
    · have := dW_want hoi pre post _ h past reads hrest hh; rwa [wi] at this
    · rcases hh with ⟨he, u, hu, hh⟩ | ⟨he, hh⟩
      · have := dW_want hoi pre post _ h past _ hrest hh; rwa [wi] at this
      · obtain ⟨u, h', _, hd⟩ := hh.some
        have := dW_want hoi pre post _ h' _ reads hrest hd; rwa [wi] at this
end
/-! ### What is looked at once -/
def backB (ops : Array Oper) : Bool := (List.range ops.size).all fun i => match ops[i]? with
  | none => true
  | some o => o.after.toList.all fun e => !Region.binds .any e || Nat.blt e.on i
def drawOK (P : Program) (ops : Array Oper) : Bool :=
  P.follows .mixedOrders && backB ops && (List.range ops.size).all fun i => (List.range i).all fun j =>
    match ops[i]?, ops[j]? with
    | some oi, some oj => (oi.apart ops oj || hasPred ops ops.size j i) && (!(isE P oi && isE P oj) || hasPred ops ops.size j i)
    | _, _ => true
section
variable {P : Program} {ops : Array Oper}
structure Closed (ops : Array Oper) (listed : Array Bool) : Prop where
  size : listed.size = ops.size
  closed : ∀ k o, ops[k]? = some o → listed.getD k false = true → ∀ e ∈ o.after, Region.binds .any e = true → listed.getD e.on false = true
theorem hasPred_listed {listed : Array Bool} (hc : Closed ops listed) : ∀ (f j i : Nat) (o : Oper), ops[i]? = some o → (∀ e ∈ o.after, Region.binds .any e = true → listed.getD e.on false = true) → hasPred ops f j i = true → listed.getD j false = true
  | 0, j, i, o, ho, hall, h => by cases h
  | f + 1, j, i, o, ho, hall, h => by
    simp only [hasPred, ho, Bool.or_eq_true, List.any_eq_true, Bool.and_eq_true] at h
    rcases h with ⟨e, he, hb, hj⟩ | ⟨e, he, hb, hj⟩
    · rw [← Nat.eq_of_beq_eq_true hj]; exact hall e (by simpa using he) hb
    · have hl := hall e (by simpa using he) hb
      have hlt : e.on < ops.size := by
        rw [← hc.size]
        rcases Nat.lt_or_ge e.on listed.size with h' | h'
        · exact h'
        · simp [Array.getElem?_eq_none h'] at hl
      have hoe : ops[e.on]? = some ops[e.on] := Array.getElem?_eq_getElem hlt
      exact hasPred_listed hc f j e.on _ hoe (hc.closed _ _ hoe hl) hj
theorem getD_ft {listed : Array Bool} {i : Nat} (h : i < listed.size) : listed.getD i true = listed.getD i false := by simp [h]
theorem getD_false_of {listed : Array Bool} {i : Nat} (h : listed.getD i false = true) : listed.getD i true = true := by
  rcases Nat.lt_or_ge i listed.size with h' | h'
  · rw [getD_ft h']; exact h
  · simp [Array.getElem?_eq_none h'] at h
theorem Closed.set {listed : Array Bool} (hc : Closed ops listed) {i : Nat} (hi : i ∈ Region.ready .any ops listed) : Closed ops (listed.setIfInBounds i true) := by
  obtain ⟨hun, oi, hoi, hall⟩ := mem_ready.1 hi
  refine ⟨by simp [hc.size], fun k o ho hl e he hb => ?_⟩
  by_cases hik : i = k
  · subst hik
    obtain rfl : oi = o := Option.some.inj (hoi.symm.trans ho)
    exact getD_set_true (hall e he hb)
  · rw [getD_set_ne false hik] at hl
    exact getD_set_true (hc.closed k o ho hl e he hb)
structure Rem (ops : Array Oper) (listed : Array Bool) (rem : List Nat) : Prop where
  sorted : rem.Pairwise (· < ·)
  mem : ∀ i, i ∈ rem ↔ (i < ops.size ∧ listed.getD i true = false)
theorem dW_sound {ds : List Deferred} {n m : Nat} {ρ : Option Nat} {Q : Tm → Hp → Prop} {Q' : Exit → Act → World → Prop} {w0 : World} (hOK : drawOK P ops = true) (hQ : ∀ a w, LQ ds w0 n Q a w → Q' .normal a w) :
    ∀ (fuel : Nat) (listed : Array Bool) (rem : List Nat) (tm : Tm) (a : Act) (w : World), Closed ops listed → Rem ops listed rem → fuel = rem.length → dW P ops n Q rem tm w.heap [] [] → Le ds tm a → a.tmps.size = n → Same w0 w →
      wpAnyIn (FW ρ) m P .any ops Q' fuel listed a w := by
  simp only [drawOK, Bool.and_eq_true] at hOK
  obtain ⟨⟨_, hback⟩, hpairs⟩ := hOK
  have back : ∀ i o, ops[i]? = some o → ∀ e ∈ o.after, Region.binds .any e = true → e.on < i := by
    intro i o ho e he hb
    have hi : i < ops.size := (Array.getElem?_eq_some_iff.1 ho).1
    have h1 := List.all_eq_true.1 hback i (List.mem_range.2 hi)
    rw [ho] at h1
    have h2 := List.all_eq_true.1 h1 e (by simpa using he)
    rw [hb] at h2
    simpa using h2
  have pair : ∀ i j oi oj, j < i → ops[i]? = some oi → ops[j]? = some oj → (oi.apart ops oj = true ∨ hasPred ops ops.size j i = true) ∧ (isE P oi = true → isE P oj = true → hasPred ops ops.size j i = true) := by
    intro i j oi oj hji hoi hoj
    have hi : i < ops.size := (Array.getElem?_eq_some_iff.1 hoi).1
    have h1 := List.all_eq_true.1 (List.all_eq_true.1 hpairs i (List.mem_range.2 hi)) j (List.mem_range.2 hji)
    rw [hoi, hoj] at h1
    simp only [Bool.and_eq_true, Bool.or_eq_true] at h1
    refine ⟨h1.1, fun e1 e2 => ?_⟩
    rcases h1.2 with h | h
    · simp [e1, e2] at h
    · exact h
  intro fuel
  induction fuel with
  | zero =>
    intro listed rem tm a w hc hr hf hd hl hz hs
    have : rem = [] := List.eq_nil_of_length_eq_zero hf.symm
    subst this
    refine ⟨?_, hQ a w ⟨tm, hl, hz, hs, hd⟩⟩
    refine List.eq_nil_iff_forall_not_mem.2 fun i hi => ?_
    obtain ⟨hun, oi, hoi, _⟩ := mem_ready.1 hi
    exact (List.not_mem_nil (a := i)) ((hr.mem i).2 ⟨(Array.getElem?_eq_some_iff.1 hoi).1, hun⟩)
  | succ fuel ih =>
    intro listed rem tm a w hc hr hf hd hl hz hs
    refine ⟨fun hnil => ?_, fun i hi => ?_⟩
    · exfalso
      cases rem with
      | nil => cases hf
      | cons i0 rest =>
        obtain ⟨hlt, hun⟩ := (hr.mem i0).1 (List.mem_cons_self ..)
        have hoi : ops[i0]? = some ops[i0] := Array.getElem?_eq_getElem hlt
        have : i0 ∈ Region.ready .any ops listed := mem_ready.2 ⟨hun, _, hoi, fun e he hb => by
          have h1 := back i0 _ hoi e he hb
          have h2 : e.on ∉ i0 :: rest := fun hm => by
            rcases List.mem_cons.1 hm with h | h
            · omega
            · have := List.rel_of_pairwise_cons hr.sorted h; omega
          have h3 : ¬ (listed.getD e.on true = false) := fun h => h2 ((hr.mem e.on).2 ⟨by omega, h⟩)
          rw [← getD_ft (by rw [hc.size]; omega)]
          simpa using h3⟩
        rw [hnil] at this
        cases this
    · obtain ⟨hun, oi, hoi, hall⟩ := mem_ready.1 hi
      have hlt : i < ops.size := (Array.getElem?_eq_some_iff.1 hoi).1
      have himem : i ∈ rem := (hr.mem i).2 ⟨hlt, hun⟩
      obtain ⟨pre, post, rfl⟩ := List.append_of_mem himem
      have hpre : ∀ j ∈ pre, j < i := fun j hj => (List.pairwise_append.1 hr.sorted).2.2 j hj i (List.mem_cons_self ..)
      have hprel : ∀ j ∈ pre, hasPred ops ops.size j i = false := by
        intro j hj
        cases hp : hasPred ops ops.size j i with
        | false => rfl
        | true =>
          have h1 := hasPred_listed hc ops.size j i oi hoi hall hp
          have h2 := ((hr.mem j).1 (List.mem_append_left _ hj)).2
          rw [getD_false_of h1] at h2
          cases h2
      have hap : ∀ j ∈ pre, Apart ops i j := by
        intro j hj oi' oj h1 h2
        have := (pair i j oi' oj (hpre j hj) h1 h2).1
        rw [hprel j hj] at this
        simpa using this
      obtain ⟨hwant, hki⟩ := dW_want hoi pre post tm w.heap [] [] hap hd
      have hr' : Rem ops (listed.setIfInBounds i true) (pre ++ post) := by
        obtain ⟨s1, s2, s3⟩ := List.pairwise_append.1 hr.sorted
        obtain ⟨s4, s5⟩ := List.pairwise_cons.1 s2
        refine ⟨List.pairwise_append.2 ⟨s1, s5, fun x hx y hy => s3 x hx y (List.mem_cons_of_mem _ hy)⟩, fun k => ?_⟩
        by_cases hik : i = k
        · subst hik
          refine ⟨fun hm => ?_, fun ⟨_, h⟩ => ?_⟩
          · rcases List.mem_append.1 hm with h | h
            · have := hpre i h; omega
            · have := s4 i h; omega
          · have : i < listed.size := by rw [hc.size]; exact hlt
            simp [this] at h
        · rw [getD_set_ne true hik, ← hr.mem k]
          simp only [List.mem_append, List.mem_cons]
          constructor
          · rintro (h | h)
            · exact .inl h
            · exact .inr (.inr h)
          · rintro (h | h | h)
            · exact .inl h
            · exact absurd h.symm hik
            · exact .inr h
      have hlen : fuel = (pre ++ post).length := by simp at hf ⊢; omega
      have hc' := hc.set hi
      unfold wpOpIn
      simp only [hoi]
      have first : (wantB ops tm oi = some false ∨ isE P oi = false) → (if Region.wanted oi (yielded ops a.tmps) = true then oi.wpIn (FW ρ) m P a w (wpAnyIn (FW ρ) m P .any ops Q' fuel (listed.setIfInBounds i true)) Q'
          else (∀ f, oi.about P w a.eval = some f → (FW ρ).fn f) ∧ wpAnyIn (FW ρ) m P .any ops Q' fuel (listed.setIfInBounds i true) (a.put oi.dst undef) w) := by
        intro hE
        obtain ⟨v, hv, hd'⟩ := dW_first hoi hki pre post tm w.heap [] [] hap hprel hE hd
        obtain ⟨p1, p2⟩ := putO_le hl hz hki v
        have hnext := ih _ _ _ _ w hc' hr' hlen hd' p1 p2 hs
        rcases hv with ⟨h1, rfl⟩ | ⟨h1, h2, h3, h4⟩
        · rw [wanted_of_wantB hl h1]
          simp only [Bool.false_eq_true, if_false]
          exact ⟨fun _ _ => trivial, hnext⟩
        · rw [wanted_of_wantB hl h1]
          simp only [if_true]
          exact wpIn_rd h2 h3 hl (h4 _ (.inl rfl)) hnext
      rcases hwant with hw | hw
      · exact first (.inl hw)
      · cases hE : isE P oi with
        | false => exact first (.inr hE)
        | true =>
          have hne : ∀ j ∈ pre, ∀ oj, ops[j]? = some oj → isE P oj = false := by
            intro j hj oj hoj
            cases he : isE P oj with
            | false => rfl
            | true =>
              have := (pair i j oi oj (hpre j hj) hoi hoj).2 hE he
              rw [hprel j hj] at this
              cases this
          obtain ⟨h1, h2, h3⟩ := dW_effect hoi pre post tm w.heap [] [] hap hprel hne hw hE hd
          rw [wanted_of_wantB hl hw]
          simp only [if_true]
          refine wpIn_ef h1 h2 hl h3 (fun v w' hs2 hK => ?_)
          obtain ⟨p1, p2⟩ := putO_le hl hz hki v
          exact ih _ _ _ _ w' hc' hr' hlen hK.2 p1 p2 (hs.trans hs2)
end
/-! ### The reading as it is printed -/
theorem allHV_all {P : Program} {pr : Nat → Nat → Bool} {i : Nat} {s : Sem Value} {v : Value} {X : Prop} : ∀ (past : Past), allHV P pr i s v past X → (∀ e hp, (e, hp) ∈ past → pr e i = false → HV P s hp v) ∧ X
  | [], h => ⟨(fun _ _ h => by cases h), h⟩
  | (e, p) :: past, h => by
    rw [allHV] at h
    cases hp : pr e i with
    | true =>
      rw [hp] at h
      obtain ⟨h3, h4⟩ := allHV_all past h
      refine ⟨fun e' q hq hn => ?_, h4⟩
      rcases List.mem_cons.1 hq with hq | hq
      · injection hq with q1 q2; subst q1; rw [hp] at hn; cases hn
      · exact h3 e' q hq hn
    | false =>
      rw [hp] at h
      obtain ⟨h3, h4⟩ := allHV_all past h.2
      refine ⟨fun e' q hq hn => ?_, h4⟩
      rcases List.mem_cons.1 hq with hq | hq
      · injection hq with q1 q2; subst q2; exact h.1
      · exact h3 e' q hq hn
theorem allR_all {pr : Nat → Nat → Bool} {i : Nat} {X : Prop} {h : Hp} : ∀ (reads : Reads), allR pr i reads h X → (∀ j r, (j, r) ∈ reads → pr j i = false → r h) ∧ X
  | [], hh => ⟨(fun _ _ h => by cases h), hh⟩
  | (j, p) :: past, hh => by
    rw [allR] at hh
    cases hp : pr j i with
    | true =>
      rw [hp] at hh
      obtain ⟨h3, h4⟩ := allR_all past hh
      refine ⟨fun e' q hq hn => ?_, h4⟩
      rcases List.mem_cons.1 hq with hq | hq
      · injection hq with q1 q2; subst q1; rw [hp] at hn; cases hn
      · exact h3 e' q hq hn
    | false =>
      rw [hp] at hh
      obtain ⟨h3, h4⟩ := allR_all past hh.2
      refine ⟨fun e' q hq hn => ?_, h4⟩
      rcases List.mem_cons.1 hq with hq | hq
      · injection hq with q1 q2; subst q2; exact hh.1
      · exact h3 e' q hq hn
theorem asT_v {P : Program} {t : TypeId} {K : Value → Hp → Prop} {v : Value} {h : Hp} (ha : asT P t K v h) : K v h := by
  obtain ⟨u, hu, hK⟩ := exT_ex _ ha
  rw [hu]; exact hK
theorem semWp_pure (P : Program) {α : Type} (s : Sem α) (x : α) (h : Hp) (K : α → Hp → Prop) : pureRun P s = some x → K x h → semWp P s h K := by
  induction s with
  | pure b => intro e hK; simp [pureRun] at e; subst e; exact hK
  | program k ih => intro e hK; exact ih P e hK
  | mark m k ih => intro e hK; exact ih e hK
  | _ => intro e; simp [pureRun] at e
/-- One operation where the order is open. -/
theorem opD_step_draw {P : Program} {o : Oper} {tm : Tm} {h : Hp} {past : Past} {reads : Reads} {K : KD} {pr : Nat → Nat → Bool} {i : Nat} (hh : opD P true pr i o tm h past reads K) :
    plainOp o ∧ definedB tm o = true ∧
      ((isE P o = false ∧ ∃ v reads', (∀ hp, hp = h ∨ (∃ e, (e, hp) ∈ past ∧ pr e i = false) → RdS P o tm hp v) ∧ (∀ x, x ∈ reads' → x ∈ reads ∨ (x.1 = i ∧ ∀ h', RdS P o tm h' v → x.2 h')) ∧ (∀ x, x ∈ reads → x ∈ reads') ∧ ((i, fun h' => RdS P o tm h' v) ∈ reads' ∨ (∀ h', RdS P o tm h' v) ∨ ∃ r, (i, r) ∈ reads' ∧ ∀ h', r h' → RdS P o tm h' v) ∧ K v h past reads') ∨
       (isE P o = true ∧ EfS P o tm h (fun v h' => (∀ j r, (j, r) ∈ reads → pr j i = false → r h') ∧ K v h' ((i, h) :: past) reads))) := by
  unfold opD at hh
  cases hd : definedB tm o with
  | false => rw [hd] at hh; exact hh.elim
  | true =>
    rw [hd] at hh
    simp only at hh
    refine ⟨plain_of_cls (P := P) (fun hx => by rw [hx] at hh; exact hh), rfl, ?_⟩
    have pureCase : ∀ v, (∀ hp : Hp, RdS P o tm hp v) → isE P o = false → K v h past reads → _ := fun v hr hE hK =>
      (Or.inl ⟨hE, v, reads, fun hp _ => hr hp, fun x hx => .inl hx, fun x hx => hx, .inr (.inl hr), hK⟩ : ((isE P o = false ∧ ∃ v reads', (∀ hp, hp = h ∨ (∃ e, (e, hp) ∈ past ∧ pr e i = false) → RdS P o tm hp v) ∧ (∀ x, x ∈ reads' → x ∈ reads ∨ (x.1 = i ∧ ∀ h', RdS P o tm h' v → x.2 h')) ∧ (∀ x, x ∈ reads → x ∈ reads') ∧ ((i, fun h' => RdS P o tm h' v) ∈ reads' ∨ (∀ h', RdS P o tm h' v) ∨ ∃ r, (i, r) ∈ reads' ∧ ∀ h', r h' → RdS P o tm h' v) ∧ K v h past reads') ∨
       (isE P o = true ∧ EfS P o tm h (fun v h' => (∀ j r, (j, r) ∈ reads → pr j i = false → r h') ∧ K v h' ((i, h) :: past) reads))))
    have ef : ∀ {v : Value} {h' : Hp}, efK true pr i h past reads K v h' → (∀ j r, (j, r) ∈ reads → pr j i = false → r h') ∧ K v h' ((i, h) :: past) reads := fun hh => allR_all reads hh
    cases hc : cls P o <;> rw [hc] at hh <;> simp only at hh
    case a =>
      split at hh
      · rename_i v hv; exact pureCase v (fun hp => rd_of_pure hv) (by simp [isE, hc]) hh
      · exact hh.elim
    case n =>
      split at hh
      · rename_i x hx
        split at hh
        · rename_i p hp
          unfold drf at hh
          split at hh
          · rename_i a
            refine pureCase _ (fun _ => rd_of_pure ?_) (by simp [isE, hc]) hh
            simp only [execOp, hx, hp]
            rfl
          · exact hh.elim
        · split at hh
          · rename_i v hv; exact pureCase v (fun hp => rd_of_pure hv) (by simp [isE, hc]) hh
          · exact hh.elim
      · exact hh.elim
    case p =>
      obtain ⟨v, hv, hK⟩ := exT_ex _ hh
      exact pureCase v (fun hp => rd_of_HV (.inl hc) (fun w _ => hv w)) (by simp [isE, hc]) hK
    case b =>
      split at hh
      · rename_i op t x y yt hx
        split at hh
        · rename_i hg
          obtain ⟨v, hv, hK⟩ := exT_ex _ hh
          refine pureCase v (fun hp w _ => ?_) (by simp [isE, hc]) hK
          have h1 := guardB_run hg w
          have h2 := (show PV P _ v from hv) w
          simp only [opVal, hx] at h2
          simp [execOp, hx, h1, h2, Result.andThen]
        · exact hh.elim
      · exact hh.elim
    case l =>
      obtain ⟨v, hv, hK⟩ := exT_ex _ hh
      obtain ⟨hpast, hK⟩ := allHV_all past hK
      have hRH : ∀ h', RdS P o tm h' v → HV P (opVal (ev tm) o) h' v := by
        intro h' hr w hw
        have h1 := hr w hw
        rcases execOp_val P (ev tm) o (.inr (.inl hc)) with he | ⟨op, t, x, y, yt, he⟩
        · rw [he] at h1
          simp only [Sem.run_bind] at h1
          cases hq : (opVal (ev tm) o).run P w with
          | ok u w' =>
            rw [hq] at h1
            simp only [Result.andThen] at h1
            injection h1 with e1 e2
            injection e1 with e1
            rw [e1, e2]
          | halt x w' => rw [hq] at h1; simp [Result.andThen] at h1
        · rcases cls_binOp (P := P) he with h1 | h1 <;> rw [h1] at hc <;> cases hc
      refine .inl ⟨by simp [isE, hc], v, _, fun q hq => rd_of_HV (.inr hc) (hq.elim (fun e => by rw [e]; exact hv) (fun ⟨e, h3, h4⟩ => hpast e q h3 h4)), fun x hx => ?_, fun x hx => List.mem_cons_of_mem _ hx, .inr (.inr ⟨_, List.mem_cons_self .., fun h' a => rd_of_HV (.inr hc) a⟩), hK⟩
      rcases List.mem_cons.1 hx with rfl | hx
      · exact .inr ⟨rfl, fun h' => hRH h'⟩
      · exact .inl hx
    case u =>
      split at hh
      · rename_i t x y hx
        refine .inr ⟨by simp [isE, hc], ?_⟩
        unfold EfS
        simp only [execOp, hx]
        exact semWp_bind P _ _ h _ (semWp_mono P _ h (fun _ h' hk => ef hk) hh)
      · exact hh.elim
    case e => exact .inr ⟨by simp [isE, hc], ef_of_HW (.inl hc) (semWp_mono P _ h (fun v h' hk => ef hk) hh)⟩
    case w => exact .inr ⟨by simp [isE, hc], ef_of_HW (.inr hc) (semWp_mono P _ h (fun v h' ha => ef (asT_v ha)) hh)⟩
    case k =>
      split at hh
      · rename_i f args hf
        refine .inr ⟨by simp [isE, hc], ?_⟩
        unfold EfS
        exact semWp_pure P _ _ h _ hf (CallsH.mono hh (fun v h' ha => ef (asT_v ha)))
      · exact hh.elim
    case v =>
      split at hh
      · rename_i f args at_ hx
        refine .inr ⟨by simp [isE, hc], ?_⟩
        unfold EfS
        simp only [execOp, hx]
        have h3 := HN_mono (fun v h' ha => ef (asT_v ha)) hh
        have e : (do let d ← resolve (ev tm) { callee := .value f, args := args, argTypes := at_ } o.type; invoke d.target d.args) = callS (ev tm f) (argsL (ev tm) args) := by
          simp only [resolve, callS, argsL_eq]
        rw [e]
        exact h3
      · rename_i r m args at_ hx
        refine .inr ⟨by simp [isE, hc], ?_⟩
        unfold EfS
        simp only [execOp, hx]
        have h3 := HN_mono (fun v h' ha => ef (asT_v ha)) hh
        rw [invoke_eq]
        exact h3
      · exact hh.elim
theorem opsW_dW {P : Program} {ops : Array Oper} {n : Nat} {Q : Tm → Hp → Prop} : ∀ (l : List Nat) (tm : Tm) (h : Hp) (past : Past) (reads readsA : Reads),
    (∀ h' i, (∀ j r, (j, r) ∈ readsA → Pr ops j i = false → r h') ↔ (∀ j r, (j, r) ∈ reads → Pr ops j i = false → r h')) → opsW P ops n true Q l tm h past reads → dW P ops n Q l tm h past readsA
  | [], tm, h, past, reads, readsA, _, hh => hh
  | i :: rest, tm, h, past, reads, readsA, hiff, hh => by
    rw [opsW] at hh
    cases ho : ops[i]? with
    | none => rw [ho] at hh; exact hh.elim
    | some o =>
      rw [ho] at hh
      simp only at hh
      cases hk : okDst n o.dst with
      | false => rw [hk] at hh; exact hh.elim
      | true =>
        rw [hk] at hh
        simp only at hh
        have step : ∀ tm2, tm2 = tm → wantB ops tm o = some true → opD P true (hasPred ops ops.size) i o tm2 h past reads (fun v h' p r => opsW P ops n true Q rest (tm2.putO o.dst v) h' p r) → dW P ops n Q (i :: rest) tm h past readsA := by
          intro tm2 e hw hop
          subst e
          obtain ⟨h1, h2, h3⟩ := opD_step_draw hop
          refine ⟨o, ho, hk, .inr ⟨hw, h1, h2, ?_⟩⟩
          rcases h3 with ⟨hE, v, reads', hr, hto, hfrom, hself, hK⟩ | ⟨hE, h3⟩
          · refine .inl ⟨hE, v, hr, opsW_dW rest _ _ _ _ _ (fun h' i' => ⟨fun a j r hjr hpr => ?_, fun a j r hjr hpr => ?_⟩) hK⟩
            · rcases hto (j, r) hjr with h4 | ⟨h4, h5⟩
              · exact (hiff h' i').1 (fun j r hjr => a j r (List.mem_cons_of_mem _ hjr)) j r h4 hpr
              · simp only at h4 h5
                subst h4
                exact h5 h' (a _ _ (List.mem_cons_self ..) hpr)
            · rcases List.mem_cons.1 hjr with e | hjr
              · injection e with e1 e2
                subst e1 e2
                rcases hself with h4 | h4 | ⟨r', h4, h5⟩
                · exact a _ _ h4 hpr
                · exact h4 h'
                · exact h5 h' (a _ _ h4 hpr)
              · exact (hiff h' i').2 (fun j r hjr => a j r (hfrom _ hjr)) j r hjr hpr
          · exact .inr ⟨hE, h3.mono fun v h' ⟨hall, hK⟩ => ⟨(hiff h' i).2 hall, opsW_dW rest _ _ _ _ _ hiff hK⟩⟩
        have skip : ∀ tm2, tm2 = tm → wantB ops tm o = some false → opsW P ops n true Q rest (tm2.putO o.dst undef) h past reads → dW P ops n Q (i :: rest) tm h past readsA := by
          intro tm2 e hw hop
          subst e
          exact ⟨o, ho, hk, .inl ⟨hw, opsW_dW rest _ _ _ _ _ hiff hop⟩⟩
        cases hg : o.guard with
        | none =>
          rw [hg] at hh
          exact step tm rfl (by simp [wantB, hg]) hh
        | some jw =>
          obtain ⟨j, want⟩ := jw
          rw [hg] at hh
          simp only at hh
          cases hj : (ops[j]?).bind (·.dst) with
          | none => rw [hj] at hh; exact hh.elim
          | some d =>
            rw [hj] at hh
            simp only at hh
            cases ht : tm d with
            | none => rw [ht] at hh; exact hh.elim
            | some v =>
              rw [ht] at hh
              have hput : tm.put d v = tm := Tm.put_same ht
              have hwb : ∀ b, v = .bool b → wantB ops tm o = some (b == want) := fun b e => by simp [wantB, hg, hj, ht, e]
              cases v <;> first
                | (exact skip tm rfl (by simp [wantB, hg, hj, ht]) hh)
                | skip
              rename_i b
              cases b <;> cases want <;> simp only [br] at hh
              · exact step _ hput (hwb _ rfl) hh
              · exact skip _ hput (hwb _ rfl) hh
              · exact skip _ hput (hwb _ rfl) hh
              · exact step _ hput (hwb _ rfl) hh
theorem opsW_sound_draw {ds : List Deferred} {P : Program} {ops : Array Oper} {n m : Nat} {ρ : Option Nat} {id : Nat} {Q : Tm → Hp → Prop} {Q' : Exit → Act → World → Prop} {w0 : World} (hQ : ∀ a w, LQ ds w0 n Q a w → Q' .normal a w) (hOK : drawOK P ops = true)
    {tm : Tm} {a : Act} {w : World} (h : opsW P ops n true Q (List.range ops.size) tm w.heap [] []) (hl : Le ds tm a) (hz : a.tmps.size = n) (hs : Same w0 w) : (Code.region id ops true).wpIn (FW ρ) m P Q' a w := by
  have hm : P.follows .mixedOrders = true := by
    simp only [drawOK, Bool.and_eq_true] at hOK
    exact hOK.1.1
  refine wpIn_region_any hm ?_
  have h1 := opsW_dW _ tm w.heap [] [] [] (fun _ _ => Iff.rfl) h
  refine dW_sound hOK hQ ops.size (Array.replicate ops.size false) (List.range ops.size) tm a _ ⟨by simp, fun k o ho hl => ?_⟩ ⟨List.pairwise_lt_range, fun i => ?_⟩ (by simp) h1 hl hz ⟨hs.os, hs.tape, hs.output, trivial⟩
  · exfalso
    rcases Nat.lt_or_ge k ops.size with h | h <;> simp [h] at hl
  · rw [List.mem_range]
    constructor
    · intro h; exact ⟨h, by simp [h]⟩
    · exact fun h => h.1
end Go.Proofs.YtfdpccbajaiepaaGreatDoor.Sx

/- Whole functions over the heap alone: blocks, branches, loops (each by a word of its own), joins (each by a word of its own), and the end. -/
namespace Go.Proofs.YtfdpccbajaiepaaGreatDoor.Sx
open Go
set_option linter.unusedVariables false
set_option linter.unusedSimpArgs false

abbrev Qx := Exit → Tm → Hp → Prop
def thenQ (K : Tm → Hp → Prop) (Q : Qx) : Qx
  | .normal, tm, h => K tm h
  | e, tm, h => Q e tm h
def blkQ (id : Nat) (Q : Qx) : Qx
  | .exit i, tm, h => match Nat.beq i id with
    | true => Q .normal tm h
    | false => Q (.exit i) tm h
  | e, tm, h => Q e tm h
def noGotoQ (Q : Qx) : Qx
  | .goto _, _, _ => False
  | e, tm, h => Q e tm h
def litO (c : Operand) (b : Bool) (tm : Tm) : Tm := match c with
  | .tmp t => tm.put t (.bool b)
  | _ => tm
def codeWp (P : Program) (n : Nat) (lp : Nat → Qx → Tm → Hp → Prop) (cut : Nat → Option (List Nat)) : Code → Nat → Qx → Tm → Hp → Prop
  | .skip, _, Q, tm, h => Q .normal tm h
  | .region _ ops dr, _, Q, tm, h => match dr with
    | false => opsW P ops n false (fun tm h => Q .normal tm h) (List.range ops.size) tm h [] []
    | true => match drawOK P ops with
      | true => opsW P ops n true (fun tm h => Q .normal tm h) (List.range ops.size) tm h [] []
      | false => False
  | .seq a b, i, Q, tm, h => codeWp P n lp cut a (2 * i) (thenQ (fun tm' h' => match cut i with
      | none => codeWp P n lp cut b (2 * i + 1) Q tm' h'
      | some live => lp i Q (mask live tm') h') Q) tm h
  | .cond c a b, i, Q, tm, h => match ev? tm c with
    | some (.bool x) => br x (codeWp P n lp cut a (2 * i) Q (litO c true tm) h) (codeWp P n lp cut b (2 * i + 1) Q (litO c false tm) h)
    | _ => False
  | .block id c, i, Q, tm, h => codeWp P n lp cut c (2 * i) (blkQ id Q) tm h
  | .loop _, i, Q, tm, h => lp i Q tm h
  | .rangeFunc .., i, Q, tm, h => lp i Q tm h
  | .exit id, _, Q, tm, h => Q (.exit id) tm h
  | .scope c, i, Q, tm, h => match cut i with
    | none => codeWp P n lp cut c (2 * i) (noGotoQ Q) tm h
    | some _ => lp i Q tm h
  | .label _, _, Q, tm, h => Q .normal tm h
  | .goto l, _, Q, tm, h => Q (.goto l) tm h
  | .ret, _, Q, tm, h => Q .ret tm h
  | .refuse _, _, _, _, _ => False
def LE (ds : List Deferred) (w0 : World) (n : Nat) (Q : Qx) (e : Exit) (a : Act) (w : World) : Prop := LQ ds w0 n (Q e) a w
/-- A word for a piece of code is right. -/
def SndAt (P : Program) (n : Nat) (ρ : Option Nat) (c : Code) (R : Qx → Tm → Hp → Prop) : Prop :=
  ∀ (ds : List Deferred) (Q : Qx) (tm : Tm) (a : Act) (w w0 : World), R Q tm w.heap → Le ds tm a → a.tmps.size = n → Same w0 w → ∀ m, c.wpIn (FW ρ) m P (LE ds w0 n Q) a w
theorem stepR_scope' {P : Program} {b : Frame} {a : Act} {k : List Item} {cs : List Frame} {w : World} {c : Code} :
    step P (lone (b.atR a (.code (.scope c) :: k)) cs w) = .next (lone (b.atR a (.code c :: .inScope c :: k)) cs w) :=
  step_lone_go (by simp [stepG, stepG.exec, Frame.atR])
theorem stepR_inScope' {P : Program} {b : Frame} {a : Act} {k : List Item} {cs : List Frame} {w : World} {c : Code} :
    step P (lone (b.atR a (.inScope c :: k)) cs w) = .next (lone (b.atR a k) cs w) :=
  step_lone_go (by simp [stepG, stepG.exec, Frame.atR])
theorem wpIn_scope_straight {F : Fence} {m : Nat} {P : Program} {c : Code} {Q : Exit → Act → World → Prop} {a : Act} {w : World} (h : c.wpIn F m P (Exit.noGoto Q) a w) : (Code.scope c).wpIn F m P Q a w := by
  intro b k cs hro hb hr
  have h0 : (lone (b.atR a (.code (.scope c) :: k)) cs w).fenced P F := fenced_calm hb hr rfl
  obtain ⟨e, a₁, w₁, hq, harr⟩ := h b (.inScope c :: k) cs hro hb hr
  cases e with
  | normal => exact ⟨.normal, a₁, w₁, hq, .head h0 stepR_scope' (StepsIn.trans harr (.one (fenced_calm hb hr rfl) stepR_inScope'))⟩
  | exit id =>
    have hx : exitTo id (.inScope c :: k) = exitTo id k := by simp [exitTo]
    exact ⟨.exit id, a₁, w₁, hq, fun k' hk => .head h0 stepR_scope' (harr.1 k' (by rw [hx]; exact hk)),
      fun hr' hk => let ⟨k₁, h1, h2⟩ := harr.2 hr' (by rw [hx]; exact hk); ⟨k₁, h1, .head h0 stepR_scope' h2⟩⟩
  | goto l => exact hq.elim
  | ret => exact ⟨_, a₁, w₁, hq, .of_steps (.one h0 stepR_scope') harr⟩
  | panic ch => exact ⟨_, a₁, w₁, hq, .of_steps (.one h0 stepR_scope') harr⟩
  | outgrown => exact ⟨_, a₁, w₁, hq, .of_steps (.one h0 stepR_scope') harr⟩
def Good (P : Program) (n : Nat) (ρ : Option Nat) (lp : Nat → Qx → Tm → Hp → Prop) (cut : Nat → Option (List Nat)) : Code → Nat → Prop
  | .seq a b, i => Good P n ρ lp cut a (2 * i) ∧ (match cut i with
    | none => Good P n ρ lp cut b (2 * i + 1)
    | some _ => SndAt P n ρ b (lp i))
  | .cond _ a b, i => Good P n ρ lp cut a (2 * i) ∧ Good P n ρ lp cut b (2 * i + 1)
  | .block _ c, i => Good P n ρ lp cut c (2 * i)
  | .scope c, i => match cut i with
    | none => Good P n ρ lp cut c (2 * i)
    | some _ => SndAt P n ρ (.scope c) (lp i)
  | .loop c, i => SndAt P n ρ (.loop c) (lp i)
  | .rangeFunc f ps as9 c, i => SndAt P n ρ (.rangeFunc f ps as9 c) (lp i)
  | _, _ => True
theorem LE_mono {ds : List Deferred} {w0 : World} {n : Nat} {Q Q' : Qx} (h : ∀ e tm h, Q e tm h → Q' e tm h) : ∀ e a w, LE ds w0 n Q e a w → LE ds w0 n Q' e a w :=
  fun e a w ⟨tm, h1, h2, h3, h4⟩ => ⟨tm, h1, h2, h3, h _ _ _ h4⟩
theorem codeWp_sound {P : Program} {n : Nat} {ρ : Option Nat} {lp : Nat → Qx → Tm → Hp → Prop} {cut : Nat → Option (List Nat)} : ∀ (c : Code) (i : Nat), Good P n ρ lp cut c i → SndAt P n ρ c (codeWp P n lp cut c i)
  | .skip, i, hg => fun ds Q tm a w w0 h hl hz hs m => wpIn_skip ⟨tm, hl, hz, hs, h⟩
  | .region id ops dr, i, hg => fun ds Q tm a w w0 h hl hz hs m => by
    cases dr with
    | false => exact opsW_sound (Q := fun tm h => Q .normal tm h) (fun a w h => h) h hl hz hs
    | true =>
      rw [codeWp] at h
      cases hd : drawOK P ops with
      | false => rw [hd] at h; exact h.elim
      | true => rw [hd] at h; exact opsW_sound_draw (Q := fun tm h => Q .normal tm h) (fun a w h => h) hd h hl hz hs
  | .seq x y, i, hg => fun ds Q tm a w w0 h hl hz hs m => by
    refine wpIn_seq (wpIn_mono (codeWp_sound x (2 * i) hg.1 ds _ tm a w w0 h hl hz hs m) (fun e a' w' ⟨tm', h1, h2, h3, h4⟩ => ?_))
    have hy : SndAt P n ρ y (fun Q tm' h' => match cut i with
      | none => codeWp P n lp cut y (2 * i + 1) Q tm' h'
      | some live => lp i Q (mask live tm') h') := by
      have hg2 := hg.2
      cases hc : cut i with
      | none => rw [hc] at hg2; exact codeWp_sound y (2 * i + 1) hg2
      | some live => rw [hc] at hg2; exact fun ds Q tm a w w0 h hl hz hs m => hg2 ds Q (mask live tm) a w w0 h (hl.mask live) hz hs m
    cases e with
    | normal => exact hy ds Q tm' a' w' w0 h4 h1 h2 h3 m
    | _ => exact ⟨tm', h1, h2, h3, h4⟩
  | .cond c x y, i, hg => fun ds Q tm a w w0 h hl hz hs m => by
    rw [codeWp] at h
    split at h
    · rename_i b hb
      have hlit : litO c b tm = tm := by
        cases c with
        | tmp t => exact Tm.put_same hb
        | _ => rfl
      refine wpIn_cond (t := b) (hl.ev hb) ?_
      cases b with
      | true =>
        simp only [br] at h
        rw [hlit] at h
        exact codeWp_sound x (2 * i) hg.1 ds _ _ _ _ _ h hl hz hs m
      | false =>
        simp only [br] at h
        rw [hlit] at h
        exact codeWp_sound y (2 * i + 1) hg.2 ds _ _ _ _ _ h hl hz hs m
    · exact h.elim
  | .block id c, i, hg => fun ds Q tm a w w0 h hl hz hs m => by
    refine wpIn_block (wpIn_mono (codeWp_sound c (2 * i) hg ds _ tm a w w0 h hl hz hs m) (fun e a' w' ⟨tm', h1, h2, h3, h4⟩ => ?_))
    cases e with
    | exit j =>
      simp only [blkQ] at h4
      simp only [Exit.inBlock]
      cases hb : Nat.beq j id with
      | true =>
        rw [hb] at h4
        rw [if_pos (Nat.eq_of_beq_eq_true hb)]
        exact ⟨tm', h1, h2, h3, h4⟩
      | false =>
        rw [hb] at h4
        rw [if_neg (fun e => by subst e; simp at hb)]
        exact ⟨tm', h1, h2, h3, h4⟩
    | _ => exact ⟨tm', h1, h2, h3, h4⟩
  | .loop c, i, hg => hg
  | .rangeFunc f ps as9 c, i, hg => hg
  | .exit id, i, hg => fun ds Q tm a w w0 h hl hz hs m => wpIn_exit ⟨tm, hl, hz, hs, h⟩
  | .scope c, i, hg => by
    cases hcut : cut i with
    | none =>
      simp only [Good, hcut] at hg
      intro ds Q tm a w w0 h hl hz hs m
      simp only [codeWp, hcut] at h
      refine wpIn_scope_straight (wpIn_mono (codeWp_sound c (2 * i) hg ds _ tm a w w0 h hl hz hs m) (fun e a' w' ⟨tm', h1, h2, h3, h4⟩ => ?_))
      cases e with
      | goto l => exact h4.elim
      | _ => exact ⟨tm', h1, h2, h3, h4⟩
    | some l =>
      simp only [Good, hcut] at hg
      intro ds Q tm a w w0 h hl hz hs m
      simp only [codeWp, hcut] at h
      exact hg ds Q tm a w w0 h hl hz hs m
  | .label l, i, hg => fun ds Q tm a w w0 h hl hz hs m => wpIn_label ⟨tm, hl, hz, hs, h⟩
  | .goto l, i, hg => fun ds Q tm a w w0 h hl hz hs m => wpIn_goto ⟨tm, hl, hz, hs, h⟩
  | .ret, i, hg => fun ds Q tm a w w0 h hl hz hs m => wpIn_ret ⟨tm, hl, hz, hs, h⟩
  | .refuse y, i, hg => fun ds Q tm a w w0 h hl hz hs m => h.elim

/-- The pieces that have words of their own. -/
def leaves (cut : Nat → Option (List Nat)) : Code → Nat → List (Nat × Code)
  | .seq a b, i => leaves cut a (2 * i) ++ (match cut i with
    | none => leaves cut b (2 * i + 1)
    | some _ => [(i, b)])
  | .cond _ a b, i => leaves cut a (2 * i) ++ leaves cut b (2 * i + 1)
  | .block _ c, i => leaves cut c (2 * i)
  | .scope c, i => match cut i with
    | none => leaves cut c (2 * i)
    | some _ => [(i, .scope c)]
  | .loop c, i => [(i, .loop c)]
  | .rangeFunc f ps as9 c, i => [(i, .rangeFunc f ps as9 c)]
  | _, _ => []
theorem good_of_leaves {P : Program} {n : Nat} {ρ : Option Nat} {lp : Nat → Qx → Tm → Hp → Prop} {cut : Nat → Option (List Nat)} : ∀ (c : Code) (i : Nat), (∀ p ∈ leaves cut c i, SndAt P n ρ p.2 (lp p.1)) → Good P n ρ lp cut c i
  | .seq a b, i, h => by
    simp only [leaves] at h
    refine ⟨good_of_leaves a (2 * i) (fun p hp => h p (List.mem_append_left _ hp)), ?_⟩
    cases hc : cut i with
    | none => rw [hc] at h; exact good_of_leaves b (2 * i + 1) (fun p hp => h p (List.mem_append_right _ hp))
    | some l => rw [hc] at h; exact h (i, b) (List.mem_append_right _ (List.mem_cons_self ..))
  | .cond c a b, i, h => by
    simp only [leaves] at h
    exact ⟨good_of_leaves a (2 * i) (fun p hp => h p (List.mem_append_left _ hp)), good_of_leaves b (2 * i + 1) (fun p hp => h p (List.mem_append_right _ hp))⟩
  | .block id c, i, h => good_of_leaves c (2 * i) h
  | .scope c, i, h => by
    cases hcut : cut i with
    | none =>
      simp only [leaves, hcut] at h
      simp only [Good, hcut]
      exact good_of_leaves c (2 * i) h
    | some l =>
      simp only [leaves, hcut] at h
      simp only [Good, hcut]
      exact h (i, .scope c) (List.mem_cons_self ..)
  | .loop c, i, h => h (i, .loop c) (List.mem_cons_self ..)
  | .rangeFunc f ps as9 c, i, h => h (i, .rangeFunc f ps as9 c) (List.mem_cons_self ..)
  | .skip, i, h => trivial
  | .region .., i, h => trivial
  | .exit _, i, h => trivial
  | .label _, i, h => trivial
  | .goto _, i, h => trivial
  | .ret, i, h => trivial
  | .refuse _, i, h => trivial
theorem good_by {P : Program} {n : Nat} {ρ : Option Nat} {lp : Nat → Qx → Tm → Hp → Prop} {cut : Nat → Option (List Nat)} {c : Code} {i : Nat} {l : List (Nat × Code)} (he : leaves cut c i = l) (h : ∀ p ∈ l, SndAt P n ρ p.2 (lp p.1)) : Good P n ρ lp cut c i :=
  good_of_leaves c i (by rw [he]; exact h)
/-- A piece of code by its way. -/
def sub : Code → List Bool → Code
  | .seq a b, x :: r => match x with
    | false => sub a r
    | true => sub b r
  | .cond _ a b, x :: r => match x with
    | false => sub a r
    | true => sub b r
  | .block _ c, _ :: r => sub c r
  | .scope c, _ :: r => sub c r
  | .loop c, _ :: r => sub c r
  | .rangeFunc _ _ a b, x :: r => match x with
    | false => sub a r
    | true => sub b r
  | c, _ => c
def bodyOf (f : Func) : Code := match f.body with
  | some c => c
  | none => .skip

/-! ### Loops by rounds -/
def roundsIn (F : Fence) (m : Nat) (P : Program) (c : Code) (Q : Exit → Act → World → Prop) : Nat → Act → World → Prop
  | 0, _, _ => False
  | k + 1, a, w => c.wpIn F m P (Exit.then (roundsIn F m P c Q k) Q) a w
theorem wpIn_loop_rounds {F : Fence} {m : Nat} {P : Program} {Q : Exit → Act → World → Prop} {a : Act} {w : World} {c : Code} (k : Nat) (h : roundsIn F m P c Q k a w) : (Code.loop c).wpIn F m P Q a w := by
  intro b k0 cs hro hb hr
  have key : ∀ j a w, roundsIn F m P c Q j a w →
      ∃ e a' w', Q e a' w' ∧ ArrivesIn (Machine.fenced P F) P (lone (b.atR a (.code c :: .inLoop c :: k0)) cs w) b k0 cs e a' w' := by
    intro j
    induction j with
    | zero => intro a w h; exact h.elim
    | succ j ih =>
      intro a w h
      obtain ⟨e, a₁, w₁, hq, harr⟩ := h b (.inLoop c :: k0) cs hro hb hr
      cases e with
      | normal =>
        obtain ⟨e₂, a₂, w₂, hq₂, harr₂⟩ := ih a₁ w₁ hq
        exact ⟨e₂, a₂, w₂, hq₂, .of_steps (StepsIn.trans harr (.one (fenced_calm hb hr rfl) stepR_inLoop)) harr₂⟩
      | exit id => exact ⟨_, a₁, w₁, hq, .pass (x := .inLoop c) rfl (fun _ _ => .inl (by simp)) harr⟩
      | goto l => exact ⟨_, a₁, w₁, hq, .pass (x := .inLoop c) rfl (fun _ _ => .inl (by simp)) harr⟩
      | ret => exact ⟨_, a₁, w₁, hq, .pass (x := .inLoop c) rfl (fun _ _ => .inl (by simp)) harr⟩
      | panic ch => exact ⟨_, a₁, w₁, hq, .pass (x := .inLoop c) rfl (fun _ _ => .inl (by simp)) harr⟩
      | outgrown => exact ⟨_, a₁, w₁, hq, .pass (x := .inLoop c) rfl (fun _ _ => .inl (by simp)) harr⟩
  obtain ⟨e, a', w', hq, harr⟩ := key k a w h
  exact ⟨e, a', w', hq, .of_steps (.one (fenced_calm hb hr rfl) stepR_loop) harr⟩
/-- What is kept at each way out. -/
def maskQ (lx : Exit → List Nat) (Q : Qx) : Qx := fun e tm h => Q e (mask (lx e) tm) h
theorem loop_sound {P : Program} {n : Nat} {ρ : Option Nat} {lp : Nat → Qx → Tm → Hp → Prop} {cut : Nat → Option (List Nat)} {c : Code} {i : Nat} (live : List Nat) (lx : Exit → List Nat)
    (Lp : Qx → Nat → Tm → Hp → Prop) (hg : Good P n ρ lp cut c (2 * i)) (h0 : ∀ Q tm h, ¬ Lp Q 0 tm h)
    (hs : ∀ Q k tm h, Lp Q (k + 1) tm h → codeWp P n lp cut c (2 * i) (thenQ (fun tm h => Lp Q k (mask live tm) h) (maskQ lx Q)) (mask live tm) h) :
    SndAt P n ρ (.loop c) (fun Q tm h => ∃ k, Lp Q k tm h) := by
  intro ds Q tm a w w0 ⟨k, hk⟩ hl hz hsm m
  refine wpIn_loop_rounds k ?_
  induction k generalizing tm a w with
  | zero => exact (h0 _ _ _ hk).elim
  | succ k ih =>
    refine wpIn_mono (codeWp_sound c (2 * i) hg ds _ _ a w w0 (hs Q k tm w.heap hk) (hl.mask live) hz hsm m) (fun e a' w' ⟨tm', h1, h2, h3, h4⟩ => ?_)
    cases e with
    | normal => exact ih (mask live tm') a' w' h4 (h1.mask live) h2 h3
    | _ => exact ⟨_, h1.mask _, h2, h3, h4⟩
/-- A join: a piece of code behind a cut. -/
theorem join_sound {P : Program} {n : Nat} {ρ : Option Nat} {lp : Nat → Qx → Tm → Hp → Prop} {cut : Nat → Option (List Nat)} {c : Code} {i : Nat} (live : List Nat) (lx : Exit → List Nat)
    (J : Qx → Tm → Hp → Prop) (hg : Good P n ρ lp cut c (2 * i + 1)) (hs : ∀ Q tm h, J Q tm h → codeWp P n lp cut c (2 * i + 1) (maskQ lx Q) (mask live tm) h) : SndAt P n ρ c J := by
  intro ds Q tm a w w0 hJ hl hz hsm m
  refine wpIn_mono (codeWp_sound c (2 * i + 1) hg ds _ _ a w w0 (hs Q tm w.heap hJ) (hl.mask live) hz hsm m) (fun e a' w' ⟨tm', h1, h2, h3, h4⟩ => ?_)
  exact ⟨_, h1.mask _, h2, h3, h4⟩

/-! ### A scope with one label that is jumped to -/
def gotoQ (l : Nat) (G : Tm → Hp → Prop) (Q : Qx) : Qx
  | .goto j, tm, h => match Nat.beq j l with
    | true => G tm h
    | false => False
  | e, tm, h => Q e tm h
def lp0 : Nat → Qx → Tm → Hp → Prop := fun _ _ _ _ => False
def cut0 : Nat → Option (List Nat) := fun _ => none
theorem scope_pass {ds : List Deferred} {P : Program} {F : Fence} {n l : Nat} {w0 : World} {c rest : Code} {Gk : Tm → Hp → Prop} {Q : Qx} {b : Frame} {k0 : List Item} {cs : List Frame} (hf : findLabel c l = some rest)
    (calm : ∀ a k w, Machine.fenced P F (lone (b.atR a (.inScope c :: k)) cs w))
    (next : ∀ tm a w, Gk tm w.heap → Le ds tm a → a.tmps.size = n → Same w0 w → ∃ e a' w', LE ds w0 n Q e a' w' ∧ ArrivesIn (Machine.fenced P F) P (lone (b.atR a (.code rest :: .inScope c :: k0)) cs w) b k0 cs e a' w')
    {m0 : Machine} {e : Exit} {a₁ : Act} {w₁ : World} (hq : LE ds w0 n (gotoQ l Gk Q) e a₁ w₁) (harr : ArrivesIn (Machine.fenced P F) P m0 b (.inScope c :: k0) cs e a₁ w₁) :
    ∃ e a' w', LE ds w0 n Q e a' w' ∧ ArrivesIn (Machine.fenced P F) P m0 b k0 cs e a' w' := by
  obtain ⟨tm', h1, h2, h3, h4⟩ := hq
  cases e with
  | normal => exact ⟨.normal, a₁, w₁, ⟨tm', h1, h2, h3, h4⟩, StepsIn.trans harr (.one (calm _ _ _) stepR_inScope')⟩
  | exit id =>
    have hx : exitTo id (.inScope c :: k0) = exitTo id k0 := by simp [exitTo]
    exact ⟨.exit id, a₁, w₁, ⟨tm', h1, h2, h3, h4⟩, fun k' hk => harr.1 k' (by rw [hx]; exact hk), fun hr' hk => harr.2 hr' (by rw [hx]; exact hk)⟩
  | goto j =>
    simp only [gotoQ] at h4
    cases hb : Nat.beq j l with
    | false => rw [hb] at h4; exact h4.elim
    | true =>
      rw [hb] at h4
      have hj : j = l := Nat.eq_of_beq_eq_true hb
      subst hj
      obtain ⟨e₂, a₂, w₂, hq₂, harr₂⟩ := next tm' a₁ w₁ h4 h1 h2 h3
      exact ⟨e₂, a₂, w₂, hq₂, .of_steps (harr.1 _ (by simp only [gotoIn, hf])) harr₂⟩
  | ret => exact ⟨_, a₁, w₁, ⟨tm', h1, h2, h3, h4⟩, harr⟩
  | panic ch => exact ⟨_, a₁, w₁, ⟨tm', h1, h2, h3, h4⟩, harr⟩
  | outgrown => exact ⟨_, a₁, w₁, ⟨tm', h1, h2, h3, h4⟩, harr⟩
theorem scope_sound {P : Program} {n : Nat} {ρ : Option Nat} {lp : Nat → Qx → Tm → Hp → Prop} {cut : Nat → Option (List Nat)} {c rest : Code} {i j l : Nat} (live : List Nat) (lx : Exit → List Nat)
    (G : Qx → Nat → Tm → Hp → Prop) (hf : findLabel c l = some rest) (hgc : Good P n ρ lp cut c i) (hgr : Good P n ρ lp cut rest j) (h0 : ∀ Q tm h, ¬ G Q 0 tm h)
    (hs : ∀ Q k tm h, G Q (k + 1) tm h → codeWp P n lp cut rest j (gotoQ l (fun tm h => G Q k (mask live tm) h) (maskQ lx Q)) (mask live tm) h) :
    SndAt P n ρ (.scope c) (fun Q tm h => ∃ k, codeWp P n lp cut c i (gotoQ l (fun tm h => G Q k (mask live tm) h) Q) tm h) := by
  intro ds Q tm a w w0 ⟨k, hk⟩ hl hz hsm m b k0 cs hro hb hr
  have calm : ∀ a k w, Machine.fenced P (FW ρ) (lone (b.atR a (.inScope c :: k)) cs w) := fun a k w => fenced_calm hb hr rfl
  have key : ∀ k tm a w, G Q k tm w.heap → Le ds tm a → a.tmps.size = n → Same w0 w →
      ∃ e a' w', LE ds w0 n Q e a' w' ∧ ArrivesIn (Machine.fenced P (FW ρ)) P (lone (b.atR a (.code rest :: .inScope c :: k0)) cs w) b k0 cs e a' w' := by
    intro k
    induction k with
    | zero => intro tm a w h; exact (h0 _ _ _ h).elim
    | succ k ih =>
      intro tm a w h hl hz hsm
      obtain ⟨e, a₁, w₁, hq, harr⟩ := codeWp_sound rest j hgr ds _ _ a w w0 (hs Q k tm w.heap h) (hl.mask live) hz hsm m b (.inScope c :: k0) cs hro hb hr
      have hq' : LE ds w0 n (gotoQ l (fun tm h => G Q k (mask live tm) h) Q) e a₁ w₁ := by
        obtain ⟨tm', h1, h2, h3, h4⟩ := hq
        cases e with
        | goto g => exact ⟨tm', h1, h2, h3, h4⟩
        | _ => exact ⟨_, h1.mask _, h2, h3, h4⟩
      exact scope_pass hf calm (fun tm a w h hl hz hsm => ih (mask live tm) a w h (hl.mask live) hz hsm) hq' harr
  obtain ⟨e, a₁, w₁, hq, harr⟩ := codeWp_sound c i hgc ds _ tm a w w0 hk hl hz hsm m b (.inScope c :: k0) cs hro hb hr
  obtain ⟨e, a', w', hq2, harr2⟩ := scope_pass hf calm (fun tm a w h hl hz hsm => key k (mask live tm) a w h (hl.mask live) hz hsm) hq harr
  exact ⟨e, a', w', hq2, .of_steps (.one (fenced_calm hb hr rfl) stepR_scope') harr2⟩

/-! ### A function -/
def resQ (P : Program) (tm : Tm) (h : Hp) : List ResultVar → (List Value → Prop) → Prop
  | [], K => K []
  | .tmp t :: r, K => match tm t with
    | some v => resQ P tm h r fun l => K (v :: l)
    | none => False
  | .cell a t :: r, K => match tm a with
    | some p => exT (shOf P t) fun v => HV P (Instr.loadAt t p) h v ∧ resQ P tm h r fun l => K (v :: l)
    | none => False
def oneV : List Value → Value
  | [v] => v
  | l => .tuple l.toArray
def endQ (P : Program) (rs : List ResultVar) (K : Value → Hp → Prop) : Qx
  | .normal, tm, h => resQ P tm h rs fun l => K (oneV l) h
  | .ret, tm, h => resQ P tm h rs fun l => K (oneV l) h
  | _, _, _ => False
def argTm (args : List Value) : Tm := fun i => args[i]?
def resF (tmps : Array Value) : ResultVar → Sem Value
  | .tmp t => pure (tmps.getD t undef)
  | .cell a t => do loadVar t (← asAddr (tmps.getD a undef))
theorem results_eq (fn : Func) (tmps : Array Value) : results fn tmps = (do
    let vs ← fn.results.mapM (resF tmps)
    pure (if h : vs.size = 1 then vs[0] else .tuple vs)) := by
  unfold results
  congr 1
theorem resQ_run {ds : List Deferred} {P : Program} {tm : Tm} {a : Act} {w : World} (hl : Le ds tm a) : ∀ (rs : List ResultVar) (K : List Value → Prop), resQ P tm w.heap rs K →
    ∃ l, (List.mapM (m := Sem) (resF a.tmps) rs).run P w = .ok l w ∧ K l
  | [], K, h => ⟨[], rfl, h⟩
  | .tmp t :: r, K, h => by
    simp only [resQ] at h
    cases ht : tm t with
    | none => rw [ht] at h; exact h.elim
    | some v =>
      rw [ht] at h
      obtain ⟨l, hr, hK⟩ := resQ_run hl r _ h
      refine ⟨v :: l, ?_, hK⟩
      have h0 : (resF a.tmps (.tmp t)).run P w = .ok v w := by
        have := hl.at_ t v ht
        simp [resF, this]
      rw [List.mapM_cons, Sem.run_bind, h0]
      simp only [Result.andThen, Sem.run_bind, hr]
      rfl
  | .cell x t :: r, K, h => by
    simp only [resQ] at h
    cases ht : tm x with
    | none => rw [ht] at h; exact h.elim
    | some p =>
      rw [ht] at h
      obtain ⟨v, hv, h⟩ := exT_ex _ h
      obtain ⟨l, hr, hK⟩ := resQ_run hl r _ h
      refine ⟨v :: l, ?_, hK⟩
      have h0 : (resF a.tmps (.cell x t)).run P w = .ok v w := by
        have h1 := hl.at_ x p ht
        have h2 := hv w rfl
        have e : a.tmps.getD x undef = p := by simp [h1]
        show (do loadVar t (← asAddr (a.tmps.getD x undef)) : Sem Value).run P w = .ok v w
        rw [e]
        cases p with
        | pointer q =>
          cases q with
          | none => simp [Instr.loadAt, Instr.sureAddr, stuck, Result.andThen] at h2
          | some q => exact h2
        | _ => simp [Instr.loadAt, Instr.sureAddr, stuck, Result.andThen] at h2
      rw [List.mapM_cons, Sem.run_bind, h0]
      simp only [Result.andThen, Sem.run_bind, hr]
      rfl
theorem calls_of {P : Program} {f : FuncId} {fn : Func} {c : Code} {n : Nat} {args : List Value} {h : Hp} {K : Value → Hp → Prop} {lp : Nat → Qx → Tm → Hp → Prop} {cut : Nat → Option (List Nat)}
    (hf : P.funcs[f]? = some fn) (hb : fn.body = some c) (hn : fn.ntmps = n) (ha : Nat.ble args.length n = true) (hg : Good P n none lp cut c 1)
    (hc : codeWp P n lp cut c 1 (endQ P fn.results.toList K) (argTm args) h) : CallsH P f args.toArray h K := by
  intro w hw
  subst hw
  refine (callsIn_wide (n := 0)).1 (callsIn_of_wp hf hb trivial ?_)
  have hle : args.length ≤ n := Nat.le_of_ble_eq_true ha
  have h1 : Le [] (argTm args) { tmps := args.toArray ++ Array.replicate (fn.ntmps - args.toArray.size) undef, defers := [] } := by
    refine ⟨fun i v hi => ?_, rfl⟩
    simp only [argTm] at hi
    have hlt := (List.getElem?_eq_some_iff.1 hi).1
    rw [Array.getElem?_append_left (by simpa using hlt)]
    simpa using hi
  have h2 : (args.toArray ++ Array.replicate (fn.ntmps - args.toArray.size) undef).size = n := by simp [hn]; omega
  refine wpIn_mono (codeWp_sound c 1 hg [] _ _ _ w w hc h1 h2 (.refl w) 0) (fun e a' w' ⟨tm', l1, l2, l3, l4⟩ => ?_)
  have fin : resQ P tm' w'.heap fn.results.toList (fun l => K (oneV l) w'.heap) → ∃ v, (results fn a'.tmps).run P w' = .ok v w' ∧ ∃ u, Ending.returned v = .returned u ∧ Same w w' ∧ K u w'.heap := by
    intro hr
    obtain ⟨l, hrun, hK⟩ := resQ_run l1 _ _ hr
    refine ⟨oneV l, ?_, _, rfl, l3, hK⟩
    rw [results_eq, ← Array.toArray_toList (xs := fn.results), List.mapM_toArray]
    simp only [Sem.run_bind]
    simp [hrun, Result.andThen]
    match l with
    | [] => simp [oneV]
    | [v] => simp [oneV]
    | v :: u :: r => simp [oneV]
  cases e with
  | normal => exact ⟨l1.defers, fin l4⟩
  | ret => exact ⟨l1.defers, fin l4⟩
  | _ => exact l4.elim
end Go.Proofs.YtfdpccbajaiepaaGreatDoor.Sx

/- How a word takes the temporaries that it needs. -/
namespace Go.Proofs.YtfdpccbajaiepaaGreatDoor.Sx
open Go
def selI (k : IntKind) (v : Option Value) (K : Int → Prop) : Prop := match v with
  | some (.int k' x) => (match decEq k' k with
    | isTrue _ => K x
    | isFalse _ => False)
  | _ => False
def selB (v : Option Value) (K : Bool → Prop) : Prop := match v with
  | some (.bool x) => K x
  | _ => False
def selT (v : Option Value) (K : ByteArray → Prop) : Prop := match v with
  | some (.string x) => K x
  | _ => False
def selS (v : Option Value) (K : Option Addr → Nat → Nat → Prop) : Prop := match v with
  | some (.slice x y z) => K x y z
  | _ => False
def selP (v : Option Value) (K : Option Addr → Prop) : Prop := match v with
  | some (.pointer x) => K x
  | _ => False
def selA (v : Option Value) (K : Addr → Prop) : Prop := match v with
  | some (.pointer (some x)) => K x
  | _ => False
def selV (v : Option Value) (K : Value → Prop) : Prop := match v with
  | some x => K x
  | _ => False
def selAg (v : Option Value) (K : List Value → Prop) : Prop := match v with
  | some (.agg a) => K a.toList
  | _ => False
def selC (l : List Value) (K : Value → List Value → Prop) : Prop := match l with
  | x :: r => K x r
  | [] => False
def selN (l : List Value) (K : Prop) : Prop := match l with
  | [] => K
  | _ :: _ => False
/-- A type's zero cells. -/
def zcOf (P : Program) (t : TypeId) : Array Value := match P.info? t with
  | some i => (match i.zero with
    | some z => z.cells
    | none => #[])
  | none => #[]
theorem selAg_ex {v : Option Value} {K : List Value → Prop} (h : selAg v K) : ∃ l : List Value, v = some (.agg l.toArray) ∧ K l := by
  unfold selAg at h; split at h
  · exact ⟨_, by simp, h⟩
  · exact h.elim
theorem selC_ex {l : List Value} {K : Value → List Value → Prop} (h : selC l K) : ∃ x r, l = x :: r ∧ K x r := by
  unfold selC at h; split at h
  · exact ⟨_, _, rfl, h⟩
  · exact h.elim
theorem selN_ex {l : List Value} {K : Prop} (h : selN l K) : l = [] ∧ K := by
  unfold selN at h; split at h
  · exact ⟨rfl, h⟩
  · exact h.elim
theorem selI_ex {k : IntKind} {v : Option Value} {K : Int → Prop} (h : selI k v K) : ∃ x, v = some (.int k x) ∧ K x := by
  unfold selI at h
  split at h
  · split at h
    · rename_i e _; exact ⟨_, by rw [e], h⟩
    · exact h.elim
  · exact h.elim
theorem selB_ex {v : Option Value} {K : Bool → Prop} (h : selB v K) : ∃ x, v = some (.bool x) ∧ K x := by
  unfold selB at h; split at h
  · exact ⟨_, rfl, h⟩
  · exact h.elim
theorem selT_ex {v : Option Value} {K : ByteArray → Prop} (h : selT v K) : ∃ x, v = some (.string x) ∧ K x := by
  unfold selT at h; split at h
  · exact ⟨_, rfl, h⟩
  · exact h.elim
theorem selS_ex {v : Option Value} {K : Option Addr → Nat → Nat → Prop} (h : selS v K) : ∃ x y z, v = some (.slice x y z) ∧ K x y z := by
  unfold selS at h; split at h
  · exact ⟨_, _, _, rfl, h⟩
  · exact h.elim
theorem selP_ex {v : Option Value} {K : Option Addr → Prop} (h : selP v K) : ∃ x, v = some (.pointer x) ∧ K x := by
  unfold selP at h; split at h
  · exact ⟨_, rfl, h⟩
  · exact h.elim
theorem selA_ex {v : Option Value} {K : Addr → Prop} (h : selA v K) : ∃ x, v = some (.pointer (some x)) ∧ K x := by
  unfold selA at h; split at h
  · exact ⟨_, rfl, h⟩
  · exact h.elim
theorem selV_ex {v : Option Value} {K : Value → Prop} (h : selV v K) : ∃ x, v = some x ∧ K x := by
  unfold selV at h; split at h
  · exact ⟨_, rfl, h⟩
  · exact h.elim
end Go.Proofs.YtfdpccbajaiepaaGreatDoor.Sx

/- Laws of memory over the heap alone: cells, boxes, slices that are read. -/
namespace Go.Proofs.YtfdpccbajaiepaaGreatDoor.Sx
open Go Go.RowKit
set_option linter.unusedVariables false
set_option linter.unusedSimpArgs false
def cell (h : Hp) (a : Addr) : Option Value := (W h).cell? a
theorem cell_of {h : Hp} {b o : Nat} {cs : List Value} {T : TypeId} {fz : Nat × Nat} (hb : h[b]? = some (.cells cs.toArray T fz)) : cell h ⟨b, o, none⟩ = cs[o]? := by
  show (match h[b]? with | some (.cells c _ _) => if (none : Option Nat).isSome then none else c[o]? | _ => none) = _
  rw [hb]
  simp
/-- What was there is there. -/
structure Ext (h h' : Hp) : Prop where
  size : h.size ≤ h'.size
  old : ∀ k, k < h.size → h'[k]? = h[k]?
theorem Ext.refl (h : Hp) : Ext h h := ⟨Nat.le_refl _, fun _ _ => rfl⟩
theorem Ext.trans {a b c : Hp} (h : Ext a b) (k : Ext b c) : Ext a c := ⟨Nat.le_trans h.size k.size, fun i hi => (k.old i (Nat.lt_of_lt_of_le hi h.size)).trans (h.old i hi)⟩
theorem Ext.push (h : Hp) (o : Obj) : Ext h (h.push o) := ⟨by simp, fun k hk => by rw [Array.getElem?_push]; rw [if_neg (by omega)]⟩
theorem lt_of_get {h : Hp} {b : Nat} {o : Obj} (hb : h[b]? = some o) : b < h.size := (Array.getElem?_eq_some_iff.1 hb).1
theorem cell_lt {h : Hp} {a : Addr} {v : Value} (hc : cell h a = some v) : a.block < h.size := by
  unfold cell World.cell? at hc
  split at hc
  · rename_i c e f hb; exact lt_of_get hb
  · cases hc
theorem cell_same {h h' : Hp} {a : Addr} (hb : h'[a.block]? = h[a.block]?) : cell h' a = cell h a := by
  unfold cell World.cell?
  show (match h'[a.block]? with | some (.cells c _ _) => if a.spot.isSome then none else c[a.off]? | _ => none) = (match h[a.block]? with | some (.cells c _ _) => if a.spot.isSome then none else c[a.off]? | _ => none)
  rw [hb]
theorem Ext.cell {h h' : Hp} (e : Ext h h') {a : Addr} {v : Value} (hc : cell h a = some v) : Sx.cell h' a = some v := by
  rw [cell_same (e.old _ (cell_lt hc))]; exact hc
/-- These cells stand from a on. -/
structure Cl (h : Hp) (a : Addr) (vs : List Value) : Prop where
  spot : a.spot = none
  at_ : ∀ j v, vs[j]? = some v → cell h (a.add j) = some v
theorem Cl.ext {h h' : Hp} {a : Addr} {vs : List Value} (c : Cl h a vs) (e : Ext h h') : Cl h' a vs := ⟨c.spot, fun j v hj => e.cell (c.at_ j v hj)⟩
theorem add_zero (a : Addr) : a.add 0 = a := rfl
theorem add_off {a : Addr} (hs : a.spot = none) (n : Nat) : a.add n = ⟨a.block, a.off + n, none⟩ := by
  obtain ⟨b, o, s⟩ := a
  simp only at hs
  subst hs
  unfold Addr.add
  split
  · rename_i h; subst h; rfl
  · rfl
theorem add_add {a : Addr} (hs : a.spot = none) (m n : Nat) : (a.add m).add n = a.add (m + n) := by
  rw [add_off hs, add_off rfl, add_off hs]; simp [Nat.add_assoc]
theorem Cl.head {h : Hp} {a : Addr} {v : Value} {vs : List Value} (c : Cl h a (v :: vs)) : cell h a = some v := c.at_ 0 v rfl
theorem Cl.of_block {h : Hp} {b o : Nat} {cs vs : List Value} {T : TypeId} {fz : Nat × Nat} (hb : h[b]? = some (.cells cs.toArray T fz)) (hv : ∀ j v, vs[j]? = some v → cs[o + j]? = some v) : Cl h ⟨b, o, none⟩ vs :=
  ⟨rfl, fun j v hj => by rw [add_off rfl]; show cell h ⟨b, o + j, none⟩ = _; rw [cell_of hb]; exact hv j v hj⟩
theorem Cl.sub {h : Hp} {a : Addr} {vs us : List Value} (c : Cl h a vs) (n : Nat) (hu : ∀ j v, us[j]? = some v → vs[n + j]? = some v) : Cl h (a.add n) us :=
  ⟨by rw [add_off c.spot], fun j v hj => by rw [add_add c.spot]; exact c.at_ _ v (hu j v hj)⟩
theorem newC_i {h : Hp} {cs : List Value} {T : TypeId} {K : Addr → Hp → Prop}
    (H : ∀ h', Ext h h' → Cl h' ⟨h.size, 0, none⟩ cs → h'[h.size]? = some (.cells cs.toArray T (0, 0)) → h'.size = h.size + 1 → K ⟨h.size, 0, none⟩ h') : newC h (.cells cs.toArray T (0, 0)) K := by
  have hb : (h.push (.cells cs.toArray T (0, 0)))[h.size]? = some (.cells cs.toArray T (0, 0)) := by simp
  exact H _ (Ext.push h _) (Cl.of_block hb fun j v hj => by rw [Nat.zero_add]; exact hj) hb (by simp)
def scB (P : Program) (t : TypeId) : Bool := match P.underlying t with
  | some (.struct _) => false
  | some (.array _ _) => false
  | some _ => true
  | none => false
def agB (P : Program) (t : TypeId) : Option Nat := match P.underlying t with
  | some (.struct _) => (P.info? t).map (·.size)
  | some (.array _ _) => (P.info? t).map (·.size)
  | _ => none
theorem ld {P : Program} {t : TypeId} {a : Addr} {h : Hp} {v : Value} (hc : cell h a = some v) (ht : scB P t = true) : HV P (Instr.loadAt t (.pointer (some a))) h v := by
  intro w hw
  subst hw
  have hc' : w.cell? a = some v := hc
  unfold scB at ht
  cases hu : P.underlying t with
  | none => rw [hu] at ht; cases ht
  | some d =>
    rw [hu] at ht
    have : (isAgg t).run P w = .ok false w := by
      unfold isAgg
      rw [Sem.run_bind, run_underlying hu]
      cases d <;> first | rfl | cases ht
    simp only [Instr.loadAt, Instr.sureAddr, loadVar, Sem.run_bind, Sem.run_pure, Result.andThen_ok, this]
    simp [load, Sem.run, hc']
theorem ldS {P : Program} {t : TypeId} {a : Addr} {h : Hp} {vs : List Value} (hc : Cl h a vs) (ht : agB P t = some vs.length) : HV P (Instr.loadAt t (.pointer (some a))) h (.agg vs.toArray) := by
  intro w hw
  subst hw
  have hl := run_loadCells_list (P := P) w a vs (fun j v hj => hc.at_ j v hj)
  unfold agB at ht
  have ha : (isAgg t).run P w = .ok true w ∧ (sizeOf t).run P w = .ok vs.length w := by
    cases hu : P.underlying t with
    | none => rw [hu] at ht; cases ht
    | some d =>
      rw [hu] at ht
      have hz : (P.info? t).map (·.size) = some vs.length := by cases d <;> first | exact ht | cases ht
      have h2 : (sizeOf t).run P w = .ok vs.length w := by
        cases hi : P.info? t with
        | none => rw [hi] at hz; cases hz
        | some i =>
          rw [hi] at hz
          simp only [Option.map_some, Option.some.injEq] at hz
          simp [sizeOf, typeInfo, hi, hz]
      refine ⟨?_, h2⟩
      unfold isAgg
      rw [Sem.run_bind, run_underlying hu]
      cases d <;> first | rfl | cases ht
  simp only [Instr.loadAt, Instr.sureAddr, loadVar, Sem.run_bind, Sem.run_pure, Result.andThen_ok, ha.1, ha.2, if_true, hl]
/-- An index into a slice. -/
theorem ix {P : Program} {T E : TypeId} {a : Addr} {l c sz : Nat} {k : IntKind} {i : Int} (h0 : 0 ≤ i) (h1 : i < l) (hu : P.underlying T = some (.slice E)) (hs : (P.info? E).map (·.size) = some sz) :
    PV P (Instr.indexAt T (.slice (some a) l c) (.int k i)) (.pointer (some (a.add (i.toNat * sz)))) := by
  intro w
  cases hi : P.info? E with
  | none => rw [hi] at hs; cases hs
  | some j =>
    rw [hi] at hs
    simp only [Option.map_some, Option.some.injEq] at hs
    simp [Instr.indexAt, asIntOf, run_underlying hu, h0, h1, sizeOf, typeInfo, hi, hs]
/-- A slice that is read: its elements' cells, one element behind the other. -/
def RSl (h : Hp) (A : Option Addr) (l : Nat) (sz : Nat) (cs : List Value) : Prop := cs.length = l * sz ∧ (l = 0 ∨ ∃ a, A = some a ∧ Cl h a cs)
theorem RSl.ext {h h' : Hp} {A : Option Addr} {l sz : Nat} {cs : List Value} (r : RSl h A l sz cs) (e : Ext h h') : RSl h' A l sz cs :=
  ⟨r.1, r.2.imp id fun ⟨a, ha, c⟩ => ⟨a, ha, c.ext e⟩⟩
/-! ### Element lists -/
theorem flat_len {α : Type} {enc : α → List Value} {sz : Nat} (he : ∀ x, (enc x).length = sz) : ∀ xs : List α, (xs.flatMap enc).length = xs.length * sz
  | [] => by simp
  | x :: xs => by rw [List.flatMap_cons, List.length_append, he, flat_len he xs, List.length_cons, Nat.add_mul]; omega
theorem flat_get {α : Type} {enc : α → List Value} {sz : Nat} (he : ∀ x, (enc x).length = sz) : ∀ (xs : List α) (i j : Nat) (x : α), xs[i]? = some x → j < sz → (xs.flatMap enc)[i * sz + j]? = (enc x)[j]?
  | [], i, j, x, h, _ => by simp at h
  | y :: xs, 0, j, x, h, hj => by
    simp at h
    subst h
    rw [List.flatMap_cons, Nat.zero_mul, Nat.zero_add, List.getElem?_append_left (by rw [he]; exact hj)]
  | y :: xs, i + 1, j, x, h, hj => by
    rw [List.flatMap_cons, List.getElem?_append_right (by rw [he, Nat.add_mul]; omega), he, ← flat_get he xs i j x (by simpa using h) hj]
    congr 1
    rw [Nat.add_mul]; omega
theorem RSl.elem {α : Type} {enc : α → List Value} {sz : Nat} (he : ∀ x, (enc x).length = sz) {h : Hp} {a : Addr} {l : Nat} {xs : List α} (r : RSl h (some a) l sz (xs.flatMap enc)) {i : Nat} {x : α} (hx : xs[i]? = some x) (hl : xs.length = l) : Cl h (a.add (i * sz)) (enc x) := by
  obtain ⟨_, r⟩ := r
  have hlt := (List.getElem?_eq_some_iff.1 hx).1
  rcases r with r | ⟨a', ha, c⟩
  · omega
  · injection ha with ha
    subst ha
    refine c.sub (i * sz) fun j v hj => ?_
    have hjl := (List.getElem?_eq_some_iff.1 hj).1
    rw [flat_get he xs i j x hx (by rw [he] at hjl; exact hjl)]
    exact hj
theorem RSl.some {h : Hp} {A : Option Addr} {l sz : Nat} {cs : List Value} (r : RSl h A l sz cs) (hl : 0 < l) : ∃ a, A = some a ∧ Cl h a cs := by
  rcases r.2 with h | h
  · omega
  · exact h
theorem Cl.ext2 {h h' : Hp} {a : Addr} {vs : List Value} (e : Ext h h') (c : Cl h a vs) : Cl h' a vs := c.ext e
theorem Ext.trans2 {a b c : Hp} (k : Ext b c) (h : Ext a b) : Ext a c := h.trans k
theorem Cl.sl {h : Hp} {a : Addr} {vs us : List Value} (c : Cl h a vs) {n : Nat} (hu : (vs.drop n).take us.length = us) : Cl h (a.add n) us :=
  c.sub n fun j v hj => by
    rw [← hu, List.getElem?_take] at hj
    split at hj
    · rw [List.getElem?_drop] at hj; exact hj
    · cases hj
/-! ### Branches -/
theorem br_i {b : Bool} {A B : Prop} (h1 : b = true → A) (h2 : b = false → B) : br b A B := by
  cases b
  · exact h2 rfl
  · exact h1 rfl
theorem br_t {b : Bool} {A B : Prop} (h : b = true) (h1 : A) : br b A B := by subst h; exact h1
theorem br_f {b : Bool} {A B : Prop} (h : b = false) (h1 : B) : br b A B := by subst h; exact h1
theorem wrap_in {n : Int} (h0 : -9223372036854775808 ≤ n) (h1 : n ≤ 9223372036854775807) : IntKind.i64.wrap n = n := IntWalk.i64_in n ⟨h0, h1⟩
/-! ### Pointers against nil -/
theorem eqNil {P : Program} {T : TypeId} {p : Option Addr} (hu : P.underlying T = some (.pointer (P.pointee T))) : PV P (binOp .eql T (.pointer p) (.pointer none)) (.bool p.isNone) := by
  intro w
  rw [run_eql_pointer_nil _ _ _ hu]
theorem neNil {P : Program} {T : TypeId} {p : Option Addr} (hu : P.underlying T = some (.pointer (P.pointee T))) : PV P (binOp .neq T (.pointer p) (.pointer none)) (.bool p.isSome) := by
  intro w
  rw [run_neq_pointer_nil _ _ _ hu]
  cases p <;> rfl
end Go.Proofs.YtfdpccbajaiepaaGreatDoor.Sx

/- The tokens of a text: a model over lists of bytes. -/
namespace Go.Proofs.YtfdpccbajaiepaaGreatDoor.Lx
open Go
set_option linter.unusedVariables false
structure TokM where
  kind : Int
  text : List UInt8
  value : Int
  line : Int
  col : Int
  deriving DecidableEq
structure Flt where
  code : Int
  line : Int
  col : Int
  deriving DecidableEq
def kindB (c : UInt8) : Nat := if 97 ≤ c.toNat ∧ c.toNat ≤ 122 then 1 else if 48 ≤ c.toNat ∧ c.toNat ≤ 57 then 2 else if c.toNat = 46 ∨ c.toNat = 47 ∨ c.toNat = 58 ∨ c.toNat = 42 then 3 else 0
def blankB (c : UInt8) : Bool := c.toNat == 32 || c.toNat == 9 || c.toNat == 13
def lineLen (r : List UInt8) : Nat := (r.takeWhile fun c => c.toNat != 10).length
/-- How many blanks stand ahead. -/
def blanks (r : List UInt8) : Nat := (r.takeWhile blankB).length
def rowLen (k : Nat) (r : List UInt8) : Nat := (r.takeWhile fun c => kindB c == k).length
def numV : List UInt8 → Int → Int
  | [], v => v
  | c :: r, v => numV r (min (10 * v + ((c.toNat : Int) - 48)) 8589934592)
inductive RdR where
  | tok (t : TokM) (used : Nat) (line col : Nat) (w : Option Flt)
  | stop
  | bad (f : Flt)
  deriving DecidableEq
/-- A line's end; u: so many bytes are gone over till there. -/
def endsM (r : List UInt8) (u line col : Nat) : RdR := match r with
  | [] => if col = 0 then .stop else .tok ⟨4, [], 0, line, col + 1⟩ u line 0 none
  | _ :: r' => .tok ⟨4, [10], 0, line, col + 1⟩ (u + 1) (line + 1) 0 (if lineLen r' > 200 then some ⟨93, line + 1, 1⟩ else none)
def badNum (t : List UInt8) : Bool := decide (numV t 0 ≥ 4294967296) || (decide (t.length > 1) && decide (t.head? = some 48))
def checkM (k : Nat) (t : List UInt8) (u line col col' : Nat) : RdR :=
  if k = 1 ∧ t.length > 16 then .bad ⟨92, line, col⟩
  else if k = 2 then (if badNum t then .bad ⟨91, line, col⟩ else .tok ⟨2, t, numV t 0, line, col⟩ u line col' none)
  else .tok ⟨k, t, 0, line, col⟩ u line col' none
def readM (r : List UInt8) (line col : Nat) : RdR :=
  let b := blanks r
  let r1 := r.drop b
  match r1 with
  | [] => endsM [] b line (col + b)
  | c :: _ =>
    if c.toNat = 35 then endsM (r1.drop (lineLen r1)) (b + lineLen r1) line (col + b + lineLen r1)
    else if c.toNat = 10 then endsM r1 b line (col + b)
    else if kindB c = 0 then .bad ⟨90, line, col + b + 1⟩
    else
      let m := if kindB c = 3 then 1 else rowLen (kindB c) r1
      checkM (kindB c) (r1.take m) (b + m) line (col + b + 1) (col + b + m)
def lexL : Nat → List UInt8 → Nat → Nat → Option (Except Flt (List TokM))
  | 0, _, _, _ => none
  | f + 1, r, line, col => match readM r line col with
    | .stop => some (.ok [])
    | .bad e => some (.error e)
    | .tok t u line' col' (some w) => some (.error w)
    | .tok t u line' col' none => match lexL f (r.drop u) line' col' with
      | some (.ok l) => some (.ok (t :: l))
      | x => x
def lexM (s : List UInt8) : Option (Except Flt (List TokM)) :=
  if s.length > 65536 then some (.error ⟨2, 0, 0⟩) else if lineLen s > 200 then some (.error ⟨93, 1, 1⟩) else lexL (2 * s.length + 3) s 1 0
end Go.Proofs.YtfdpccbajaiepaaGreatDoor.Lx

/- Words with a way out for panics; maps; ranges over strings; calls of functions without a body. -/
namespace Go.Proofs.YtfdpccbajaiepaaGreatDoor.Sxp
open Go Go.Proofs.YtfdpccbajaiepaaGreatDoor.Sx
set_option linter.unusedVariables false
set_option linter.unusedSimpArgs false
abbrev Kp := List PanicEntry → Hp → Prop
/-- A call that returns, or panics. -/
def CallsP (P : Program) (f : FuncId) (args : Array Value) (h : Hp) (K : Value → Hp → Prop) (KP : Kp) : Prop :=
  ∀ w : World, w.heap = h → Calls P f args w (fun e w' => (∃ v, e = .returned v ∧ Same w w' ∧ K v w'.heap) ∨ ∃ ch, e = .panicked ch ∧ Same w w' ∧ KP ch w'.heap)
theorem CallsP.mono {P : Program} {f : FuncId} {args : Array Value} {h : Hp} {K K' : Value → Hp → Prop} {KP KP' : Kp} (hc : CallsP P f args h K KP) (hm : ∀ v h', K v h' → K' v h') (hp : ∀ ch h', KP ch h' → KP' ch h') : CallsP P f args h K' KP' :=
  fun w hw => (hc w hw).mono fun e w' h => h.imp (fun ⟨v, he, hs, hK⟩ => ⟨v, he, hs, hm _ _ hK⟩) (fun ⟨ch, he, hs, hK⟩ => ⟨ch, he, hs, hp _ _ hK⟩)
theorem Sx.CallsH.p {P : Program} {f : FuncId} {args : Array Value} {h : Hp} {K : Value → Hp → Prop} {KP : Kp} (hc : CallsH P f args h K) : CallsP P f args h K KP :=
  fun w hw => (hc w hw).mono fun e w' h => .inl h
theorem CallsP.h {P : Program} {f : FuncId} {args : Array Value} {h : Hp} {K : Value → Hp → Prop} (hc : CallsP P f args h K fun _ _ => False) : CallsH P f args h K :=
  fun w hw => (hc w hw).mono fun e w' h => h.elim id (fun ⟨_, _, _, h⟩ => h.elim)
def nextP (P : Program) (K : Value → Hp → Prop) (KP : Kp) : Next → Hp → Prop
  | .value v, h => K v h
  | .skip, h => K undef h
  | .enter f args, h => CallsP P f args h K KP
  | .round l f tmps a b, h => RoundH P l f tmps a b h K
  | _, _ => False
theorem nextP_mono {P : Program} {K K' : Value → Hp → Prop} {KP : Kp} (hm : ∀ v h', K v h' → K' v h') : ∀ (nx : Next) (h : Hp), nextP P K KP nx h → nextP P K' KP nx h := by
  intro nx h hh
  cases nx <;> first | exact hm _ _ hh | exact CallsP.mono hh hm (fun _ _ h => h) | exact RoundH.mono hh hm | exact hh
theorem nextP_of {P : Program} {K : Value → Hp → Prop} {KP : Kp} : ∀ (nx : Next) (h : Hp), nextWp P K nx h → nextP P K KP nx h := by
  intro nx h hh
  cases nx <;> first | exact Sx.CallsH.p hh | exact hh
def HNP (P : Program) (s : Sem Next) (h : Hp) (K : Value → Hp → Prop) (KP : Kp) : Prop := semWp P s h (fun nx h' => nextP P K KP nx h')
theorem Sx.HN.p {P : Program} {s : Sem Next} {h : Hp} {K : Value → Hp → Prop} {KP : Kp} (hh : HN P s h K) : HNP P s h K KP := semWp_mono P s h (fun nx h' => nextP_of nx h') hh
theorem HNP_mono {P : Program} {s : Sem Next} {h : Hp} {K K' : Value → Hp → Prop} {KP : Kp} (hm : ∀ v h', K v h' → K' v h') (hh : HNP P s h K KP) : HNP P s h K' KP :=
  semWp_mono P s h (fun nx h' => nextP_mono hm nx h') hh
inductive Cls where
  | a | n | p | b | l | u | e | w | k | v | z | y | x
def cls (P : Program) (o : Oper) : Cls :=
  match o.op with
  | .move _ | .assign _ | .pick .. | .build .. | .fieldAddr .. | .field .. | .extract .. | .makeFunc .. | .makeInterface .. | .unOp .. => .a
  | .nilCheck _ => .n
  | .binOp op t _ y _ =>
    match op with
    | .quo | .rem | .shl | .shr => match isIntC y with
      | true => .a
      | false => .b
    | .eql | .neq => match P.underlying t with
      | some (.int _) | some .bool | some .string => .a
      | _ => .b
    | .add => match P.underlying t with
      | some (.int _) => .a
      | _ => .b
    | _ => .a
  | .convert s d _ =>
    match P.underlying s, P.underlying d with
    | some (.int _), some (.int _) => .a
    | some (.slice _), _ => .l
    | _, some (.slice _) => .w
    | some .unsafePointer, _ => .l
    | _, some .unsafePointer => .l
    | _, _ => .p
  | .load .. => .l
  | .lookup .. => .l
  | .makeMap .. => .w
  | .mapUpdate .. => .u
  | .range .. => .e
  | .next _ s => match s with
    | true => .y
    | false => .x
  | .panic _ => .z
  | .indexAddr .. | .index .. | .slice .. => .p
  | .store .. => .u
  | .alloc _ | .box .. | .buildSlice .. => .e
  | .makeSlice .. => .w
  | .call { callee := .builtin .len, .. } | .call { callee := .builtin .cap, .. } => .a
  | .call { callee := .builtin .min, .. } | .call { callee := .builtin .max, .. } => .p
  | .call { callee := .builtin .append, .. } | .call { callee := .builtin .copy, .. } | .call { callee := .builtin .clear, .. } => .w
  | .call { callee := .value (.func _), .. } => .k
  | .call { callee := .value _, .. } => .v
  | .call { callee := .invoke .., .. } => .v
  | _ => .x
def isE (P : Program) (o : Oper) : Bool :=
  match cls P o with
  | .u | .e | .w | .k | .v | .z | .y => true
  | _ => false
def opVal (ρ : Operand → Value) (o : Oper) : Sem Value :=
  match o.op with
  | .load t a => Instr.loadAt t (ρ a)
  | .lookup t x ix ok => Instr.lookup t (ρ x) (ρ ix) ok
  | .makeMap t r => Instr.makeMap t (r.map ρ)
  | .range t x => Instr.range t (ρ x)
  | .indexAddr t x ix => Instr.indexAt t (ρ x) (ρ ix)
  | .index t x ix => Instr.index t (ρ x) (ρ ix)
  | .slice t x lo hi mx => Instr.sliceAt t (ρ x) (lo.map ρ) (hi.map ρ) (mx.map ρ)
  | .binOp op t x y _ => binOp op t (ρ x) (ρ y)
  | .convert s d x => convert s d (ρ x)
  | .makeSlice t l c => Instr.makeSlice t (ρ l) (ρ c)
  | .alloc elem => Instr.alloc elem true (.tuple #[])
  | .box elem x => Instr.box elem (ρ x)
  | .buildSlice t len parts => Instr.buildSlice t len (partsL ρ parts)
  | .call { callee := .builtin .append, args, argTypes } => Builtin.append_ argTypes o.type (argsL ρ args)
  | .call { callee := .builtin .copy, args, argTypes } => Builtin.copy_ argTypes o.type (argsL ρ args)
  | .call { callee := .builtin .clear, args, argTypes } => Builtin.clear_ argTypes o.type (argsL ρ args)
  | .call { callee := .builtin .min, args, argTypes } => Builtin.min_ argTypes o.type (argsL ρ args)
  | .call { callee := .builtin .max, args, argTypes } => Builtin.max_ argTypes o.type (argsL ρ args)
  | _ => stuck ""
/-- What is told of the next rune of a string. -/
def asNx (K : Value → Hp → Prop) (v : Value) (h : Hp) : Prop := (v = .tuple #[.bool false] ∧ K (.tuple #[.bool false]) h) ∨ ∃ p c : Int, v = .tuple #[.bool true, .int .i64 p, .int .i32 c] ∧ K (.tuple #[.bool true, .int .i64 p, .int .i32 c]) h
theorem asNx_v {K : Value → Hp → Prop} {v : Value} {h : Hp} (hh : asNx K v h) : K v h := by
  rcases hh with ⟨rfl, hh⟩ | ⟨p, c, rfl, hh⟩ <;> exact hh
def isCst : Operand → Bool
  | .const _ => true
  | _ => false
def guardB (P : Program) (op : BinOp) (t : TypeId) (x y : Operand) (a b : Value) : Bool := match b with
  | .nilFunc => true
  | .nilIface => (match y with
    | .const _ => true
    | _ => someB (pureRun P (eqGuard op t x y a b)))
  | _ => someB (pureRun P (eqGuard op t x y a b))
theorem guardB_run {P : Program} {op : BinOp} {t : TypeId} {x y : Operand} {a b : Value} (h : guardB P op t x y a b = true) (w : World) : (eqGuard op t x y a b).run P w = .ok () w := by
  have key : someB (pureRun P (eqGuard op t x y a b)) = true → (eqGuard op t x y a b).run P w = .ok () w := fun h => by
    cases hp : pureRun P (eqGuard op t x y a b) with
    | none => rw [hp] at h; cases h
    | some u => exact pureRun_run P _ _ hp w
  have fn : ∀ a : Value, (eqGuard op t x y a .nilFunc).run P w = .ok () w := fun a => by
    unfold eqGuard
    cases op <;> cases a <;> simp [Result.andThen]
  have ifc : ∀ (a u : Value), (eqGuard op t x (.const u) a .nilIface).run P w = .ok () w := fun a u => by
    unfold eqGuard
    cases op <;> cases a <;> simp [Result.andThen]
  cases b
  case nilFunc => exact fn a
  case nilIface =>
    cases y
    case const u => exact ifc a u
    all_goals exact key h
  all_goals exact key h
def noDr (dr : Bool) (kp : Option Kp) : Option Kp := match dr with
  | true => none
  | false => kp
def opD (P : Program) (dr : Bool) (pr : Nat → Nat → Bool) (i : Nat) (o : Oper) (tm : Tm) (h : Hp) (past : Past) (reads : Reads) (kp : Option Kp) (K : KD) : Prop :=
  match definedB tm o with
  | false => False
  | true =>
  match cls P o with
  | .a => match pureRun P (execOp (ev tm) o) with
    | some (.value v) => K v h past reads
    | _ => False
  | .n => match o.op with
    | .nilCheck x => match ev tm x with
      | .pointer p => drf p fun a => K (.pointer (some a)) h past reads
      | _ => match pureRun P (execOp (ev tm) o) with
        | some (.value v) => K v h past reads
        | _ => False
    | _ => False
  | .b => match o.op with
    | .binOp op t x y _ => match guardB P op t x y (ev tm x) (ev tm y) with
      | true => exT (shOf P o.type) fun v => eqS P dr t y (opVal (ev tm) o) h v ∧ K v h past reads
      | false => False
    | _ => False
  | .p => exT (shO P o) fun v => PV P (opVal (ev tm) o) v ∧ K v h past reads
  | .l => exT (shOf P o.type) fun v => rdK P dr pr i (opVal (ev tm) o) h past reads K v
  | .u => match o.op with
    | .mapUpdate t m k x => HU P (Instr.mapUpdate t (ev tm m) (ev tm k) (ev tm x)) h fun h' => efK dr pr i h past reads K undef h'
    | .store t a x => HU P (Instr.storeAt t (ev tm a) (ev tm x)) h fun h' => efK dr pr i h past reads K undef h'
    | _ => False
  | .e => semWp P (opVal (ev tm) o) h (efK dr pr i h past reads K)
  | .w => HW P (opVal (ev tm) o) h (asT P o.type (efK dr pr i h past reads K))
  | .k => match pureRun P (execOp (ev tm) o) with
    | some (.enter f args) => (match kp with
      | none => CallsH P f args h (asT P o.type (efK dr pr i h past reads K))
      | some KP => CallsP P f args h (asT P o.type (efK dr pr i h past reads K)) KP)
    | some (.value v) => efK dr pr i h past reads K v h
    | _ => False
  | .v => match o.op with
    | .call { callee := .value f, args, .. } => (match kp with
      | none => HN P (callS (ev tm f) (argsL (ev tm) args)) h (asT P o.type (efK dr pr i h past reads K))
      | some KP => HNP P (callS (ev tm f) (argsL (ev tm) args)) h (asT P o.type (efK dr pr i h past reads K)) KP)
    | .call { callee := .invoke r m, args, .. } => (match kp with
      | none => HN P (callMethod (ev tm r) m (argsL (ev tm) args)) h (asT P o.type (efK dr pr i h past reads K))
      | some KP => HNP P (callMethod (ev tm r) m (argsL (ev tm) args)) h (asT P o.type (efK dr pr i h past reads K)) KP)
    | _ => False
  | .z => match o.op with
    | .panic x => (match noDr dr kp with
      | none => False
      | some KP => (match ev tm x with
        | .iface t v => KP [{ v := .iface t v, recovered := false }] h
        | _ => False))
    | _ => False
  | .y => match o.op with
    | .next it s => HW P (Instr.next (ev tm it) s o.type) h (asNx (efK dr pr i h past reads K))
    | _ => False
  | .x => False
/-- The last of the operations, behind all others. -/
def lastB (ops : Array Oper) (i : Nat) : Bool := Nat.beq (i + 1) ops.size && (List.range i).all fun j => hasPred ops ops.size j i
abbrev Kt := Tm → Kp
def kpT (kp : Option Kt) (tm : Tm) : Option Kp := match kp with
  | some f => some (f tm)
  | none => none
def kpAt (ops : Array Oper) (dr : Bool) (i : Nat) (kp : Option Kt) (tm : Tm) : Option Kp := match dr with
  | false => kpT kp tm
  | true => match lastB ops i with
    | true => kpT kp tm
    | false => none
def opsW (P : Program) (ops : Array Oper) (n : Nat) (dr : Bool) (Q : Tm → Hp → Prop) (kp : Option Kt) : List Nat → Tm → Hp → Past → Reads → Prop
  | [], tm, h, _, _ => Q tm h
  | i :: rest, tm, h, past, reads =>
    match ops[i]? with
    | none => False
    | some o =>
      match okDst n o.dst with
      | false => False
      | true =>
        match o.guard with
        | none => opD P dr (hasPred ops ops.size) i o tm h past reads (kpAt ops dr i kp tm) (fun v h' p r => opsW P ops n dr Q kp rest (tm.putO o.dst v) h' p r)
        | some (j, want) =>
          match (ops[j]?).bind (·.dst) with
          | none => False
          | some d =>
            match tm d with
            | some (.bool b) =>
              br b
                (match want with
                 | true => opD P dr (hasPred ops ops.size) i o (tm.put d (.bool true)) h past reads (kpAt ops dr i kp (tm.put d (.bool true))) (fun v h' p r => opsW P ops n dr Q kp rest ((tm.put d (.bool true)).putO o.dst v) h' p r)
                 | false => opsW P ops n dr Q kp rest ((tm.put d (.bool true)).putO o.dst undef) h past reads)
                (match want with
                 | true => opsW P ops n dr Q kp rest ((tm.put d (.bool false)).putO o.dst undef) h past reads
                 | false => opD P dr (hasPred ops ops.size) i o (tm.put d (.bool false)) h past reads (kpAt ops dr i kp (tm.put d (.bool false))) (fun v h' p r => opsW P ops n dr Q kp rest ((tm.put d (.bool false)).putO o.dst v) h' p r))
            | some _ => opsW P ops n dr Q kp rest (tm.putO o.dst undef) h past reads
            | none => False

def EfP (P : Program) (o : Oper) (tm : Tm) (h : Hp) (K : Value → Hp → Prop) (KP : Kp) : Prop := semWp P (execOp (ev tm) o) h (fun nx h' => nextP P K KP nx h')
theorem EfP.mono {P : Program} {o : Oper} {tm : Tm} {h : Hp} {K K' : Value → Hp → Prop} {KP : Kp} (hm : ∀ v h', K v h' → K' v h') (hh : EfP P o tm h K KP) : EfP P o tm h K' KP :=
  semWp_mono P _ h (fun nx h' => nextP_mono hm nx h') hh
theorem EfP.of {P : Program} {o : Oper} {tm : Tm} {h : Hp} {K : Value → Hp → Prop} {KP : Kp} (hh : EfS P o tm h K) : EfP P o tm h K KP :=
  semWp_mono P _ h (fun nx h' => nextP_of nx h') hh
/-- It panics. -/
def PnS (o : Oper) (tm : Tm) (h : Hp) (KP : Kp) : Prop := ∃ x t v, o.op = .panic x ∧ ev tm x = .iface t v ∧ KP [{ v := .iface t v, recovered := false }] h
theorem execOp_val (P : Program) (ρ : Operand → Value) (o : Oper) (hc : cls P o = .p ∨ cls P o = .l ∨ cls P o = .e ∨ cls P o = .w) :
    execOp ρ o = (opVal ρ o >>= fun v => pure (.value v)) ∨ ∃ op t x y yt, o.op = .binOp op t x y yt := by
  obtain ⟨dst, op, type, pos, after, guard⟩ := o
  cases op <;> (try (simp [cls] at hc; done)) <;> (try (exact .inl rfl)) <;> (try (exact .inr ⟨_, _, _, _, _, rfl⟩))
  case next it s => cases s <;> simp [cls] at hc
  case buildSlice t len parts => refine .inl ?_; simp only [execOp, opVal, partsL_eq]
  case call c =>
    obtain ⟨callee, args, argTypes⟩ := c
    cases callee with
    | builtin b =>
      refine .inl ?_
      cases b <;> first | (simp [cls] at hc; done) | (simp only [opVal, argsL_eq]; simp [execOp, resolve, invoke, builtin, Bind.bind, Pure.pure, Sem.bind])
    | invoke r m => simp [cls] at hc
    | value f => cases f <;> simp [cls] at hc
theorem cls_binOp {P : Program} {o : Oper} {op t x y yt} (h : o.op = .binOp op t x y yt) : cls P o = .a ∨ cls P o = .b := by
  obtain ⟨dst, op', type, pos, after, guard⟩ := o
  simp only at h
  subst h
  cases op <;> simp only [cls] <;> repeat' (first | (split) | (exact .inl trivial) | (exact .inl rfl) | (exact .inr rfl))
theorem rd_of_HV {P : Program} {o : Oper} {tm : Tm} {h : Hp} {v : Value} (hc : cls P o = .p ∨ cls P o = .l) (hv : HV P (opVal (ev tm) o) h v) : RdS P o tm h v := by
  intro w hw
  rcases execOp_val P (ev tm) o (by rcases hc with h | h <;> simp [h]) with he | ⟨op, t, x, y, yt, he⟩
  · rw [he]
    have := hv w hw
    simp [this, Result.andThen]
  · rcases cls_binOp (P := P) he with h1 | h1 <;> rw [h1] at hc <;> simp at hc
theorem ef_of_HW {P : Program} {o : Oper} {tm : Tm} {h : Hp} {K : Value → Hp → Prop} (hc : cls P o = .e ∨ cls P o = .w) (hv : semWp P (opVal (ev tm) o) h K) : EfS P o tm h K := by
  unfold EfS
  rcases execOp_val P (ev tm) o (by rcases hc with h | h <;> simp [h]) with he | ⟨op, t, x, y, yt, he⟩
  · rw [he]
    refine semWp_bind P _ _ h _ (semWp_mono P _ h (fun v h' hK => ?_) hv)
    exact hK
  · rcases cls_binOp (P := P) he with h1 | h1 <;> rw [h1] at hc <;> simp at hc
theorem plain_of_cls {P : Program} {o : Oper} (h : cls P o ≠ .x) : plainOp o := by
  obtain ⟨dst, op, type, pos, after, guard⟩ := o
  constructor
  · intro cs b he; simp only at he; subst he; exact h rfl
  · intro c he; simp only at he; subst he; exact h rfl
section
variable {P : Program} {ρ : Option Nat} {m n : Nat} {o : Oper} {tm : Tm} {a : Act} {w : World} {next : Act → World → Prop} {Q' : Exit → Act → World → Prop}
theorem wpIn_ep {ds : List Deferred} {K : Value → Hp → Prop} {KP : Kp} (hp : plainOp o) (hd : definedB tm o = true) (hl : Le ds tm a) (hr : EfP P o tm w.heap K KP) (hn : ∀ v w', Same w w' → K v w'.heap → next (a.put o.dst v) w')
    (hP : ∀ ch w', Same w w' → KP ch w'.heap → Q' (.panic ch) a w') : o.wpIn (FW ρ) m P a w next Q' := by
  refine ⟨fun _ _ => trivial, ?_⟩
  rw [Oper.semAt_eq _ _ _ hp.2, ← exec_same hp hd hl]
  obtain ⟨nx, w', hrun, hs, hK⟩ := semWp_run P _ _ w hr
  rw [hrun]
  cases nx <;> simp only [nextP] at hK
  case value v => exact hn v w' hs hK
  case skip => exact hn _ w' hs hK
  case enter f args =>
    refine ⟨(fun h => by cases h), ?_⟩
    have h1 : CallsIn Fence.wide (m - 1) P f args w' _ := callsIn_wide.2 (hK w' rfl)
    refine CallsIn.mono h1 (fun e w'' h2 => ?_)
    rcases h2 with ⟨v, he, hs2, hK2⟩ | ⟨ch, he, hs2, hK2⟩
    · subst he; exact hn v w'' (hs.trans hs2) hK2
    · subst he; exact hP ch w'' (hs.trans hs2) hK2
  case round l f tmps as9 bd =>
    refine ⟨(fun h => by cases h), ?_⟩
    have h1 : RoundIn Fence.wide (m - 1) P l f tmps as9 bd w' _ := hK w' rfl (m - 1)
    exact RoundIn.mono h1 (fun e w'' ⟨v, he, hs2, hK2⟩ => by subst he; exact hn v w'' (hs.trans hs2) hK2)
theorem wpIn_pn {ds : List Deferred} {KP : Kp} (hp : plainOp o) (hd : definedB tm o = true) (hl : Le ds tm a) (hr : PnS o tm w.heap KP) (hP : ∀ ch, KP ch w.heap → Q' (.panic ch) a w) : o.wpIn (FW ρ) m P a w next Q' := by
  refine ⟨fun _ _ => trivial, ?_⟩
  rw [Oper.semAt_eq _ _ _ hp.2, ← exec_same hp hd hl]
  obtain ⟨x, t, v, hx, hv, hK⟩ := hr
  have e : (execOp (ev tm) o).run P w = .halt (.panic (.iface t v)) w := by
    simp only [execOp, hx, hv]
    rfl
  rw [e]
  exact hP _ hK
end
/-- The abstract walk in the order of the text. -/
def iW (P : Program) (ops : Array Oper) (n : Nat) (Q : Tm → Hp → Prop) (KP : Kt) : List Nat → Tm → Hp → Prop
  | [], tm, h => Q tm h
  | i :: rest, tm, h => ∃ o, ops[i]? = some o ∧ okDst n o.dst = true ∧
      ((wantB ops tm o = some false ∧ iW P ops n Q KP rest (tm.putO o.dst undef) h) ∨
       (wantB ops tm o = some true ∧ plainOp o ∧ definedB tm o = true ∧
         ((∃ v, RdS P o tm h v ∧ iW P ops n Q KP rest (tm.putO o.dst v) h) ∨ EfP P o tm h (fun v h' => iW P ops n Q KP rest (tm.putO o.dst v) h') (KP tm) ∨ PnS o tm h (KP tm))))
theorem iW_sound {ds : List Deferred} {P : Program} {ops : Array Oper} {n m : Nat} {ρ : Option Nat} {Q : Tm → Hp → Prop} {KP : Kt} {Q' : Exit → Act → World → Prop} {w0 : World} (hQ : ∀ a w, LQ ds w0 n Q a w → Q' .normal a w)
    (hP : ∀ ch a w, LQ ds w0 n (fun tm h => KP tm ch h) a w → Q' (.panic ch) a w) :
    ∀ (l : List Nat) (tm : Tm) (a : Act) (w : World), iW P ops n Q KP l tm w.heap → Le ds tm a → a.tmps.size = n → Same w0 w → wpOpsIn (FW ρ) m P ops Q' l a w
  | [], tm, a, w, h, hl, hz, hs => hQ a w ⟨tm, hl, hz, hs, h⟩
  | i :: rest, tm, a, w, h, hl, hz, hs => by
    obtain ⟨o, ho, hk, h⟩ := h
    simp only [wpOpsIn, ho]
    rcases h with ⟨hw, h⟩ | ⟨hw, hp, hd, h⟩
    · rw [wanted_of_wantB hl hw]
      simp only [Bool.false_eq_true, if_false]
      obtain ⟨h1, h2⟩ := putO_le hl hz hk undef
      exact ⟨fun _ _ => trivial, iW_sound hQ hP rest _ _ w h h1 h2 hs⟩
    · rw [wanted_of_wantB hl hw]
      simp only [if_true]
      rcases h with ⟨v, hr, h⟩ | h | h
      · obtain ⟨h1, h2⟩ := putO_le hl hz hk v
        exact wpIn_rd hp hd hl hr (iW_sound hQ hP rest _ _ w h h1 h2 hs)
      · refine wpIn_ep hp hd hl h (fun v w' hs2 hK => ?_) (fun ch w' hs2 hK => hP ch a w' ⟨tm, hl, hz, hs.trans hs2, hK⟩)
        obtain ⟨h1, h2⟩ := putO_le hl hz hk v
        exact iW_sound hQ hP rest _ _ w' hK h1 h2 (hs.trans hs2)
      · exact wpIn_pn hp hd hl h (fun ch hK => hP ch a w ⟨tm, hl, hz, hs, hK⟩)
def kpO : Option Kp → Kp
  | some KP => KP
  | none => fun _ _ => False
def kpOf : Option Kt → Kt
  | some KP => KP
  | none => fun _ _ _ => False
theorem kpO_T (kp : Option Kt) (tm : Tm) : kpO (kpT kp tm) = kpOf kp tm := by cases kp <;> rfl
theorem opD_step {P : Program} {pr : Nat → Nat → Bool} {i : Nat} {o : Oper} {tm : Tm} {h : Hp} {past : Past} {reads : Reads} {kp : Option Kp} {K : KD} (hh : opD P false pr i o tm h past reads kp K) :
    plainOp o ∧ definedB tm o = true ∧ ((∃ v, RdS P o tm h v ∧ K v h past reads) ∨ EfP P o tm h (fun v h' => K v h' past reads) (kpO kp) ∨ PnS o tm h (kpO kp)) := by
  unfold opD at hh
  cases hd : definedB tm o with
  | false => rw [hd] at hh; exact hh.elim
  | true =>
    rw [hd] at hh
    simp only at hh
    have asT_v : ∀ (t : TypeId) (K' : Value → Hp → Prop) (v : Value) (h' : Hp), asT P t K' v h' → K' v h' := fun t K' v h' ha => by
      obtain ⟨u, hu, hK⟩ := exT_ex _ ha
      rw [hu]; exact hK
    refine ⟨?_, rfl, ?_⟩
    · refine plain_of_cls (P := P) (fun hx => ?_)
      rw [hx] at hh; exact hh
    · cases hc : cls P o <;> rw [hc] at hh <;> simp only at hh
      case a =>
        split at hh
        · rename_i v hv; exact .inl ⟨v, rd_of_pure hv, hh⟩
        · exact hh.elim
      case n =>
        split at hh
        · rename_i x hx
          split at hh
          · rename_i p hp
            unfold drf at hh
            split at hh
            · rename_i a
              refine .inl ⟨_, rd_of_pure ?_, hh⟩
              simp only [execOp, hx, hp]
              rfl
            · exact hh.elim
          · split at hh
            · rename_i v hv; exact .inl ⟨v, rd_of_pure hv, hh⟩
            · exact hh.elim
        · exact hh.elim
      case p =>
        obtain ⟨v, hv, hK⟩ := exT_ex _ hh
        exact .inl ⟨v, rd_of_HV (.inl hc) (fun w _ => hv w), hK⟩
      case b =>
        split at hh
        · rename_i op t x y yt hx
          split at hh
          · rename_i hg
            obtain ⟨v, hv, hK⟩ := exT_ex _ hh
            refine .inl ⟨v, fun w hw => ?_, hK⟩
            have h1 := guardB_run hg w
            have h2 := eqS_run hv w hw
            simp only [opVal, hx] at h2
            simp [execOp, hx, h1, h2, Result.andThen]
          · exact hh.elim
        · exact hh.elim
      case l =>
        obtain ⟨v, hv⟩ := exT_ex _ hh
        exact .inl ⟨v, rd_of_HV (.inr hc) hv.1, hv.2⟩
      case u =>
        split at hh
        · rename_i t m k x hx
          refine .inr (.inl (EfP.of ?_))
          unfold EfS
          simp only [execOp, hx]
          exact semWp_bind P _ _ h _ hh
        · rename_i t x y hx
          refine .inr (.inl (EfP.of ?_))
          unfold EfS
          simp only [execOp, hx]
          exact semWp_bind P _ _ h _ hh
        · exact hh.elim
      case z =>
        split at hh
        · rename_i x hx
          cases kp with
          | none => exact hh.elim
          | some KP =>
            simp only [noDr] at hh
            split at hh
            · rename_i t v hv; exact .inr (.inr ⟨x, t, v, hx, hv, hh⟩)
            · exact hh.elim
        · exact hh.elim
      case y =>
        split at hh
        · rename_i it s hx
          refine .inr (.inl (EfP.of ?_))
          unfold EfS
          simp only [execOp, hx]
          exact semWp_bind P _ _ h _ (semWp_mono P _ h (fun v h' ha => asNx_v ha) hh)
        · exact hh.elim
      case e => exact .inr (.inl (EfP.of (ef_of_HW (.inl hc) hh)))
      case w => exact .inr (.inl (EfP.of (ef_of_HW (.inr hc) (semWp_mono P _ h (fun v h' ha => asT_v _ _ v h' ha) hh))))
      case k =>
        have pr1 : ∀ {α : Type} (s : Sem α) (x : α) (K : α → Hp → Prop), pureRun P s = some x → K x h → semWp P s h K := fun s x K => semWp_pure P s x h K
        split at hh
        · rename_i f args hf
          refine .inr (.inl ?_)
          cases kp with
          | none => exact EfP.of (pr1 _ _ _ hf (CallsH.mono hh (fun v h' ha => asT_v _ _ v h' ha)))
          | some KP => exact pr1 _ _ _ hf (CallsP.mono hh (fun v h' ha => asT_v _ _ v h' ha) (fun _ _ h => h))
        · rename_i v hf
          exact .inr (.inl (EfP.of (pr1 _ _ _ hf hh)))
        · exact hh.elim
      case v =>
        split at hh
        · rename_i f args at_ hx
          refine .inr (.inl ?_)
          have e : (do let d ← resolve (ev tm) { callee := .value f, args := args, argTypes := at_ } o.type; invoke d.target d.args) = callS (ev tm f) (argsL (ev tm) args) := by
            simp only [resolve, callS, argsL_eq]
          cases kp with
          | none =>
            refine EfP.of ?_
            unfold EfS
            simp only [execOp, hx]
            rw [e]
            exact HN_mono (fun v h' ha => asT_v _ _ v h' ha) hh
          | some KP =>
            unfold EfP
            simp only [execOp, hx]
            rw [e]
            exact HNP_mono (fun v h' ha => asT_v _ _ v h' ha) hh
        · rename_i r m args at_ hx
          refine .inr (.inl ?_)
          cases kp with
          | none =>
            refine EfP.of ?_
            unfold EfS
            simp only [execOp, hx]
            rw [invoke_eq]
            exact HN_mono (fun v h' ha => asT_v _ _ v h' ha) hh
          | some KP =>
            unfold EfP
            simp only [execOp, hx]
            rw [invoke_eq]
            exact HNP_mono (fun v h' ha => asT_v _ _ v h' ha) hh
        · exact hh.elim
theorem opsW_iW {P : Program} {ops : Array Oper} {n : Nat} {Q : Tm → Hp → Prop} {kp : Option Kt} : ∀ (l : List Nat) (tm : Tm) (h : Hp) (past : Past) (reads : Reads), opsW P ops n false Q kp l tm h past reads → iW P ops n Q (kpOf kp) l tm h
  | [], tm, h, past, reads, hh => hh
  | i :: rest, tm, h, past, reads, hh => by
    rw [opsW] at hh
    cases ho : ops[i]? with
    | none => rw [ho] at hh; exact hh.elim
    | some o =>
      rw [ho] at hh
      simp only at hh
      cases hk : okDst n o.dst with
      | false => rw [hk] at hh; exact hh.elim
      | true =>
        rw [hk] at hh
        simp only at hh
        have step : ∀ tm2, tm2 = tm → wantB ops tm o = some true → opD P false (hasPred ops ops.size) i o tm2 h past reads (kpAt ops false i kp tm2) (fun v h' p r => opsW P ops n false Q kp rest (tm2.putO o.dst v) h' p r) → iW P ops n Q (kpOf kp) (i :: rest) tm h := by
          intro tm2 e hw hop
          subst e
          obtain ⟨h1, h2, h3⟩ := opD_step hop
          refine ⟨o, ho, hk, .inr ⟨hw, h1, h2, ?_⟩⟩
          rcases h3 with ⟨v, hr, hK⟩ | h3 | h3
          · exact .inl ⟨v, hr, opsW_iW rest _ _ _ _ hK⟩
          · rw [show kpAt ops false i kp tm2 = kpT kp tm2 from rfl, kpO_T] at h3
            exact .inr (.inl (h3.mono fun v h' hK => opsW_iW rest _ _ _ _ hK))
          · rw [show kpAt ops false i kp tm2 = kpT kp tm2 from rfl, kpO_T] at h3
            exact .inr (.inr h3)
        have skip : ∀ tm2, tm2 = tm → wantB ops tm o = some false → opsW P ops n false Q kp rest (tm2.putO o.dst undef) h past reads → iW P ops n Q (kpOf kp) (i :: rest) tm h := by
          intro tm2 e hw hop
          subst e
          exact ⟨o, ho, hk, .inl ⟨hw, opsW_iW rest _ _ _ _ hop⟩⟩
        cases hg : o.guard with
        | none =>
          rw [hg] at hh
          exact step tm rfl (by simp [wantB, hg]) hh
        | some jw =>
          obtain ⟨j, want⟩ := jw
          rw [hg] at hh
          simp only at hh
          cases hj : (ops[j]?).bind (·.dst) with
          | none => rw [hj] at hh; exact hh.elim
          | some d =>
            rw [hj] at hh
            simp only at hh
            cases ht : tm d with
            | none => rw [ht] at hh; exact hh.elim
            | some v =>
              rw [ht] at hh
              have hput : tm.put d v = tm := Tm.put_same ht
              have hwb : ∀ b, v = .bool b → wantB ops tm o = some (b == want) := fun b e => by simp [wantB, hg, hj, ht, e]
              cases v <;> first
                | (exact skip tm rfl (by simp [wantB, hg, hj, ht]) hh)
                | skip
              rename_i b
              cases b <;> cases want <;> simp only [br] at hh
              · exact step _ hput (hwb _ rfl) hh
              · exact skip _ hput (hwb _ rfl) hh
              · exact skip _ hput (hwb _ rfl) hh
              · exact step _ hput (hwb _ rfl) hh
theorem opsW_sound {ds : List Deferred} {P : Program} {ops : Array Oper} {n m : Nat} {ρ : Option Nat} {id : Nat} {Q : Tm → Hp → Prop} {kp : Option Kt} {Q' : Exit → Act → World → Prop} {w0 : World} (hQ : ∀ a w, LQ ds w0 n Q a w → Q' .normal a w)
    (hP : ∀ ch a w, LQ ds w0 n (fun tm h => kpOf kp tm ch h) a w → Q' (.panic ch) a w)
    {tm : Tm} {a : Act} {w : World} (h : opsW P ops n false Q kp (List.range ops.size) tm w.heap [] []) (hl : Le ds tm a) (hz : a.tmps.size = n) (hs : Same w0 w) : (Code.region id ops false).wpIn (FW ρ) m P Q' a w :=
  wpIn_region (iW_sound hQ hP _ _ _ _ (opsW_iW _ _ _ _ _ h) hl hz hs)
end Go.Proofs.YtfdpccbajaiepaaGreatDoor.Sxp
