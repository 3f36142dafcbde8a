/- Words of this session's own: a clean reading of the code over the heap alone (no memory of the machine's steps), and that it is right. -/
import Derived.WalkKit
import Derived.CallsIn
import Derived.OrdersIn
import Derived.KernelRfl
namespace Go.Proofs.YtoheablfncdibaaDoor.Sx
open Go
set_option linter.unusedVariables false
set_option linter.unusedSimpArgs false

abbrev Hp := Array Obj
/-- A world of this heap. -/
def W (h : Hp) : World := { (default : World) with heap := h }
structure Same (w w' : World) : Prop where
  os : w'.os = w.os
  tape : w'.tape = w.tape
  output : w'.output = w.output
  drawn : w.drawn ≤ w'.drawn
theorem Same.refl (w : World) : Same w w := ⟨rfl, rfl, rfl, Nat.le_refl _⟩
theorem Same.trans {a b c : World} (h : Same a b) (k : Same b c) : Same a c := ⟨k.os.trans h.os, k.tape.trans h.tape, k.output.trans h.output, Nat.le_trans h.drawn k.drawn⟩

/-! ### What an instruction does to the heap -/
def notCells : Obj → Bool
  | .cells .. => false
  | _ => true
def flatV : Value → Bool
  | .agg _ => false
  | .tuple _ => false
  | _ => true
def semWp (P : Program) {α : Type} : Sem α → Hp → (α → Hp → Prop) → Prop
  | .pure a, h, K => K a h
  | .load _ a k, h, K => ∃ v, (W h).cell? a = some v ∧ semWp P (k v) h K
  | .store _ a v k, h, K => flatV v = true ∧ (∃ u, (W h).cell? a = some u) ∧ (W h).frozen? a = false ∧ semWp P k ((W h).setCell a v).heap K
  | .new o k, h, K => semWp P (k h.size) (h.push o) K
  | .shape r k, h, K => semWp P (k ((W h).shape? r)) h K
  | .freeze a n k, h, K => semWp P k ((W h).freeze a n).heap K
  | .frozen a k, h, K => semWp P (k ((W h).frozen? a)) h K
  | .getObj r k, h, K => ∃ o, h[r]? = some o ∧ notCells o = true ∧ semWp P (k o) h K
  | .setObj r o k, h, K => (∃ o', h[r]? = some o' ∧ notCells o' = true) ∧ semWp P k (h.setIfInBounds r o) K
  | .choose q k, h, K => (q.forced = true → semWp P (k 0) h K) ∧ (q.forced = false → ∀ t, semWp P (k (q.cut t)) h K)
  | .sys _ _, _, _ => False
  | .program k, h, K => semWp P (k P) h K
  | .mark _ k, h, K => semWp P k h K
  | .halt _, _, _ => False

theorem cell_W (w : World) (a : Addr) : (W w.heap).cell? a = w.cell? a := rfl
theorem frozen_W (w : World) (a : Addr) : (W w.heap).frozen? a = w.frozen? a := rfl

theorem semWp_run (P : Program) {α : Type} (s : Sem α) : ∀ (K : α → Hp → Prop) (w : World), semWp P s w.heap K → ∃ a w', s.run P w = .ok a w' ∧ Same w w' ∧ K a w'.heap := by
  induction s with
  | pure a => intro K w h; exact ⟨a, w, rfl, .refl w, h⟩
  | load m a k ih =>
    intro K w ⟨v, hv, h⟩
    obtain ⟨x, w', hr, hs, hK⟩ := ih v K w h
    exact ⟨x, w', by rw [cell_W] at hv; simp only [Sem.run, hv]; exact hr, hs, hK⟩
  | store m a v k ih =>
    intro K w ⟨hf, ⟨u, hu⟩, hz, h⟩
    obtain ⟨x, w', hr, hs, hK⟩ := ih K (w.setCell a v) h
    rw [cell_W] at hu
    rw [frozen_W] at hz
    refine ⟨x, w', ?_, ⟨hs.os, hs.tape, hs.output, hs.drawn⟩, hK⟩
    cases v <;> first | (simp [flatV] at hf; done) | (simp only [Sem.run, hu, hz]; exact hr)
  | new o k ih =>
    intro K w h
    obtain ⟨x, w', hr, hs, hK⟩ := ih _ K { w with heap := w.heap.push o } h
    exact ⟨x, w', hr, ⟨hs.os, hs.tape, hs.output, hs.drawn⟩, hK⟩
  | shape r k ih => intro K w h; exact ih _ K w h
  | freeze a n k ih =>
    intro K w h
    have e : ((W w.heap).freeze a n).heap = (w.freeze a n).heap := by unfold World.freeze; split <;> rfl
    rw [semWp, e] at h
    obtain ⟨x, w', hr, hs, hK⟩ := ih K (w.freeze a n) h
    have e2 : Same w (w.freeze a n) := by unfold World.freeze; split <;> exact ⟨rfl, rfl, rfl, Nat.le_refl _⟩
    exact ⟨x, w', hr, e2.trans hs, hK⟩
  | frozen a k ih => intro K w h; exact ih _ K w h
  | getObj r k ih =>
    intro K w ⟨o, ho, hn, h⟩
    obtain ⟨x, w', hr, hs, hK⟩ := ih o K w h
    refine ⟨x, w', ?_, hs, hK⟩
    cases o <;> first | (simp [notCells] at hn; done) | (simp only [Sem.run, ho]; exact hr)
  | setObj r o k ih =>
    intro K w ⟨⟨o', ho, hn⟩, h⟩
    obtain ⟨x, w', hr, hs, hK⟩ := ih K { w with heap := w.heap.setIfInBounds r o } h
    refine ⟨x, w', ?_, ⟨hs.os, hs.tape, hs.output, hs.drawn⟩, hK⟩
    cases o' <;> first | (simp [notCells] at hn; done) | (simp only [Sem.run, ho]; exact hr)
  | choose q k ih =>
    intro K w ⟨h1, h2⟩
    cases hq : q.forced with
    | true =>
      obtain ⟨x, w', hr, hs, hK⟩ := ih 0 K w (h1 hq)
      exact ⟨x, w', by simp only [Sem.run, hq, if_true]; exact hr, hs, hK⟩
    | false =>
      obtain ⟨x, w', hr, hs, hK⟩ := ih _ K { w with drawn := w.drawn + 1 } (h2 hq (w.tape w.drawn q))
      exact ⟨x, w', by simp only [Sem.run, hq]; exact hr, ⟨hs.os, hs.tape, hs.output, Nat.le_trans (Nat.le_succ _) hs.drawn⟩, hK⟩
  | sys c k ih => intro K w h; exact h.elim
  | program k ih => intro K w h; exact ih P K w h
  | mark m k ih => intro K w h; exact ih K w h
  | halt x => intro K w h; exact h.elim

theorem semWp_mono (P : Program) {α : Type} (s : Sem α) : ∀ {K K' : α → Hp → Prop} (h : Hp), (∀ a h', K a h' → K' a h') → semWp P s h K → semWp P s h K' := by
  induction s with
  | pure a => intro K K' h hm hh; exact hm _ _ hh
  | load m a k ih => intro K K' h hm ⟨v, hv, hh⟩; exact ⟨v, hv, ih v h hm hh⟩
  | store m a v k ih => intro K K' h hm ⟨hf, hu, hz, hh⟩; exact ⟨hf, hu, hz, ih _ hm hh⟩
  | new o k ih => intro K K' h hm hh; exact ih _ _ hm hh
  | shape r k ih => intro K K' h hm hh; exact ih _ _ hm hh
  | freeze a n k ih => intro K K' h hm hh; exact ih _ hm hh
  | frozen a k ih => intro K K' h hm hh; exact ih _ _ hm hh
  | getObj r k ih => intro K K' h hm ⟨o, ho, hn, hh⟩; exact ⟨o, ho, hn, ih _ _ hm hh⟩
  | setObj r o k ih => intro K K' h hm ⟨ho, hh⟩; exact ⟨ho, ih _ hm hh⟩
  | choose q k ih => intro K K' h hm ⟨h1, h2⟩; exact ⟨fun e => ih _ _ hm (h1 e), fun e t => ih _ _ hm (h2 e t)⟩
  | sys c k ih => intro K K' h hm hh; exact hh.elim
  | program k ih => intro K K' h hm hh; exact ih _ _ hm hh
  | mark m k ih => intro K K' h hm hh; exact ih _ hm hh
  | halt x => intro K K' h hm hh; exact hh.elim

/-- An instruction that looks at nothing. -/
def pureRun (P : Program) {α : Type} : Sem α → Option α
  | .pure a => some a
  | .program k => pureRun P (k P)
  | .mark _ k => pureRun P k
  | _ => none
theorem pureRun_run (P : Program) {α : Type} (s : Sem α) (a : α) : pureRun P s = some a → ∀ w, s.run P w = .ok a w := by
  induction s with
  | pure b => intro h w; simp [pureRun] at h; subst h; rfl
  | program k ih => intro h w; exact ih P h w
  | mark m k ih => intro h w; exact ih h w
  | _ => intro h; simp [pureRun] at h
/-- It yields v, whatever the world. -/
def PV (P : Program) (s : Sem Value) (v : Value) : Prop := ∀ w, s.run P w = .ok v w
/-- It yields v at this heap, and leaves it. -/
def HV (P : Program) (s : Sem Value) (h : Hp) (v : Value) : Prop := ∀ w : World, w.heap = h → s.run P w = .ok v w
theorem HV.uniq {P : Program} {s : Sem Value} {h : Hp} {v v' : Value} (a : HV P s h v) (b : HV P s h v') : v = v' := by
  have := (a (W h) rfl).symm.trans (b (W h) rfl)
  injection this
/-- It changes the heap. -/
def HW (P : Program) (s : Sem Value) (h : Hp) (K : Value → Hp → Prop) : Prop := semWp P s h K
def HU (P : Program) (s : Sem Unit) (h : Hp) (K : Hp → Prop) : Prop := semWp P s h (fun _ h' => K h')

/-! ### Calls -/
def CallsH (P : Program) (f : FuncId) (args : Array Value) (h : Hp) (K : Value → Hp → Prop) : Prop :=
  ∀ w : World, w.heap = h → Calls P f args w (fun e w' => ∃ v, e = .returned v ∧ Same w w' ∧ K v w'.heap)
theorem CallsH.mono {P : Program} {f : FuncId} {args : Array Value} {h : Hp} {K K' : Value → Hp → Prop} (hc : CallsH P f args h K) (hm : ∀ v h', K v h' → K' v h') : CallsH P f args h K' :=
  fun w hw => (hc w hw).mono fun e w' ⟨v, he, hs, hK⟩ => ⟨v, he, hs, hm _ _ hK⟩
theorem CallsH.some {P : Program} {f : FuncId} {args : Array Value} {h : Hp} {K : Value → Hp → Prop} (hc : CallsH P f args h K) : ∃ v h', K v h' := by
  obtain ⟨e, w', fr, ⟨v, _, _, hK⟩, _⟩ := hc (W h) rfl []
  exact ⟨v, _, hK⟩
abbrev FW (ρ : Option Nat) : Fence := { Fence.wide with round := ρ }
def RoundH (P : Program) (l : Nat) (f : FuncId) (tmps : Array Value) (assign body : Code) (h : Hp) (K : Value → Hp → Prop) : Prop :=
  ∀ (w : World), w.heap = h → ∀ n, RoundIn Fence.wide n P l f tmps assign body w (fun e w' => ∃ v, e = .returned v ∧ Same w w' ∧ K v w'.heap)
theorem RoundH.mono {P : Program} {l : Nat} {f : FuncId} {tmps : Array Value} {assign body : Code} {h : Hp} {K K' : Value → Hp → Prop} (hc : RoundH P l f tmps assign body h K) (hm : ∀ v h', K v h' → K' v h') : RoundH P l f tmps assign body h K' :=
  fun w hw n => (hc w hw n).mono fun e w' ⟨v, he, hs, hK⟩ => ⟨v, he, hs, hm _ _ hK⟩
theorem RoundH.some {P : Program} {l : Nat} {f : FuncId} {tmps : Array Value} {assign body : Code} {h : Hp} {K : Value → Hp → Prop} (hc : RoundH P l f tmps assign body h K) : ∃ v h', K v h' := by
  obtain ⟨e, w', ⟨v, _, _, hK⟩, _⟩ := (hc (W h) rfl 0).2 default [] (room_wide _)
  exact ⟨v, _, hK⟩
def nextWp (P : Program) (K : Value → Hp → Prop) : Next → Hp → Prop
  | .value v, h => K v h
  | .skip, h => K undef h
  | .enter f args, h => CallsH P f args h K
  | .round l f tmps a b, h => RoundH P l f tmps a b h K
  | _, _ => False
theorem nextWp_mono {P : Program} {K K' : Value → Hp → Prop} (hm : ∀ v h', K v h' → K' v h') : ∀ (nx : Next) (h : Hp), nextWp P K nx h → nextWp P K' nx h := by
  intro nx h hh
  cases nx <;> first | exact hm _ _ hh | exact CallsH.mono hh hm | exact RoundH.mono hh hm | exact hh
theorem nextWp_some {P : Program} {K : Value → Hp → Prop} : ∀ (nx : Next) (h : Hp), nextWp P K nx h → ∃ v h', K v h' := by
  intro nx h hh
  cases nx <;> first | exact ⟨_, _, hh⟩ | exact CallsH.some hh | exact RoundH.some hh | exact hh.elim
/-- A call of a function's value. -/
def HN (P : Program) (s : Sem Next) (h : Hp) (K : Value → Hp → Prop) : Prop := semWp P s h (fun nx h' => nextWp P K nx h')
theorem HN_mono {P : Program} {s : Sem Next} {h : Hp} {K K' : Value → Hp → Prop} (hm : ∀ v h', K v h' → K' v h') (hh : HN P s h K) : HN P s h K' :=
  semWp_mono P s h (fun nx h' => nextWp_mono hm nx h') hh
theorem HN_some {P : Program} {s : Sem Next} {h : Hp} {K : Value → Hp → Prop} (hh : HN P s h K) : ∃ v h', K v h' := by
  obtain ⟨nx, w', _, _, hn⟩ := semWp_run P s _ (W h) hh
  exact nextWp_some _ _ hn

/-! ### Shapes of values -/
inductive Sc where
  | int (k : IntKind) | bool | str | slice | ptr | any | adr
inductive S1 where
  | sc (s : Sc) | agg (l : List Sc)
inductive Sh where
  | one (s : S1) | tup (l : List S1)
def exSc : Sc → (Value → Prop) → Prop
  | .int k, K => ∃ x : Int, K (.int k x)
  | .bool, K => ∃ b : Bool, K (.bool b)
  | .str, K => ∃ s : ByteArray, K (.string s)
  | .slice, K => ∃ (A : Option Addr) (l c : Nat), K (.slice A l c)
  | .ptr, K => ∃ p : Option Addr, K (.pointer p)
  | .any, K => ∃ v : Value, K v
  | .adr, K => ∃ a : Addr, K (.pointer (some a))
def exScs : List Sc → (List Value → Prop) → Prop
  | [], K => K []
  | s :: r, K => exSc s fun v => exScs r fun l => K (v :: l)
def ex1 : S1 → (Value → Prop) → Prop
  | .sc s, K => exSc s K
  | .agg l, K => exScs l fun vs => K (.agg vs.toArray)
def ex1s : List S1 → (List Value → Prop) → Prop
  | [], K => K []
  | s :: r, K => ex1 s fun v => ex1s r fun l => K (v :: l)
def exT : Sh → (Value → Prop) → Prop
  | .one s, K => ex1 s K
  | .tup l, K => ex1s l fun vs => K (.tuple vs.toArray)
theorem exSc_ex : ∀ (s : Sc) {K : Value → Prop}, exSc s K → ∃ v, K v
  | .int k, K, ⟨x, h⟩ => ⟨_, h⟩
  | .bool, K, ⟨x, h⟩ => ⟨_, h⟩
  | .str, K, ⟨x, h⟩ => ⟨_, h⟩
  | .slice, K, ⟨x, _, _, h⟩ => ⟨_, h⟩
  | .ptr, K, ⟨x, h⟩ => ⟨_, h⟩
  | .any, K, ⟨x, h⟩ => ⟨_, h⟩
  | .adr, K, ⟨x, h⟩ => ⟨_, h⟩
theorem exScs_ex : ∀ (s : List Sc) {K : List Value → Prop}, exScs s K → ∃ v, K v
  | [], K, h => ⟨_, h⟩
  | s :: r, K, h => by
    obtain ⟨v, hv⟩ := exSc_ex s h
    obtain ⟨l, hl⟩ := exScs_ex r hv
    exact ⟨_, hl⟩
theorem ex1_ex : ∀ (s : S1) {K : Value → Prop}, ex1 s K → ∃ v, K v
  | .sc s, K, h => exSc_ex s h
  | .agg l, K, h => by
    obtain ⟨vs, hv⟩ := exScs_ex l h
    exact ⟨_, hv⟩
theorem ex1s_ex : ∀ (s : List S1) {K : List Value → Prop}, ex1s s K → ∃ v, K v
  | [], K, h => ⟨_, h⟩
  | s :: r, K, h => by
    obtain ⟨v, hv⟩ := ex1_ex s h
    obtain ⟨l, hl⟩ := ex1s_ex r hv
    exact ⟨_, hl⟩
theorem exT_ex : ∀ (s : Sh) {K : Value → Prop}, exT s K → ∃ v, K v
  | .one s, K, h => ex1_ex s h
  | .tup l, K, h => by
    obtain ⟨vs, hv⟩ := ex1s_ex l h
    exact ⟨_, hv⟩
theorem exSc_mono : ∀ (s : Sc) {K K' : Value → Prop}, (∀ v, K v → K' v) → exSc s K → exSc s K'
  | .int k, K, K', hm, ⟨x, h⟩ => ⟨x, hm _ h⟩
  | .bool, K, K', hm, ⟨x, h⟩ => ⟨x, hm _ h⟩
  | .str, K, K', hm, ⟨x, h⟩ => ⟨x, hm _ h⟩
  | .slice, K, K', hm, ⟨x, y, z, h⟩ => ⟨x, y, z, hm _ h⟩
  | .ptr, K, K', hm, ⟨x, h⟩ => ⟨x, hm _ h⟩
  | .any, K, K', hm, ⟨x, h⟩ => ⟨x, hm _ h⟩
  | .adr, K, K', hm, ⟨x, h⟩ => ⟨x, hm _ h⟩
def scOf (P : Program) (t : TypeId) : Sc :=
  match P.underlying t with
  | some (.int k) => .int k
  | some .bool => .bool
  | some .string => .str
  | some (.slice _) => .slice
  | some (.pointer _) => .ptr
  | _ => .any
def scsOf (P : Program) : Nat → TypeId → List Sc
  | 0, _ => []
  | n + 1, t =>
    match P.underlying t with
    | some (.struct fs) => fs.toList.flatMap fun f => scsOf P n f.type
    | some (.array k e) => (List.replicate k (scsOf P n e)).flatten
    | _ => [scOf P t]
def s1Of (P : Program) (t : TypeId) : S1 :=
  match P.underlying t with
  | some (.struct _) => .agg (scsOf P 9 t)
  | some (.array _ _) => .agg (scsOf P 9 t)
  | _ => .sc (scOf P t)
def shOf (P : Program) (t : TypeId) : Sh :=
  match P.underlying t with
  | some (.tuple ts) => .tup (ts.toList.map (s1Of P))
  | _ => .one (s1Of P t)

/-! ### The temporaries -/
abbrev Tm := Nat → Option Value
def Tm.put (tm : Tm) (d : Nat) (v : Value) : Tm := fun i => match Nat.beq i d with
  | true => some v
  | false => tm i
def Tm.putO (tm : Tm) (d : Option Nat) (v : Value) : Tm := match d with
  | some d => tm.put d v
  | none => tm
def mkTm : List (Nat × Option Value) → Tm
  | [], _ => none
  | (j, v) :: r, i => match Nat.beq i j with
    | true => v
    | false => mkTm r i
def mask (live : List Nat) (tm : Tm) : Tm := mkTm (live.map fun i => (i, tm i))
theorem mkTm_mask (tm : Tm) : ∀ (live : List Nat) (i : Nat) (v : Value), mask live tm i = some v → tm i = some v
  | [], i, v, h => by simp [mask, mkTm] at h
  | j :: r, i, v, h => by
    simp only [mask, List.map_cons, mkTm] at h
    cases hb : Nat.beq i j with
    | true => rw [hb] at h; simp only at h; rw [Nat.eq_of_beq_eq_true hb]; exact h
    | false => rw [hb] at h; exact mkTm_mask tm r i v h
def ev? (tm : Tm) : Operand → Option Value
  | .tmp t => tm t
  | .const v => some v
  | .global g => some (.pointer (some ⟨g, 0, none⟩))
  | .func f => some (.func (.func f) #[] #[])
def ev (tm : Tm) (x : Operand) : Value := match ev? tm x with
  | some v => v
  | none => undef
/-- What is told of the temporaries holds of them. -/
structure Le (ds : List Deferred) (tm : Tm) (a : Act) : Prop where
  at_ : ∀ i v, tm i = some v → a.tmps[i]? = some v
  defers : a.defers = ds
theorem Le.mask {ds : List Deferred} {tm : Tm} {a : Act} (h : Le ds tm a) (live : List Nat) : Le ds (mask live tm) a := ⟨fun i v hi => h.at_ i v (mkTm_mask tm live i v hi), h.defers⟩
theorem Le.ev {ds : List Deferred} {tm : Tm} {a : Act} (h : Le ds tm a) {x : Operand} {v : Value} (hx : ev? tm x = some v) : a.eval x = v := by
  cases x with
  | tmp t => have := h.at_ t v hx; simp [Act.eval, this]
  | const u => simpa [ev?, Act.eval] using hx
  | global g => simpa [ev?, Act.eval] using hx
  | func f => simpa [ev?, Act.eval] using hx
theorem Le.put {ds : List Deferred} {tm : Tm} {a : Act} (h : Le ds tm a) {d : Nat} (v : Value) (hd : d < a.tmps.size) : Le ds (tm.put d v) (a.put (some d) v) := by
  refine ⟨fun i u hi => ?_, h.defers⟩
  unfold Tm.put at hi
  simp only [Act.put]
  cases hb : Nat.beq i d with
  | true =>
    rw [hb] at hi
    have := Nat.eq_of_beq_eq_true hb
    subst this
    simp only [Option.some.injEq] at hi
    subst hi
    simp [hd]
  | false =>
    rw [hb] at hi
    have hne : d ≠ i := fun e => by subst e; simp at hb
    rw [Array.getElem?_setIfInBounds_ne hne]
    exact h.at_ i u hi
theorem Tm.put_same {tm : Tm} {d : Nat} {v : Value} (h : tm d = some v) : tm.put d v = tm := by
  funext i
  unfold Tm.put
  cases hb : Nat.beq i d with
  | true => rw [Nat.eq_of_beq_eq_true hb, h]
  | false => rfl
end Go.Proofs.YtoheablfncdibaaDoor.Sx
