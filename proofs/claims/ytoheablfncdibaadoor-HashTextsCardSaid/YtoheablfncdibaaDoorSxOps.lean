/- A region's operations over the heap alone: read in the order of the text; where the order is open, what is read is asked to stand at every heap of the region. -/
import Derived.Test.YtoheablfncdibaaDoorSx
namespace Go.Proofs.YtoheablfncdibaaDoor.Sx
open Go
set_option linter.unusedVariables false
set_option linter.unusedSimpArgs false

/-- Kinds of operations: plain (reckoned), a nil check, one that may panic, a load, a store, new cells, the heap's words, a call of a known function, a call of a value, none of these. -/
inductive Cls where
  | a | n | p | b | l | u | e | w | k | v | x
def isIntC : Operand → Bool
  | .const (.int _ _) => true
  | _ => false
def cls (P : Program) (o : Oper) : Cls :=
  match o.op with
  | .move _ | .assign _ | .pick .. | .build .. | .fieldAddr .. | .field .. | .extract .. | .makeFunc .. | .makeInterface .. | .unOp .. => .a
  | .nilCheck _ => .n
  | .binOp op t _ y _ =>
    match op with
    | .quo | .rem | .shl | .shr => match isIntC y with
      | true => .a
      | false => .b
    | .eql | .neq => match P.underlying t with
      | some (.int _) | some .bool | some .string => .a
      | _ => .b
    | .add => match P.underlying t with
      | some (.int _) => .a
      | _ => .b
    | _ => .a
  | .convert s d _ =>
    match P.underlying s, P.underlying d with
    | some (.int _), some (.int _) => .a
    | some (.slice _), _ => .l
    | _, some (.slice _) => .w
    | _, _ => .p
  | .load .. => .l
  | .indexAddr .. | .index .. | .slice .. => .p
  | .store .. => .u
  | .alloc _ | .box .. | .buildSlice .. => .e
  | .makeSlice .. => .w
  | .call { callee := .builtin .len, .. } | .call { callee := .builtin .cap, .. } => .a
  | .call { callee := .builtin .min, .. } | .call { callee := .builtin .max, .. } => .p
  | .call { callee := .builtin .append, .. } | .call { callee := .builtin .copy, .. } | .call { callee := .builtin .clear, .. } => .w
  | .call { callee := .value (.func _), .. } => .k
  | .call { callee := .value _, .. } => .v
  | .call { callee := .invoke .., .. } => .v
  | _ => .x
/-- Does it change the heap? -/
def isE (P : Program) (o : Oper) : Bool :=
  match cls P o with
  | .u | .e | .w | .k | .v => true
  | _ => false
def argsL (ρ : Operand → Value) (l : Array Operand) : Array Value := (l.toList.map ρ).toArray
def partsL (ρ : Operand → Value) (l : Array (Nat × Operand)) : Array (Nat × Value) := (l.toList.map fun x => (x.1, ρ x.2)).toArray
def opVal (ρ : Operand → Value) (o : Oper) : Sem Value :=
  match o.op with
  | .load t a => Instr.loadAt t (ρ a)
  | .indexAddr t x ix => Instr.indexAt t (ρ x) (ρ ix)
  | .index t x ix => Instr.index t (ρ x) (ρ ix)
  | .slice t x lo hi mx => Instr.sliceAt t (ρ x) (lo.map ρ) (hi.map ρ) (mx.map ρ)
  | .binOp op t x y _ => binOp op t (ρ x) (ρ y)
  | .convert s d x => convert s d (ρ x)
  | .makeSlice t l c => Instr.makeSlice t (ρ l) (ρ c)
  | .alloc elem => Instr.alloc elem true (.tuple #[])
  | .box elem x => Instr.box elem (ρ x)
  | .buildSlice t len parts => Instr.buildSlice t len (partsL ρ parts)
  | .call { callee := .builtin .append, args, argTypes } => Builtin.append_ argTypes o.type (argsL ρ args)
  | .call { callee := .builtin .copy, args, argTypes } => Builtin.copy_ argTypes o.type (argsL ρ args)
  | .call { callee := .builtin .clear, args, argTypes } => Builtin.clear_ argTypes o.type (argsL ρ args)
  | .call { callee := .builtin .min, args, argTypes } => Builtin.min_ argTypes o.type (argsL ρ args)
  | .call { callee := .builtin .max, args, argTypes } => Builtin.max_ argTypes o.type (argsL ρ args)
  | _ => stuck ""
/-- A call of a function's value. -/
def callS (fv : Value) (args : Array Value) : Sem Next := do
  let d ← Deferred.ofValue fv args
  invoke d.target d.args
def definedB (tm : Tm) (o : Oper) : Bool := o.op.operands.toList.all fun x => (ev? tm x).isSome
def drf (p : Option Addr) (K : Addr → Prop) : Prop := match p with
  | some a => K a
  | none => False
abbrev Past := List (Nat × Hp)
abbrev Reads := List (Nat × (Hp → Prop))
/-- Does i wait for j? -/
def hasPred (ops : Array Oper) : Nat → Nat → Nat → Bool
  | 0, _, _ => false
  | f + 1, j, i => match ops[i]? with
    | none => false
    | some o => (o.after.toList.any fun e => Region.binds .any e && Nat.beq e.on j) || (o.after.toList.any fun e => Region.binds .any e && hasPred ops f j e.on)
def allR (pr : Nat → Nat → Bool) (i : Nat) (reads : Reads) (h : Hp) (X : Prop) : Prop := match reads with
  | [] => X
  | (j, r) :: rs => match pr j i with
    | true => allR pr i rs h X
    | false => r h ∧ allR pr i rs h X
def allHV (P : Program) (pr : Nat → Nat → Bool) (i : Nat) (s : Sem Value) (v : Value) (past : Past) (X : Prop) : Prop := match past with
  | [] => X
  | (e, hp) :: rs => match pr e i with
    | true => allHV P pr i s v rs X
    | false => HV P s hp v ∧ allHV P pr i s v rs X
abbrev KD := Value → Hp → Past → Reads → Prop
def rdK (P : Program) (dr : Bool) (pr : Nat → Nat → Bool) (i : Nat) (s : Sem Value) (h : Hp) (past : Past) (reads : Reads) (K : KD) (v : Value) : Prop := match dr with
  | true => HV P s h v ∧ allHV P pr i s v past (K v h past ((i, fun h' => HV P s h' v) :: reads))
  | false => HV P s h v ∧ K v h past reads
def efK (dr : Bool) (pr : Nat → Nat → Bool) (i : Nat) (h : Hp) (past : Past) (reads : Reads) (K : KD) (v : Value) (h' : Hp) : Prop := match dr with
  | true => allR pr i reads h' (K v h' ((i, h) :: past) reads)
  | false => K v h' past reads
/-- What comes back is of its shape. -/
def asT (P : Program) (t : TypeId) (K : Value → Hp → Prop) (v : Value) (h' : Hp) : Prop := exT (shOf P t) fun u => v = u ∧ K u h'
/-- The shape of what an operation yields. -/
def shO (P : Program) (o : Oper) : Sh := match o.op with
  | .indexAddr .. => .one (.sc .adr)
  | _ => shOf P o.type
def someB {α : Type} : Option α → Bool
  | some _ => true
  | none => false
/-- The guard of an equality goes through. -/
def guardB (P : Program) (op : BinOp) (t : TypeId) (x y : Operand) (a b : Value) : Bool := match b with
  | .nilFunc => true
  | _ => someB (pureRun P (eqGuard op t x y a b))
theorem guardB_run {P : Program} {op : BinOp} {t : TypeId} {x y : Operand} {a b : Value} (h : guardB P op t x y a b = true) (w : World) : (eqGuard op t x y a b).run P w = .ok () w := by
  have key : someB (pureRun P (eqGuard op t x y a b)) = true → (eqGuard op t x y a b).run P w = .ok () w := fun h => by
    cases hp : pureRun P (eqGuard op t x y a b) with
    | none => rw [hp] at h; cases h
    | some u => exact pureRun_run P _ _ hp w
  cases b <;> first | exact key h | skip
  unfold eqGuard
  cases op <;> cases a <;> simp [Result.andThen]
/-- Two pointers are told apart at a heap. -/
def eqS (P : Program) (dr : Bool) (t : TypeId) (y : Operand) (s : Sem Value) (h : Hp) (v : Value) : Prop := match dr with
  | true => PV P s v
  | false => match P.underlying t with
    | some (.pointer _) => (match y with
      | .const _ => PV P s v
      | _ => HV P s h v)
    | _ => PV P s v
theorem eqS_run {P : Program} {dr : Bool} {t : TypeId} {y : Operand} {s : Sem Value} {h : Hp} {v : Value} (hh : eqS P dr t y s h v) (w : World) (hw : w.heap = h) : s.run P w = .ok v w := by
  unfold eqS at hh
  split at hh
  · exact hh w
  · split at hh
    · split at hh
      · exact hh w
      · exact hh w hw
    · exact hh w
def opD (P : Program) (dr : Bool) (pr : Nat → Nat → Bool) (i : Nat) (o : Oper) (tm : Tm) (h : Hp) (past : Past) (reads : Reads) (K : KD) : Prop :=
  match definedB tm o with
  | false => False
  | true =>
  match cls P o with
  | .a => match pureRun P (execOp (ev tm) o) with
    | some (.value v) => K v h past reads
    | _ => False
  | .n => match o.op with
    | .nilCheck x => match ev tm x with
      | .pointer p => drf p fun a => K (.pointer (some a)) h past reads
      | _ => match pureRun P (execOp (ev tm) o) with
        | some (.value v) => K v h past reads
        | _ => False
    | _ => False
  | .b => match o.op with
    | .binOp op t x y _ => match guardB P op t x y (ev tm x) (ev tm y) with
      | true => exT (shOf P o.type) fun v => eqS P dr t y (opVal (ev tm) o) h v ∧ K v h past reads
      | false => False
    | _ => False
  | .p => exT (shO P o) fun v => PV P (opVal (ev tm) o) v ∧ K v h past reads
  | .l => exT (shOf P o.type) fun v => rdK P dr pr i (opVal (ev tm) o) h past reads K v
  | .u => match o.op with
    | .store t a x => HU P (Instr.storeAt t (ev tm a) (ev tm x)) h fun h' => efK dr pr i h past reads K undef h'
    | _ => False
  | .e => semWp P (opVal (ev tm) o) h (efK dr pr i h past reads K)
  | .w => HW P (opVal (ev tm) o) h (asT P o.type (efK dr pr i h past reads K))
  | .k => match pureRun P (execOp (ev tm) o) with
    | some (.enter f args) => CallsH P f args h (asT P o.type (efK dr pr i h past reads K))
    | _ => False
  | .v => match o.op with
    | .call { callee := .value f, args, .. } => HN P (callS (ev tm f) (argsL (ev tm) args)) h (asT P o.type (efK dr pr i h past reads K))
    | .call { callee := .invoke r m, args, .. } => HN P (callMethod (ev tm r) m (argsL (ev tm) args)) h (asT P o.type (efK dr pr i h past reads K))
    | _ => False
  | .x => False
def br (b : Bool) (A B : Prop) : Prop := match b with
  | true => A
  | false => B
def okDst (n : Nat) : Option Nat → Bool
  | none => true
  | some d => Nat.blt d n
def opsW (P : Program) (ops : Array Oper) (n : Nat) (dr : Bool) (Q : Tm → Hp → Prop) : List Nat → Tm → Hp → Past → Reads → Prop
  | [], tm, h, _, _ => Q tm h
  | i :: rest, tm, h, past, reads =>
    match ops[i]? with
    | none => False
    | some o =>
      match okDst n o.dst with
      | false => False
      | true =>
        match o.guard with
        | none => opD P dr (hasPred ops ops.size) i o tm h past reads (fun v h' p r => opsW P ops n dr Q rest (tm.putO o.dst v) h' p r)
        | some (j, want) =>
          match (ops[j]?).bind (·.dst) with
          | none => False
          | some d =>
            match tm d with
            | some (.bool b) =>
              br b
                (match want with
                 | true => opD P dr (hasPred ops ops.size) i o (tm.put d (.bool true)) h past reads (fun v h' p r => opsW P ops n dr Q rest ((tm.put d (.bool true)).putO o.dst v) h' p r)
                 | false => opsW P ops n dr Q rest ((tm.put d (.bool true)).putO o.dst undef) h past reads)
                (match want with
                 | true => opsW P ops n dr Q rest ((tm.put d (.bool false)).putO o.dst undef) h past reads
                 | false => opD P dr (hasPred ops ops.size) i o (tm.put d (.bool false)) h past reads (fun v h' p r => opsW P ops n dr Q rest ((tm.put d (.bool false)).putO o.dst v) h' p r))
            | some _ => opsW P ops n dr Q rest (tm.putO o.dst undef) h past reads
            | none => False

/-- New cells. -/
def newC (h : Hp) (o : Obj) (K : Addr → Hp → Prop) : Prop := K ⟨h.size, 0, none⟩ (h.push o)
def bAnd (k : IntKind) (x y : Int) : Int := k.wrap (((BitVec.ofInt k.bits x &&& BitVec.ofInt k.bits y).toNat : Nat) : Int)
def bOr (k : IntKind) (x y : Int) : Int := k.wrap (((BitVec.ofInt k.bits x ||| BitVec.ofInt k.bits y).toNat : Nat) : Int)
def bXor (k : IntKind) (x y : Int) : Int := k.wrap (((BitVec.ofInt k.bits x ^^^ BitVec.ofInt k.bits y).toNat : Nat) : Int)
def bAndNot (k : IntKind) (x y : Int) : Int := k.wrap (((BitVec.ofInt k.bits x &&& ~~~ BitVec.ofInt k.bits y).toNat : Nat) : Int)
/-! ### The abstract steps -/
def plainOp (o : Oper) : Prop := (∀ cs b, o.op ≠ .select cs b) ∧ (∀ c, o.op ≠ .defer c)
def RdS (P : Program) (o : Oper) (tm : Tm) (h : Hp) (v : Value) : Prop := ∀ w : World, w.heap = h → (execOp (ev tm) o).run P w = .ok (.value v) w
def EfS (P : Program) (o : Oper) (tm : Tm) (h : Hp) (K : Value → Hp → Prop) : Prop := semWp P (execOp (ev tm) o) h (fun nx h' => nextWp P K nx h')
theorem RdS.uniq {P : Program} {o : Oper} {tm : Tm} {h : Hp} {v v' : Value} (a : RdS P o tm h v) (b : RdS P o tm h v') : v = v' := by
  have := (a (W h) rfl).symm.trans (b (W h) rfl)
  injection this with e1 e2
  injection e1
theorem EfS.mono {P : Program} {o : Oper} {tm : Tm} {h : Hp} {K K' : Value → Hp → Prop} (hm : ∀ v h', K v h' → K' v h') (hh : EfS P o tm h K) : EfS P o tm h K' :=
  semWp_mono P _ h (fun nx h' => nextWp_mono hm nx h') hh
theorem EfS.some {P : Program} {o : Oper} {tm : Tm} {h : Hp} {K : Value → Hp → Prop} (hh : EfS P o tm h K) : ∃ v h', K v h' := by
  obtain ⟨nx, w', _, _, hn⟩ := semWp_run P _ _ (W h) hh
  exact nextWp_some _ _ hn
theorem semWp_bind (P : Program) {α β : Type} (s : Sem α) (f : α → Sem β) : ∀ (h : Hp) (K : β → Hp → Prop), semWp P s h (fun a h' => semWp P (f a) h' K) → semWp P (s >>= f) h K := by
  show ∀ (h : Hp) (K : β → Hp → Prop), _ → semWp P (Sem.bind s f) h K
  induction s with
  | pure a => intro h K hh; exact hh
  | load m a k ih => intro h K ⟨v, hv, hh⟩; exact ⟨v, hv, ih v h K hh⟩
  | store m a v k ih => intro h K ⟨h1, h2, h3, hh⟩; exact ⟨h1, h2, h3, ih _ K hh⟩
  | new o k ih => intro h K hh; exact ih _ _ K hh
  | shape r k ih => intro h K hh; exact ih _ _ K hh
  | freeze a n k ih => intro h K hh; exact ih _ K hh
  | frozen a k ih => intro h K hh; exact ih _ _ K hh
  | getObj r k ih => intro h K ⟨o, h1, h2, hh⟩; exact ⟨o, h1, h2, ih _ _ K hh⟩
  | setObj r o k ih => intro h K ⟨h1, hh⟩; exact ⟨h1, ih _ K hh⟩
  | choose q k ih => intro h K ⟨h1, h2⟩; exact ⟨fun e => ih _ _ K (h1 e), fun e t => ih _ _ K (h2 e t)⟩
  | sys c k ih => intro h K hh; exact hh.elim
  | program k ih => intro h K hh; exact ih _ _ K hh
  | mark m k ih => intro h K hh; exact ih _ K hh
  | halt x => intro h K hh; exact hh.elim
theorem argsL_eq (ρ : Operand → Value) (l : Array Operand) : argsL ρ l = l.map ρ := by apply Array.ext'; simp [argsL]
theorem partsL_eq (ρ : Operand → Value) (l : Array (Nat × Operand)) : partsL ρ l = l.map fun (i, x) => (i, ρ x) := by apply Array.ext'; simp [partsL]
theorem invoke_eq (ρ : Operand → Value) (r : Operand) (m : String) (args : Array Operand) (at_ : Array TypeId) (t : TypeId) : (do let d ← resolve ρ { callee := .invoke r m, args := args, argTypes := at_ } t; invoke d.target d.args) = callMethod (ρ r) m (argsL ρ args) := by
  have e1 : (#[ρ r] ++ args.map ρ)[0]? = some (ρ r) := by rw [Array.getElem?_append_left (show 0 < (#[ρ r] : Array Value).size from Nat.zero_lt_one)]; rfl
  have e2 : (#[ρ r] ++ args.map ρ).extract 1 (#[ρ r] ++ args.map ρ).size = argsL ρ args := by
    rw [argsL_eq]
    apply Array.ext'
    simp
    rw [← List.length_map (f := ρ) (as := args.toList) |>.trans Array.length_toList, List.take_length]
  have e3 : (do let d ← resolve ρ { callee := .invoke r m, args := args, argTypes := at_ } t; invoke d.target d.args) = invoke (.fn (.method m) #[]) (#[ρ r] ++ args.map ρ) := rfl
  rw [e3]
  unfold invoke
  simp only [e1, e2]

/-- The kinds that yield by opVal. -/
theorem execOp_val (P : Program) (ρ : Operand → Value) (o : Oper) (hc : cls P o = .p ∨ cls P o = .l ∨ cls P o = .e ∨ cls P o = .w) :
    execOp ρ o = (opVal ρ o >>= fun v => pure (.value v)) ∨ ∃ op t x y yt, o.op = .binOp op t x y yt := by
  obtain ⟨dst, op, type, pos, after, guard⟩ := o
  cases op <;> (try (simp [cls] at hc; done)) <;> (try (exact .inl rfl)) <;> (try (exact .inr ⟨_, _, _, _, _, rfl⟩))
  case buildSlice t len parts => refine .inl ?_; simp only [execOp, opVal, partsL_eq]
  case call c =>
    obtain ⟨callee, args, argTypes⟩ := c
    cases callee with
    | builtin b =>
      refine .inl ?_
      cases b <;> first | (simp [cls] at hc; done) | (simp only [opVal, argsL_eq]; simp [execOp, resolve, invoke, builtin, Bind.bind, Pure.pure, Sem.bind])
    | invoke r m => simp [cls] at hc
    | value f => cases f <;> simp [cls] at hc
theorem cls_binOp {P : Program} {o : Oper} {op t x y yt} (h : o.op = .binOp op t x y yt) : cls P o = .a ∨ cls P o = .b := by
  obtain ⟨dst, op', type, pos, after, guard⟩ := o
  simp only at h
  subst h
  cases op <;> simp only [cls] <;> repeat' (first | (split) | (exact .inl trivial) | (exact .inl rfl) | (exact .inr rfl))
theorem rd_of_HV {P : Program} {o : Oper} {tm : Tm} {h : Hp} {v : Value} (hc : cls P o = .p ∨ cls P o = .l) (hv : HV P (opVal (ev tm) o) h v) : RdS P o tm h v := by
  intro w hw
  rcases execOp_val P (ev tm) o (by rcases hc with h | h <;> simp [h]) with he | ⟨op, t, x, y, yt, he⟩
  · rw [he]
    have := hv w hw
    simp [this, Result.andThen]
  · rcases cls_binOp (P := P) he with h1 | h1 <;> rw [h1] at hc <;> simp at hc
theorem ef_of_HW {P : Program} {o : Oper} {tm : Tm} {h : Hp} {K : Value → Hp → Prop} (hc : cls P o = .e ∨ cls P o = .w) (hv : semWp P (opVal (ev tm) o) h K) : EfS P o tm h K := by
  unfold EfS
  rcases execOp_val P (ev tm) o (by rcases hc with h | h <;> simp [h]) with he | ⟨op, t, x, y, yt, he⟩
  · rw [he]
    refine semWp_bind P _ _ h _ (semWp_mono P _ h (fun v h' hK => ?_) hv)
    exact hK
  · rcases cls_binOp (P := P) he with h1 | h1 <;> rw [h1] at hc <;> simp at hc
theorem rd_of_pure {P : Program} {o : Oper} {tm : Tm} {h : Hp} {v : Value} (hv : pureRun P (execOp (ev tm) o) = some (.value v)) : RdS P o tm h v :=
  fun w _ => pureRun_run P _ _ hv w

/-! ### In the order of the text -/
theorem defined_ev {ds : List Deferred} {tm : Tm} {o : Oper} {a : Act} (hd : definedB tm o = true) (hl : Le ds tm a) : ∀ x ∈ o.op.operands, ev tm x = a.eval x := by
  intro x hx
  have h := List.all_eq_true.1 hd x (by simpa using hx)
  cases hx2 : ev? tm x with
  | none => rw [hx2] at h; cases h
  | some v => rw [hl.ev hx2]; simp [ev, hx2]
theorem exec_same {ds : List Deferred} {tm : Tm} {o : Oper} {a : Act} (hp : plainOp o) (hd : definedB tm o = true) (hl : Le ds tm a) : execOp (ev tm) o = execOp a.eval o :=
  execOp_congr o hp.1 (defined_ev hd hl)
theorem plain_of_cls {P : Program} {o : Oper} (h : cls P o ≠ .x) : plainOp o := by
  obtain ⟨dst, op, type, pos, after, guard⟩ := o
  constructor
  · intro cs b he; simp only at he; subst he; exact h rfl
  · intro c he; simp only at he; subst he; exact h rfl
/-- What holds behind: of the temporaries, and of the heap. -/
def LQ (ds : List Deferred) (w0 : World) (n : Nat) (Q : Tm → Hp → Prop) (a : Act) (w : World) : Prop := ∃ tm, Le ds tm a ∧ a.tmps.size = n ∧ Same w0 w ∧ Q tm w.heap
section
variable {P : Program} {ρ : Option Nat} {m n : Nat} {o : Oper} {tm : Tm} {a : Act} {w : World} {next : Act → World → Prop} {Q' : Exit → Act → World → Prop}
theorem wpIn_rd {ds : List Deferred} {v : Value} (hp : plainOp o) (hd : definedB tm o = true) (hl : Le ds tm a) (hr : RdS P o tm w.heap v) (hn : next (a.put o.dst v) w) : o.wpIn (FW ρ) m P a w next Q' := by
  refine ⟨fun _ _ => trivial, ?_⟩
  rw [Oper.semAt_eq _ _ _ hp.2, ← exec_same hp hd hl, hr w rfl]
  exact hn
theorem wpIn_ef {ds : List Deferred} {K : Value → Hp → Prop} (hp : plainOp o) (hd : definedB tm o = true) (hl : Le ds tm a) (hr : EfS P o tm w.heap K) (hn : ∀ v w', Same w w' → K v w'.heap → next (a.put o.dst v) w') : o.wpIn (FW ρ) m P a w next Q' := by
  refine ⟨fun _ _ => trivial, ?_⟩
  rw [Oper.semAt_eq _ _ _ hp.2, ← exec_same hp hd hl]
  obtain ⟨nx, w', hrun, hs, hK⟩ := semWp_run P _ _ w hr
  rw [hrun]
  cases nx <;> simp only [nextWp] at hK
  case value v => exact hn v w' hs hK
  case skip => exact hn _ w' hs hK
  case enter f args =>
    refine ⟨(fun h => by cases h), ?_⟩
    have h1 : CallsIn Fence.wide (m - 1) P f args w' _ := callsIn_wide.2 (hK w' rfl)
    exact CallsIn.mono h1 (fun e w'' ⟨v, he, hs2, hK2⟩ => by subst he; exact hn v w'' (hs.trans hs2) hK2)
  case round l f tmps as bd =>
    refine ⟨(fun h => by cases h), ?_⟩
    have h1 : RoundIn Fence.wide (m - 1) P l f tmps as bd w' _ := hK w' rfl (m - 1)
    exact RoundIn.mono h1 (fun e w'' ⟨v, he, hs2, hK2⟩ => by subst he; exact hn v w'' (hs.trans hs2) hK2)
theorem putO_le {ds : List Deferred} (hl : Le ds tm a) (hz : a.tmps.size = n) (hk : okDst n o.dst = true) (v : Value) : Le ds (tm.putO o.dst v) (a.put o.dst v) ∧ (a.put o.dst v).tmps.size = n := by
  cases hd : o.dst with
  | none => exact ⟨hl, hz⟩
  | some d =>
    rw [hd] at hk
    have : d < a.tmps.size := by rw [hz]; simpa [okDst] using hk
    exact ⟨hl.put v this, by simp [Act.put, hz]⟩
end
/-- What a guard says. -/
def wantB (ops : Array Oper) (tm : Tm) (o : Oper) : Option Bool :=
  match o.guard with
  | none => some true
  | some (j, want) =>
    match (ops[j]?).bind (·.dst) with
    | none => none
    | some d =>
      match tm d with
      | some (.bool b) => some (b == want)
      | some _ => some false
      | none => none
theorem wanted_of_wantB {ds : List Deferred} {ops : Array Oper} {tm : Tm} {o : Oper} {a : Act} {b : Bool} (hl : Le ds tm a) (h : wantB ops tm o = some b) : Region.wanted o (yielded ops a.tmps) = b := by
  unfold wantB at h
  unfold Region.wanted
  cases hg : o.guard with
  | none => rw [hg] at h; simpa using h
  | some jw =>
    obtain ⟨j, want⟩ := jw
    rw [hg] at h
    simp only at h ⊢
    unfold yielded
    cases hj : (ops[j]?).bind (·.dst) with
    | none => rw [hj] at h; cases h
    | some d =>
      rw [hj] at h
      simp only [Option.bind_some] at h ⊢
      cases ht : tm d with
      | none => rw [ht] at h; cases h
      | some v =>
        rw [ht] at h
        rw [hl.at_ d v ht]
        cases v <;> simp only [Option.some.injEq] at h <;> subst h <;> first | rfl | (cases want <;> rename_i b <;> cases b <;> rfl)
/-- The abstract walk in the order of the text. -/
def iW (P : Program) (ops : Array Oper) (n : Nat) (Q : Tm → Hp → Prop) : List Nat → Tm → Hp → Prop
  | [], tm, h => Q tm h
  | i :: rest, tm, h => ∃ o, ops[i]? = some o ∧ okDst n o.dst = true ∧
      ((wantB ops tm o = some false ∧ iW P ops n Q rest (tm.putO o.dst undef) h) ∨
       (wantB ops tm o = some true ∧ plainOp o ∧ definedB tm o = true ∧
         ((∃ v, RdS P o tm h v ∧ iW P ops n Q rest (tm.putO o.dst v) h) ∨ EfS P o tm h (fun v h' => iW P ops n Q rest (tm.putO o.dst v) h'))))
theorem iW_sound {ds : List Deferred} {P : Program} {ops : Array Oper} {n m : Nat} {ρ : Option Nat} {Q : Tm → Hp → Prop} {Q' : Exit → Act → World → Prop} {w0 : World} (hQ : ∀ a w, LQ ds w0 n Q a w → Q' .normal a w) :
    ∀ (l : List Nat) (tm : Tm) (a : Act) (w : World), iW P ops n Q l tm w.heap → Le ds tm a → a.tmps.size = n → Same w0 w → wpOpsIn (FW ρ) m P ops Q' l a w
  | [], tm, a, w, h, hl, hz, hs => hQ a w ⟨tm, hl, hz, hs, h⟩
  | i :: rest, tm, a, w, h, hl, hz, hs => by
    obtain ⟨o, ho, hk, h⟩ := h
    simp only [wpOpsIn, ho]
    rcases h with ⟨hw, h⟩ | ⟨hw, hp, hd, h⟩
    · rw [wanted_of_wantB hl hw]
      simp only [Bool.false_eq_true, if_false]
      obtain ⟨h1, h2⟩ := putO_le hl hz hk undef
      exact ⟨fun _ _ => trivial, iW_sound hQ rest _ _ w h h1 h2 hs⟩
    · rw [wanted_of_wantB hl hw]
      simp only [if_true]
      rcases h with ⟨v, hr, h⟩ | h
      · obtain ⟨h1, h2⟩ := putO_le hl hz hk v
        exact wpIn_rd hp hd hl hr (iW_sound hQ rest _ _ w h h1 h2 hs)
      · refine wpIn_ef hp hd hl h (fun v w' hs2 hK => ?_)
        obtain ⟨h1, h2⟩ := putO_le hl hz hk v
        exact iW_sound hQ rest _ _ w' hK h1 h2 (hs.trans hs2)
/-- One operation, as it stands. -/
theorem opD_step {P : Program} {pr : Nat → Nat → Bool} {i : Nat} {o : Oper} {tm : Tm} {h : Hp} {past : Past} {reads : Reads} {K : KD} (hh : opD P false pr i o tm h past reads K) :
    plainOp o ∧ definedB tm o = true ∧ ((∃ v, RdS P o tm h v ∧ K v h past reads) ∨ EfS P o tm h (fun v h' => K v h' past reads)) := by
  unfold opD at hh
  cases hd : definedB tm o with
  | false => rw [hd] at hh; exact hh.elim
  | true =>
    rw [hd] at hh
    simp only at hh
    have asT_v : ∀ (t : TypeId) (K' : Value → Hp → Prop) (v : Value) (h' : Hp), asT P t K' v h' → K' v h' := fun t K' v h' ha => by
      obtain ⟨u, hu, hK⟩ := exT_ex _ ha
      rw [hu]; exact hK
    refine ⟨?_, rfl, ?_⟩
    · refine plain_of_cls (P := P) (fun hx => ?_)
      rw [hx] at hh; exact hh
    · cases hc : cls P o <;> rw [hc] at hh <;> simp only at hh
      case a =>
        split at hh
        · rename_i v hv; exact .inl ⟨v, rd_of_pure hv, hh⟩
        · exact hh.elim
      case n =>
        split at hh
        · rename_i x hx
          split at hh
          · rename_i p hp
            unfold drf at hh
            split at hh
            · rename_i a
              refine .inl ⟨_, rd_of_pure ?_, hh⟩
              simp only [execOp, hx, hp]
              rfl
            · exact hh.elim
          · split at hh
            · rename_i v hv; exact .inl ⟨v, rd_of_pure hv, hh⟩
            · exact hh.elim
        · exact hh.elim
      case p =>
        obtain ⟨v, hv, hK⟩ := exT_ex _ hh
        exact .inl ⟨v, rd_of_HV (.inl hc) (fun w _ => hv w), hK⟩
      case b =>
        split at hh
        · rename_i op t x y yt hx
          split at hh
          · rename_i hg
            obtain ⟨v, hv, hK⟩ := exT_ex _ hh
            refine .inl ⟨v, fun w hw => ?_, hK⟩
            have h1 := guardB_run hg w
            have h2 := eqS_run hv w hw
            simp only [opVal, hx] at h2
            simp [execOp, hx, h1, h2, Result.andThen]
          · exact hh.elim
        · exact hh.elim
      case l =>
        obtain ⟨v, hv⟩ := exT_ex _ hh
        exact .inl ⟨v, rd_of_HV (.inr hc) hv.1, hv.2⟩
      case u =>
        split at hh
        · rename_i t x y hx
          refine .inr ?_
          unfold EfS
          simp only [execOp, hx]
          exact semWp_bind P _ _ h _ hh
        · exact hh.elim
      case e => exact .inr (ef_of_HW (.inl hc) hh)
      case w => exact .inr (ef_of_HW (.inr hc) (semWp_mono P _ h (fun v h' ha => asT_v _ _ v h' ha) hh))
      case k =>
        split at hh
        · rename_i f args hf
          refine .inr ?_
          unfold EfS
          have : ∀ {α : Type} (s : Sem α) (x : α) (K : α → Hp → Prop), pureRun P s = some x → K x h → semWp P s h K := by
            intro α s x K
            induction s with
            | pure b => intro e hK; simp [pureRun] at e; subst e; exact hK
            | program k ih => intro e hK; exact ih P e hK
            | mark m k ih => intro e hK; exact ih e hK
            | _ => intro e; simp [pureRun] at e
          exact this _ _ _ hf (CallsH.mono hh (fun v h' ha => asT_v _ _ v h' ha))
        · exact hh.elim
      case v =>
        split at hh
        · rename_i f args at_ hx
          refine .inr ?_
          unfold EfS
          simp only [execOp, hx]
          have h3 := HN_mono (fun v h' ha => asT_v _ _ v h' ha) hh
          have e : (do let d ← resolve (ev tm) { callee := .value f, args := args, argTypes := at_ } o.type; invoke d.target d.args) = callS (ev tm f) (argsL (ev tm) args) := by
            simp only [resolve, callS, argsL_eq]
          rw [e]
          exact h3
        · rename_i r m args at_ hx
          refine .inr ?_
          unfold EfS
          simp only [execOp, hx]
          have h3 := HN_mono (fun v h' ha => asT_v _ _ v h' ha) hh
          rw [invoke_eq]
          exact h3
        · exact hh.elim
theorem opsW_iW {P : Program} {ops : Array Oper} {n : Nat} {Q : Tm → Hp → Prop} : ∀ (l : List Nat) (tm : Tm) (h : Hp) (past : Past) (reads : Reads), opsW P ops n false Q l tm h past reads → iW P ops n Q l tm h
  | [], tm, h, past, reads, hh => hh
  | i :: rest, tm, h, past, reads, hh => by
    rw [opsW] at hh
    cases ho : ops[i]? with
    | none => rw [ho] at hh; exact hh.elim
    | some o =>
      rw [ho] at hh
      simp only at hh
      cases hk : okDst n o.dst with
      | false => rw [hk] at hh; exact hh.elim
      | true =>
        rw [hk] at hh
        simp only at hh
        have step : ∀ tm2, tm2 = tm → wantB ops tm o = some true → opD P false (hasPred ops ops.size) i o tm2 h past reads (fun v h' p r => opsW P ops n false Q rest (tm2.putO o.dst v) h' p r) → iW P ops n Q (i :: rest) tm h := by
          intro tm2 e hw hop
          subst e
          obtain ⟨h1, h2, h3⟩ := opD_step hop
          refine ⟨o, ho, hk, .inr ⟨hw, h1, h2, ?_⟩⟩
          rcases h3 with ⟨v, hr, hK⟩ | h3
          · exact .inl ⟨v, hr, opsW_iW rest _ _ _ _ hK⟩
          · exact .inr (h3.mono fun v h' hK => opsW_iW rest _ _ _ _ hK)
        have skip : ∀ tm2, tm2 = tm → wantB ops tm o = some false → opsW P ops n false Q rest (tm2.putO o.dst undef) h past reads → iW P ops n Q (i :: rest) tm h := by
          intro tm2 e hw hop
          subst e
          exact ⟨o, ho, hk, .inl ⟨hw, opsW_iW rest _ _ _ _ hop⟩⟩
        cases hg : o.guard with
        | none =>
          rw [hg] at hh
          exact step tm rfl (by simp [wantB, hg]) hh
        | some jw =>
          obtain ⟨j, want⟩ := jw
          rw [hg] at hh
          simp only at hh
          cases hj : (ops[j]?).bind (·.dst) with
          | none => rw [hj] at hh; exact hh.elim
          | some d =>
            rw [hj] at hh
            simp only at hh
            cases ht : tm d with
            | none => rw [ht] at hh; exact hh.elim
            | some v =>
              rw [ht] at hh
              have hput : tm.put d v = tm := Tm.put_same ht
              have hwb : ∀ b, v = .bool b → wantB ops tm o = some (b == want) := fun b e => by simp [wantB, hg, hj, ht, e]
              cases v <;> first
                | (exact skip tm rfl (by simp [wantB, hg, hj, ht]) hh)
                | skip
              rename_i b
              cases b <;> cases want <;> simp only [br] at hh
              · exact step _ hput (hwb _ rfl) hh
              · exact skip _ hput (hwb _ rfl) hh
              · exact skip _ hput (hwb _ rfl) hh
              · exact step _ hput (hwb _ rfl) hh
theorem opsW_sound {ds : List Deferred} {P : Program} {ops : Array Oper} {n m : Nat} {ρ : Option Nat} {id : Nat} {Q : Tm → Hp → Prop} {Q' : Exit → Act → World → Prop} {w0 : World} (hQ : ∀ a w, LQ ds w0 n Q a w → Q' .normal a w)
    {tm : Tm} {a : Act} {w : World} (h : opsW P ops n false Q (List.range ops.size) tm w.heap [] []) (hl : Le ds tm a) (hz : a.tmps.size = n) (hs : Same w0 w) : (Code.region id ops false).wpIn (FW ρ) m P Q' a w :=
  wpIn_region (iW_sound hQ _ _ _ _ (opsW_iW _ _ _ _ _ h) hl hz hs)
end Go.Proofs.YtoheablfncdibaaDoor.Sx
