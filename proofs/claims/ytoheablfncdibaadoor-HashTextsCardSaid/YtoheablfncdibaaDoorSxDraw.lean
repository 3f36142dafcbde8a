/- A region whose order is open: one reading in the order of the text serves every order, if what writes stands in a row, and what is read stands at every heap of the region. -/
import Derived.Test.YtoheablfncdibaaDoorSxOps
namespace Go.Proofs.YtoheablfncdibaaDoor.Sx
open Go
set_option linter.unusedVariables false
set_option linter.unusedSimpArgs false
section
variable {P : Program} {ops : Array Oper} {n : Nat}
abbrev Pr (ops : Array Oper) (j i : Nat) : Bool := hasPred ops ops.size j i
/-- The abstract walk, with what is asked of reads. -/
def dW (P : Program) (ops : Array Oper) (n : Nat) (Q : Tm → Hp → Prop) : List Nat → Tm → Hp → Past → Reads → Prop
  | [], tm, h, _, _ => Q tm h
  | i :: rest, tm, h, past, reads => ∃ o, ops[i]? = some o ∧ okDst n o.dst = true ∧
      ((wantB ops tm o = some false ∧ dW P ops n Q rest (tm.putO o.dst undef) h past reads) ∨
       (wantB ops tm o = some true ∧ plainOp o ∧ definedB tm o = true ∧
         ((isE P o = false ∧ ∃ v, (∀ hp, hp = h ∨ (∃ e, (e, hp) ∈ past ∧ Pr ops e i = false) → RdS P o tm hp v) ∧ dW P ops n Q rest (tm.putO o.dst v) h past ((i, fun h' => RdS P o tm h' v) :: reads)) ∨
          (isE P o = true ∧ EfS P o tm h (fun v h' => (∀ j r, (j, r) ∈ reads → Pr ops j i = false → r h') ∧ dW P ops n Q rest (tm.putO o.dst v) h' ((i, h) :: past) reads)))))
theorem dW_mono {Q : Tm → Hp → Prop} : ∀ (l : List Nat) (tm : Tm) (h : Hp) (past past' : Past) (reads reads' : Reads),
    (∀ x ∈ past', x ∈ past) → (∀ h' i, (∀ j r, (j, r) ∈ reads → Pr ops j i = false → r h') → ∀ j r, (j, r) ∈ reads' → Pr ops j i = false → r h') → dW P ops n Q l tm h past reads → dW P ops n Q l tm h past' reads'
  | [], tm, h, past, past', reads, reads', hp, hr, hh => hh
  | i :: rest, tm, h, past, past', reads, reads', hp, hr, hh => by
    obtain ⟨o, ho, hk, hh⟩ := hh
    refine ⟨o, ho, hk, ?_⟩
    rcases hh with ⟨hw, hh⟩ | ⟨hw, h1, h2, hh⟩
    · exact .inl ⟨hw, dW_mono rest _ _ _ _ _ _ hp hr hh⟩
    · refine .inr ⟨hw, h1, h2, ?_⟩
      rcases hh with ⟨he, v, hv, hh⟩ | ⟨he, hh⟩
      · refine .inl ⟨he, v, fun q hq => hv q (hq.imp id (fun ⟨e, h3, h4⟩ => ⟨e, hp _ h3, h4⟩)), dW_mono rest _ _ _ _ _ _ hp ?_ hh⟩
        intro h' i' hall j r hmem hpr
        rcases List.mem_cons.1 hmem with e | hm
        · injection e with e1 e2
          subst e1 e2
          exact hall _ _ (List.mem_cons_self ..) hpr
        · exact hr h' i' (fun j' r' hr' => hall j' r' (List.mem_cons_of_mem _ hr')) j r hm hpr
      · refine .inr ⟨he, hh.mono fun v h' ⟨hall, hd⟩ => ⟨hr h' i hall, dW_mono rest _ _ _ _ _ _ ?_ hr hd⟩⟩
        intro q hq
        rcases List.mem_cons.1 hq with rfl | hm
        · exact List.mem_cons_self ..
        · exact List.mem_cons_of_mem _ (hp q hm)
/-! ### What does not look at one another -/
theorem putO_comm (tm : Tm) {x y : Option Nat} (v u : Value) (h : ∀ d, x = some d → y ≠ some d) : (tm.putO x v).putO y u = (tm.putO y u).putO x v := by
  cases x with
  | none => rfl
  | some d =>
    cases y with
    | none => rfl
    | some e =>
      have hne : e ≠ d := fun he => h d rfl (by rw [he])
      funext i
      simp only [Tm.putO, Tm.put]
      cases h1 : Nat.beq i e <;> cases h2 : Nat.beq i d <;> try rfl
      exact absurd ((Nat.eq_of_beq_eq_true h1).symm.trans (Nat.eq_of_beq_eq_true h2)) hne
theorem put_at (tm : Tm) {d t : Nat} (v : Value) (h : t ≠ d) : tm.put d v t = tm t := by
  unfold Tm.put
  cases hb : Nat.beq t d with
  | true => exact absurd (Nat.eq_of_beq_eq_true hb) h
  | false => rfl
theorem ev?_put {tm : Tm} {x : Option Nat} {v : Value} {y : Operand} (h : ∀ d, x = some d → y ≠ .tmp d) : ev? (tm.putO x v) y = ev? tm y := by
  cases x with
  | none => rfl
  | some d =>
    cases y with
    | tmp t => exact put_at tm v (fun e => h d rfl (by rw [e]))
    | _ => rfl
section
variable {o : Oper} {tm : Tm} {x : Option Nat} {v : Value} (h : ∀ d, x = some d → d ∉ o.looksAt ops)
include h
theorem look_ev : ∀ y ∈ o.op.operands, ev? (tm.putO x v) y = ev? tm y := fun y hy =>
  ev?_put fun d hd hyd => h d hd (by
    subst hyd
    exact List.mem_append_left _ (List.mem_filterMap.2 ⟨.tmp d, by simpa using hy, rfl⟩))
theorem look_defined : definedB (tm.putO x v) o = definedB tm o := by
  unfold definedB
  have : ∀ (l : List Operand), (∀ y ∈ l, ev? (tm.putO x v) y = ev? tm y) → (l.all fun y => (ev? (tm.putO x v) y).isSome) = l.all fun y => (ev? tm y).isSome := by
    intro l
    induction l with
    | nil => intro _; rfl
    | cons y l ih => intro hl; simp only [List.all_cons]; rw [hl y (List.mem_cons_self ..), ih (fun z hz => hl z (List.mem_cons_of_mem _ hz))]
  exact this _ (fun y hy => look_ev h y (by simpa using hy))
theorem look_exec (hp : plainOp o) : execOp (ev (tm.putO x v)) o = execOp (ev tm) o :=
  execOp_congr o hp.1 fun y hy => by unfold ev; rw [look_ev h y hy]
theorem look_want : wantB ops (tm.putO x v) o = wantB ops tm o := by
  unfold wantB
  cases hg : o.guard with
  | none => rfl
  | some jw =>
    obtain ⟨j, want⟩ := jw
    simp only
    cases hj : (ops[j]?).bind (·.dst) with
    | none => rfl
    | some d =>
      simp only
      have : (tm.putO x v) d = tm d := by
        cases x with
        | none => rfl
        | some e =>
          refine put_at tm v (fun he => h e rfl ?_)
          subst he
          exact List.mem_append_right _ (by rw [hg]; simp [hj])
      rw [this]
theorem look_rd (hp : plainOp o) (hh : Hp) (u : Value) : RdS P o (tm.putO x v) hh u = RdS P o tm hh u := by unfold RdS; rw [look_exec h hp]
theorem look_ef (hp : plainOp o) (hh : Hp) (K : Value → Hp → Prop) : EfS P o (tm.putO x v) hh K = EfS P o tm hh K := by unfold EfS; rw [look_exec h hp]
end
/-- Two operations that do not look at one another. -/
def Apart (ops : Array Oper) (i j : Nat) : Prop := ∀ oi oj, ops[i]? = some oi → ops[j]? = some oj → oi.apart ops oj = true

/-- A read, or an operation that is passed over, may be taken first. -/
theorem dW_first {Q : Tm → Hp → Prop} {i : Nat} {oi : Oper} (hoi : ops[i]? = some oi) (hki : okDst n oi.dst = true) : ∀ (pre post : List Nat) (tm : Tm) (h : Hp) (past : Past) (reads : Reads),
    (∀ j ∈ pre, Apart ops i j) → (∀ j ∈ pre, Pr ops j i = false) → (wantB ops tm oi = some false ∨ isE P oi = false) → dW P ops n Q (pre ++ i :: post) tm h past reads →
    ∃ v, ((wantB ops tm oi = some false ∧ v = undef) ∨ (wantB ops tm oi = some true ∧ plainOp oi ∧ definedB tm oi = true ∧ ∀ hp, hp = h ∨ (∃ e, (e, hp) ∈ past ∧ Pr ops e i = false) → RdS P oi tm hp v)) ∧
      dW P ops n Q (pre ++ post) (tm.putO oi.dst v) h past reads
  | [], post, tm, h, past, reads, _, _, hE, hh => by
    obtain ⟨o, ho, hk, hh⟩ := hh
    obtain rfl : oi = o := Option.some.inj (hoi.symm.trans ho)
    rcases hh with ⟨hw, hh⟩ | ⟨hw, h1, h2, hh⟩
    · exact ⟨undef, .inl ⟨hw, rfl⟩, hh⟩
    · rcases hh with ⟨he, v, hv, hh⟩ | ⟨he, hh⟩
      · exact ⟨v, .inr ⟨hw, h1, h2, hv⟩, dW_mono _ _ _ _ _ _ _ (fun _ h => h) (fun h' i' hall j r hr => hall j r (List.mem_cons_of_mem _ hr)) hh⟩
      · rcases hE with hE | hE
        · rw [hw] at hE; cases hE
        · rw [he] at hE; cases hE
  | j :: pre, post, tm, h, past, reads, hap, hnp, hE, hh => by
    obtain ⟨oj, hoj, hk, hh⟩ := hh
    have hA := hap j (List.mem_cons_self ..) oi oj hoi hoj
    obtain ⟨a1, a2, a3⟩ := Oper.apart_spec hA
    have hrest : ∀ k ∈ pre, Apart ops i k := fun k hk => hap k (List.mem_cons_of_mem _ hk)
    have hrp : ∀ k ∈ pre, Pr ops k i = false := fun k hk => hnp k (List.mem_cons_of_mem _ hk)
    have wi : ∀ u, wantB ops (tm.putO oj.dst u) oi = wantB ops tm oi := fun u => look_want a3
    have di : ∀ u, definedB (tm.putO oj.dst u) oi = definedB tm oi := fun u => look_defined a3
    have wj : ∀ u, wantB ops (tm.putO oi.dst u) oj = wantB ops tm oj := fun u => look_want a1
    have dj : ∀ u, definedB (tm.putO oi.dst u) oj = definedB tm oj := fun u => look_defined a1
    have comm : ∀ v u, (tm.putO oj.dst u).putO oi.dst v = (tm.putO oi.dst v).putO oj.dst u := fun v u => (putO_comm tm v u a2).symm
    rcases hh with ⟨hw, hh⟩ | ⟨hw, h1, h2, hh⟩
    · obtain ⟨v, hv, hd⟩ := dW_first hoi hki pre post _ h past reads hrest hrp (by rw [wi]; exact hE) hh
      rw [wi, di] at hv
      refine ⟨v, ?_, oj, hoj, hk, .inl ⟨by rw [wj]; exact hw, by rw [← comm]; exact hd⟩⟩
      rcases hv with hv | ⟨b1, b2, b3, b4⟩
      · exact .inl hv
      · exact .inr ⟨b1, b2, b3, fun q hq => by have := b4 q hq; rwa [look_rd a3 b2] at this⟩
    · rcases hh with ⟨he, u, hu, hh⟩ | ⟨he, hh⟩
      · obtain ⟨v, hv, hd⟩ := dW_first hoi hki pre post _ h past _ hrest hrp (by rw [wi]; exact hE) hh
        rw [wi, di] at hv
        refine ⟨v, ?_, oj, hoj, hk, .inr ⟨by rw [wj]; exact hw, h1, by rw [dj]; exact h2, .inl ⟨he, u, fun q hq => by rw [look_rd a1 h1]; exact hu q hq, ?_⟩⟩⟩
        · rcases hv with hv | ⟨b1, b2, b3, b4⟩
          · exact .inl hv
          · exact .inr ⟨b1, b2, b3, fun q hq => by have := b4 q hq; rwa [look_rd a3 b2] at this⟩
        · rw [← comm]
          have e : (fun h' => RdS P oj (tm.putO oi.dst v) h' u) = fun h' => RdS P oj tm h' u := funext fun h' => look_rd a1 h1 h' u
          rw [e]; exact hd
      · -- an effect: what is read behind it could be read ahead
        have key : EfS P oj tm h (fun u h' => (∀ j' r, (j', r) ∈ reads → Pr ops j' j = false → r h') ∧ ∃ v, ((wantB ops tm oi = some false ∧ v = undef) ∨ (wantB ops tm oi = some true ∧ plainOp oi ∧ definedB tm oi = true ∧ ∀ hp, hp = h' ∨ (∃ e, (e, hp) ∈ (j, h) :: past ∧ Pr ops e i = false) → RdS P oi tm hp v)) ∧
            dW P ops n Q (pre ++ post) ((tm.putO oi.dst v).putO oj.dst u) h' ((j, h) :: past) reads) := by
          refine hh.mono fun u h' ⟨hall, hd⟩ => ⟨hall, ?_⟩
          obtain ⟨v, hv, hd'⟩ := dW_first hoi hki pre post _ h' ((j, h) :: past) reads hrest hrp (by rw [wi]; exact hE) hd
          rw [wi, di] at hv
          rw [comm] at hd'
          refine ⟨v, ?_, hd'⟩
          rcases hv with hv | ⟨b1, b2, b3, b4⟩
          · exact .inl hv
          · exact .inr ⟨b1, b2, b3, fun q hq => by have := b4 q hq; rwa [look_rd a3 b2] at this⟩
        obtain ⟨u0, h0, _, v0, hv0, _⟩ := key.some
        have hv0' : (wantB ops tm oi = some false ∧ v0 = undef) ∨ (wantB ops tm oi = some true ∧ plainOp oi ∧ definedB tm oi = true ∧ ∀ hp, hp = h ∨ (∃ e, (e, hp) ∈ past ∧ Pr ops e i = false) → RdS P oi tm hp v0) :=
          hv0.imp id fun ⟨b1, b2, b3, b4⟩ => ⟨b1, b2, b3, fun q hq => b4 q (.inr (hq.elim (fun e => ⟨j, by rw [e]; exact List.mem_cons_self .., hnp j (List.mem_cons_self ..)⟩) (fun ⟨e, h3, h4⟩ => ⟨e, List.mem_cons_of_mem _ h3, h4⟩)))⟩
        refine ⟨v0, hv0', oj, hoj, hk, .inr ⟨by rw [wj]; exact hw, h1, by rw [dj]; exact h2, .inr ⟨he, ?_⟩⟩⟩
        rw [look_ef a1 h1]
        refine key.mono fun u h' ⟨hall, v, hv, hd⟩ => ⟨hall, ?_⟩
        have : v = v0 := by
          rcases hv with ⟨c1, c2⟩ | ⟨c1, _, _, c4⟩
          · rcases hv0' with ⟨d1, d2⟩ | ⟨d1, _⟩
            · rw [c2, d2]
            · rw [c1] at d1; cases d1
          · rcases hv0' with ⟨d1, _⟩ | ⟨_, _, _, d4⟩
            · rw [c1] at d1; cases d1
            · exact (c4 h (.inr ⟨j, List.mem_cons_self .., hnp j (List.mem_cons_self ..)⟩)).uniq (d4 h (.inl rfl))
        rw [← this]; exact hd
/-- An effect may be taken first, if no other stands ahead of it. -/
theorem dW_effect {Q : Tm → Hp → Prop} {i : Nat} {oi : Oper} (hoi : ops[i]? = some oi) : ∀ (pre post : List Nat) (tm : Tm) (h : Hp) (past : Past) (reads : Reads),
    (∀ j ∈ pre, Apart ops i j) → (∀ j ∈ pre, Pr ops j i = false) → (∀ j ∈ pre, ∀ oj, ops[j]? = some oj → isE P oj = false) → wantB ops tm oi = some true → isE P oi = true → dW P ops n Q (pre ++ i :: post) tm h past reads →
    plainOp oi ∧ definedB tm oi = true ∧ EfS P oi tm h (fun v h' => (∀ j r, (j, r) ∈ reads → Pr ops j i = false → r h') ∧ dW P ops n Q (pre ++ post) (tm.putO oi.dst v) h' [] reads)
  | [], post, tm, h, past, reads, _, _, _, hwi, hE, hh => by
    obtain ⟨o, ho, hk, hh⟩ := hh
    obtain rfl : oi = o := Option.some.inj (hoi.symm.trans ho)
    rcases hh with ⟨hw, hh⟩ | ⟨hw, h1, h2, hh⟩
    · rw [hwi] at hw; cases hw
    · rcases hh with ⟨he, _⟩ | ⟨he, hh⟩
      · rw [he] at hE; cases hE
      · exact ⟨h1, h2, hh.mono fun v h' ⟨hall, hd⟩ => ⟨hall, dW_mono _ _ _ _ _ _ _ (fun _ h => by cases h) (fun _ _ h => h) hd⟩⟩
  | j :: pre, post, tm, h, past, reads, hap, hnp, hne, hwi, hE, hh => by
    obtain ⟨oj, hoj, hk, hh⟩ := hh
    have hA := hap j (List.mem_cons_self ..) oi oj hoi hoj
    obtain ⟨a1, a2, a3⟩ := Oper.apart_spec hA
    have hrest : ∀ k ∈ pre, Apart ops i k := fun k hk => hap k (List.mem_cons_of_mem _ hk)
    have hne' : ∀ k ∈ pre, ∀ ok, ops[k]? = some ok → isE P ok = false := fun k hk => hne k (List.mem_cons_of_mem _ hk)
    have hrp : ∀ k ∈ pre, Pr ops k i = false := fun k hk => hnp k (List.mem_cons_of_mem _ hk)
    have wi : ∀ u, wantB ops (tm.putO oj.dst u) oi = wantB ops tm oi := fun u => look_want a3
    have di : ∀ u, definedB (tm.putO oj.dst u) oi = definedB tm oi := fun u => look_defined a3
    have wj : ∀ u, wantB ops (tm.putO oi.dst u) oj = wantB ops tm oj := fun u => look_want a1
    have dj : ∀ u, definedB (tm.putO oi.dst u) oj = definedB tm oj := fun u => look_defined a1
    have comm : ∀ v u, (tm.putO oj.dst u).putO oi.dst v = (tm.putO oi.dst v).putO oj.dst u := fun v u => (putO_comm tm v u a2).symm
    have hje := hne j (List.mem_cons_self ..) oj hoj
    rcases hh with ⟨hw, hh⟩ | ⟨hw, h1, h2, hh⟩
    · obtain ⟨b1, b2, b3⟩ := dW_effect hoi pre post _ h past reads hrest hrp hne' (by rw [wi]; exact hwi) hE hh
      rw [di] at b2
      rw [look_ef a3 b1] at b3
      exact ⟨b1, b2, b3.mono fun v h' ⟨hall, hd⟩ => ⟨hall, oj, hoj, hk, .inl ⟨by rw [wj]; exact hw, by rw [← comm]; exact hd⟩⟩⟩
    · rcases hh with ⟨he, u, hu, hh⟩ | ⟨he, hh⟩
      · obtain ⟨b1, b2, b3⟩ := dW_effect hoi pre post _ h past _ hrest hrp hne' (by rw [wi]; exact hwi) hE hh
        rw [di] at b2
        rw [look_ef a3 b1] at b3
        refine ⟨b1, b2, b3.mono fun v h' ⟨hall, hd⟩ => ⟨fun j' r hr => hall j' r (List.mem_cons_of_mem _ hr), oj, hoj, hk, .inr ⟨by rw [wj]; exact hw, h1, by rw [dj]; exact h2, .inl ⟨he, u, fun q hq => ?_, ?_⟩⟩⟩⟩
        · rw [look_rd a1 h1]
          rcases hq with rfl | hq
          · exact hall _ _ (List.mem_cons_self ..) (hnp j (List.mem_cons_self ..))
          · obtain ⟨_, hq, _⟩ := hq; cases hq
        · rw [← comm]
          have e : (fun h' => RdS P oj (tm.putO oi.dst v) h' u) = fun h' => RdS P oj tm h' u := funext fun h' => look_rd a1 h1 h' u
          rw [e]; exact hd
      · rw [hje] at he; cases he
theorem dW_want {Q : Tm → Hp → Prop} {i : Nat} {oi : Oper} (hoi : ops[i]? = some oi) : ∀ (pre post : List Nat) (tm : Tm) (h : Hp) (past : Past) (reads : Reads),
    (∀ j ∈ pre, Apart ops i j) → dW P ops n Q (pre ++ i :: post) tm h past reads → (wantB ops tm oi = some false ∨ wantB ops tm oi = some true) ∧ okDst n oi.dst = true
  | [], post, tm, h, past, reads, _, hh => by
    obtain ⟨o, ho, hk, hh⟩ := hh
    obtain rfl : oi = o := Option.some.inj (hoi.symm.trans ho)
    exact ⟨hh.imp (fun h => h.1) (fun h => h.1), hk⟩
  | j :: pre, post, tm, h, past, reads, hap, hh => by
    obtain ⟨oj, hoj, hk, hh⟩ := hh
    obtain ⟨a1, a2, a3⟩ := Oper.apart_spec (hap j (List.mem_cons_self ..) oi oj hoi hoj)
    have hrest : ∀ k ∈ pre, Apart ops i k := fun k hk => hap k (List.mem_cons_of_mem _ hk)
    have wi : ∀ u, wantB ops (tm.putO oj.dst u) oi = wantB ops tm oi := fun u => look_want a3
    rcases hh with ⟨hw, hh⟩ | ⟨hw, h1, h2, hh⟩
    · have := dW_want hoi pre post _ h past reads hrest hh; rwa [wi] at this
    · rcases hh with ⟨he, u, hu, hh⟩ | ⟨he, hh⟩
      · have := dW_want hoi pre post _ h past _ hrest hh; rwa [wi] at this
      · obtain ⟨u, h', _, hd⟩ := hh.some
        have := dW_want hoi pre post _ h' _ reads hrest hd; rwa [wi] at this
end
/-! ### What is looked at once -/
def backB (ops : Array Oper) : Bool := (List.range ops.size).all fun i => match ops[i]? with
  | none => true
  | some o => o.after.toList.all fun e => !Region.binds .any e || Nat.blt e.on i
def drawOK (P : Program) (ops : Array Oper) : Bool :=
  P.follows .mixedOrders && backB ops && (List.range ops.size).all fun i => (List.range i).all fun j =>
    match ops[i]?, ops[j]? with
    | some oi, some oj => (oi.apart ops oj || hasPred ops ops.size j i) && (!(isE P oi && isE P oj) || hasPred ops ops.size j i)
    | _, _ => true
section
variable {P : Program} {ops : Array Oper}
structure Closed (ops : Array Oper) (listed : Array Bool) : Prop where
  size : listed.size = ops.size
  closed : ∀ k o, ops[k]? = some o → listed.getD k false = true → ∀ e ∈ o.after, Region.binds .any e = true → listed.getD e.on false = true
theorem hasPred_listed {listed : Array Bool} (hc : Closed ops listed) : ∀ (f j i : Nat) (o : Oper), ops[i]? = some o → (∀ e ∈ o.after, Region.binds .any e = true → listed.getD e.on false = true) → hasPred ops f j i = true → listed.getD j false = true
  | 0, j, i, o, ho, hall, h => by cases h
  | f + 1, j, i, o, ho, hall, h => by
    simp only [hasPred, ho, Bool.or_eq_true, List.any_eq_true, Bool.and_eq_true] at h
    rcases h with ⟨e, he, hb, hj⟩ | ⟨e, he, hb, hj⟩
    · rw [← Nat.eq_of_beq_eq_true hj]; exact hall e (by simpa using he) hb
    · have hl := hall e (by simpa using he) hb
      have hlt : e.on < ops.size := by
        rw [← hc.size]
        rcases Nat.lt_or_ge e.on listed.size with h' | h'
        · exact h'
        · simp [Array.getElem?_eq_none h'] at hl
      have hoe : ops[e.on]? = some ops[e.on] := Array.getElem?_eq_getElem hlt
      exact hasPred_listed hc f j e.on _ hoe (hc.closed _ _ hoe hl) hj
theorem getD_ft {listed : Array Bool} {i : Nat} (h : i < listed.size) : listed.getD i true = listed.getD i false := by simp [h]
theorem getD_false_of {listed : Array Bool} {i : Nat} (h : listed.getD i false = true) : listed.getD i true = true := by
  rcases Nat.lt_or_ge i listed.size with h' | h'
  · rw [getD_ft h']; exact h
  · simp [Array.getElem?_eq_none h'] at h
theorem Closed.set {listed : Array Bool} (hc : Closed ops listed) {i : Nat} (hi : i ∈ Region.ready .any ops listed) : Closed ops (listed.setIfInBounds i true) := by
  obtain ⟨hun, oi, hoi, hall⟩ := mem_ready.1 hi
  refine ⟨by simp [hc.size], fun k o ho hl e he hb => ?_⟩
  by_cases hik : i = k
  · subst hik
    obtain rfl : oi = o := Option.some.inj (hoi.symm.trans ho)
    exact getD_set_true (hall e he hb)
  · rw [getD_set_ne false hik] at hl
    exact getD_set_true (hc.closed k o ho hl e he hb)
structure Rem (ops : Array Oper) (listed : Array Bool) (rem : List Nat) : Prop where
  sorted : rem.Pairwise (· < ·)
  mem : ∀ i, i ∈ rem ↔ (i < ops.size ∧ listed.getD i true = false)
theorem dW_sound {ds : List Deferred} {n m : Nat} {ρ : Option Nat} {Q : Tm → Hp → Prop} {Q' : Exit → Act → World → Prop} {w0 : World} (hOK : drawOK P ops = true) (hQ : ∀ a w, LQ ds w0 n Q a w → Q' .normal a w) :
    ∀ (fuel : Nat) (listed : Array Bool) (rem : List Nat) (tm : Tm) (a : Act) (w : World), Closed ops listed → Rem ops listed rem → fuel = rem.length → dW P ops n Q rem tm w.heap [] [] → Le ds tm a → a.tmps.size = n → Same w0 w →
      wpAnyIn (FW ρ) m P .any ops Q' fuel listed a w := by
  simp only [drawOK, Bool.and_eq_true] at hOK
  obtain ⟨⟨_, hback⟩, hpairs⟩ := hOK
  have back : ∀ i o, ops[i]? = some o → ∀ e ∈ o.after, Region.binds .any e = true → e.on < i := by
    intro i o ho e he hb
    have hi : i < ops.size := (Array.getElem?_eq_some_iff.1 ho).1
    have h1 := List.all_eq_true.1 hback i (List.mem_range.2 hi)
    rw [ho] at h1
    have h2 := List.all_eq_true.1 h1 e (by simpa using he)
    rw [hb] at h2
    simpa using h2
  have pair : ∀ i j oi oj, j < i → ops[i]? = some oi → ops[j]? = some oj → (oi.apart ops oj = true ∨ hasPred ops ops.size j i = true) ∧ (isE P oi = true → isE P oj = true → hasPred ops ops.size j i = true) := by
    intro i j oi oj hji hoi hoj
    have hi : i < ops.size := (Array.getElem?_eq_some_iff.1 hoi).1
    have h1 := List.all_eq_true.1 (List.all_eq_true.1 hpairs i (List.mem_range.2 hi)) j (List.mem_range.2 hji)
    rw [hoi, hoj] at h1
    simp only [Bool.and_eq_true, Bool.or_eq_true] at h1
    refine ⟨h1.1, fun e1 e2 => ?_⟩
    rcases h1.2 with h | h
    · simp [e1, e2] at h
    · exact h
  intro fuel
  induction fuel with
  | zero =>
    intro listed rem tm a w hc hr hf hd hl hz hs
    have : rem = [] := List.eq_nil_of_length_eq_zero hf.symm
    subst this
    refine ⟨?_, hQ a w ⟨tm, hl, hz, hs, hd⟩⟩
    refine List.eq_nil_iff_forall_not_mem.2 fun i hi => ?_
    obtain ⟨hun, oi, hoi, _⟩ := mem_ready.1 hi
    exact (List.not_mem_nil (a := i)) ((hr.mem i).2 ⟨(Array.getElem?_eq_some_iff.1 hoi).1, hun⟩)
  | succ fuel ih =>
    intro listed rem tm a w hc hr hf hd hl hz hs
    refine ⟨fun hnil => ?_, fun i hi => ?_⟩
    · exfalso
      cases rem with
      | nil => cases hf
      | cons i0 rest =>
        obtain ⟨hlt, hun⟩ := (hr.mem i0).1 (List.mem_cons_self ..)
        have hoi : ops[i0]? = some ops[i0] := Array.getElem?_eq_getElem hlt
        have : i0 ∈ Region.ready .any ops listed := mem_ready.2 ⟨hun, _, hoi, fun e he hb => by
          have h1 := back i0 _ hoi e he hb
          have h2 : e.on ∉ i0 :: rest := fun hm => by
            rcases List.mem_cons.1 hm with h | h
            · omega
            · have := List.rel_of_pairwise_cons hr.sorted h; omega
          have h3 : ¬ (listed.getD e.on true = false) := fun h => h2 ((hr.mem e.on).2 ⟨by omega, h⟩)
          rw [← getD_ft (by rw [hc.size]; omega)]
          simpa using h3⟩
        rw [hnil] at this
        cases this
    · obtain ⟨hun, oi, hoi, hall⟩ := mem_ready.1 hi
      have hlt : i < ops.size := (Array.getElem?_eq_some_iff.1 hoi).1
      have himem : i ∈ rem := (hr.mem i).2 ⟨hlt, hun⟩
      obtain ⟨pre, post, rfl⟩ := List.append_of_mem himem
      have hpre : ∀ j ∈ pre, j < i := fun j hj => (List.pairwise_append.1 hr.sorted).2.2 j hj i (List.mem_cons_self ..)
      have hprel : ∀ j ∈ pre, hasPred ops ops.size j i = false := by
        intro j hj
        cases hp : hasPred ops ops.size j i with
        | false => rfl
        | true =>
          have h1 := hasPred_listed hc ops.size j i oi hoi hall hp
          have h2 := ((hr.mem j).1 (List.mem_append_left _ hj)).2
          rw [getD_false_of h1] at h2
          cases h2
      have hap : ∀ j ∈ pre, Apart ops i j := by
        intro j hj oi' oj h1 h2
        have := (pair i j oi' oj (hpre j hj) h1 h2).1
        rw [hprel j hj] at this
        simpa using this
      obtain ⟨hwant, hki⟩ := dW_want hoi pre post tm w.heap [] [] hap hd
      have hr' : Rem ops (listed.setIfInBounds i true) (pre ++ post) := by
        obtain ⟨s1, s2, s3⟩ := List.pairwise_append.1 hr.sorted
        obtain ⟨s4, s5⟩ := List.pairwise_cons.1 s2
        refine ⟨List.pairwise_append.2 ⟨s1, s5, fun x hx y hy => s3 x hx y (List.mem_cons_of_mem _ hy)⟩, fun k => ?_⟩
        by_cases hik : i = k
        · subst hik
          refine ⟨fun hm => ?_, fun ⟨_, h⟩ => ?_⟩
          · rcases List.mem_append.1 hm with h | h
            · have := hpre i h; omega
            · have := s4 i h; omega
          · have : i < listed.size := by rw [hc.size]; exact hlt
            simp [this] at h
        · rw [getD_set_ne true hik, ← hr.mem k]
          simp only [List.mem_append, List.mem_cons]
          constructor
          · rintro (h | h)
            · exact .inl h
            · exact .inr (.inr h)
          · rintro (h | h | h)
            · exact .inl h
            · exact absurd h.symm hik
            · exact .inr h
      have hlen : fuel = (pre ++ post).length := by simp at hf ⊢; omega
      have hc' := hc.set hi
      unfold wpOpIn
      simp only [hoi]
      have first : (wantB ops tm oi = some false ∨ isE P oi = false) → (if Region.wanted oi (yielded ops a.tmps) = true then oi.wpIn (FW ρ) m P a w (wpAnyIn (FW ρ) m P .any ops Q' fuel (listed.setIfInBounds i true)) Q'
          else (∀ f, oi.about P w a.eval = some f → (FW ρ).fn f) ∧ wpAnyIn (FW ρ) m P .any ops Q' fuel (listed.setIfInBounds i true) (a.put oi.dst undef) w) := by
        intro hE
        obtain ⟨v, hv, hd'⟩ := dW_first hoi hki pre post tm w.heap [] [] hap hprel hE hd
        obtain ⟨p1, p2⟩ := putO_le hl hz hki v
        have hnext := ih _ _ _ _ w hc' hr' hlen hd' p1 p2 hs
        rcases hv with ⟨h1, rfl⟩ | ⟨h1, h2, h3, h4⟩
        · rw [wanted_of_wantB hl h1]
          simp only [Bool.false_eq_true, if_false]
          exact ⟨fun _ _ => trivial, hnext⟩
        · rw [wanted_of_wantB hl h1]
          simp only [if_true]
          exact wpIn_rd h2 h3 hl (h4 _ (.inl rfl)) hnext
      rcases hwant with hw | hw
      · exact first (.inl hw)
      · cases hE : isE P oi with
        | false => exact first (.inr hE)
        | true =>
          have hne : ∀ j ∈ pre, ∀ oj, ops[j]? = some oj → isE P oj = false := by
            intro j hj oj hoj
            cases he : isE P oj with
            | false => rfl
            | true =>
              have := (pair i j oi oj (hpre j hj) hoi hoj).2 hE he
              rw [hprel j hj] at this
              cases this
          obtain ⟨h1, h2, h3⟩ := dW_effect hoi pre post tm w.heap [] [] hap hprel hne hw hE hd
          rw [wanted_of_wantB hl hw]
          simp only [if_true]
          refine wpIn_ef h1 h2 hl h3 (fun v w' hs2 hK => ?_)
          obtain ⟨p1, p2⟩ := putO_le hl hz hki v
          exact ih _ _ _ _ w' hc' hr' hlen hK.2 p1 p2 (hs.trans hs2)
end
/-! ### The reading as it is printed -/
theorem allHV_all {P : Program} {pr : Nat → Nat → Bool} {i : Nat} {s : Sem Value} {v : Value} {X : Prop} : ∀ (past : Past), allHV P pr i s v past X → (∀ e hp, (e, hp) ∈ past → pr e i = false → HV P s hp v) ∧ X
  | [], h => ⟨(fun _ _ h => by cases h), h⟩
  | (e, p) :: past, h => by
    rw [allHV] at h
    cases hp : pr e i with
    | true =>
      rw [hp] at h
      obtain ⟨h3, h4⟩ := allHV_all past h
      refine ⟨fun e' q hq hn => ?_, h4⟩
      rcases List.mem_cons.1 hq with hq | hq
      · injection hq with q1 q2; subst q1; rw [hp] at hn; cases hn
      · exact h3 e' q hq hn
    | false =>
      rw [hp] at h
      obtain ⟨h3, h4⟩ := allHV_all past h.2
      refine ⟨fun e' q hq hn => ?_, h4⟩
      rcases List.mem_cons.1 hq with hq | hq
      · injection hq with q1 q2; subst q2; exact h.1
      · exact h3 e' q hq hn
theorem allR_all {pr : Nat → Nat → Bool} {i : Nat} {X : Prop} {h : Hp} : ∀ (reads : Reads), allR pr i reads h X → (∀ j r, (j, r) ∈ reads → pr j i = false → r h) ∧ X
  | [], hh => ⟨(fun _ _ h => by cases h), hh⟩
  | (j, p) :: past, hh => by
    rw [allR] at hh
    cases hp : pr j i with
    | true =>
      rw [hp] at hh
      obtain ⟨h3, h4⟩ := allR_all past hh
      refine ⟨fun e' q hq hn => ?_, h4⟩
      rcases List.mem_cons.1 hq with hq | hq
      · injection hq with q1 q2; subst q1; rw [hp] at hn; cases hn
      · exact h3 e' q hq hn
    | false =>
      rw [hp] at hh
      obtain ⟨h3, h4⟩ := allR_all past hh.2
      refine ⟨fun e' q hq hn => ?_, h4⟩
      rcases List.mem_cons.1 hq with hq | hq
      · injection hq with q1 q2; subst q2; exact hh.1
      · exact h3 e' q hq hn
theorem asT_v {P : Program} {t : TypeId} {K : Value → Hp → Prop} {v : Value} {h : Hp} (ha : asT P t K v h) : K v h := by
  obtain ⟨u, hu, hK⟩ := exT_ex _ ha
  rw [hu]; exact hK
theorem semWp_pure (P : Program) {α : Type} (s : Sem α) (x : α) (h : Hp) (K : α → Hp → Prop) : pureRun P s = some x → K x h → semWp P s h K := by
  induction s with
  | pure b => intro e hK; simp [pureRun] at e; subst e; exact hK
  | program k ih => intro e hK; exact ih P e hK
  | mark m k ih => intro e hK; exact ih e hK
  | _ => intro e; simp [pureRun] at e
/-- One operation where the order is open. -/
theorem opD_step_draw {P : Program} {o : Oper} {tm : Tm} {h : Hp} {past : Past} {reads : Reads} {K : KD} {pr : Nat → Nat → Bool} {i : Nat} (hh : opD P true pr i o tm h past reads K) :
    plainOp o ∧ definedB tm o = true ∧
      ((isE P o = false ∧ ∃ v reads', (∀ hp, hp = h ∨ (∃ e, (e, hp) ∈ past ∧ pr e i = false) → RdS P o tm hp v) ∧ (∀ x, x ∈ reads' → x ∈ reads ∨ (x.1 = i ∧ ∀ h', RdS P o tm h' v → x.2 h')) ∧ (∀ x, x ∈ reads → x ∈ reads') ∧ ((i, fun h' => RdS P o tm h' v) ∈ reads' ∨ (∀ h', RdS P o tm h' v) ∨ ∃ r, (i, r) ∈ reads' ∧ ∀ h', r h' → RdS P o tm h' v) ∧ K v h past reads') ∨
       (isE P o = true ∧ EfS P o tm h (fun v h' => (∀ j r, (j, r) ∈ reads → pr j i = false → r h') ∧ K v h' ((i, h) :: past) reads))) := by
  unfold opD at hh
  cases hd : definedB tm o with
  | false => rw [hd] at hh; exact hh.elim
  | true =>
    rw [hd] at hh
    simp only at hh
    refine ⟨plain_of_cls (P := P) (fun hx => by rw [hx] at hh; exact hh), rfl, ?_⟩
    have pureCase : ∀ v, (∀ hp : Hp, RdS P o tm hp v) → isE P o = false → K v h past reads → _ := fun v hr hE hK =>
      (Or.inl ⟨hE, v, reads, fun hp _ => hr hp, fun x hx => .inl hx, fun x hx => hx, .inr (.inl hr), hK⟩ : ((isE P o = false ∧ ∃ v reads', (∀ hp, hp = h ∨ (∃ e, (e, hp) ∈ past ∧ pr e i = false) → RdS P o tm hp v) ∧ (∀ x, x ∈ reads' → x ∈ reads ∨ (x.1 = i ∧ ∀ h', RdS P o tm h' v → x.2 h')) ∧ (∀ x, x ∈ reads → x ∈ reads') ∧ ((i, fun h' => RdS P o tm h' v) ∈ reads' ∨ (∀ h', RdS P o tm h' v) ∨ ∃ r, (i, r) ∈ reads' ∧ ∀ h', r h' → RdS P o tm h' v) ∧ K v h past reads') ∨
       (isE P o = true ∧ EfS P o tm h (fun v h' => (∀ j r, (j, r) ∈ reads → pr j i = false → r h') ∧ K v h' ((i, h) :: past) reads))))
    have ef : ∀ {v : Value} {h' : Hp}, efK true pr i h past reads K v h' → (∀ j r, (j, r) ∈ reads → pr j i = false → r h') ∧ K v h' ((i, h) :: past) reads := fun hh => allR_all reads hh
    cases hc : cls P o <;> rw [hc] at hh <;> simp only at hh
    case a =>
      split at hh
      · rename_i v hv; exact pureCase v (fun hp => rd_of_pure hv) (by simp [isE, hc]) hh
      · exact hh.elim
    case n =>
      split at hh
      · rename_i x hx
        split at hh
        · rename_i p hp
          unfold drf at hh
          split at hh
          · rename_i a
            refine pureCase _ (fun _ => rd_of_pure ?_) (by simp [isE, hc]) hh
            simp only [execOp, hx, hp]
            rfl
          · exact hh.elim
        · split at hh
          · rename_i v hv; exact pureCase v (fun hp => rd_of_pure hv) (by simp [isE, hc]) hh
          · exact hh.elim
      · exact hh.elim
    case p =>
      obtain ⟨v, hv, hK⟩ := exT_ex _ hh
      exact pureCase v (fun hp => rd_of_HV (.inl hc) (fun w _ => hv w)) (by simp [isE, hc]) hK
    case b =>
      split at hh
      · rename_i op t x y yt hx
        split at hh
        · rename_i hg
          obtain ⟨v, hv, hK⟩ := exT_ex _ hh
          refine pureCase v (fun hp w _ => ?_) (by simp [isE, hc]) hK
          have h1 := guardB_run hg w
          have h2 := (show PV P _ v from hv) w
          simp only [opVal, hx] at h2
          simp [execOp, hx, h1, h2, Result.andThen]
        · exact hh.elim
      · exact hh.elim
    case l =>
      obtain ⟨v, hv, hK⟩ := exT_ex _ hh
      obtain ⟨hpast, hK⟩ := allHV_all past hK
      have hRH : ∀ h', RdS P o tm h' v → HV P (opVal (ev tm) o) h' v := by
        intro h' hr w hw
        have h1 := hr w hw
        rcases execOp_val P (ev tm) o (.inr (.inl hc)) with he | ⟨op, t, x, y, yt, he⟩
        · rw [he] at h1
          simp only [Sem.run_bind] at h1
          cases hq : (opVal (ev tm) o).run P w with
          | ok u w' =>
            rw [hq] at h1
            simp only [Result.andThen] at h1
            injection h1 with e1 e2
            injection e1 with e1
            rw [e1, e2]
          | halt x w' => rw [hq] at h1; simp [Result.andThen] at h1
        · rcases cls_binOp (P := P) he with h1 | h1 <;> rw [h1] at hc <;> cases hc
      refine .inl ⟨by simp [isE, hc], v, _, fun q hq => rd_of_HV (.inr hc) (hq.elim (fun e => by rw [e]; exact hv) (fun ⟨e, h3, h4⟩ => hpast e q h3 h4)), fun x hx => ?_, fun x hx => List.mem_cons_of_mem _ hx, .inr (.inr ⟨_, List.mem_cons_self .., fun h' a => rd_of_HV (.inr hc) a⟩), hK⟩
      rcases List.mem_cons.1 hx with rfl | hx
      · exact .inr ⟨rfl, fun h' => hRH h'⟩
      · exact .inl hx
    case u =>
      split at hh
      · rename_i t x y hx
        refine .inr ⟨by simp [isE, hc], ?_⟩
        unfold EfS
        simp only [execOp, hx]
        exact semWp_bind P _ _ h _ (semWp_mono P _ h (fun _ h' hk => ef hk) hh)
      · exact hh.elim
    case e => exact .inr ⟨by simp [isE, hc], ef_of_HW (.inl hc) (semWp_mono P _ h (fun v h' hk => ef hk) hh)⟩
    case w => exact .inr ⟨by simp [isE, hc], ef_of_HW (.inr hc) (semWp_mono P _ h (fun v h' ha => ef (asT_v ha)) hh)⟩
    case k =>
      split at hh
      · rename_i f args hf
        refine .inr ⟨by simp [isE, hc], ?_⟩
        unfold EfS
        exact semWp_pure P _ _ h _ hf (CallsH.mono hh (fun v h' ha => ef (asT_v ha)))
      · exact hh.elim
    case v =>
      split at hh
      · rename_i f args at_ hx
        refine .inr ⟨by simp [isE, hc], ?_⟩
        unfold EfS
        simp only [execOp, hx]
        have h3 := HN_mono (fun v h' ha => ef (asT_v ha)) hh
        have e : (do let d ← resolve (ev tm) { callee := .value f, args := args, argTypes := at_ } o.type; invoke d.target d.args) = callS (ev tm f) (argsL (ev tm) args) := by
          simp only [resolve, callS, argsL_eq]
        rw [e]
        exact h3
      · rename_i r m args at_ hx
        refine .inr ⟨by simp [isE, hc], ?_⟩
        unfold EfS
        simp only [execOp, hx]
        have h3 := HN_mono (fun v h' ha => ef (asT_v ha)) hh
        rw [invoke_eq]
        exact h3
      · exact hh.elim
theorem opsW_dW {P : Program} {ops : Array Oper} {n : Nat} {Q : Tm → Hp → Prop} : ∀ (l : List Nat) (tm : Tm) (h : Hp) (past : Past) (reads readsA : Reads),
    (∀ h' i, (∀ j r, (j, r) ∈ readsA → Pr ops j i = false → r h') ↔ (∀ j r, (j, r) ∈ reads → Pr ops j i = false → r h')) → opsW P ops n true Q l tm h past reads → dW P ops n Q l tm h past readsA
  | [], tm, h, past, reads, readsA, _, hh => hh
  | i :: rest, tm, h, past, reads, readsA, hiff, hh => by
    rw [opsW] at hh
    cases ho : ops[i]? with
    | none => rw [ho] at hh; exact hh.elim
    | some o =>
      rw [ho] at hh
      simp only at hh
      cases hk : okDst n o.dst with
      | false => rw [hk] at hh; exact hh.elim
      | true =>
        rw [hk] at hh
        simp only at hh
        have step : ∀ tm2, tm2 = tm → wantB ops tm o = some true → opD P true (hasPred ops ops.size) i o tm2 h past reads (fun v h' p r => opsW P ops n true Q rest (tm2.putO o.dst v) h' p r) → dW P ops n Q (i :: rest) tm h past readsA := by
          intro tm2 e hw hop
          subst e
          obtain ⟨h1, h2, h3⟩ := opD_step_draw hop
          refine ⟨o, ho, hk, .inr ⟨hw, h1, h2, ?_⟩⟩
          rcases h3 with ⟨hE, v, reads', hr, hto, hfrom, hself, hK⟩ | ⟨hE, h3⟩
          · refine .inl ⟨hE, v, hr, opsW_dW rest _ _ _ _ _ (fun h' i' => ⟨fun a j r hjr hpr => ?_, fun a j r hjr hpr => ?_⟩) hK⟩
            · rcases hto (j, r) hjr with h4 | ⟨h4, h5⟩
              · exact (hiff h' i').1 (fun j r hjr => a j r (List.mem_cons_of_mem _ hjr)) j r h4 hpr
              · simp only at h4 h5
                subst h4
                exact h5 h' (a _ _ (List.mem_cons_self ..) hpr)
            · rcases List.mem_cons.1 hjr with e | hjr
              · injection e with e1 e2
                subst e1 e2
                rcases hself with h4 | h4 | ⟨r', h4, h5⟩
                · exact a _ _ h4 hpr
                · exact h4 h'
                · exact h5 h' (a _ _ h4 hpr)
              · exact (hiff h' i').2 (fun j r hjr => a j r (hfrom _ hjr)) j r hjr hpr
          · exact .inr ⟨hE, h3.mono fun v h' ⟨hall, hK⟩ => ⟨(hiff h' i).2 hall, opsW_dW rest _ _ _ _ _ hiff hK⟩⟩
        have skip : ∀ tm2, tm2 = tm → wantB ops tm o = some false → opsW P ops n true Q rest (tm2.putO o.dst undef) h past reads → dW P ops n Q (i :: rest) tm h past readsA := by
          intro tm2 e hw hop
          subst e
          exact ⟨o, ho, hk, .inl ⟨hw, opsW_dW rest _ _ _ _ _ hiff hop⟩⟩
        cases hg : o.guard with
        | none =>
          rw [hg] at hh
          exact step tm rfl (by simp [wantB, hg]) hh
        | some jw =>
          obtain ⟨j, want⟩ := jw
          rw [hg] at hh
          simp only at hh
          cases hj : (ops[j]?).bind (·.dst) with
          | none => rw [hj] at hh; exact hh.elim
          | some d =>
            rw [hj] at hh
            simp only at hh
            cases ht : tm d with
            | none => rw [ht] at hh; exact hh.elim
            | some v =>
              rw [ht] at hh
              have hput : tm.put d v = tm := Tm.put_same ht
              have hwb : ∀ b, v = .bool b → wantB ops tm o = some (b == want) := fun b e => by simp [wantB, hg, hj, ht, e]
              cases v <;> first
                | (exact skip tm rfl (by simp [wantB, hg, hj, ht]) hh)
                | skip
              rename_i b
              cases b <;> cases want <;> simp only [br] at hh
              · exact step _ hput (hwb _ rfl) hh
              · exact skip _ hput (hwb _ rfl) hh
              · exact skip _ hput (hwb _ rfl) hh
              · exact step _ hput (hwb _ rfl) hh
theorem opsW_sound_draw {ds : List Deferred} {P : Program} {ops : Array Oper} {n m : Nat} {ρ : Option Nat} {id : Nat} {Q : Tm → Hp → Prop} {Q' : Exit → Act → World → Prop} {w0 : World} (hQ : ∀ a w, LQ ds w0 n Q a w → Q' .normal a w) (hOK : drawOK P ops = true)
    {tm : Tm} {a : Act} {w : World} (h : opsW P ops n true Q (List.range ops.size) tm w.heap [] []) (hl : Le ds tm a) (hz : a.tmps.size = n) (hs : Same w0 w) : (Code.region id ops true).wpIn (FW ρ) m P Q' a w := by
  have hm : P.follows .mixedOrders = true := by
    simp only [drawOK, Bool.and_eq_true] at hOK
    exact hOK.1.1
  refine wpIn_region_any hm ?_
  have h1 := opsW_dW _ tm w.heap [] [] [] (fun _ _ => Iff.rfl) h
  refine dW_sound hOK hQ ops.size (Array.replicate ops.size false) (List.range ops.size) tm a _ ⟨by simp, fun k o ho hl => ?_⟩ ⟨List.pairwise_lt_range, fun i => ?_⟩ (by simp) h1 hl hz ⟨hs.os, hs.tape, hs.output, Nat.le_trans hs.drawn (Nat.le_succ _)⟩
  · exfalso
    rcases Nat.lt_or_ge k ops.size with h | h <;> simp [h] at hl
  · rw [List.mem_range]
    constructor
    · intro h; exact ⟨h, by simp [h]⟩
    · exact fun h => h.1
end Go.Proofs.YtoheablfncdibaaDoor.Sx
