/- Texts laid together: SxpDraw, SxpCode, FxL, SxOwn. -/
import Derived.Test.YtfdpccbajaiepaaGreatDoorB01
import Derived.Test.YtfdpccbajaiepaaGreatDoorProg
/- A region whose order is open, with a way out for panics at its last operation. -/
namespace Go.Proofs.YtfdpccbajaiepaaGreatDoor.Sxp
open Go Go.Proofs.YtfdpccbajaiepaaGreatDoor.Sx
set_option linter.unusedVariables false
set_option linter.unusedSimpArgs false
section
variable {P : Program} {ops : Array Oper} {n : Nat}
def dW (P : Program) (ops : Array Oper) (n : Nat) (Q : Tm → Hp → Prop) (KP : Kt) : List Nat → Tm → Hp → Past → Reads → Prop
  | [], tm, h, _, _ => Q tm h
  | i :: rest, tm, h, past, reads => ∃ o, ops[i]? = some o ∧ okDst n o.dst = true ∧
      ((wantB ops tm o = some false ∧ dW P ops n Q KP rest (tm.putO o.dst undef) h past reads) ∨
       (wantB ops tm o = some true ∧ plainOp o ∧ definedB tm o = true ∧
         ((isE P o = false ∧ ∃ v, (∀ hp, hp = h ∨ (∃ e, (e, hp) ∈ past ∧ Pr ops e i = false) → RdS P o tm hp v) ∧ dW P ops n Q KP rest (tm.putO o.dst v) h past ((i, fun h' => RdS P o tm h' v) :: reads)) ∨
          (isE P o = true ∧ EfS P o tm h (fun v h' => (∀ j r, (j, r) ∈ reads → Pr ops j i = false → r h') ∧ dW P ops n Q KP rest (tm.putO o.dst v) h' ((i, h) :: past) reads)) ∨
          (isE P o = true ∧ rest = [] ∧ (∀ j, j < ops.size → j ≠ i → Pr ops j i = true) ∧ EfP P o tm h (fun v h' => Q (tm.putO o.dst v) h') (KP tm)))))
theorem look_efP {o : Oper} {tm : Tm} {x : Option Nat} {v : Value} (h : ∀ d, x = some d → d ∉ o.looksAt ops) (hp : plainOp o) (hh : Hp) (K : Value → Hp → Prop) (KP : Kp) : EfP P o (tm.putO x v) hh K KP = EfP P o tm hh K KP := by unfold EfP; rw [look_exec h hp]
theorem dW_mono {Q : Tm → Hp → Prop} {KP : Kt} : ∀ (l : List Nat) (tm : Tm) (h : Hp) (past past' : Past) (reads reads' : Reads),
    (∀ x ∈ past', x ∈ past) → (∀ h' i, (∀ j r, (j, r) ∈ reads → Pr ops j i = false → r h') → ∀ j r, (j, r) ∈ reads' → Pr ops j i = false → r h') → dW P ops n Q KP l tm h past reads → dW P ops n Q KP l tm h past' reads'
  | [], tm, h, past, past', reads, reads', hp, hr, hh => hh
  | i :: rest, tm, h, past, past', reads, reads', hp, hr, hh => by
    obtain ⟨o, ho, hk, hh⟩ := hh
    refine ⟨o, ho, hk, ?_⟩
    rcases hh with ⟨hw, hh⟩ | ⟨hw, h1, h2, hh⟩
    · exact .inl ⟨hw, dW_mono rest _ _ _ _ _ _ hp hr hh⟩
    · refine .inr ⟨hw, h1, h2, ?_⟩
      rcases hh with ⟨he, v, hv, hh⟩ | ⟨he, hh⟩ | hh
      · refine .inl ⟨he, v, fun q hq => hv q (hq.imp id (fun ⟨e, h3, h4⟩ => ⟨e, hp _ h3, h4⟩)), dW_mono rest _ _ _ _ _ _ hp ?_ hh⟩
        intro h' i' hall j r hmem hpr
        rcases List.mem_cons.1 hmem with e | hm
        · injection e with e1 e2
          subst e1 e2
          exact hall _ _ (List.mem_cons_self ..) hpr
        · exact hr h' i' (fun j' r' hr' => hall j' r' (List.mem_cons_of_mem _ hr')) j r hm hpr
      · refine .inr (.inl ⟨he, hh.mono fun v h' ⟨hall, hd⟩ => ⟨hr h' i hall, dW_mono rest _ _ _ _ _ _ ?_ hr hd⟩⟩)
        intro q hq
        rcases List.mem_cons.1 hq with rfl | hm
        · exact List.mem_cons_self ..
        · exact List.mem_cons_of_mem _ (hp q hm)
      · exact .inr (.inr hh)
theorem dW_first {Q : Tm → Hp → Prop} {KP : Kt} {i : Nat} {oi : Oper} (hoi : ops[i]? = some oi) (hki : okDst n oi.dst = true) : ∀ (pre post : List Nat) (tm : Tm) (h : Hp) (past : Past) (reads : Reads),
    (∀ j ∈ pre, Apart ops i j) → (∀ j ∈ pre, Pr ops j i = false) → (wantB ops tm oi = some false ∨ isE P oi = false) → dW P ops n Q KP (pre ++ i :: post) tm h past reads →
    ∃ v, ((wantB ops tm oi = some false ∧ v = undef) ∨ (wantB ops tm oi = some true ∧ plainOp oi ∧ definedB tm oi = true ∧ ∀ hp, hp = h ∨ (∃ e, (e, hp) ∈ past ∧ Pr ops e i = false) → RdS P oi tm hp v)) ∧
      dW P ops n Q KP (pre ++ post) (tm.putO oi.dst v) h past reads
  | [], post, tm, h, past, reads, _, _, hE, hh => by
    obtain ⟨o, ho, hk, hh⟩ := hh
    obtain rfl : oi = o := Option.some.inj (hoi.symm.trans ho)
    rcases hh with ⟨hw, hh⟩ | ⟨hw, h1, h2, hh⟩
    · exact ⟨undef, .inl ⟨hw, rfl⟩, hh⟩
    · rcases hh with ⟨he, v, hv, hh⟩ | ⟨he, hh⟩ | ⟨he, hr, _⟩
      · exact ⟨v, .inr ⟨hw, h1, h2, hv⟩, dW_mono _ _ _ _ _ _ _ (fun _ h => h) (fun h' i' hall j r hr => hall j r (List.mem_cons_of_mem _ hr)) hh⟩
      · rcases hE with hE | hE
        · rw [hw] at hE; cases hE
        · rw [he] at hE; cases hE
      · rcases hE with hE | hE
        · rw [hw] at hE; cases hE
        · rw [he] at hE; cases hE
  | j :: pre, post, tm, h, past, reads, hap, hnp, hE, hh => by
    obtain ⟨oj, hoj, hk, hh⟩ := hh
    have hA := hap j (List.mem_cons_self ..) oi oj hoi hoj
    obtain ⟨a1, a2, a3⟩ := Oper.apart_spec hA
    have hrest : ∀ k ∈ pre, Apart ops i k := fun k hk => hap k (List.mem_cons_of_mem _ hk)
    have hrp : ∀ k ∈ pre, Pr ops k i = false := fun k hk => hnp k (List.mem_cons_of_mem _ hk)
    have wi : ∀ u, wantB ops (tm.putO oj.dst u) oi = wantB ops tm oi := fun u => look_want a3
    have di : ∀ u, definedB (tm.putO oj.dst u) oi = definedB tm oi := fun u => look_defined a3
    have wj : ∀ u, wantB ops (tm.putO oi.dst u) oj = wantB ops tm oj := fun u => look_want a1
    have dj : ∀ u, definedB (tm.putO oi.dst u) oj = definedB tm oj := fun u => look_defined a1
    have comm : ∀ v u, (tm.putO oj.dst u).putO oi.dst v = (tm.putO oi.dst v).putO oj.dst u := fun v u => (putO_comm tm v u a2).symm
    rcases hh with ⟨hw, hh⟩ | ⟨hw, h1, h2, hh⟩
    · obtain ⟨v, hv, hd⟩ := dW_first hoi hki pre post _ h past reads hrest hrp (by rw [wi]; exact hE) hh
      rw [wi, di] at hv
      refine ⟨v, ?_, oj, hoj, hk, .inl ⟨by rw [wj]; exact hw, by rw [← comm]; exact hd⟩⟩
      rcases hv with hv | ⟨b1, b2, b3, b4⟩
      · exact .inl hv
      · exact .inr ⟨b1, b2, b3, fun q hq => by have := b4 q hq; rwa [look_rd a3 b2] at this⟩
    · rcases hh with ⟨he, u, hu, hh⟩ | ⟨he, hh⟩ | ⟨he, hr, _⟩
      · obtain ⟨v, hv, hd⟩ := dW_first hoi hki pre post _ h past _ hrest hrp (by rw [wi]; exact hE) hh
        rw [wi, di] at hv
        refine ⟨v, ?_, oj, hoj, hk, .inr ⟨by rw [wj]; exact hw, h1, by rw [dj]; exact h2, .inl ⟨he, u, fun q hq => by rw [look_rd a1 h1]; exact hu q hq, ?_⟩⟩⟩
        · rcases hv with hv | ⟨b1, b2, b3, b4⟩
          · exact .inl hv
          · exact .inr ⟨b1, b2, b3, fun q hq => by have := b4 q hq; rwa [look_rd a3 b2] at this⟩
        · rw [← comm]
          have e : (fun h' => RdS P oj (tm.putO oi.dst v) h' u) = fun h' => RdS P oj tm h' u := funext fun h' => look_rd a1 h1 h' u
          rw [e]; exact hd
      · -- an effect: what is read behind it could be read ahead
        have key : EfS P oj tm h (fun u h' => (∀ j' r, (j', r) ∈ reads → Pr ops j' j = false → r h') ∧ ∃ v, ((wantB ops tm oi = some false ∧ v = undef) ∨ (wantB ops tm oi = some true ∧ plainOp oi ∧ definedB tm oi = true ∧ ∀ hp, hp = h' ∨ (∃ e, (e, hp) ∈ (j, h) :: past ∧ Pr ops e i = false) → RdS P oi tm hp v)) ∧
            dW P ops n Q KP (pre ++ post) ((tm.putO oi.dst v).putO oj.dst u) h' ((j, h) :: past) reads) := by
          refine hh.mono fun u h' ⟨hall, hd⟩ => ⟨hall, ?_⟩
          obtain ⟨v, hv, hd'⟩ := dW_first hoi hki pre post _ h' ((j, h) :: past) reads hrest hrp (by rw [wi]; exact hE) hd
          rw [wi, di] at hv
          rw [comm] at hd'
          refine ⟨v, ?_, hd'⟩
          rcases hv with hv | ⟨b1, b2, b3, b4⟩
          · exact .inl hv
          · exact .inr ⟨b1, b2, b3, fun q hq => by have := b4 q hq; rwa [look_rd a3 b2] at this⟩
        obtain ⟨u0, h0, _, v0, hv0, _⟩ := key.some
        have hv0' : (wantB ops tm oi = some false ∧ v0 = undef) ∨ (wantB ops tm oi = some true ∧ plainOp oi ∧ definedB tm oi = true ∧ ∀ hp, hp = h ∨ (∃ e, (e, hp) ∈ past ∧ Pr ops e i = false) → RdS P oi tm hp v0) :=
          hv0.imp id fun ⟨b1, b2, b3, b4⟩ => ⟨b1, b2, b3, fun q hq => b4 q (.inr (hq.elim (fun e => ⟨j, by rw [e]; exact List.mem_cons_self .., hnp j (List.mem_cons_self ..)⟩) (fun ⟨e, h3, h4⟩ => ⟨e, List.mem_cons_of_mem _ h3, h4⟩)))⟩
        refine ⟨v0, hv0', oj, hoj, hk, .inr ⟨by rw [wj]; exact hw, h1, by rw [dj]; exact h2, .inr (.inl ⟨he, ?_⟩)⟩⟩
        rw [look_ef a1 h1]
        refine key.mono fun u h' ⟨hall, v, hv, hd⟩ => ⟨hall, ?_⟩
        have : v = v0 := by
          rcases hv with ⟨c1, c2⟩ | ⟨c1, _, _, c4⟩
          · rcases hv0' with ⟨d1, d2⟩ | ⟨d1, _⟩
            · rw [c2, d2]
            · rw [c1] at d1; cases d1
          · rcases hv0' with ⟨d1, _⟩ | ⟨_, _, _, d4⟩
            · rw [c1] at d1; cases d1
            · exact (c4 h (.inr ⟨j, List.mem_cons_self .., hnp j (List.mem_cons_self ..)⟩)).uniq (d4 h (.inl rfl))
        rw [← this]; exact hd
      · exact absurd hr (by simp)
theorem dW_effect {Q : Tm → Hp → Prop} {KP : Kt} {i : Nat} {oi : Oper} (hoi : ops[i]? = some oi) : ∀ (pre post : List Nat) (tm : Tm) (h : Hp) (past : Past) (reads : Reads),
    (∀ j ∈ pre, Apart ops i j) → (∀ j ∈ pre, Pr ops j i = false) → (∀ j ∈ pre, j ≠ i) → (∀ j ∈ pre, ∀ oj, ops[j]? = some oj → isE P oj = false) → wantB ops tm oi = some true → isE P oi = true → dW P ops n Q KP (pre ++ i :: post) tm h past reads →
    plainOp oi ∧ definedB tm oi = true ∧ (EfS P oi tm h (fun v h' => (∀ j r, (j, r) ∈ reads → Pr ops j i = false → r h') ∧ dW P ops n Q KP (pre ++ post) (tm.putO oi.dst v) h' [] reads) ∨ (pre ++ post = [] ∧ (∀ j, j < ops.size → j ≠ i → Pr ops j i = true) ∧ EfP P oi tm h (fun v h' => Q (tm.putO oi.dst v) h') (KP tm)))
  | [], post, tm, h, past, reads, _, _, _, _, hwi, hE, hh => by
    obtain ⟨o, ho, hk, hh⟩ := hh
    obtain rfl : oi = o := Option.some.inj (hoi.symm.trans ho)
    rcases hh with ⟨hw, hh⟩ | ⟨hw, h1, h2, hh⟩
    · rw [hwi] at hw; cases hw
    · rcases hh with ⟨he, _⟩ | ⟨he, hh⟩ | ⟨he, hr, hall, hh⟩
      · rw [he] at hE; cases hE
      · exact ⟨h1, h2, .inl (hh.mono fun v h' ⟨hall, hd⟩ => ⟨hall, dW_mono _ _ _ _ _ _ _ (fun _ h => by cases h) (fun _ _ h => h) hd⟩)⟩
      · exact ⟨h1, h2, .inr ⟨hr, hall, hh⟩⟩
  | j :: pre, post, tm, h, past, reads, hap, hnp, hji, hne, hwi, hE, hh => by
    obtain ⟨oj, hoj, hk, hh⟩ := hh
    have hA := hap j (List.mem_cons_self ..) oi oj hoi hoj
    obtain ⟨a1, a2, a3⟩ := Oper.apart_spec hA
    have hrest : ∀ k ∈ pre, Apart ops i k := fun k hk => hap k (List.mem_cons_of_mem _ hk)
    have hne' : ∀ k ∈ pre, ∀ ok, ops[k]? = some ok → isE P ok = false := fun k hk => hne k (List.mem_cons_of_mem _ hk)
    have hrp : ∀ k ∈ pre, Pr ops k i = false := fun k hk => hnp k (List.mem_cons_of_mem _ hk)
    have hji2 : ∀ k ∈ pre, k ≠ i := fun k hk => hji k (List.mem_cons_of_mem _ hk)
    have hno : ¬ ∀ k, k < ops.size → k ≠ i → Pr ops k i = true := fun hk => by
      have := hk j (Array.getElem?_eq_some_iff.1 hoj).1 (hji j (List.mem_cons_self ..))
      rw [hnp j (List.mem_cons_self ..)] at this
      cases this
    have wi : ∀ u, wantB ops (tm.putO oj.dst u) oi = wantB ops tm oi := fun u => look_want a3
    have di : ∀ u, definedB (tm.putO oj.dst u) oi = definedB tm oi := fun u => look_defined a3
    have wj : ∀ u, wantB ops (tm.putO oi.dst u) oj = wantB ops tm oj := fun u => look_want a1
    have dj : ∀ u, definedB (tm.putO oi.dst u) oj = definedB tm oj := fun u => look_defined a1
    have comm : ∀ v u, (tm.putO oj.dst u).putO oi.dst v = (tm.putO oi.dst v).putO oj.dst u := fun v u => (putO_comm tm v u a2).symm
    have hje := hne j (List.mem_cons_self ..) oj hoj
    rcases hh with ⟨hw, hh⟩ | ⟨hw, h1, h2, hh⟩
    · obtain ⟨b1, b2, b3⟩ := dW_effect hoi pre post _ h past reads hrest hrp hji2 hne' (by rw [wi]; exact hwi) hE hh
      rw [di] at b2
      rw [look_ef a3 b1] at b3
      rcases b3 with b3 | ⟨_, b3, _⟩
      · exact ⟨b1, b2, .inl (b3.mono fun v h' ⟨hall, hd⟩ => ⟨hall, oj, hoj, hk, .inl ⟨by rw [wj]; exact hw, by rw [← comm]; exact hd⟩⟩)⟩
      · exact absurd b3 hno
    · rcases hh with ⟨he, u, hu, hh⟩ | ⟨he, hh⟩ | ⟨he, hr, _⟩
      · obtain ⟨b1, b2, b3⟩ := dW_effect hoi pre post _ h past _ hrest hrp hji2 hne' (by rw [wi]; exact hwi) hE hh
        rw [di] at b2
        rw [look_ef a3 b1] at b3
        rcases b3 with b3 | ⟨_, b3, _⟩
        rotate_left
        · exact absurd b3 hno
        refine ⟨b1, b2, .inl (b3.mono fun v h' ⟨hall, hd⟩ => ⟨fun j' r hr => hall j' r (List.mem_cons_of_mem _ hr), oj, hoj, hk, .inr ⟨by rw [wj]; exact hw, h1, by rw [dj]; exact h2, .inl ⟨he, u, fun q hq => ?_, ?_⟩⟩⟩)⟩
        · rw [look_rd a1 h1]
          rcases hq with rfl | hq
          · exact hall _ _ (List.mem_cons_self ..) (hnp j (List.mem_cons_self ..))
          · obtain ⟨_, hq, _⟩ := hq; cases hq
        · rw [← comm]
          have e : (fun h' => RdS P oj (tm.putO oi.dst v) h' u) = fun h' => RdS P oj tm h' u := funext fun h' => look_rd a1 h1 h' u
          rw [e]; exact hd
      · rw [hje] at he; cases he
      · rw [hje] at he; cases he
theorem dW_want {Q : Tm → Hp → Prop} {KP : Kt} {i : Nat} {oi : Oper} (hoi : ops[i]? = some oi) : ∀ (pre post : List Nat) (tm : Tm) (h : Hp) (past : Past) (reads : Reads),
    (∀ j ∈ pre, Apart ops i j) → dW P ops n Q KP (pre ++ i :: post) tm h past reads → (wantB ops tm oi = some false ∨ wantB ops tm oi = some true) ∧ okDst n oi.dst = true
  | [], post, tm, h, past, reads, _, hh => by
    obtain ⟨o, ho, hk, hh⟩ := hh
    obtain rfl : oi = o := Option.some.inj (hoi.symm.trans ho)
    exact ⟨hh.imp (fun h => h.1) (fun h => h.1), hk⟩
  | j :: pre, post, tm, h, past, reads, hap, hh => by
    obtain ⟨oj, hoj, hk, hh⟩ := hh
    obtain ⟨a1, a2, a3⟩ := Oper.apart_spec (hap j (List.mem_cons_self ..) oi oj hoi hoj)
    have hrest : ∀ k ∈ pre, Apart ops i k := fun k hk => hap k (List.mem_cons_of_mem _ hk)
    have wi : ∀ u, wantB ops (tm.putO oj.dst u) oi = wantB ops tm oi := fun u => look_want a3
    rcases hh with ⟨hw, hh⟩ | ⟨hw, h1, h2, hh⟩
    · have := dW_want hoi pre post _ h past reads hrest hh; rwa [wi] at this
    · rcases hh with ⟨he, u, hu, hh⟩ | ⟨he, hh⟩ | ⟨he, hr, _⟩
      · have := dW_want hoi pre post _ h past _ hrest hh; rwa [wi] at this
      · obtain ⟨u, h', _, hd⟩ := hh.some
        have := dW_want hoi pre post _ h' _ reads hrest hd; rwa [wi] at this
      · exact absurd hr (by simp)
end
def drawOK (P : Program) (ops : Array Oper) : Bool :=
  P.follows .mixedOrders && backB ops && (List.range ops.size).all fun i => (List.range i).all fun j =>
    match ops[i]?, ops[j]? with
    | some oi, some oj => (oi.apart ops oj || hasPred ops ops.size j i) && (!(isE P oi && isE P oj) || hasPred ops ops.size j i)
    | _, _ => true
section
variable {P : Program} {ops : Array Oper}
theorem dW_sound {ds : List Deferred} {n m : Nat} {ρ : Option Nat} {Q : Tm → Hp → Prop} {KP : Kt} {Q' : Exit → Act → World → Prop} {w0 : World} (hOK : drawOK P ops = true) (hQ : ∀ a w, LQ ds w0 n Q a w → Q' .normal a w) (hP : ∀ ch a w, LQ ds w0 n (fun tm h => KP tm ch h) a w → Q' (.panic ch) a w) :
    ∀ (fuel : Nat) (listed : Array Bool) (rem : List Nat) (tm : Tm) (a : Act) (w : World), Closed ops listed → Rem ops listed rem → fuel = rem.length → dW P ops n Q KP rem tm w.heap [] [] → Le ds tm a → a.tmps.size = n → Same w0 w →
      wpAnyIn (FW ρ) m P .any ops Q' fuel listed a w := by
  simp only [drawOK, Bool.and_eq_true] at hOK
  obtain ⟨⟨_, hback⟩, hpairs⟩ := hOK
  have back : ∀ i o, ops[i]? = some o → ∀ e ∈ o.after, Region.binds .any e = true → e.on < i := by
    intro i o ho e he hb
    have hi : i < ops.size := (Array.getElem?_eq_some_iff.1 ho).1
    have h1 := List.all_eq_true.1 hback i (List.mem_range.2 hi)
    rw [ho] at h1
    have h2 := List.all_eq_true.1 h1 e (by simpa using he)
    rw [hb] at h2
    simpa using h2
  have pair : ∀ i j oi oj, j < i → ops[i]? = some oi → ops[j]? = some oj → (oi.apart ops oj = true ∨ hasPred ops ops.size j i = true) ∧ (isE P oi = true → isE P oj = true → hasPred ops ops.size j i = true) := by
    intro i j oi oj hji hoi hoj
    have hi : i < ops.size := (Array.getElem?_eq_some_iff.1 hoi).1
    have h1 := List.all_eq_true.1 (List.all_eq_true.1 hpairs i (List.mem_range.2 hi)) j (List.mem_range.2 hji)
    rw [hoi, hoj] at h1
    simp only [Bool.and_eq_true, Bool.or_eq_true] at h1
    refine ⟨h1.1, fun e1 e2 => ?_⟩
    rcases h1.2 with h | h
    · simp [e1, e2] at h
    · exact h
  intro fuel
  induction fuel with
  | zero =>
    intro listed rem tm a w hc hr hf hd hl hz hs
    have : rem = [] := List.eq_nil_of_length_eq_zero hf.symm
    subst this
    refine ⟨?_, hQ a w ⟨tm, hl, hz, hs, hd⟩⟩
    refine List.eq_nil_iff_forall_not_mem.2 fun i hi => ?_
    obtain ⟨hun, oi, hoi, _⟩ := mem_ready.1 hi
    exact (List.not_mem_nil (a := i)) ((hr.mem i).2 ⟨(Array.getElem?_eq_some_iff.1 hoi).1, hun⟩)
  | succ fuel ih =>
    intro listed rem tm a w hc hr hf hd hl hz hs
    refine ⟨fun hnil => ?_, fun i hi => ?_⟩
    · exfalso
      cases rem with
      | nil => cases hf
      | cons i0 rest =>
        obtain ⟨hlt, hun⟩ := (hr.mem i0).1 (List.mem_cons_self ..)
        have hoi : ops[i0]? = some ops[i0] := Array.getElem?_eq_getElem hlt
        have : i0 ∈ Region.ready .any ops listed := mem_ready.2 ⟨hun, _, hoi, fun e he hb => by
          have h1 := back i0 _ hoi e he hb
          have h2 : e.on ∉ i0 :: rest := fun hm => by
            rcases List.mem_cons.1 hm with h | h
            · omega
            · have := List.rel_of_pairwise_cons hr.sorted h; omega
          have h3 : ¬ (listed.getD e.on true = false) := fun h => h2 ((hr.mem e.on).2 ⟨by omega, h⟩)
          rw [← getD_ft (by rw [hc.size]; omega)]
          simpa using h3⟩
        rw [hnil] at this
        cases this
    · obtain ⟨hun, oi, hoi, hall⟩ := mem_ready.1 hi
      have hlt : i < ops.size := (Array.getElem?_eq_some_iff.1 hoi).1
      have himem : i ∈ rem := (hr.mem i).2 ⟨hlt, hun⟩
      obtain ⟨pre, post, rfl⟩ := List.append_of_mem himem
      have hpre : ∀ j ∈ pre, j < i := fun j hj => (List.pairwise_append.1 hr.sorted).2.2 j hj i (List.mem_cons_self ..)
      have hprel : ∀ j ∈ pre, hasPred ops ops.size j i = false := by
        intro j hj
        cases hp : hasPred ops ops.size j i with
        | false => rfl
        | true =>
          have h1 := hasPred_listed hc ops.size j i oi hoi hall hp
          have h2 := ((hr.mem j).1 (List.mem_append_left _ hj)).2
          rw [getD_false_of h1] at h2
          cases h2
      have hap : ∀ j ∈ pre, Apart ops i j := by
        intro j hj oi' oj h1 h2
        have := (pair i j oi' oj (hpre j hj) h1 h2).1
        rw [hprel j hj] at this
        simpa using this
      obtain ⟨hwant, hki⟩ := dW_want hoi pre post tm w.heap [] [] hap hd
      have hr' : Rem ops (listed.setIfInBounds i true) (pre ++ post) := by
        obtain ⟨s1, s2, s3⟩ := List.pairwise_append.1 hr.sorted
        obtain ⟨s4, s5⟩ := List.pairwise_cons.1 s2
        refine ⟨List.pairwise_append.2 ⟨s1, s5, fun x hx y hy => s3 x hx y (List.mem_cons_of_mem _ hy)⟩, fun k => ?_⟩
        by_cases hik : i = k
        · subst hik
          refine ⟨fun hm => ?_, fun ⟨_, h⟩ => ?_⟩
          · rcases List.mem_append.1 hm with h | h
            · have := hpre i h; omega
            · have := s4 i h; omega
          · have : i < listed.size := by rw [hc.size]; exact hlt
            simp [this] at h
        · rw [getD_set_ne true hik, ← hr.mem k]
          simp only [List.mem_append, List.mem_cons]
          constructor
          · rintro (h | h)
            · exact .inl h
            · exact .inr (.inr h)
          · rintro (h | h | h)
            · exact .inl h
            · exact absurd h.symm hik
            · exact .inr h
      have hlen : fuel = (pre ++ post).length := by simp at hf ⊢; omega
      have hc' := hc.set hi
      unfold wpOpIn
      simp only [hoi]
      have first : (wantB ops tm oi = some false ∨ isE P oi = false) → (if Region.wanted oi (yielded ops a.tmps) = true then oi.wpIn (FW ρ) m P a w (wpAnyIn (FW ρ) m P .any ops Q' fuel (listed.setIfInBounds i true)) Q'
          else (∀ f, oi.about P w a.eval = some f → (FW ρ).fn f) ∧ wpAnyIn (FW ρ) m P .any ops Q' fuel (listed.setIfInBounds i true) (a.put oi.dst undef) w) := by
        intro hE
        obtain ⟨v, hv, hd'⟩ := dW_first hoi hki pre post tm w.heap [] [] hap hprel hE hd
        obtain ⟨p1, p2⟩ := putO_le hl hz hki v
        have hnext := ih _ _ _ _ w hc' hr' hlen hd' p1 p2 hs
        rcases hv with ⟨h1, rfl⟩ | ⟨h1, h2, h3, h4⟩
        · rw [wanted_of_wantB hl h1]
          simp only [Bool.false_eq_true, if_false]
          exact ⟨fun _ _ => trivial, hnext⟩
        · rw [wanted_of_wantB hl h1]
          simp only [if_true]
          exact wpIn_rd h2 h3 hl (h4 _ (.inl rfl)) hnext
      rcases hwant with hw | hw
      · exact first (.inl hw)
      · cases hE : isE P oi with
        | false => exact first (.inr hE)
        | true =>
          have hne : ∀ j ∈ pre, ∀ oj, ops[j]? = some oj → isE P oj = false := by
            intro j hj oj hoj
            cases he : isE P oj with
            | false => rfl
            | true =>
              have := (pair i j oi oj (hpre j hj) hoi hoj).2 hE he
              rw [hprel j hj] at this
              cases this
          obtain ⟨h1, h2, h3⟩ := dW_effect hoi pre post tm w.heap [] [] hap hprel (fun j hj => Nat.ne_of_lt (hpre j hj)) hne hw hE hd
          rw [wanted_of_wantB hl hw]
          simp only [if_true]
          rcases h3 with h3 | ⟨hnil, _, h3⟩
          rotate_left
          · refine wpIn_ep h1 h2 hl h3 (fun v w' hs2 hK => ?_) (fun ch w' hs2 hK => hP ch a w' ⟨tm, hl, hz, hs.trans hs2, hK⟩)
            obtain ⟨p1, p2⟩ := putO_le hl hz hki v
            refine ih _ _ _ _ w' hc' hr' hlen ?_ p1 p2 (hs.trans hs2)
            rw [hnil]
            exact hK
          refine wpIn_ef h1 h2 hl h3 (fun v w' hs2 hK => ?_)
          obtain ⟨p1, p2⟩ := putO_le hl hz hki v
          exact ih _ _ _ _ w' hc' hr' hlen hK.2 p1 p2 (hs.trans hs2)
end
theorem opD_step_draw {P : Program} {o : Oper} {tm : Tm} {h : Hp} {past : Past} {reads : Reads} {kp : Option Kp} {K : KD} {pr : Nat → Nat → Bool} {i : Nat} (hh : opD P true pr i o tm h past reads kp K) :
    plainOp o ∧ definedB tm o = true ∧
      ((isE P o = false ∧ ∃ v reads', (∀ hp, hp = h ∨ (∃ e, (e, hp) ∈ past ∧ pr e i = false) → RdS P o tm hp v) ∧ (∀ x, x ∈ reads' → x ∈ reads ∨ (x.1 = i ∧ ∀ h', RdS P o tm h' v → x.2 h')) ∧ (∀ x, x ∈ reads → x ∈ reads') ∧ ((i, fun h' => RdS P o tm h' v) ∈ reads' ∨ (∀ h', RdS P o tm h' v) ∨ ∃ r, (i, r) ∈ reads' ∧ ∀ h', r h' → RdS P o tm h' v) ∧ K v h past reads') ∨
       (isE P o = true ∧ EfS P o tm h (fun v h' => (∀ j r, (j, r) ∈ reads → pr j i = false → r h') ∧ K v h' ((i, h) :: past) reads)) ∨ (isE P o = true ∧ ∃ KP, kp = some KP ∧ EfP P o tm h (fun v h' => (∀ j r, (j, r) ∈ reads → pr j i = false → r h') ∧ K v h' ((i, h) :: past) reads) KP)) := by
  unfold opD at hh
  cases hd : definedB tm o with
  | false => rw [hd] at hh; exact hh.elim
  | true =>
    rw [hd] at hh
    simp only at hh
    refine ⟨plain_of_cls (P := P) (fun hx => by rw [hx] at hh; exact hh), rfl, ?_⟩
    have pureCase : ∀ v, (∀ hp : Hp, RdS P o tm hp v) → isE P o = false → K v h past reads → _ := fun v hr hE hK =>
      (Or.inl ⟨hE, v, reads, fun hp _ => hr hp, fun x hx => .inl hx, fun x hx => hx, .inr (.inl hr), hK⟩ : ((isE P o = false ∧ ∃ v reads', (∀ hp, hp = h ∨ (∃ e, (e, hp) ∈ past ∧ pr e i = false) → RdS P o tm hp v) ∧ (∀ x, x ∈ reads' → x ∈ reads ∨ (x.1 = i ∧ ∀ h', RdS P o tm h' v → x.2 h')) ∧ (∀ x, x ∈ reads → x ∈ reads') ∧ ((i, fun h' => RdS P o tm h' v) ∈ reads' ∨ (∀ h', RdS P o tm h' v) ∨ ∃ r, (i, r) ∈ reads' ∧ ∀ h', r h' → RdS P o tm h' v) ∧ K v h past reads') ∨
       (isE P o = true ∧ EfS P o tm h (fun v h' => (∀ j r, (j, r) ∈ reads → pr j i = false → r h') ∧ K v h' ((i, h) :: past) reads)) ∨ (isE P o = true ∧ ∃ KP, kp = some KP ∧ EfP P o tm h (fun v h' => (∀ j r, (j, r) ∈ reads → pr j i = false → r h') ∧ K v h' ((i, h) :: past) reads) KP)))
    have ef : ∀ {v : Value} {h' : Hp}, efK true pr i h past reads K v h' → (∀ j r, (j, r) ∈ reads → pr j i = false → r h') ∧ K v h' ((i, h) :: past) reads := fun hh => allR_all reads hh
    cases hc : cls P o <;> rw [hc] at hh <;> simp only at hh
    case a =>
      split at hh
      · rename_i v hv; exact pureCase v (fun hp => rd_of_pure hv) (by simp [isE, hc]) hh
      · exact hh.elim
    case n =>
      split at hh
      · rename_i x hx
        split at hh
        · rename_i p hp
          unfold drf at hh
          split at hh
          · rename_i a
            refine pureCase _ (fun _ => rd_of_pure ?_) (by simp [isE, hc]) hh
            simp only [execOp, hx, hp]
            rfl
          · exact hh.elim
        · split at hh
          · rename_i v hv; exact pureCase v (fun hp => rd_of_pure hv) (by simp [isE, hc]) hh
          · exact hh.elim
      · exact hh.elim
    case p =>
      obtain ⟨v, hv, hK⟩ := exT_ex _ hh
      exact pureCase v (fun hp => rd_of_HV (.inl hc) (fun w _ => hv w)) (by simp [isE, hc]) hK
    case b =>
      split at hh
      · rename_i op t x y yt hx
        split at hh
        · rename_i hg
          obtain ⟨v, hv, hK⟩ := exT_ex _ hh
          refine pureCase v (fun hp w _ => ?_) (by simp [isE, hc]) hK
          have h1 := guardB_run hg w
          have h2 := (show PV P _ v from hv) w
          simp only [opVal, hx] at h2
          simp [execOp, hx, h1, h2, Result.andThen]
        · exact hh.elim
      · exact hh.elim
    case l =>
      obtain ⟨v, hv, hK⟩ := exT_ex _ hh
      obtain ⟨hpast, hK⟩ := allHV_all past hK
      have hRH : ∀ h', RdS P o tm h' v → HV P (opVal (ev tm) o) h' v := by
        intro h' hr w hw
        have h1 := hr w hw
        rcases execOp_val P (ev tm) o (.inr (.inl hc)) with he | ⟨op, t, x, y, yt, he⟩
        · rw [he] at h1
          simp only [Sem.run_bind] at h1
          cases hq : (opVal (ev tm) o).run P w with
          | ok u w' =>
            rw [hq] at h1
            simp only [Result.andThen] at h1
            injection h1 with e1 e2
            injection e1 with e1
            rw [e1, e2]
          | halt x w' => rw [hq] at h1; simp [Result.andThen] at h1
        · rcases cls_binOp (P := P) he with h1 | h1 <;> rw [h1] at hc <;> cases hc
      refine .inl ⟨by simp [isE, hc], v, _, fun q hq => rd_of_HV (.inr hc) (hq.elim (fun e => by rw [e]; exact hv) (fun ⟨e, h3, h4⟩ => hpast e q h3 h4)), fun x hx => ?_, fun x hx => List.mem_cons_of_mem _ hx, .inr (.inr ⟨_, List.mem_cons_self .., fun h' a => rd_of_HV (.inr hc) a⟩), hK⟩
      rcases List.mem_cons.1 hx with rfl | hx
      · exact .inr ⟨rfl, fun h' => hRH h'⟩
      · exact .inl hx
    case u =>
      split at hh
      · rename_i t m k x hx
        refine .inr (.inl ⟨by simp [isE, hc], ?_⟩)
        unfold EfS
        simp only [execOp, hx]
        exact semWp_bind P _ _ h _ (semWp_mono P _ h (fun _ h' hk => ef hk) hh)
      · rename_i t x y hx
        refine .inr (.inl ⟨by simp [isE, hc], ?_⟩)
        unfold EfS
        simp only [execOp, hx]
        exact semWp_bind P _ _ h _ (semWp_mono P _ h (fun _ h' hk => ef hk) hh)
      · exact hh.elim
    case e => exact .inr (.inl ⟨by simp [isE, hc], ef_of_HW (.inl hc) (semWp_mono P _ h (fun v h' hk => ef hk) hh)⟩)
    case w => exact .inr (.inl ⟨by simp [isE, hc], ef_of_HW (.inr hc) (semWp_mono P _ h (fun v h' ha => ef (asT_v ha)) hh)⟩)
    case z =>
      split at hh
      · simp only [noDr] at hh
      · exact hh.elim
    case y =>
      split at hh
      · rename_i it s hx
        refine .inr (.inl ⟨by simp [isE, hc], ?_⟩)
        unfold EfS
        simp only [execOp, hx]
        exact semWp_bind P _ _ h _ (semWp_mono P _ h (fun v h' ha => ef (asNx_v ha)) hh)
      · exact hh.elim
    case k =>
      split at hh
      · rename_i f args hf
        cases kp with
        | none =>
          refine .inr (.inl ⟨by simp [isE, hc], ?_⟩)
          unfold EfS
          exact semWp_pure P _ _ h _ hf (CallsH.mono hh (fun v h' ha => ef (asT_v ha)))
        | some KP =>
          refine .inr (.inr ⟨by simp [isE, hc], KP, rfl, ?_⟩)
          unfold EfP
          exact semWp_pure P _ _ h _ hf (CallsP.mono hh (fun v h' ha => ef (asT_v ha)) (fun _ _ h => h))
      · rename_i v hf
        refine .inr (.inl ⟨by simp [isE, hc], ?_⟩)
        unfold EfS
        exact semWp_pure P _ _ h _ hf (ef hh)
      · exact hh.elim
    case v =>
      split at hh
      · rename_i f args at_ hx
        have e : (do let d ← resolve (ev tm) { callee := .value f, args := args, argTypes := at_ } o.type; invoke d.target d.args) = callS (ev tm f) (argsL (ev tm) args) := by
          simp only [resolve, callS, argsL_eq]
        cases kp with
        | none =>
          refine .inr (.inl ⟨by simp [isE, hc], ?_⟩)
          unfold EfS
          simp only [execOp, hx]
          rw [e]
          exact HN_mono (fun v h' ha => ef (asT_v ha)) hh
        | some KP =>
          refine .inr (.inr ⟨by simp [isE, hc], KP, rfl, ?_⟩)
          unfold EfP
          simp only [execOp, hx]
          rw [e]
          exact HNP_mono (fun v h' ha => ef (asT_v ha)) hh
      · rename_i r m args at_ hx
        cases kp with
        | none =>
          refine .inr (.inl ⟨by simp [isE, hc], ?_⟩)
          unfold EfS
          simp only [execOp, hx]
          rw [invoke_eq]
          exact HN_mono (fun v h' ha => ef (asT_v ha)) hh
        | some KP =>
          refine .inr (.inr ⟨by simp [isE, hc], KP, rfl, ?_⟩)
          unfold EfP
          simp only [execOp, hx]
          rw [invoke_eq]
          exact HNP_mono (fun v h' ha => ef (asT_v ha)) hh
      · exact hh.elim
theorem lastB_spec {ops : Array Oper} {i : Nat} (h : lastB ops i = true) : i + 1 = ops.size ∧ ∀ j, j < ops.size → j ≠ i → Pr ops j i = true := by
  simp only [lastB, Bool.and_eq_true] at h
  obtain ⟨h1, h2⟩ := h
  have h1 := Nat.eq_of_beq_eq_true h1
  exact ⟨h1, fun j hj hne => List.all_eq_true.1 h2 j (List.mem_range.2 (by omega))⟩
theorem opsW_dW {P : Program} {ops : Array Oper} {n : Nat} {Q : Tm → Hp → Prop} {kp : Option Kt} : ∀ (l : List Nat) (tm : Tm) (h : Hp) (past : Past) (reads readsA : Reads), (∃ s, l = List.range' s (ops.size - s)) →
    (∀ h' i, (∀ j r, (j, r) ∈ readsA → Pr ops j i = false → r h') ↔ (∀ j r, (j, r) ∈ reads → Pr ops j i = false → r h')) → opsW P ops n true Q kp l tm h past reads → dW P ops n Q (kpOf kp) l tm h past readsA
  | [], tm, h, past, reads, readsA, _, _, hh => hh
  | i :: rest, tm, h, past, reads, readsA, hrg, hiff, hh => by
    have hrg2 : (∃ s, rest = List.range' s (ops.size - s)) ∧ (i + 1 = ops.size → rest = []) := by
      obtain ⟨s, hs⟩ := hrg
      cases hk : ops.size - s with
      | zero => rw [hk] at hs; cases hs
      | succ k =>
        rw [hk, List.range'_succ] at hs
        injection hs with h1 h2
        refine ⟨⟨s + 1, by rw [h2]; congr 1; omega⟩, fun e => ?_⟩
        have : k = 0 := by omega
        rw [h2, this]
        rfl
    rw [opsW] at hh
    cases ho : ops[i]? with
    | none => rw [ho] at hh; exact hh.elim
    | some o =>
      rw [ho] at hh
      simp only at hh
      cases hk : okDst n o.dst with
      | false => rw [hk] at hh; exact hh.elim
      | true =>
        rw [hk] at hh
        simp only at hh
        have step : ∀ tm2, tm2 = tm → wantB ops tm o = some true → opD P true (hasPred ops ops.size) i o tm2 h past reads (kpAt ops true i kp tm2) (fun v h' p r => opsW P ops n true Q kp rest (tm2.putO o.dst v) h' p r) → dW P ops n Q (kpOf kp) (i :: rest) tm h past readsA := by
          intro tm2 e hw hop
          subst e
          obtain ⟨h1, h2, h3⟩ := opD_step_draw hop
          refine ⟨o, ho, hk, .inr ⟨hw, h1, h2, ?_⟩⟩
          rcases h3 with ⟨hE, v, reads', hr, hto, hfrom, hself, hK⟩ | ⟨hE, h3⟩ | ⟨hE, KP, hkp, h3⟩
          · refine .inl ⟨hE, v, hr, opsW_dW rest _ _ _ _ _ hrg2.1 (fun h' i' => ⟨fun a j r hjr hpr => ?_, fun a j r hjr hpr => ?_⟩) hK⟩
            · rcases hto (j, r) hjr with h4 | ⟨h4, h5⟩
              · exact (hiff h' i').1 (fun j r hjr => a j r (List.mem_cons_of_mem _ hjr)) j r h4 hpr
              · simp only at h4 h5
                subst h4
                exact h5 h' (a _ _ (List.mem_cons_self ..) hpr)
            · rcases List.mem_cons.1 hjr with e | hjr
              · injection e with e1 e2
                subst e1 e2
                rcases hself with h4 | h4 | ⟨r', h4, h5⟩
                · exact a _ _ h4 hpr
                · exact h4 h'
                · exact h5 h' (a _ _ h4 hpr)
              · exact (hiff h' i').2 (fun j r hjr => a j r (hfrom _ hjr)) j r hjr hpr
          · exact .inr (.inl ⟨hE, h3.mono fun v h' ⟨hall, hK⟩ => ⟨(hiff h' i).2 hall, opsW_dW rest _ _ _ _ _ hrg2.1 hiff hK⟩⟩)
          · simp only [kpAt] at hkp
            cases hlb : lastB ops i with
            | false => rw [hlb] at hkp; cases hkp
            | true =>
              rw [hlb] at hkp
              simp only at hkp
              obtain ⟨l1, l2⟩ := lastB_spec hlb
              have hnil := hrg2.2 l1
              refine .inr (.inr ⟨hE, hnil, l2, ?_⟩)
              have e : kpOf kp tm2 = KP := by rw [← kpO_T, hkp]; rfl
              rw [e]
              refine h3.mono fun v h' ⟨_, hK⟩ => ?_
              rw [hnil] at hK
              exact hK
        have skip : ∀ tm2, tm2 = tm → wantB ops tm o = some false → opsW P ops n true Q kp rest (tm2.putO o.dst undef) h past reads → dW P ops n Q (kpOf kp) (i :: rest) tm h past readsA := by
          intro tm2 e hw hop
          subst e
          exact ⟨o, ho, hk, .inl ⟨hw, opsW_dW rest _ _ _ _ _ hrg2.1 hiff hop⟩⟩
        cases hg : o.guard with
        | none =>
          rw [hg] at hh
          exact step tm rfl (by simp [wantB, hg]) hh
        | some jw =>
          obtain ⟨j, want⟩ := jw
          rw [hg] at hh
          simp only at hh
          cases hj : (ops[j]?).bind (·.dst) with
          | none => rw [hj] at hh; exact hh.elim
          | some d =>
            rw [hj] at hh
            simp only at hh
            cases ht : tm d with
            | none => rw [ht] at hh; exact hh.elim
            | some v =>
              rw [ht] at hh
              have hput : tm.put d v = tm := Tm.put_same ht
              have hwb : ∀ b, v = .bool b → wantB ops tm o = some (b == want) := fun b e => by simp [wantB, hg, hj, ht, e]
              cases v <;> first
                | (exact skip tm rfl (by simp [wantB, hg, hj, ht]) hh)
                | skip
              rename_i b
              cases b <;> cases want <;> simp only [br] at hh
              · exact step _ hput (hwb _ rfl) hh
              · exact skip _ hput (hwb _ rfl) hh
              · exact skip _ hput (hwb _ rfl) hh
              · exact step _ hput (hwb _ rfl) hh
theorem opsW_sound_draw {ds : List Deferred} {P : Program} {ops : Array Oper} {n m : Nat} {ρ : Option Nat} {id : Nat} {Q : Tm → Hp → Prop} {kp : Option Kt} {Q' : Exit → Act → World → Prop} {w0 : World} (hQ : ∀ a w, LQ ds w0 n Q a w → Q' .normal a w) (hOK : drawOK P ops = true) (hP : ∀ ch a w, LQ ds w0 n (fun tm h => kpOf kp tm ch h) a w → Q' (.panic ch) a w)
    {tm : Tm} {a : Act} {w : World} (h : opsW P ops n true Q kp (List.range ops.size) tm w.heap [] []) (hl : Le ds tm a) (hz : a.tmps.size = n) (hs : Same w0 w) : (Code.region id ops true).wpIn (FW ρ) m P Q' a w := by
  have hm : P.follows .mixedOrders = true := by
    simp only [drawOK, Bool.and_eq_true] at hOK
    exact hOK.1.1
  refine wpIn_region_any hm ?_
  have h1 := opsW_dW _ tm w.heap [] [] [] ⟨0, by rw [List.range_eq_range']; rfl⟩ (fun _ _ => Iff.rfl) h
  refine dW_sound hOK hQ hP ops.size (Array.replicate ops.size false) (List.range ops.size) tm a _ ⟨by simp, fun k o ho hl => ?_⟩ ⟨List.pairwise_lt_range, fun i => ?_⟩ (by simp) h1 hl hz ⟨hs.os, hs.tape, hs.output, trivial⟩
  · exfalso
    rcases Nat.lt_or_ge k ops.size with h | h <;> simp [h] at hl
  · rw [List.mem_range]
    constructor
    · intro h; exact ⟨h, by simp [h]⟩
    · exact fun h => h.1
end Go.Proofs.YtfdpccbajaiepaaGreatDoor.Sxp

/- Whole functions, with a way out for panics; scopes of many labels. -/
namespace Go.Proofs.YtfdpccbajaiepaaGreatDoor.Sxp
open Go Go.Proofs.YtfdpccbajaiepaaGreatDoor.Sx
set_option linter.unusedVariables false
set_option linter.unusedSimpArgs false
/-- What a panic comes to. -/
def kpQ (pn : Bool) (Q : Qx) : Option Kt := match pn with
  | true => some (fun tm ch h => Q (.panic ch) tm h)
  | false => none
theorem kpQ_out {ds : List Deferred} {w0 : World} {n : Nat} {pn : Bool} {Q : Qx} : ∀ ch a w, LQ ds w0 n (fun tm h => kpOf (kpQ pn Q) tm ch h) a w → LE ds w0 n Q (.panic ch) a w := fun ch a w ⟨tm, h1, h2, h3, h4⟩ => by
  cases pn with
  | false => exact h4.elim
  | true => exact ⟨tm, h1, h2, h3, h4⟩
def codeWp (P : Program) (n : Nat) (pn : Bool) (lp : Nat → Qx → Tm → Hp → Prop) (cut : Nat → Option (List Nat)) : Code → Nat → Qx → Tm → Hp → Prop
  | .skip, _, Q, tm, h => Q .normal tm h
  | .region _ ops dr, _, Q, tm, h => match dr with
    | false => opsW P ops n false (fun tm h => Q .normal tm h) (kpQ pn Q) (List.range ops.size) tm h [] []
    | true => match drawOK P ops with
      | true => opsW P ops n true (fun tm h => Q .normal tm h) (kpQ pn Q) (List.range ops.size) tm h [] []
      | false => False
  | .seq a b, i, Q, tm, h => codeWp P n pn lp cut a (2 * i) (thenQ (fun tm' h' => match cut i with
      | none => codeWp P n pn lp cut b (2 * i + 1) Q tm' h'
      | some live => lp i Q (mask live tm') h') Q) tm h
  | .cond c a b, i, Q, tm, h => match ev? tm c with
    | some (.bool x) => br x (codeWp P n pn lp cut a (2 * i) Q (litO c true tm) h) (codeWp P n pn lp cut b (2 * i + 1) Q (litO c false tm) h)
    | _ => False
  | .block id c, i, Q, tm, h => codeWp P n pn lp cut c (2 * i) (blkQ id Q) tm h
  | .loop _, i, Q, tm, h => lp i Q tm h
  | .rangeFunc .., i, Q, tm, h => lp i Q tm h
  | .exit id, _, Q, tm, h => Q (.exit id) tm h
  | .scope c, i, Q, tm, h => match cut i with
    | none => codeWp P n pn lp cut c (2 * i) (noGotoQ Q) tm h
    | some _ => lp i Q tm h
  | .label _, _, Q, tm, h => Q .normal tm h
  | .goto l, _, Q, tm, h => Q (.goto l) tm h
  | .ret, _, Q, tm, h => Q .ret tm h
  | .refuse _, _, _, _, _ => False
def Good (P : Program) (n : Nat) (ρ : Option Nat) (pn : Bool) (lp : Nat → Qx → Tm → Hp → Prop) (cut : Nat → Option (List Nat)) : Code → Nat → Prop
  | .seq a b, i => Good P n ρ pn lp cut a (2 * i) ∧ (match cut i with
    | none => Good P n ρ pn lp cut b (2 * i + 1)
    | some _ => SndAt P n ρ b (lp i))
  | .cond _ a b, i => Good P n ρ pn lp cut a (2 * i) ∧ Good P n ρ pn lp cut b (2 * i + 1)
  | .block _ c, i => Good P n ρ pn lp cut c (2 * i)
  | .scope c, i => match cut i with
    | none => Good P n ρ pn lp cut c (2 * i)
    | some _ => SndAt P n ρ (.scope c) (lp i)
  | .loop c, i => SndAt P n ρ (.loop c) (lp i)
  | .rangeFunc f ps as9 c, i => SndAt P n ρ (.rangeFunc f ps as9 c) (lp i)
  | _, _ => True
theorem codeWp_sound {P : Program} {n : Nat} {pn : Bool} {ρ : Option Nat} {lp : Nat → Qx → Tm → Hp → Prop} {cut : Nat → Option (List Nat)} : ∀ (c : Code) (i : Nat), Good P n ρ pn lp cut c i → SndAt P n ρ c (codeWp P n pn lp cut c i)
  | .skip, i, hg => fun ds Q tm a w w0 h hl hz hs m => wpIn_skip ⟨tm, hl, hz, hs, h⟩
  | .region id ops dr, i, hg => fun ds Q tm a w w0 h hl hz hs m => by
    cases dr with
    | false => exact opsW_sound (Q := fun tm h => Q .normal tm h) (fun a w h => h) kpQ_out h hl hz hs
    | true =>
      rw [codeWp] at h
      cases hd : drawOK P ops with
      | false => rw [hd] at h; exact h.elim
      | true => rw [hd] at h; exact opsW_sound_draw (Q := fun tm h => Q .normal tm h) (fun a w h => h) hd kpQ_out h hl hz hs
  | .seq x y, i, hg => fun ds Q tm a w w0 h hl hz hs m => by
    refine wpIn_seq (wpIn_mono (codeWp_sound x (2 * i) hg.1 ds _ tm a w w0 h hl hz hs m) (fun e a' w' ⟨tm', h1, h2, h3, h4⟩ => ?_))
    have hy : SndAt P n ρ y (fun Q tm' h' => match cut i with
      | none => codeWp P n pn lp cut y (2 * i + 1) Q tm' h'
      | some live => lp i Q (mask live tm') h') := by
      have hg2 := hg.2
      cases hc : cut i with
      | none => rw [hc] at hg2; exact codeWp_sound y (2 * i + 1) hg2
      | some live => rw [hc] at hg2; exact fun ds Q tm a w w0 h hl hz hs m => hg2 ds Q (mask live tm) a w w0 h (hl.mask live) hz hs m
    cases e with
    | normal => exact hy ds Q tm' a' w' w0 h4 h1 h2 h3 m
    | _ => exact ⟨tm', h1, h2, h3, h4⟩
  | .cond c x y, i, hg => fun ds Q tm a w w0 h hl hz hs m => by
    rw [codeWp] at h
    split at h
    · rename_i b hb
      have hlit : litO c b tm = tm := by
        cases c with
        | tmp t => exact Tm.put_same hb
        | _ => rfl
      refine wpIn_cond (t := b) (hl.ev hb) ?_
      cases b with
      | true =>
        simp only [br] at h
        rw [hlit] at h
        exact codeWp_sound x (2 * i) hg.1 ds _ _ _ _ _ h hl hz hs m
      | false =>
        simp only [br] at h
        rw [hlit] at h
        exact codeWp_sound y (2 * i + 1) hg.2 ds _ _ _ _ _ h hl hz hs m
    · exact h.elim
  | .block id c, i, hg => fun ds Q tm a w w0 h hl hz hs m => by
    refine wpIn_block (wpIn_mono (codeWp_sound c (2 * i) hg ds _ tm a w w0 h hl hz hs m) (fun e a' w' ⟨tm', h1, h2, h3, h4⟩ => ?_))
    cases e with
    | exit j =>
      simp only [blkQ] at h4
      simp only [Exit.inBlock]
      cases hb : Nat.beq j id with
      | true =>
        rw [hb] at h4
        rw [if_pos (Nat.eq_of_beq_eq_true hb)]
        exact ⟨tm', h1, h2, h3, h4⟩
      | false =>
        rw [hb] at h4
        rw [if_neg (fun e => by subst e; simp at hb)]
        exact ⟨tm', h1, h2, h3, h4⟩
    | _ => exact ⟨tm', h1, h2, h3, h4⟩
  | .loop c, i, hg => hg
  | .rangeFunc f ps as9 c, i, hg => hg
  | .exit id, i, hg => fun ds Q tm a w w0 h hl hz hs m => wpIn_exit ⟨tm, hl, hz, hs, h⟩
  | .scope c, i, hg => by
    cases hcut : cut i with
    | none =>
      simp only [Good, hcut] at hg
      intro ds Q tm a w w0 h hl hz hs m
      simp only [codeWp, hcut] at h
      refine wpIn_scope_straight (wpIn_mono (codeWp_sound c (2 * i) hg ds _ tm a w w0 h hl hz hs m) (fun e a' w' ⟨tm', h1, h2, h3, h4⟩ => ?_))
      cases e with
      | goto l => exact h4.elim
      | _ => exact ⟨tm', h1, h2, h3, h4⟩
    | some l =>
      simp only [Good, hcut] at hg
      intro ds Q tm a w w0 h hl hz hs m
      simp only [codeWp, hcut] at h
      exact hg ds Q tm a w w0 h hl hz hs m
  | .label l, i, hg => fun ds Q tm a w w0 h hl hz hs m => wpIn_label ⟨tm, hl, hz, hs, h⟩
  | .goto l, i, hg => fun ds Q tm a w w0 h hl hz hs m => wpIn_goto ⟨tm, hl, hz, hs, h⟩
  | .ret, i, hg => fun ds Q tm a w w0 h hl hz hs m => wpIn_ret ⟨tm, hl, hz, hs, h⟩
  | .refuse y, i, hg => fun ds Q tm a w w0 h hl hz hs m => h.elim

theorem good_of_leaves {P : Program} {n : Nat} {pn : Bool} {ρ : Option Nat} {lp : Nat → Qx → Tm → Hp → Prop} {cut : Nat → Option (List Nat)} : ∀ (c : Code) (i : Nat), (∀ p ∈ leaves cut c i, SndAt P n ρ p.2 (lp p.1)) → Good P n ρ pn lp cut c i
  | .seq a b, i, h => by
    simp only [leaves] at h
    refine ⟨good_of_leaves a (2 * i) (fun p hp => h p (List.mem_append_left _ hp)), ?_⟩
    cases hc : cut i with
    | none => rw [hc] at h; exact good_of_leaves b (2 * i + 1) (fun p hp => h p (List.mem_append_right _ hp))
    | some l => rw [hc] at h; exact h (i, b) (List.mem_append_right _ (List.mem_cons_self ..))
  | .cond c a b, i, h => by
    simp only [leaves] at h
    exact ⟨good_of_leaves a (2 * i) (fun p hp => h p (List.mem_append_left _ hp)), good_of_leaves b (2 * i + 1) (fun p hp => h p (List.mem_append_right _ hp))⟩
  | .block id c, i, h => good_of_leaves c (2 * i) h
  | .scope c, i, h => by
    cases hcut : cut i with
    | none =>
      simp only [leaves, hcut] at h
      simp only [Good, hcut]
      exact good_of_leaves c (2 * i) h
    | some l =>
      simp only [leaves, hcut] at h
      simp only [Good, hcut]
      exact h (i, .scope c) (List.mem_cons_self ..)
  | .loop c, i, h => h (i, .loop c) (List.mem_cons_self ..)
  | .rangeFunc f ps as9 c, i, h => h (i, .rangeFunc f ps as9 c) (List.mem_cons_self ..)
  | .skip, i, h => trivial
  | .region .., i, h => trivial
  | .exit _, i, h => trivial
  | .label _, i, h => trivial
  | .goto _, i, h => trivial
  | .ret, i, h => trivial
  | .refuse _, i, h => trivial
theorem good_by {P : Program} {n : Nat} {pn : Bool} {ρ : Option Nat} {lp : Nat → Qx → Tm → Hp → Prop} {cut : Nat → Option (List Nat)} {c : Code} {i : Nat} {l : List (Nat × Code)} (he : leaves cut c i = l) (h : ∀ p ∈ l, SndAt P n ρ p.2 (lp p.1)) : Good P n ρ pn lp cut c i :=
  good_of_leaves c i (by rw [he]; exact h)
theorem loop_sound {P : Program} {n : Nat} {pn : Bool} {ρ : Option Nat} {lp : Nat → Qx → Tm → Hp → Prop} {cut : Nat → Option (List Nat)} {c : Code} {i : Nat} (live : List Nat) (lx : Exit → List Nat)
    (Lp : Qx → Nat → Tm → Hp → Prop) (hg : Good P n ρ pn lp cut c (2 * i)) (h0 : ∀ Q tm h, ¬ Lp Q 0 tm h)
    (hs : ∀ Q k tm h, Lp Q (k + 1) tm h → codeWp P n pn lp cut c (2 * i) (thenQ (fun tm h => Lp Q k (mask live tm) h) (maskQ lx Q)) (mask live tm) h) :
    SndAt P n ρ (.loop c) (fun Q tm h => ∃ k, Lp Q k tm h) := by
  intro ds Q tm a w w0 ⟨k, hk⟩ hl hz hsm m
  refine wpIn_loop_rounds k ?_
  induction k generalizing tm a w with
  | zero => exact (h0 _ _ _ hk).elim
  | succ k ih =>
    refine wpIn_mono (codeWp_sound c (2 * i) hg ds _ _ a w w0 (hs Q k tm w.heap hk) (hl.mask live) hz hsm m) (fun e a' w' ⟨tm', h1, h2, h3, h4⟩ => ?_)
    cases e with
    | normal => exact ih (mask live tm') a' w' h4 (h1.mask live) h2 h3
    | _ => exact ⟨_, h1.mask _, h2, h3, h4⟩
theorem join_sound {P : Program} {n : Nat} {pn : Bool} {ρ : Option Nat} {lp : Nat → Qx → Tm → Hp → Prop} {cut : Nat → Option (List Nat)} {c : Code} {i : Nat} (live : List Nat) (lx : Exit → List Nat)
    (J : Qx → Tm → Hp → Prop) (hg : Good P n ρ pn lp cut c (2 * i + 1)) (hs : ∀ Q tm h, J Q tm h → codeWp P n pn lp cut c (2 * i + 1) (maskQ lx Q) (mask live tm) h) : SndAt P n ρ c J := by
  intro ds Q tm a w w0 hJ hl hz hsm m
  refine wpIn_mono (codeWp_sound c (2 * i + 1) hg ds _ _ a w w0 (hs Q tm w.heap hJ) (hl.mask live) hz hsm m) (fun e a' w' ⟨tm', h1, h2, h3, h4⟩ => ?_)
  exact ⟨_, h1.mask _, h2, h3, h4⟩

theorem scope_sound {P : Program} {n : Nat} {pn : Bool} {ρ : Option Nat} {lp : Nat → Qx → Tm → Hp → Prop} {cut : Nat → Option (List Nat)} {c rest : Code} {i j l : Nat} (live : List Nat) (lx : Exit → List Nat)
    (G : Qx → Nat → Tm → Hp → Prop) (hf : findLabel c l = some rest) (hgc : Good P n ρ pn lp cut c i) (hgr : Good P n ρ pn lp cut rest j) (h0 : ∀ Q tm h, ¬ G Q 0 tm h)
    (hs : ∀ Q k tm h, G Q (k + 1) tm h → codeWp P n pn lp cut rest j (gotoQ l (fun tm h => G Q k (mask live tm) h) (maskQ lx Q)) (mask live tm) h) :
    SndAt P n ρ (.scope c) (fun Q tm h => ∃ k, codeWp P n pn lp cut c i (gotoQ l (fun tm h => G Q k (mask live tm) h) Q) tm h) := by
  intro ds Q tm a w w0 ⟨k, hk⟩ hl hz hsm m b k0 cs hro hb hr
  have calm : ∀ a k w, Machine.fenced P (FW ρ) (lone (b.atR a (.inScope c :: k)) cs w) := fun a k w => fenced_calm hb hr rfl
  have key : ∀ k tm a w, G Q k tm w.heap → Le ds tm a → a.tmps.size = n → Same w0 w →
      ∃ e a' w', LE ds w0 n Q e a' w' ∧ ArrivesIn (Machine.fenced P (FW ρ)) P (lone (b.atR a (.code rest :: .inScope c :: k0)) cs w) b k0 cs e a' w' := by
    intro k
    induction k with
    | zero => intro tm a w h; exact (h0 _ _ _ h).elim
    | succ k ih =>
      intro tm a w h hl hz hsm
      obtain ⟨e, a₁, w₁, hq, harr⟩ := codeWp_sound rest j hgr ds _ _ a w w0 (hs Q k tm w.heap h) (hl.mask live) hz hsm m b (.inScope c :: k0) cs hro hb hr
      have hq' : LE ds w0 n (gotoQ l (fun tm h => G Q k (mask live tm) h) Q) e a₁ w₁ := by
        obtain ⟨tm', h1, h2, h3, h4⟩ := hq
        cases e with
        | goto g => exact ⟨tm', h1, h2, h3, h4⟩
        | _ => exact ⟨_, h1.mask _, h2, h3, h4⟩
      exact scope_pass hf calm (fun tm a w h hl hz hsm => ih (mask live tm) a w h (hl.mask live) hz hsm) hq' harr
  obtain ⟨e, a₁, w₁, hq, harr⟩ := codeWp_sound c i hgc ds _ tm a w w0 hk hl hz hsm m b (.inScope c :: k0) cs hro hb hr
  obtain ⟨e, a', w', hq2, harr2⟩ := scope_pass hf calm (fun tm a w h hl hz hsm => key k (mask live tm) a w h (hl.mask live) hz hsm) hq harr
  exact ⟨e, a', w', hq2, .of_steps (.one (fenced_calm hb hr rfl) stepR_scope') harr2⟩

/-! ### A scope with many labels -/
structure Lab where
  l : Nat
  rest : Code
  j : Nat
  live : List Nat
  lx : Exit → List Nat
def labAt : List Lab → Nat → Option Lab
  | [], _ => none
  | r :: rs, l => match Nat.beq l r.l with
    | true => some r
    | false => labAt rs l
theorem labAt_mem : ∀ {ls : List Lab} {l : Nat} {r : Lab}, labAt ls l = some r → r ∈ ls ∧ r.l = l
  | [], _, _, h => by cases h
  | x :: xs, l, r, h => by
    rw [labAt] at h
    cases hb : Nat.beq l x.l with
    | true =>
      rw [hb] at h
      injection h with h
      subst h
      exact ⟨List.mem_cons_self .., (Nat.eq_of_beq_eq_true hb).symm⟩
    | false =>
      rw [hb] at h
      obtain ⟨h1, h2⟩ := labAt_mem h
      exact ⟨List.mem_cons_of_mem _ h1, h2⟩
def gotoM (ls : List Lab) (G : Nat → Tm → Hp → Prop) (Q : Qx) : Qx
  | .goto j, tm, h => match labAt ls j with
    | some r => G j (mask r.live tm) h
    | none => False
  | e, tm, h => Q e tm h
theorem scope_passM {ds : List Deferred} {P : Program} {F : Fence} {n : Nat} {ls : List Lab} {w0 : World} {c : Code} {Gk : Nat → Tm → Hp → Prop} {Q : Qx} {b : Frame} {k0 : List Item} {cs : List Frame} (hf : ∀ r ∈ ls, findLabel c r.l = some r.rest)
    (calm : ∀ a k w, Machine.fenced P F (lone (b.atR a (.inScope c :: k)) cs w))
    (next : ∀ r ∈ ls, ∀ tm a w, Gk r.l tm w.heap → Le ds tm a → a.tmps.size = n → Same w0 w → ∃ e a' w', LE ds w0 n Q e a' w' ∧ ArrivesIn (Machine.fenced P F) P (lone (b.atR a (.code r.rest :: .inScope c :: k0)) cs w) b k0 cs e a' w')
    {m0 : Machine} {e : Exit} {a₁ : Act} {w₁ : World} (hq : LE ds w0 n (gotoM ls Gk Q) e a₁ w₁) (harr : ArrivesIn (Machine.fenced P F) P m0 b (.inScope c :: k0) cs e a₁ w₁) :
    ∃ e a' w', LE ds w0 n Q e a' w' ∧ ArrivesIn (Machine.fenced P F) P m0 b k0 cs e a' w' := by
  obtain ⟨tm', h1, h2, h3, h4⟩ := hq
  cases e with
  | normal => exact ⟨.normal, a₁, w₁, ⟨tm', h1, h2, h3, h4⟩, StepsIn.trans harr (.one (calm _ _ _) stepR_inScope')⟩
  | exit id =>
    have hx : exitTo id (.inScope c :: k0) = exitTo id k0 := by simp [exitTo]
    exact ⟨.exit id, a₁, w₁, ⟨tm', h1, h2, h3, h4⟩, fun k' hk => harr.1 k' (by rw [hx]; exact hk), fun hr' hk => harr.2 hr' (by rw [hx]; exact hk)⟩
  | goto j =>
    simp only [gotoM] at h4
    cases hb : labAt ls j with
    | none => rw [hb] at h4; exact h4.elim
    | some r =>
      rw [hb] at h4
      obtain ⟨hm, hj⟩ := labAt_mem hb
      subst hj
      obtain ⟨e₂, a₂, w₂, hq₂, harr₂⟩ := next r hm (mask r.live tm') a₁ w₁ h4 (h1.mask _) h2 h3
      exact ⟨e₂, a₂, w₂, hq₂, .of_steps (harr.1 _ (by simp only [gotoIn, hf r hm])) harr₂⟩
  | ret => exact ⟨_, a₁, w₁, ⟨tm', h1, h2, h3, h4⟩, harr⟩
  | panic ch => exact ⟨_, a₁, w₁, ⟨tm', h1, h2, h3, h4⟩, harr⟩
  | outgrown => exact ⟨_, a₁, w₁, ⟨tm', h1, h2, h3, h4⟩, harr⟩
theorem scopes_sound {P : Program} {n : Nat} {pn : Bool} {ρ : Option Nat} {lp : Nat → Qx → Tm → Hp → Prop} {cut : Nat → Option (List Nat)} {c : Code} {i : Nat} (ls : List Lab)
    (G : Nat → Qx → Nat → Tm → Hp → Prop) (hgc : Good P n ρ pn lp cut c i)
    (hl : ∀ r ∈ ls, findLabel c r.l = some r.rest ∧ Good P n ρ pn lp cut r.rest r.j ∧ (∀ Q tm h, ¬ G r.l Q 0 tm h) ∧
      ∀ Q k tm h, G r.l Q (k + 1) tm h → codeWp P n pn lp cut r.rest r.j (gotoM ls (fun l tm h => G l Q k tm h) (maskQ r.lx Q)) (mask r.live tm) h) :
    SndAt P n ρ (.scope c) (fun Q tm h => ∃ k, codeWp P n pn lp cut c i (gotoM ls (fun l tm h => G l Q k tm h) Q) tm h) := by
  intro ds Q tm a w w0 ⟨k, hk⟩ hl0 hz hsm m b k0 cs hro hb hr
  have calm : ∀ a k w, Machine.fenced P (FW ρ) (lone (b.atR a (.inScope c :: k)) cs w) := fun a k w => fenced_calm hb hr rfl
  have key : ∀ k, ∀ r ∈ ls, ∀ tm a w, G r.l Q k tm w.heap → Le ds tm a → a.tmps.size = n → Same w0 w →
      ∃ e a' w', LE ds w0 n Q e a' w' ∧ ArrivesIn (Machine.fenced P (FW ρ)) P (lone (b.atR a (.code r.rest :: .inScope c :: k0)) cs w) b k0 cs e a' w' := by
    intro k
    induction k with
    | zero => intro r hr tm a w h; exact ((hl r hr).2.2.1 _ _ _ h).elim
    | succ k ih =>
      intro r hr2 tm a w h hl1 hz hsm
      obtain ⟨_, hg, _, hs⟩ := hl r hr2
      obtain ⟨e, a₁, w₁, hq, harr⟩ := codeWp_sound r.rest r.j hg ds _ _ a w w0 (hs Q k tm w.heap h) (hl1.mask r.live) hz hsm m b (.inScope c :: k0) cs hro hb hr
      have hq' : LE ds w0 n (gotoM ls (fun l tm h => G l Q k tm h) Q) e a₁ w₁ := by
        obtain ⟨tm', h1, h2, h3, h4⟩ := hq
        cases e with
        | goto g => exact ⟨tm', h1, h2, h3, h4⟩
        | _ => exact ⟨_, h1.mask _, h2, h3, h4⟩
      exact scope_passM (fun r hr => (hl r hr).1) calm ih hq' harr
  obtain ⟨e, a₁, w₁, hq, harr⟩ := codeWp_sound c i hgc ds _ tm a w w0 hk hl0 hz hsm m b (.inScope c :: k0) cs hro hb hr
  obtain ⟨e, a', w', hq2, harr2⟩ := scope_passM (fun r hr => (hl r hr).1) calm (key k) hq harr
  exact ⟨e, a', w', hq2, .of_steps (.one (fenced_calm hb hr rfl) stepR_scope') harr2⟩
/-! ### A function -/
def endP (P : Program) (rs : List ResultVar) (K : Value → Hp → Prop) (KP : Kp) : Qx
  | .normal, tm, h => resQ P tm h rs fun l => K (oneV l) h
  | .ret, tm, h => resQ P tm h rs fun l => K (oneV l) h
  | .panic ch, _, h => KP ch h
  | _, _, _ => False
theorem calls_of {P : Program} {f : FuncId} {fn : Func} {c : Code} {n : Nat} {pn : Bool} {args : List Value} {h : Hp} {K : Value → Hp → Prop} {lp : Nat → Qx → Tm → Hp → Prop} {cut : Nat → Option (List Nat)}
    (hf : P.funcs[f]? = some fn) (hb : fn.body = some c) (hn : fn.ntmps = n) (ha : Nat.ble args.length n = true) (hg : Good P n none pn lp cut c 1)
    (hc : codeWp P n pn lp cut c 1 (endQ P fn.results.toList K) (argTm args) h) : CallsH P f args.toArray h K := by
  intro w hw
  subst hw
  refine (callsIn_wide (n := 0)).1 (callsIn_of_wp hf hb trivial ?_)
  have hle : args.length ≤ n := Nat.le_of_ble_eq_true ha
  have h1 : Le [] (argTm args) { tmps := args.toArray ++ Array.replicate (fn.ntmps - args.toArray.size) undef, defers := [] } := by
    refine ⟨fun i v hi => ?_, rfl⟩
    simp only [argTm] at hi
    have hlt := (List.getElem?_eq_some_iff.1 hi).1
    rw [Array.getElem?_append_left (by simpa using hlt)]
    simpa using hi
  have h2 : (args.toArray ++ Array.replicate (fn.ntmps - args.toArray.size) undef).size = n := by simp [hn]; omega
  refine wpIn_mono (codeWp_sound c 1 hg [] _ _ _ w w hc h1 h2 (.refl w) 0) (fun e a' w' ⟨tm', l1, l2, l3, l4⟩ => ?_)
  have fin : resQ P tm' w'.heap fn.results.toList (fun l => K (oneV l) w'.heap) → ∃ v, (results fn a'.tmps).run P w' = .ok v w' ∧ ∃ u, Ending.returned v = .returned u ∧ Same w w' ∧ K u w'.heap := by
    intro hr
    obtain ⟨l, hrun, hK⟩ := resQ_run l1 _ _ hr
    refine ⟨oneV l, ?_, _, rfl, l3, hK⟩
    rw [results_eq, ← Array.toArray_toList (xs := fn.results), List.mapM_toArray]
    simp only [Sem.run_bind]
    simp [hrun, Result.andThen]
    match l with
    | [] => simp [oneV]
    | [v] => simp [oneV]
    | v :: u :: r => simp [oneV]
  cases e with
  | normal => exact ⟨l1.defers, fin l4⟩
  | ret => exact ⟨l1.defers, fin l4⟩
  | _ => exact l4.elim
theorem callsP_of {P : Program} {f : FuncId} {fn : Func} {c : Code} {n : Nat} {pn : Bool} {args : List Value} {h : Hp} {K : Value → Hp → Prop} {KP : Kp} {lp : Nat → Qx → Tm → Hp → Prop} {cut : Nat → Option (List Nat)}
    (hf : P.funcs[f]? = some fn) (hb : fn.body = some c) (hn : fn.ntmps = n) (ha : Nat.ble args.length n = true) (hg : Good P n none pn lp cut c 1)
    (hc : codeWp P n pn lp cut c 1 (endP P fn.results.toList K KP) (argTm args) h) : CallsP P f args.toArray h K KP := by
  intro w hw
  subst hw
  refine (callsIn_wide (n := 0)).1 (callsIn_of_wp hf hb trivial ?_)
  have hle : args.length ≤ n := Nat.le_of_ble_eq_true ha
  have h1 : Le [] (argTm args) { tmps := args.toArray ++ Array.replicate (fn.ntmps - args.toArray.size) undef, defers := [] } := by
    refine ⟨fun i v hi => ?_, rfl⟩
    simp only [argTm] at hi
    have hlt := (List.getElem?_eq_some_iff.1 hi).1
    rw [Array.getElem?_append_left (by simpa using hlt)]
    simpa using hi
  have h2 : (args.toArray ++ Array.replicate (fn.ntmps - args.toArray.size) undef).size = n := by simp [hn]; omega
  refine wpIn_mono (codeWp_sound c 1 hg [] _ _ _ w w hc h1 h2 (.refl w) 0) (fun e a' w' ⟨tm', l1, l2, l3, l4⟩ => ?_)
  have fin : resQ P tm' w'.heap fn.results.toList (fun l => K (oneV l) w'.heap) → ∃ v, (results fn a'.tmps).run P w' = .ok v w' ∧ ((∃ u, Ending.returned v = .returned u ∧ Same w w' ∧ K u w'.heap) ∨ ∃ ch, Ending.returned v = .panicked ch ∧ Same w w' ∧ KP ch w'.heap) := by
    intro hr
    obtain ⟨l, hrun, hK⟩ := resQ_run l1 _ _ hr
    refine ⟨oneV l, ?_, .inl ⟨_, rfl, l3, hK⟩⟩
    rw [results_eq, ← Array.toArray_toList (xs := fn.results), List.mapM_toArray]
    simp only [Sem.run_bind]
    simp [hrun, Result.andThen]
    match l with
    | [] => simp [oneV]
    | [v] => simp [oneV]
    | v :: u :: r => simp [oneV]
  cases e with
  | normal => exact ⟨l1.defers, fin l4⟩
  | ret => exact ⟨l1.defers, fin l4⟩
  | panic ch => exact ⟨l1.defers, .inr ⟨ch, rfl, l3, l4⟩⟩
  | _ => exact l4.elim
end Go.Proofs.YtfdpccbajaiepaaGreatDoor.Sxp

/- Printed by sx.py: words over the heap alone for Go functions, and that each call does what its word says. -/
namespace Go.Proofs.YtfdpccbajaiepaaGreatDoor.Sxp.Fx
open Go Go.RowKit Go.Proofs.YtfdpccbajaiepaaGreatDoor.Sx
set_option linter.unusedVariables false
set_option maxRecDepth 100000
set_option maxHeartbeats 4000000

/-! ### quintet/lex.kind: function 86 -/
set_option maxRecDepth 100000 in
def lex_kind (x1 : Int) (h : Hp) (K : Value → Hp → Prop) : Prop :=
  br (decide (x1 ≥ 97))
  (br (decide (x1 ≤ 122))
  (K (.int .i64 1) h)
  (br (decide (x1 ≥ 48))
  (br (decide (x1 ≤ 57))
  (K (.int .i64 2) h)
  (br (x1 == 46)
  (K (.int .i64 3) h)
  (br (x1 == 47)
  (K (.int .i64 3) h)
  (br (x1 == 58)
  (K (.int .i64 3) h)
  (br (x1 == 42)
  (K (.int .i64 3) h)
  (K (.int .i64 0) h))))))
  (br (x1 == 46)
  (K (.int .i64 3) h)
  (br (x1 == 47)
  (K (.int .i64 3) h)
  (br (x1 == 58)
  (K (.int .i64 3) h)
  (br (x1 == 42)
  (K (.int .i64 3) h)
  (K (.int .i64 0) h)))))))
  (br (decide (x1 ≥ 48))
  (br (decide (x1 ≤ 57))
  (K (.int .i64 2) h)
  (br (x1 == 46)
  (K (.int .i64 3) h)
  (br (x1 == 47)
  (K (.int .i64 3) h)
  (br (x1 == 58)
  (K (.int .i64 3) h)
  (br (x1 == 42)
  (K (.int .i64 3) h)
  (K (.int .i64 0) h))))))
  (br (x1 == 46)
  (K (.int .i64 3) h)
  (br (x1 == 47)
  (K (.int .i64 3) h)
  (br (x1 == 58)
  (K (.int .i64 3) h)
  (br (x1 == 42)
  (K (.int .i64 3) h)
  (K (.int .i64 0) h))))))
def lex_kind_lp (i : Nat) (Q : Qx) (tm : Tm) (h : Hp) : Prop := False
def lex_kind_cut (i : Nat) : Option (List Nat) := none
set_option maxRecDepth 100000 in
theorem lex_kind_eq (x1 : Int) (h : Hp) (K : Value → Hp → Prop) : lex_kind x1 h K =
    codeWp Tryz.prog 25 false lex_kind_lp lex_kind_cut (bodyOf Tryz.f86) 1 (endQ Tryz.prog Tryz.f86.results.toList K) (argTm [(.int .i32 x1)]) h := by kernel_rfl
set_option maxRecDepth 100000 in
theorem lex_kind_ok (x1 : Int) {h : Hp} {K : Value → Hp → Prop} (H : lex_kind x1 h K) : CallsH Tryz.prog 86 #[(.int .i32 x1)] h K :=
  calls_of (pn := false) (args := [(.int .i32 x1)]) (n := 25) (lp := lex_kind_lp) (cut := lex_kind_cut) Tryz.func86 (c := bodyOf Tryz.f86) (by kernel_rfl) (by kernel_rfl) (by kernel_rfl) (good_by (pn := false) (c := (bodyOf Tryz.f86)) (i := 1) (l := []) (by kernel_rfl) (fun _ h => by cases h))
    (Eq.mp (lex_kind_eq x1 h K) H)

/-! ### (*quintet/lex.Scanner).measure: function 70 -/
def lex_Scanner_measure_j2 (K0 : Hp → Prop) (p22 : Option Addr) (x23 : Int) (h : Hp) : Prop :=
  drf p22 fun a32 =>
  ∃ x33 : Int, HV Tryz.prog (Instr.loadAt 3 (.pointer (some (a32.add 1)))) h (.int .i64 x33) ∧ 
  br (decide ((IntKind.i64.wrap (x23 - x33)) > 200))
  (drf p22 fun a34 =>
  ∃ x35 : Int, HV Tryz.prog (Instr.loadAt 3 (.pointer (some (a34.add 2)))) h (.int .i64 x35) ∧ 
  newC h (.cells #[(.int .i64 93), (.int .i64 x35), (.int .i64 1)] 34 (0, 0)) fun a37 h36 => 
  drf p22 fun a38 =>
  HU Tryz.prog (Instr.storeAt 27 (.pointer (some (a38.add 6))) (.pointer (some a37))) h36 fun h39 => 
  K0 h39)
  (K0 h)
def lex_Scanner_measure_j2_L (Q : Qx) (tm : Tm) (h : Hp) : Prop :=
  selP (tm 0) fun p22 =>
  selI .i64 (tm 2) fun x23 =>
  lex_Scanner_measure_j2 (fun  h => Q (.normal) (mkTm []) h) p22 x23 h
def lex_Scanner_measure_l3 (p40 : Option Addr) (K0 : (Option Addr) → Int → Hp → Prop)  : Nat → Int → Hp → Prop
  | 0, _, _ => False
  | k + 1, x41, h =>
    drf p40 fun a49 =>
    ∃ s50 : ByteArray, HV Tryz.prog (Instr.loadAt 9 (.pointer (some a49))) h (.string s50) ∧ 
    br (decide (x41 < ((s50 : ByteArray).size : Int)))
    (drf p40 fun a51 =>
    ∃ s52 : ByteArray, HV Tryz.prog (Instr.loadAt 9 (.pointer (some a51))) h (.string s52) ∧ 
    ∃ x53 : Int, PV Tryz.prog (Instr.index 9 (.string s52) (.int .i64 x41)) (.int .u8 x53) ∧
    br (x53 != 10)
    (lex_Scanner_measure_l3 p40 K0 k (IntKind.i64.wrap (x41 + 1)) h)
    (K0 p40 x41 h))
    (K0 p40 x41 h)
def lex_Scanner_measure_l3_L (Q : Qx) (k : Nat) (tm : Tm) (h : Hp) : Prop :=
  selP (tm 0) fun p40 =>
  selI .i64 (tm 2) fun x41 =>
  lex_Scanner_measure_l3 p40 (fun (p47 : Option Addr) (x48 : Int) h => Q (.exit 0) (mkTm [(0, some (.pointer p47)), (2, some (.int .i64 x48))]) h) k x41 h
set_option maxRecDepth 100000 in
def lex_Scanner_measure (p1 : Option Addr) (h : Hp) (K : Value → Hp → Prop) : Prop :=
  drf p1 fun a2 =>
  ∃ x3 : Int, HV Tryz.prog (Instr.loadAt 3 (.pointer (some (a2.add 1)))) h (.int .i64 x3) ∧ 
  ∃ k58, lex_Scanner_measure_l3 p1
  (fun (p54 : Option Addr) (x55 : Int) (h56 : Hp) =>
  lex_Scanner_measure_j2
  (fun  (h57 : Hp) =>
  K (.tuple #[]) h57)
  p54 x55 h56)
   k58 x3 h
def lex_Scanner_measure_lp (i : Nat) (Q : Qx) (tm : Tm) (h : Hp) : Prop := match Nat.beq i 3 with
  | true => lex_Scanner_measure_j2_L Q tm h
  | false => match Nat.beq i 12 with
  | true => ∃ k, lex_Scanner_measure_l3_L Q k tm h
  | false => False
def lex_Scanner_measure_cut (i : Nat) : Option (List Nat) := match Nat.beq i 3 with
  | true => some [0, 2]
  | false => none
set_option maxRecDepth 100000 in
theorem lex_Scanner_measure_j2_step (Q : Qx) (p22 : Option Addr) (x23 : Int) (h : Hp) : lex_Scanner_measure_j2_L Q (mkTm [(0, some (.pointer p22)), (2, some (.int .i64 x23))]) h =
    codeWp Tryz.prog 41 false lex_Scanner_measure_lp lex_Scanner_measure_cut (sub (bodyOf Tryz.f70) [true, true]) 7 (maskQ (fun e => match e with | .normal => [] | _ => []) Q) (mkTm [(0, some (.pointer p22)), (2, some (.int .i64 x23))]) h := by kernel_rfl
theorem lex_Scanner_measure_j2_mask (Q : Qx) (tm : Tm) (h : Hp) : lex_Scanner_measure_j2_L Q tm h ↔ lex_Scanner_measure_j2_L Q (mask [0, 2] tm) h := Iff.rfl
set_option maxRecDepth 100000 in
theorem lex_Scanner_measure_j2_snd : SndAt Tryz.prog 41 none (sub (bodyOf Tryz.f70) [true, true]) (lex_Scanner_measure_lp 3) := by
  refine join_sound (pn := false) (lp := lex_Scanner_measure_lp) (cut := lex_Scanner_measure_cut) (i := 3) (c := (sub (bodyOf Tryz.f70) [true, true])) [0, 2] (fun e => match e with | .normal => [] | _ => []) lex_Scanner_measure_j2_L ?_ ?_
  · exact good_by (pn := false) (c := (sub (bodyOf Tryz.f70) [true, true])) (i := 7) (l := []) (by kernel_rfl) (fun _ h => by cases h)
  · intro Q tm h H
    have H0 := H
    obtain ⟨p22, e0, H⟩ := selP_ex H
    obtain ⟨x23, e2, H⟩ := selI_ex H
    have e : mask [0, 2] tm = mkTm [(0, some (.pointer p22)), (2, some (.int .i64 x23))] := by simp only [mask, List.map_cons, List.map_nil, e0, e2] <;> rfl
    rw [e]
    refine Eq.mp (lex_Scanner_measure_j2_step Q p22 x23 h) ?_
    rw [← e]
    exact (lex_Scanner_measure_j2_mask Q tm h).mp H0
set_option maxRecDepth 100000 in
theorem lex_Scanner_measure_l3_step (Q : Qx) (k : Nat) (p40 : Option Addr) (x41 : Int) (h : Hp) : lex_Scanner_measure_l3_L Q (k + 1) (mkTm [(0, some (.pointer p40)), (2, some (.int .i64 x41))]) h =
    codeWp Tryz.prog 41 false lex_Scanner_measure_lp lex_Scanner_measure_cut (sub (bodyOf Tryz.f70) [true, false, false, false]) 24 (thenQ (fun tm h => lex_Scanner_measure_l3_L Q k (mask [0, 2] tm) h) (maskQ (fun e => match e with | .exit 0 => [0, 2] | _ => []) Q)) (mkTm [(0, some (.pointer p40)), (2, some (.int .i64 x41))]) h := by kernel_rfl
theorem lex_Scanner_measure_l3_mask (Q : Qx) (k : Nat) (tm : Tm) (h : Hp) : lex_Scanner_measure_l3_L Q k tm h ↔ lex_Scanner_measure_l3_L Q k (mask [0, 2] tm) h := Iff.rfl
set_option maxRecDepth 100000 in
theorem lex_Scanner_measure_l3_snd : SndAt Tryz.prog 41 none (sub (bodyOf Tryz.f70) [true, false, false]) (lex_Scanner_measure_lp 12) := by
  refine loop_sound (pn := false) (lp := lex_Scanner_measure_lp) (cut := lex_Scanner_measure_cut) (i := 12) (c := (sub (bodyOf Tryz.f70) [true, false, false, false])) [0, 2] (fun e => match e with | .exit 0 => [0, 2] | _ => []) lex_Scanner_measure_l3_L ?_ ?_ ?_
  · exact good_by (pn := false) (c := (sub (bodyOf Tryz.f70) [true, false, false, false])) (i := 24) (l := []) (by kernel_rfl) (fun _ h => by cases h)
  · intro Q tm h H
    obtain ⟨p40, e0, H⟩ := selP_ex H
    obtain ⟨x41, e2, H⟩ := selI_ex H
    exact H
  · intro Q k tm h H
    have H0 := H
    obtain ⟨p40, e0, H⟩ := selP_ex H
    obtain ⟨x41, e2, H⟩ := selI_ex H
    have e : mask [0, 2] tm = mkTm [(0, some (.pointer p40)), (2, some (.int .i64 x41))] := by simp only [mask, List.map_cons, List.map_nil, e0, e2] <;> rfl
    rw [e]
    refine Eq.mp (lex_Scanner_measure_l3_step Q k p40 x41 h) ?_
    rw [← e]
    exact (lex_Scanner_measure_l3_mask Q (k + 1) tm h).mp H0
set_option maxRecDepth 100000 in
theorem lex_Scanner_measure_eq (p1 : Option Addr) (h : Hp) (K : Value → Hp → Prop) : lex_Scanner_measure p1 h K =
    codeWp Tryz.prog 41 false lex_Scanner_measure_lp lex_Scanner_measure_cut (bodyOf Tryz.f70) 1 (endQ Tryz.prog Tryz.f70.results.toList K) (argTm [(.pointer p1)]) h := by kernel_rfl
set_option maxRecDepth 100000 in
theorem lex_Scanner_measure_ok (p1 : Option Addr) {h : Hp} {K : Value → Hp → Prop} (H : lex_Scanner_measure p1 h K) : CallsH Tryz.prog 70 #[(.pointer p1)] h K :=
  calls_of (pn := false) (args := [(.pointer p1)]) (n := 41) (lp := lex_Scanner_measure_lp) (cut := lex_Scanner_measure_cut) Tryz.func70 (c := bodyOf Tryz.f70) (by kernel_rfl) (by kernel_rfl) (by kernel_rfl) (good_by (pn := false) (c := (bodyOf Tryz.f70)) (i := 1) (l := [(12, (sub (bodyOf Tryz.f70) [true, false, false])), (3, (sub (bodyOf Tryz.f70) [true, true]))]) (by kernel_rfl) (List.forall_mem_cons.2 ⟨lex_Scanner_measure_l3_snd, (List.forall_mem_cons.2 ⟨lex_Scanner_measure_j2_snd, (fun _ h => by cases h)⟩)⟩))
    (Eq.mp (lex_Scanner_measure_eq p1 h K) H)

/-! ### (*quintet/lex.Scanner).fault: function 72 -/
set_option maxRecDepth 100000 in
def lex_Scanner_fault (p1 : Option Addr) (h : Hp) (K : Value → Hp → Prop) : Prop :=
  drf p1 fun a2 =>
  ∃ p3 : Option Addr, HV Tryz.prog (Instr.loadAt 27 (.pointer (some (a2.add 6)))) h (.pointer p3) ∧ 
  ∃ b4 : Bool, PV Tryz.prog (binOp .eql 27 (.pointer p3) (.pointer none)) (.bool b4) ∧
  br b4
  (K .nilIface h)
  (drf p1 fun a5 =>
  ∃ p6 : Option Addr, HV Tryz.prog (Instr.loadAt 27 (.pointer (some (a5.add 6)))) h (.pointer p6) ∧ 
  drf p6 fun a7 =>
  ∃ x8 : Int, ∃ x9 : Int, ∃ x10 : Int, HV Tryz.prog (Instr.loadAt 34 (.pointer (some a7))) h (.agg #[(.int .i64 x8), (.int .i64 x9), (.int .i64 x10)]) ∧ 
  newC h (.cells #[(.int .i64 0), (.int .i64 0), (.int .i64 0)] 34 (0, 0)) fun a12 h11 => 
  HU Tryz.prog (Instr.storeAt 34 (.pointer (some a12)) (.agg #[(.int .i64 x8), (.int .i64 x9), (.int .i64 x10)])) h11 fun h13 => 
  K (.iface 27 (.pointer (some a12))) h13)
def lex_Scanner_fault_lp (i : Nat) (Q : Qx) (tm : Tm) (h : Hp) : Prop := False
def lex_Scanner_fault_cut (i : Nat) : Option (List Nat) := none
set_option maxRecDepth 100000 in
theorem lex_Scanner_fault_eq (p1 : Option Addr) (h : Hp) (K : Value → Hp → Prop) : lex_Scanner_fault p1 h K =
    codeWp Tryz.prog 16 false lex_Scanner_fault_lp lex_Scanner_fault_cut (bodyOf Tryz.f72) 1 (endQ Tryz.prog Tryz.f72.results.toList K) (argTm [(.pointer p1)]) h := by kernel_rfl
set_option maxRecDepth 100000 in
theorem lex_Scanner_fault_ok (p1 : Option Addr) {h : Hp} {K : Value → Hp → Prop} (H : lex_Scanner_fault p1 h K) : CallsH Tryz.prog 72 #[(.pointer p1)] h K :=
  calls_of (pn := false) (args := [(.pointer p1)]) (n := 16) (lp := lex_Scanner_fault_lp) (cut := lex_Scanner_fault_cut) Tryz.func72 (c := bodyOf Tryz.f72) (by kernel_rfl) (by kernel_rfl) (by kernel_rfl) (good_by (pn := false) (c := (bodyOf Tryz.f72)) (i := 1) (l := []) (by kernel_rfl) (fun _ h => by cases h))
    (Eq.mp (lex_Scanner_fault_eq p1 h K) H)

/-! ### (*quintet/lex.Scanner).ends: function 88 -/
set_option maxRecDepth 100000 in
def lex_Scanner_ends (p1 : Option Addr) (h : Hp) (K : Value → Hp → Prop) : Prop :=
  newC h (.cells #[(.int .i64 0), (.string ⟨#[]⟩), (.int .u32 0), (.int .i64 0), (.int .i64 0)] 52 (0, 0)) fun a3 h2 => 
  drf p1 fun a4 =>
  ∃ x5 : Int, HV Tryz.prog (Instr.loadAt 3 (.pointer (some (a4.add 2)))) h2 (.int .i64 x5) ∧ 
  drf p1 fun a6 =>
  ∃ x7 : Int, HV Tryz.prog (Instr.loadAt 3 (.pointer (some (a6.add 1)))) h2 (.int .i64 x7) ∧ 
  drf p1 fun a8 =>
  ∃ x9 : Int, HV Tryz.prog (Instr.loadAt 3 (.pointer (some (a8.add 3)))) h2 (.int .i64 x9) ∧ 
  newC h2 (.cells #[(.int .i64 0), (.string ⟨#[]⟩), (.int .u32 0), (.int .i64 0), (.int .i64 0)] 52 (0, 0)) fun a11 h10 => HV Tryz.prog (Instr.loadAt 3 (.pointer (some (a8.add 3)))) h10 (.int .i64 x9) ∧ HV Tryz.prog (Instr.loadAt 3 (.pointer (some (a6.add 1)))) h10 (.int .i64 x7) ∧ HV Tryz.prog (Instr.loadAt 3 (.pointer (some (a4.add 2)))) h10 (.int .i64 x5) ∧ 
  HU Tryz.prog (Instr.storeAt 52 (.pointer (some a11)) (.agg #[(.int .i64 4), (.string ⟨#[]⟩), (.int .u32 0), (.int .i64 x5), (.int .i64 (IntKind.i64.wrap ((IntKind.i64.wrap (x7 - x9)) + 1)))])) h10 fun h12 => 
  drf p1 fun a13 =>
  ∃ x14 : Int, HV Tryz.prog (Instr.loadAt 3 (.pointer (some (a13.add 1)))) h12 (.int .i64 x14) ∧ 
  drf p1 fun a15 =>
  ∃ s16 : ByteArray, HV Tryz.prog (Instr.loadAt 9 (.pointer (some a15))) h12 (.string s16) ∧ 
  br (x14 == ((s16 : ByteArray).size : Int))
  (drf p1 fun a17 =>
  ∃ x18 : Int, HV Tryz.prog (Instr.loadAt 3 (.pointer (some (a17.add 1)))) h12 (.int .i64 x18) ∧ 
  drf p1 fun a19 =>
  ∃ x20 : Int, HV Tryz.prog (Instr.loadAt 3 (.pointer (some (a19.add 3)))) h12 (.int .i64 x20) ∧ 
  br (x18 == x20)
  (HU Tryz.prog (Instr.storeAt 52 (.pointer (some a3)) (.agg #[(.int .i64 0), (.string ⟨#[]⟩), (.int .u32 0), (.int .i64 0), (.int .i64 0)])) h12 fun h21 => 
  ∃ x22 : Int, ∃ s23 : ByteArray, ∃ x24 : Int, ∃ x25 : Int, ∃ x26 : Int, HV Tryz.prog (Instr.loadAt 52 (.pointer (some a3))) h21 (.agg #[(.int .i64 x22), (.string s23), (.int .u32 x24), (.int .i64 x25), (.int .i64 x26)]) ∧ K (.tuple #[(.agg #[(.int .i64 x22), (.string s23), (.int .u32 x24), (.int .i64 x25), (.int .i64 x26)]), (.bool false)]) h21)
  (drf p1 fun a27 =>
  ∃ x28 : Int, HV Tryz.prog (Instr.loadAt 3 (.pointer (some (a27.add 1)))) h12 (.int .i64 x28) ∧ 
  drf p1 fun a29 =>
  HU Tryz.prog (Instr.storeAt 3 (.pointer (some (a29.add 3))) (.int .i64 x28)) h12 fun h30 => 
  ∃ x31 : Int, ∃ s32 : ByteArray, ∃ x33 : Int, ∃ x34 : Int, ∃ x35 : Int, HV Tryz.prog (Instr.loadAt 52 (.pointer (some a11))) h30 (.agg #[(.int .i64 x31), (.string s32), (.int .u32 x33), (.int .i64 x34), (.int .i64 x35)]) ∧ 
  HU Tryz.prog (Instr.storeAt 52 (.pointer (some a3)) (.agg #[(.int .i64 x31), (.string s32), (.int .u32 x33), (.int .i64 x34), (.int .i64 x35)])) h30 fun h36 => 
  ∃ x37 : Int, ∃ s38 : ByteArray, ∃ x39 : Int, ∃ x40 : Int, ∃ x41 : Int, HV Tryz.prog (Instr.loadAt 52 (.pointer (some a3))) h36 (.agg #[(.int .i64 x37), (.string s38), (.int .u32 x39), (.int .i64 x40), (.int .i64 x41)]) ∧ K (.tuple #[(.agg #[(.int .i64 x37), (.string s38), (.int .u32 x39), (.int .i64 x40), (.int .i64 x41)]), (.bool true)]) h36))
  (HU Tryz.prog (Instr.storeAt 9 (.pointer (some (a11.add 1))) (.string ({ data := #[10] }))) h12 fun h42 => 
  drf p1 fun a43 =>
  ∃ x44 : Int, HV Tryz.prog (Instr.loadAt 3 (.pointer (some (a43.add 1)))) h42 (.int .i64 x44) ∧ 
  drf p1 fun a45 =>
  HU Tryz.prog (Instr.storeAt 3 (.pointer (some (a45.add 1))) (.int .i64 (IntKind.i64.wrap (x44 + 1)))) h42 fun h46 => 
  drf p1 fun a47 =>
  ∃ x48 : Int, HV Tryz.prog (Instr.loadAt 3 (.pointer (some (a47.add 2)))) h46 (.int .i64 x48) ∧ 
  drf p1 fun a49 =>
  HU Tryz.prog (Instr.storeAt 3 (.pointer (some (a49.add 2))) (.int .i64 (IntKind.i64.wrap (x48 + 1)))) h46 fun h50 => 
  drf p1 fun a51 =>
  ∃ x52 : Int, HV Tryz.prog (Instr.loadAt 3 (.pointer (some (a51.add 1)))) h50 (.int .i64 x52) ∧ 
  drf p1 fun a53 =>
  HU Tryz.prog (Instr.storeAt 3 (.pointer (some (a53.add 3))) (.int .i64 x52)) h50 fun h54 => 
  CallsH Tryz.prog 70 #[(.pointer p1)] h54 fun r56 h55 =>
  r56 = (.tuple #[]) ∧ 
  ∃ x57 : Int, ∃ s58 : ByteArray, ∃ x59 : Int, ∃ x60 : Int, ∃ x61 : Int, HV Tryz.prog (Instr.loadAt 52 (.pointer (some a11))) h55 (.agg #[(.int .i64 x57), (.string s58), (.int .u32 x59), (.int .i64 x60), (.int .i64 x61)]) ∧ 
  HU Tryz.prog (Instr.storeAt 52 (.pointer (some a3)) (.agg #[(.int .i64 x57), (.string s58), (.int .u32 x59), (.int .i64 x60), (.int .i64 x61)])) h55 fun h62 => 
  ∃ x63 : Int, ∃ s64 : ByteArray, ∃ x65 : Int, ∃ x66 : Int, ∃ x67 : Int, HV Tryz.prog (Instr.loadAt 52 (.pointer (some a3))) h62 (.agg #[(.int .i64 x63), (.string s64), (.int .u32 x65), (.int .i64 x66), (.int .i64 x67)]) ∧ K (.tuple #[(.agg #[(.int .i64 x63), (.string s64), (.int .u32 x65), (.int .i64 x66), (.int .i64 x67)]), (.bool true)]) h62)
def lex_Scanner_ends_lp (i : Nat) (Q : Qx) (tm : Tm) (h : Hp) : Prop := False
def lex_Scanner_ends_cut (i : Nat) : Option (List Nat) := none
set_option maxRecDepth 100000 in
theorem lex_Scanner_ends_eq (p1 : Option Addr) (h : Hp) (K : Value → Hp → Prop) : lex_Scanner_ends p1 h K =
    codeWp Tryz.prog 73 false lex_Scanner_ends_lp lex_Scanner_ends_cut (bodyOf Tryz.f88) 1 (endQ Tryz.prog Tryz.f88.results.toList K) (argTm [(.pointer p1)]) h := by kernel_rfl
set_option maxRecDepth 100000 in
theorem lex_Scanner_ends_ok (p1 : Option Addr) {h : Hp} {K : Value → Hp → Prop} (H : lex_Scanner_ends p1 h K) : CallsH Tryz.prog 88 #[(.pointer p1)] h K :=
  calls_of (pn := false) (args := [(.pointer p1)]) (n := 73) (lp := lex_Scanner_ends_lp) (cut := lex_Scanner_ends_cut) Tryz.func88 (c := bodyOf Tryz.f88) (by kernel_rfl) (by kernel_rfl) (by kernel_rfl) (good_by (pn := false) (c := (bodyOf Tryz.f88)) (i := 1) (l := []) (by kernel_rfl) (fun _ h => by cases h))
    (Eq.mp (lex_Scanner_ends_eq p1 h K) H)

/-! ### (*quintet/lex.Scanner).checked: function 87 -/
def lex_Scanner_checked_l3 (p84 : Option Addr) (a85 : Addr) (a86 : Addr) (a88 : Addr) (K0 : (Option Addr) → Addr → Addr → Int → Hp → Prop)  : Nat → Int → Hp → Prop
  | 0, _, _ => False
  | k + 1, x87, h =>
    HW Tryz.prog (Instr.next (.pointer (some a88)) true 0) h fun r98 h99 =>
    ((r98 = (.tuple #[.bool false]) ∧ K0 p84 a85 a86 x87 h99) ∨
    ∃ x100 x101 : Int, r98 = (.tuple #[.bool true, .int .i64 x100, .int .i32 x101]) ∧ ∃ x102 : Int, PV Tryz.prog (Builtin.min_ #[3, 3] 3 #[(.int .i64 (IntKind.i64.wrap ((IntKind.i64.wrap (10 * x87)) + (IntKind.i64.wrap (IntKind.i32.wrap (x101 - 48)))))), (.int .i64 8589934592)]) (.int .i64 x102) ∧
    lex_Scanner_checked_l3 p84 a85 a86 a88 K0 k x102 h99)
def lex_Scanner_checked_l3_L (Q : Qx) (k : Nat) (tm : Tm) (h : Hp) : Prop :=
  selP (tm 0) fun p84 =>
  selA (tm 3) fun a85 =>
  selA (tm 4) fun a86 =>
  selI .i64 (tm 6) fun x87 =>
  selA (tm 34) fun a88 =>
  lex_Scanner_checked_l3 p84 a85 a86 a88 (fun (p94 : Option Addr) (a95 : Addr) (a96 : Addr) (x97 : Int) h => Q (.exit 1) (mkTm [(0, some (.pointer p94)), (3, some (.pointer (some a95))), (4, some (.pointer (some a96))), (6, some (.int .i64 x97))]) h) k x87 h
def lex_Scanner_checked_j2 (K0 : (Option Addr) → Addr → Addr → Hp → Prop) (p13 : Option Addr) (a14 : Addr) (a15 : Addr) (b16 : Bool) (h : Hp) : Prop :=
  br b16
  (∃ x74 : Int, HV Tryz.prog (Instr.loadAt 3 (.pointer (some (a14.add 3)))) h (.int .i64 x74) ∧ 
  ∃ x75 : Int, HV Tryz.prog (Instr.loadAt 3 (.pointer (some (a14.add 4)))) h (.int .i64 x75) ∧ 
  newC h (.cells #[(.int .i64 92), (.int .i64 x74), (.int .i64 x75)] 34 (0, 0)) fun a77 h76 => 
  drf p13 fun a78 =>
  HU Tryz.prog (Instr.storeAt 27 (.pointer (some (a78.add 6))) (.pointer (some a77))) h76 fun h79 => 
  K0 p13 a14 a15 h79)
  (∃ x80 : Int, HV Tryz.prog (Instr.loadAt 49 (.pointer (some a14))) h (.int .i64 x80) ∧ 
  br (x80 == 2)
  (∃ s81 : ByteArray, HV Tryz.prog (Instr.loadAt 9 (.pointer (some (a14.add 1)))) h (.string s81) ∧ 
  newC h (.stringIter s81 0) fun a83 h82 => 
  ∃ k127, lex_Scanner_checked_l3 p13 a14 a15 a83
  (fun (p103 : Option Addr) (a104 : Addr) (a105 : Addr) (x106 : Int) (h107 : Hp) =>
  br (decide (x106 ≥ 4294967296))
  (∃ x108 : Int, HV Tryz.prog (Instr.loadAt 3 (.pointer (some (a104.add 3)))) h107 (.int .i64 x108) ∧ 
  ∃ x109 : Int, HV Tryz.prog (Instr.loadAt 3 (.pointer (some (a104.add 4)))) h107 (.int .i64 x109) ∧ 
  newC h107 (.cells #[(.int .i64 91), (.int .i64 x108), (.int .i64 x109)] 34 (0, 0)) fun a111 h110 => 
  drf p103 fun a112 =>
  HU Tryz.prog (Instr.storeAt 27 (.pointer (some (a112.add 6))) (.pointer (some a111))) h110 fun h113 => 
  HU Tryz.prog (Instr.storeAt 50 (.pointer (some (a104.add 2))) (.int .u32 (IntKind.u32.wrap (x106)))) h113 fun h114 => 
  K0 p103 a104 a105 h114)
  (∃ s115 : ByteArray, HV Tryz.prog (Instr.loadAt 9 (.pointer (some (a104.add 1)))) h107 (.string s115) ∧ 
  br (decide (((s115 : ByteArray).size : Int) > 1))
  (∃ s116 : ByteArray, HV Tryz.prog (Instr.loadAt 9 (.pointer (some (a104.add 1)))) h107 (.string s116) ∧ 
  ∃ x117 : Int, PV Tryz.prog (Instr.index 9 (.string s116) (.int .i64 0)) (.int .u8 x117) ∧
  br (x117 == 48)
  (∃ x118 : Int, HV Tryz.prog (Instr.loadAt 3 (.pointer (some (a104.add 3)))) h107 (.int .i64 x118) ∧ 
  ∃ x119 : Int, HV Tryz.prog (Instr.loadAt 3 (.pointer (some (a104.add 4)))) h107 (.int .i64 x119) ∧ 
  newC h107 (.cells #[(.int .i64 91), (.int .i64 x118), (.int .i64 x119)] 34 (0, 0)) fun a121 h120 => 
  drf p103 fun a122 =>
  HU Tryz.prog (Instr.storeAt 27 (.pointer (some (a122.add 6))) (.pointer (some a121))) h120 fun h123 => 
  HU Tryz.prog (Instr.storeAt 50 (.pointer (some (a104.add 2))) (.int .u32 (IntKind.u32.wrap (x106)))) h123 fun h124 => 
  K0 p103 a104 a105 h124)
  (HU Tryz.prog (Instr.storeAt 50 (.pointer (some (a104.add 2))) (.int .u32 (IntKind.u32.wrap (x106)))) h107 fun h125 => 
  K0 p103 a104 a105 h125))
  (HU Tryz.prog (Instr.storeAt 50 (.pointer (some (a104.add 2))) (.int .u32 (IntKind.u32.wrap (x106)))) h107 fun h126 => 
  K0 p103 a104 a105 h126)))
   k127 0 h82)
  (K0 p13 a14 a15 h))
def lex_Scanner_checked_j2_L (Q : Qx) (tm : Tm) (h : Hp) : Prop :=
  selP (tm 0) fun p13 =>
  selA (tm 3) fun a14 =>
  selA (tm 4) fun a15 =>
  selB (tm 9) fun b16 =>
  lex_Scanner_checked_j2 (fun (p71 : Option Addr) (a72 : Addr) (a73 : Addr) h => Q (.normal) (mkTm [(0, some (.pointer p71)), (3, some (.pointer (some a72))), (4, some (.pointer (some a73)))]) h) p13 a14 a15 b16 h
set_option maxRecDepth 100000 in
def lex_Scanner_checked (p1 : Option Addr) (x2 : Int) (s3 : ByteArray) (x4 : Int) (x5 : Int) (x6 : Int) (h : Hp) (K : Value → Hp → Prop) : Prop :=
  newC h (.cells #[(.int .i64 x2), (.string s3), (.int .u32 x4), (.int .i64 x5), (.int .i64 x6)] 52 (0, 0)) fun a8 h7 => 
  newC h7 (.cells #[(.int .i64 0), (.string ⟨#[]⟩), (.int .u32 0), (.int .i64 0), (.int .i64 0)] 52 (0, 0)) fun a10 h9 => 
  ∃ x128 : Int, HV Tryz.prog (Instr.loadAt 49 (.pointer (some a8))) h9 (.int .i64 x128) ∧ 
  br (x128 == 1)
  (∃ s129 : ByteArray, HV Tryz.prog (Instr.loadAt 9 (.pointer (some (a8.add 1)))) h9 (.string s129) ∧ 
  lex_Scanner_checked_j2
  (fun (p130 : Option Addr) (a131 : Addr) (a132 : Addr) (h133 : Hp) =>
  ∃ x134 : Int, ∃ s135 : ByteArray, ∃ x136 : Int, ∃ x137 : Int, ∃ x138 : Int, HV Tryz.prog (Instr.loadAt 52 (.pointer (some a131))) h133 (.agg #[(.int .i64 x134), (.string s135), (.int .u32 x136), (.int .i64 x137), (.int .i64 x138)]) ∧ 
  drf p130 fun a139 =>
  ∃ p140 : Option Addr, HV Tryz.prog (Instr.loadAt 27 (.pointer (some (a139.add 6)))) h133 (.pointer p140) ∧ 
  ∃ b141 : Bool, PV Tryz.prog (binOp .eql 27 (.pointer p140) (.pointer none)) (.bool b141) ∧
  HU Tryz.prog (Instr.storeAt 52 (.pointer (some a132)) (.agg #[(.int .i64 x134), (.string s135), (.int .u32 x136), (.int .i64 x137), (.int .i64 x138)])) h133 fun h142 => HV Tryz.prog (Instr.loadAt 27 (.pointer (some (a139.add 6)))) h142 (.pointer p140) ∧ 
  ∃ x143 : Int, ∃ s144 : ByteArray, ∃ x145 : Int, ∃ x146 : Int, ∃ x147 : Int, HV Tryz.prog (Instr.loadAt 52 (.pointer (some a132))) h142 (.agg #[(.int .i64 x143), (.string s144), (.int .u32 x145), (.int .i64 x146), (.int .i64 x147)]) ∧ K (.tuple #[(.agg #[(.int .i64 x143), (.string s144), (.int .u32 x145), (.int .i64 x146), (.int .i64 x147)]), (.bool b141)]) h142)
  p1 a8 a10 (decide (((s129 : ByteArray).size : Int) > 16)) h9)
  (lex_Scanner_checked_j2
  (fun (p148 : Option Addr) (a149 : Addr) (a150 : Addr) (h151 : Hp) =>
  ∃ x152 : Int, ∃ s153 : ByteArray, ∃ x154 : Int, ∃ x155 : Int, ∃ x156 : Int, HV Tryz.prog (Instr.loadAt 52 (.pointer (some a149))) h151 (.agg #[(.int .i64 x152), (.string s153), (.int .u32 x154), (.int .i64 x155), (.int .i64 x156)]) ∧ 
  drf p148 fun a157 =>
  ∃ p158 : Option Addr, HV Tryz.prog (Instr.loadAt 27 (.pointer (some (a157.add 6)))) h151 (.pointer p158) ∧ 
  ∃ b159 : Bool, PV Tryz.prog (binOp .eql 27 (.pointer p158) (.pointer none)) (.bool b159) ∧
  HU Tryz.prog (Instr.storeAt 52 (.pointer (some a150)) (.agg #[(.int .i64 x152), (.string s153), (.int .u32 x154), (.int .i64 x155), (.int .i64 x156)])) h151 fun h160 => HV Tryz.prog (Instr.loadAt 27 (.pointer (some (a157.add 6)))) h160 (.pointer p158) ∧ 
  ∃ x161 : Int, ∃ s162 : ByteArray, ∃ x163 : Int, ∃ x164 : Int, ∃ x165 : Int, HV Tryz.prog (Instr.loadAt 52 (.pointer (some a150))) h160 (.agg #[(.int .i64 x161), (.string s162), (.int .u32 x163), (.int .i64 x164), (.int .i64 x165)]) ∧ K (.tuple #[(.agg #[(.int .i64 x161), (.string s162), (.int .u32 x163), (.int .i64 x164), (.int .i64 x165)]), (.bool b159)]) h160)
  p1 a8 a10 false h9)
def lex_Scanner_checked_lp (i : Nat) (Q : Qx) (tm : Tm) (h : Hp) : Prop := match Nat.beq i 3306 with
  | true => ∃ k, lex_Scanner_checked_l3_L Q k tm h
  | false => match Nat.beq i 12 with
  | true => lex_Scanner_checked_j2_L Q tm h
  | false => False
def lex_Scanner_checked_cut (i : Nat) : Option (List Nat) := match Nat.beq i 12 with
  | true => some [0, 3, 4, 9]
  | false => none
set_option maxRecDepth 100000 in
theorem lex_Scanner_checked_l3_step (Q : Qx) (k : Nat) (p84 : Option Addr) (a85 : Addr) (a86 : Addr) (x87 : Int) (a88 : Addr) (h : Hp) : lex_Scanner_checked_l3_L Q (k + 1) (mkTm [(0, some (.pointer p84)), (3, some (.pointer (some a85))), (4, some (.pointer (some a86))), (6, some (.int .i64 x87)), (34, some (.pointer (some a88)))]) h =
    codeWp Tryz.prog 77 false lex_Scanner_checked_lp lex_Scanner_checked_cut (sub (bodyOf Tryz.f87) [true, false, false, true, true, true, false, true, false, true, false, false]) 6612 (thenQ (fun tm h => lex_Scanner_checked_l3_L Q k (mask [0, 3, 4, 6, 34] tm) h) (maskQ (fun e => match e with | .exit 1 => [0, 3, 4, 6] | _ => []) Q)) (mkTm [(0, some (.pointer p84)), (3, some (.pointer (some a85))), (4, some (.pointer (some a86))), (6, some (.int .i64 x87)), (34, some (.pointer (some a88)))]) h := by kernel_rfl
theorem lex_Scanner_checked_l3_mask (Q : Qx) (k : Nat) (tm : Tm) (h : Hp) : lex_Scanner_checked_l3_L Q k tm h ↔ lex_Scanner_checked_l3_L Q k (mask [0, 3, 4, 6, 34] tm) h := Iff.rfl
set_option maxRecDepth 100000 in
theorem lex_Scanner_checked_l3_snd : SndAt Tryz.prog 77 none (sub (bodyOf Tryz.f87) [true, false, false, true, true, true, false, true, false, true, false]) (lex_Scanner_checked_lp 3306) := by
  refine loop_sound (pn := false) (lp := lex_Scanner_checked_lp) (cut := lex_Scanner_checked_cut) (i := 3306) (c := (sub (bodyOf Tryz.f87) [true, false, false, true, true, true, false, true, false, true, false, false])) [0, 3, 4, 6, 34] (fun e => match e with | .exit 1 => [0, 3, 4, 6] | _ => []) lex_Scanner_checked_l3_L ?_ ?_ ?_
  · exact good_by (pn := false) (c := (sub (bodyOf Tryz.f87) [true, false, false, true, true, true, false, true, false, true, false, false])) (i := 6612) (l := []) (by kernel_rfl) (fun _ h => by cases h)
  · intro Q tm h H
    obtain ⟨p84, e0, H⟩ := selP_ex H
    obtain ⟨a85, e3, H⟩ := selA_ex H
    obtain ⟨a86, e4, H⟩ := selA_ex H
    obtain ⟨x87, e6, H⟩ := selI_ex H
    obtain ⟨a88, e34, H⟩ := selA_ex H
    exact H
  · intro Q k tm h H
    have H0 := H
    obtain ⟨p84, e0, H⟩ := selP_ex H
    obtain ⟨a85, e3, H⟩ := selA_ex H
    obtain ⟨a86, e4, H⟩ := selA_ex H
    obtain ⟨x87, e6, H⟩ := selI_ex H
    obtain ⟨a88, e34, H⟩ := selA_ex H
    have e : mask [0, 3, 4, 6, 34] tm = mkTm [(0, some (.pointer p84)), (3, some (.pointer (some a85))), (4, some (.pointer (some a86))), (6, some (.int .i64 x87)), (34, some (.pointer (some a88)))] := by simp only [mask, List.map_cons, List.map_nil, e0, e3, e4, e6, e34] <;> rfl
    rw [e]
    refine Eq.mp (lex_Scanner_checked_l3_step Q k p84 a85 a86 x87 a88 h) ?_
    rw [← e]
    exact (lex_Scanner_checked_l3_mask Q (k + 1) tm h).mp H0
set_option maxRecDepth 100000 in
theorem lex_Scanner_checked_j2_step (Q : Qx) (p13 : Option Addr) (a14 : Addr) (a15 : Addr) (b16 : Bool) (h : Hp) : lex_Scanner_checked_j2_L Q (mkTm [(0, some (.pointer p13)), (3, some (.pointer (some a14))), (4, some (.pointer (some a15))), (9, some (.bool b16))]) h =
    codeWp Tryz.prog 77 false lex_Scanner_checked_lp lex_Scanner_checked_cut (sub (bodyOf Tryz.f87) [true, false, false, true]) 25 (maskQ (fun e => match e with | .normal => [0, 3, 4] | _ => []) Q) (mkTm [(0, some (.pointer p13)), (3, some (.pointer (some a14))), (4, some (.pointer (some a15))), (9, some (.bool b16))]) h := by kernel_rfl
theorem lex_Scanner_checked_j2_mask (Q : Qx) (tm : Tm) (h : Hp) : lex_Scanner_checked_j2_L Q tm h ↔ lex_Scanner_checked_j2_L Q (mask [0, 3, 4, 9] tm) h := Iff.rfl
set_option maxRecDepth 100000 in
theorem lex_Scanner_checked_j2_snd : SndAt Tryz.prog 77 none (sub (bodyOf Tryz.f87) [true, false, false, true]) (lex_Scanner_checked_lp 12) := by
  refine join_sound (pn := false) (lp := lex_Scanner_checked_lp) (cut := lex_Scanner_checked_cut) (i := 12) (c := (sub (bodyOf Tryz.f87) [true, false, false, true])) [0, 3, 4, 9] (fun e => match e with | .normal => [0, 3, 4] | _ => []) lex_Scanner_checked_j2_L ?_ ?_
  · exact good_by (pn := false) (c := (sub (bodyOf Tryz.f87) [true, false, false, true])) (i := 25) (l := [(3306, (sub (bodyOf Tryz.f87) [true, false, false, true, true, true, false, true, false, true, false]))]) (by kernel_rfl) (List.forall_mem_cons.2 ⟨lex_Scanner_checked_l3_snd, (fun _ h => by cases h)⟩)
  · intro Q tm h H
    have H0 := H
    obtain ⟨p13, e0, H⟩ := selP_ex H
    obtain ⟨a14, e3, H⟩ := selA_ex H
    obtain ⟨a15, e4, H⟩ := selA_ex H
    obtain ⟨b16, e9, H⟩ := selB_ex H
    have e : mask [0, 3, 4, 9] tm = mkTm [(0, some (.pointer p13)), (3, some (.pointer (some a14))), (4, some (.pointer (some a15))), (9, some (.bool b16))] := by simp only [mask, List.map_cons, List.map_nil, e0, e3, e4, e9] <;> rfl
    rw [e]
    refine Eq.mp (lex_Scanner_checked_j2_step Q p13 a14 a15 b16 h) ?_
    rw [← e]
    exact (lex_Scanner_checked_j2_mask Q tm h).mp H0
set_option maxRecDepth 100000 in
theorem lex_Scanner_checked_eq (p1 : Option Addr) (x2 : Int) (s3 : ByteArray) (x4 : Int) (x5 : Int) (x6 : Int) (h : Hp) (K : Value → Hp → Prop) : lex_Scanner_checked p1 x2 s3 x4 x5 x6 h K =
    codeWp Tryz.prog 77 false lex_Scanner_checked_lp lex_Scanner_checked_cut (bodyOf Tryz.f87) 1 (endQ Tryz.prog Tryz.f87.results.toList K) (argTm [(.pointer p1), (.agg #[(.int .i64 x2), (.string s3), (.int .u32 x4), (.int .i64 x5), (.int .i64 x6)])]) h := by kernel_rfl
set_option maxRecDepth 100000 in
theorem lex_Scanner_checked_ok (p1 : Option Addr) (x2 : Int) (s3 : ByteArray) (x4 : Int) (x5 : Int) (x6 : Int) {h : Hp} {K : Value → Hp → Prop} (H : lex_Scanner_checked p1 x2 s3 x4 x5 x6 h K) : CallsH Tryz.prog 87 #[(.pointer p1), (.agg #[(.int .i64 x2), (.string s3), (.int .u32 x4), (.int .i64 x5), (.int .i64 x6)])] h K :=
  calls_of (pn := false) (args := [(.pointer p1), (.agg #[(.int .i64 x2), (.string s3), (.int .u32 x4), (.int .i64 x5), (.int .i64 x6)])]) (n := 77) (lp := lex_Scanner_checked_lp) (cut := lex_Scanner_checked_cut) Tryz.func87 (c := bodyOf Tryz.f87) (by kernel_rfl) (by kernel_rfl) (by kernel_rfl) (good_by (pn := false) (c := (bodyOf Tryz.f87)) (i := 1) (l := [(12, (sub (bodyOf Tryz.f87) [true, false, false, true]))]) (by kernel_rfl) (List.forall_mem_cons.2 ⟨lex_Scanner_checked_j2_snd, (fun _ h => by cases h)⟩))
    (Eq.mp (lex_Scanner_checked_eq p1 x2 s3 x4 x5 x6 h K) H)

/-! ### (*quintet/lex.Scanner).read: function 71 -/
def lex_Scanner_read_m1_0 (K0 : Addr → Bool → Hp → Prop)  : Nat → (Option Addr) → Addr → Hp → Prop
  | 0, _, _, _ => False
  | k + 1, p161, a162, h =>
    CallsH Tryz.prog 88 #[(.pointer p161)] h fun r299 h298 =>
    ∃ x300 : Int, ∃ s301 : ByteArray, ∃ x302 : Int, ∃ x303 : Int, ∃ x304 : Int, ∃ b305 : Bool, r299 = (.tuple #[(.agg #[(.int .i64 x300), (.string s301), (.int .u32 x302), (.int .i64 x303), (.int .i64 x304)]), (.bool b305)]) ∧ 
    HU Tryz.prog (Instr.storeAt 52 (.pointer (some a162)) (.agg #[(.int .i64 x300), (.string s301), (.int .u32 x302), (.int .i64 x303), (.int .i64 x304)])) h298 fun h306 => 
    K0 a162 b305 h306
def lex_Scanner_read_m1_0_L (Q : Qx) (k : Nat) (tm : Tm) (h : Hp) : Prop :=
  selP (tm 0) fun p161 =>
  selA (tm 2) fun a162 =>
  lex_Scanner_read_m1_0 (fun (a296 : Addr) (b297 : Bool) h => Q (.ret) (mkTm [(2, some (.pointer (some a296))), (3, some (.bool b297))]) h) k p161 a162 h
def lex_Scanner_read_m1_2 (K0 : Addr → Bool → Hp → Prop)  : Nat → (Option Addr) → Addr → Hp → Prop
  | 0, _, _, _ => False
  | k + 1, p146, a147, h =>
    drf p146 fun a307 =>
    ∃ x308 : Int, HV Tryz.prog (Instr.loadAt 3 (.pointer (some (a307.add 1)))) h (.int .i64 x308) ∧ 
    drf p146 fun a309 =>
    ∃ s310 : ByteArray, HV Tryz.prog (Instr.loadAt 9 (.pointer (some a309))) h (.string s310) ∧ 
    br (decide (x308 < ((s310 : ByteArray).size : Int)))
    (drf p146 fun a311 =>
    ∃ s312 : ByteArray, HV Tryz.prog (Instr.loadAt 9 (.pointer (some a311))) h (.string s312) ∧ 
    drf p146 fun a313 =>
    ∃ x314 : Int, HV Tryz.prog (Instr.loadAt 3 (.pointer (some (a313.add 1)))) h (.int .i64 x314) ∧ 
    ∃ x315 : Int, PV Tryz.prog (Instr.index 9 (.string s312) (.int .i64 x314)) (.int .u8 x315) ∧
    br (x315 != 10)
    (drf p146 fun a316 =>
    ∃ x317 : Int, HV Tryz.prog (Instr.loadAt 3 (.pointer (some (a316.add 1)))) h (.int .i64 x317) ∧ 
    drf p146 fun a318 =>
    HU Tryz.prog (Instr.storeAt 3 (.pointer (some (a318.add 1))) (.int .i64 (IntKind.i64.wrap (x317 + 1)))) h fun h319 => 
    lex_Scanner_read_m1_2 K0 k p146 a147 h319)
    (lex_Scanner_read_m1_0 K0 (k + 1) p146 a147 h))
    (lex_Scanner_read_m1_0 K0 (k + 1) p146 a147 h)
def lex_Scanner_read_m1_2_L (Q : Qx) (k : Nat) (tm : Tm) (h : Hp) : Prop :=
  selP (tm 0) fun p146 =>
  selA (tm 2) fun a147 =>
  lex_Scanner_read_m1_2 (fun (a296 : Addr) (b297 : Bool) h => Q (.ret) (mkTm [(2, some (.pointer (some a296))), (3, some (.bool b297))]) h) k p146 a147 h
def lex_Scanner_read_m1_3 (K0 : Addr → Bool → Hp → Prop)  : Nat → (Option Addr) → Addr → Addr → Int → Hp → Prop
  | 0, _, _, _, _, _ => False
  | k + 1, p64, a65, a66, x67, h =>
    drf p64 fun a320 =>
    ∃ x321 : Int, HV Tryz.prog (Instr.loadAt 3 (.pointer (some (a320.add 1)))) h (.int .i64 x321) ∧ 
    drf p64 fun a322 =>
    HU Tryz.prog (Instr.storeAt 3 (.pointer (some (a322.add 1))) (.int .i64 (IntKind.i64.wrap (x321 + 1)))) h fun h323 => 
    ∃ x324 : Int, HV Tryz.prog (Instr.loadAt 49 (.pointer (some a66))) h323 (.int .i64 x324) ∧ 
    br (x324 != 3)
    (drf p64 fun a325 =>
    ∃ x326 : Int, HV Tryz.prog (Instr.loadAt 3 (.pointer (some (a325.add 1)))) h323 (.int .i64 x326) ∧ 
    drf p64 fun a327 =>
    ∃ s328 : ByteArray, HV Tryz.prog (Instr.loadAt 9 (.pointer (some a327))) h323 (.string s328) ∧ 
    br (decide (x326 < ((s328 : ByteArray).size : Int)))
    (drf p64 fun a329 =>
    ∃ s330 : ByteArray, HV Tryz.prog (Instr.loadAt 9 (.pointer (some a329))) h323 (.string s330) ∧ 
    drf p64 fun a331 =>
    ∃ x332 : Int, HV Tryz.prog (Instr.loadAt 3 (.pointer (some (a331.add 1)))) h323 (.int .i64 x332) ∧ 
    ∃ x333 : Int, PV Tryz.prog (Instr.index 9 (.string s330) (.int .i64 x332)) (.int .u8 x333) ∧
    CallsH Tryz.prog 86 #[(.int .i32 (IntKind.i32.wrap (x333)))] h323 fun r335 h334 =>
    ∃ x336 : Int, r335 = (.int .i64 x336) ∧ 
    ∃ x337 : Int, HV Tryz.prog (Instr.loadAt 49 (.pointer (some a66))) h334 (.int .i64 x337) ∧ HV Tryz.prog (Instr.loadAt 49 (.pointer (some a66))) h323 (.int .i64 x337) ∧ 
    br (x336 == x337)
    (lex_Scanner_read_m1_3 K0 k p64 a65 a66 x67 h334)
    (drf p64 fun a338 =>
    ∃ s339 : ByteArray, HV Tryz.prog (Instr.loadAt 9 (.pointer (some a338))) h334 (.string s339) ∧ 
    drf p64 fun a340 =>
    ∃ x341 : Int, HV Tryz.prog (Instr.loadAt 3 (.pointer (some (a340.add 1)))) h334 (.int .i64 x341) ∧ 
    ∃ s342 : ByteArray, PV Tryz.prog (Instr.sliceAt 9 (.string s339) (some (.int .i64 x67)) (some (.int .i64 x341)) none) (.string s342) ∧
    HU Tryz.prog (Instr.storeAt 9 (.pointer (some (a66.add 1))) (.string s342)) h334 fun h343 => 
    ∃ x344 : Int, ∃ s345 : ByteArray, ∃ x346 : Int, ∃ x347 : Int, ∃ x348 : Int, HV Tryz.prog (Instr.loadAt 52 (.pointer (some a66))) h343 (.agg #[(.int .i64 x344), (.string s345), (.int .u32 x346), (.int .i64 x347), (.int .i64 x348)]) ∧ 
    CallsH Tryz.prog 87 #[(.pointer p64), (.agg #[(.int .i64 x344), (.string s345), (.int .u32 x346), (.int .i64 x347), (.int .i64 x348)])] h343 fun r350 h349 =>
    ∃ x351 : Int, ∃ s352 : ByteArray, ∃ x353 : Int, ∃ x354 : Int, ∃ x355 : Int, ∃ b356 : Bool, r350 = (.tuple #[(.agg #[(.int .i64 x351), (.string s352), (.int .u32 x353), (.int .i64 x354), (.int .i64 x355)]), (.bool b356)]) ∧ 
    HU Tryz.prog (Instr.storeAt 52 (.pointer (some a65)) (.agg #[(.int .i64 x351), (.string s352), (.int .u32 x353), (.int .i64 x354), (.int .i64 x355)])) h349 fun h357 => 
    K0 a65 b356 h357))
    (drf p64 fun a358 =>
    ∃ s359 : ByteArray, HV Tryz.prog (Instr.loadAt 9 (.pointer (some a358))) h323 (.string s359) ∧ 
    drf p64 fun a360 =>
    ∃ x361 : Int, HV Tryz.prog (Instr.loadAt 3 (.pointer (some (a360.add 1)))) h323 (.int .i64 x361) ∧ 
    ∃ s362 : ByteArray, PV Tryz.prog (Instr.sliceAt 9 (.string s359) (some (.int .i64 x67)) (some (.int .i64 x361)) none) (.string s362) ∧
    HU Tryz.prog (Instr.storeAt 9 (.pointer (some (a66.add 1))) (.string s362)) h323 fun h363 => 
    ∃ x364 : Int, ∃ s365 : ByteArray, ∃ x366 : Int, ∃ x367 : Int, ∃ x368 : Int, HV Tryz.prog (Instr.loadAt 52 (.pointer (some a66))) h363 (.agg #[(.int .i64 x364), (.string s365), (.int .u32 x366), (.int .i64 x367), (.int .i64 x368)]) ∧ 
    CallsH Tryz.prog 87 #[(.pointer p64), (.agg #[(.int .i64 x364), (.string s365), (.int .u32 x366), (.int .i64 x367), (.int .i64 x368)])] h363 fun r370 h369 =>
    ∃ x371 : Int, ∃ s372 : ByteArray, ∃ x373 : Int, ∃ x374 : Int, ∃ x375 : Int, ∃ b376 : Bool, r370 = (.tuple #[(.agg #[(.int .i64 x371), (.string s372), (.int .u32 x373), (.int .i64 x374), (.int .i64 x375)]), (.bool b376)]) ∧ 
    HU Tryz.prog (Instr.storeAt 52 (.pointer (some a65)) (.agg #[(.int .i64 x371), (.string s372), (.int .u32 x373), (.int .i64 x374), (.int .i64 x375)])) h369 fun h377 => 
    K0 a65 b376 h377))
    (drf p64 fun a378 =>
    ∃ s379 : ByteArray, HV Tryz.prog (Instr.loadAt 9 (.pointer (some a378))) h323 (.string s379) ∧ 
    drf p64 fun a380 =>
    ∃ x381 : Int, HV Tryz.prog (Instr.loadAt 3 (.pointer (some (a380.add 1)))) h323 (.int .i64 x381) ∧ 
    ∃ s382 : ByteArray, PV Tryz.prog (Instr.sliceAt 9 (.string s379) (some (.int .i64 x67)) (some (.int .i64 x381)) none) (.string s382) ∧
    HU Tryz.prog (Instr.storeAt 9 (.pointer (some (a66.add 1))) (.string s382)) h323 fun h383 => 
    ∃ x384 : Int, ∃ s385 : ByteArray, ∃ x386 : Int, ∃ x387 : Int, ∃ x388 : Int, HV Tryz.prog (Instr.loadAt 52 (.pointer (some a66))) h383 (.agg #[(.int .i64 x384), (.string s385), (.int .u32 x386), (.int .i64 x387), (.int .i64 x388)]) ∧ 
    CallsH Tryz.prog 87 #[(.pointer p64), (.agg #[(.int .i64 x384), (.string s385), (.int .u32 x386), (.int .i64 x387), (.int .i64 x388)])] h383 fun r390 h389 =>
    ∃ x391 : Int, ∃ s392 : ByteArray, ∃ x393 : Int, ∃ x394 : Int, ∃ x395 : Int, ∃ b396 : Bool, r390 = (.tuple #[(.agg #[(.int .i64 x391), (.string s392), (.int .u32 x393), (.int .i64 x394), (.int .i64 x395)]), (.bool b396)]) ∧ 
    HU Tryz.prog (Instr.storeAt 52 (.pointer (some a65)) (.agg #[(.int .i64 x391), (.string s392), (.int .u32 x393), (.int .i64 x394), (.int .i64 x395)])) h389 fun h397 => 
    K0 a65 b396 h397)
def lex_Scanner_read_m1_3_L (Q : Qx) (k : Nat) (tm : Tm) (h : Hp) : Prop :=
  selP (tm 0) fun p64 =>
  selA (tm 2) fun a65 =>
  selA (tm 4) fun a66 =>
  selI .i64 (tm 5) fun x67 =>
  lex_Scanner_read_m1_3 (fun (a296 : Addr) (b297 : Bool) h => Q (.ret) (mkTm [(2, some (.pointer (some a296))), (3, some (.bool b297))]) h) k p64 a65 a66 x67 h
def lex_Scanner_read_m1_1 (K0 : Addr → Bool → Hp → Prop)  : Nat → (Option Addr) → Addr → Addr → Hp → Prop
  | 0, _, _, _, _ => False
  | k + 1, p15, a16, a17, h =>
    drf p15 fun a398 =>
    ∃ x399 : Int, HV Tryz.prog (Instr.loadAt 3 (.pointer (some (a398.add 1)))) h (.int .i64 x399) ∧ 
    drf p15 fun a400 =>
    ∃ s401 : ByteArray, HV Tryz.prog (Instr.loadAt 9 (.pointer (some a400))) h (.string s401) ∧ 
    br (x399 == ((s401 : ByteArray).size : Int))
    (lex_Scanner_read_m1_0 K0 k p15 a16 h)
    (drf p15 fun a402 =>
    ∃ s403 : ByteArray, HV Tryz.prog (Instr.loadAt 9 (.pointer (some a402))) h (.string s403) ∧ 
    drf p15 fun a404 =>
    ∃ x405 : Int, HV Tryz.prog (Instr.loadAt 3 (.pointer (some (a404.add 1)))) h (.int .i64 x405) ∧ 
    ∃ x406 : Int, PV Tryz.prog (Instr.index 9 (.string s403) (.int .i64 x405)) (.int .u8 x406) ∧
    br (x406 == 32)
    (drf p15 fun a407 =>
    ∃ x408 : Int, HV Tryz.prog (Instr.loadAt 3 (.pointer (some (a407.add 1)))) h (.int .i64 x408) ∧ 
    drf p15 fun a409 =>
    HU Tryz.prog (Instr.storeAt 3 (.pointer (some (a409.add 1))) (.int .i64 (IntKind.i64.wrap (x408 + 1)))) h fun h410 => 
    lex_Scanner_read_m1_1 K0 k p15 a16 a17 h410)
    (br (x406 == 9)
    (drf p15 fun a411 =>
    ∃ x412 : Int, HV Tryz.prog (Instr.loadAt 3 (.pointer (some (a411.add 1)))) h (.int .i64 x412) ∧ 
    drf p15 fun a413 =>
    HU Tryz.prog (Instr.storeAt 3 (.pointer (some (a413.add 1))) (.int .i64 (IntKind.i64.wrap (x412 + 1)))) h fun h414 => 
    lex_Scanner_read_m1_1 K0 k p15 a16 a17 h414)
    (br (x406 == 13)
    (drf p15 fun a415 =>
    ∃ x416 : Int, HV Tryz.prog (Instr.loadAt 3 (.pointer (some (a415.add 1)))) h (.int .i64 x416) ∧ 
    drf p15 fun a417 =>
    HU Tryz.prog (Instr.storeAt 3 (.pointer (some (a417.add 1))) (.int .i64 (IntKind.i64.wrap (x416 + 1)))) h fun h418 => 
    lex_Scanner_read_m1_1 K0 k p15 a16 a17 h418)
    (br (x406 == 35)
    (lex_Scanner_read_m1_2 K0 k p15 a16 h)
    (br (x406 == 10)
    (lex_Scanner_read_m1_0 K0 k p15 a16 h)
    (CallsH Tryz.prog 86 #[(.int .i32 (IntKind.i32.wrap (x406)))] h fun r420 h419 =>
    ∃ x421 : Int, r420 = (.int .i64 x421) ∧ 
    drf p15 fun a422 =>
    ∃ x423 : Int, HV Tryz.prog (Instr.loadAt 3 (.pointer (some (a422.add 2)))) h419 (.int .i64 x423) ∧ HV Tryz.prog (Instr.loadAt 3 (.pointer (some (a422.add 2)))) h (.int .i64 x423) ∧ 
    drf p15 fun a424 =>
    ∃ x425 : Int, HV Tryz.prog (Instr.loadAt 3 (.pointer (some (a424.add 1)))) h419 (.int .i64 x425) ∧ HV Tryz.prog (Instr.loadAt 3 (.pointer (some (a424.add 1)))) h (.int .i64 x425) ∧ 
    drf p15 fun a426 =>
    ∃ x427 : Int, HV Tryz.prog (Instr.loadAt 3 (.pointer (some (a426.add 3)))) h419 (.int .i64 x427) ∧ HV Tryz.prog (Instr.loadAt 3 (.pointer (some (a426.add 3)))) h (.int .i64 x427) ∧ 
    HU Tryz.prog (Instr.storeAt 52 (.pointer (some a17)) (.agg #[(.int .i64 x421), (.string ⟨#[]⟩), (.int .u32 0), (.int .i64 x423), (.int .i64 (IntKind.i64.wrap ((IntKind.i64.wrap (x425 - x427)) + 1)))])) h419 fun h428 => 
    drf p15 fun a429 =>
    ∃ x430 : Int, HV Tryz.prog (Instr.loadAt 3 (.pointer (some (a429.add 1)))) h428 (.int .i64 x430) ∧ 
    ∃ x431 : Int, HV Tryz.prog (Instr.loadAt 49 (.pointer (some a17))) h428 (.int .i64 x431) ∧ 
    br (x431 == 0)
    (∃ x432 : Int, HV Tryz.prog (Instr.loadAt 3 (.pointer (some (a17.add 3)))) h428 (.int .i64 x432) ∧ 
    ∃ x433 : Int, HV Tryz.prog (Instr.loadAt 3 (.pointer (some (a17.add 4)))) h428 (.int .i64 x433) ∧ 
    newC h428 (.cells #[(.int .i64 90), (.int .i64 x432), (.int .i64 x433)] 34 (0, 0)) fun a435 h434 => 
    drf p15 fun a436 =>
    HU Tryz.prog (Instr.storeAt 27 (.pointer (some (a436.add 6))) (.pointer (some a435))) h434 fun h437 => 
    ∃ x438 : Int, ∃ s439 : ByteArray, ∃ x440 : Int, ∃ x441 : Int, ∃ x442 : Int, HV Tryz.prog (Instr.loadAt 52 (.pointer (some a17))) h437 (.agg #[(.int .i64 x438), (.string s439), (.int .u32 x440), (.int .i64 x441), (.int .i64 x442)]) ∧ 
    HU Tryz.prog (Instr.storeAt 52 (.pointer (some a16)) (.agg #[(.int .i64 x438), (.string s439), (.int .u32 x440), (.int .i64 x441), (.int .i64 x442)])) h437 fun h443 => 
    K0 a16 false h443)
    (lex_Scanner_read_m1_3 K0 (k + 1) p15 a16 a17 x430 h428)))))))
def lex_Scanner_read_m1_1_L (Q : Qx) (k : Nat) (tm : Tm) (h : Hp) : Prop :=
  selP (tm 0) fun p15 =>
  selA (tm 2) fun a16 =>
  selA (tm 4) fun a17 =>
  lex_Scanner_read_m1_1 (fun (a296 : Addr) (b297 : Bool) h => Q (.ret) (mkTm [(2, some (.pointer (some a296))), (3, some (.bool b297))]) h) k p15 a16 a17 h
set_option maxRecDepth 100000 in
def lex_Scanner_read (p1 : Option Addr) (h : Hp) (K : Value → Hp → Prop) : Prop :=
  newC h (.cells #[(.int .i64 0), (.string ⟨#[]⟩), (.int .u32 0), (.int .i64 0), (.int .i64 0)] 52 (0, 0)) fun a3 h2 => 
  ∃ k444, newC h2 (.cells #[(.int .i64 0), (.string ⟨#[]⟩), (.int .u32 0), (.int .i64 0), (.int .i64 0)] 52 (0, 0)) fun a446 h445 => 
  drf p1 fun a447 =>
  ∃ p448 : Option Addr, HV Tryz.prog (Instr.loadAt 27 (.pointer (some (a447.add 6)))) h445 (.pointer p448) ∧ 
  ∃ b449 : Bool, PV Tryz.prog (binOp .neq 27 (.pointer p448) (.pointer none)) (.bool b449) ∧
  br b449
  (∃ x450 : Int, ∃ s451 : ByteArray, ∃ x452 : Int, ∃ x453 : Int, ∃ x454 : Int, HV Tryz.prog (Instr.loadAt 52 (.pointer (some a446))) h445 (.agg #[(.int .i64 x450), (.string s451), (.int .u32 x452), (.int .i64 x453), (.int .i64 x454)]) ∧ 
  HU Tryz.prog (Instr.storeAt 52 (.pointer (some a3)) (.agg #[(.int .i64 x450), (.string s451), (.int .u32 x452), (.int .i64 x453), (.int .i64 x454)])) h445 fun h455 => 
  ∃ x456 : Int, ∃ s457 : ByteArray, ∃ x458 : Int, ∃ x459 : Int, ∃ x460 : Int, HV Tryz.prog (Instr.loadAt 52 (.pointer (some a3))) h455 (.agg #[(.int .i64 x456), (.string s457), (.int .u32 x458), (.int .i64 x459), (.int .i64 x460)]) ∧ K (.tuple #[(.agg #[(.int .i64 x456), (.string s457), (.int .u32 x458), (.int .i64 x459), (.int .i64 x460)]), (.bool false)]) h455)
  (lex_Scanner_read_m1_1
  (fun (a461 : Addr) (b462 : Bool) (h463 : Hp) =>
  ∃ x464 : Int, ∃ s465 : ByteArray, ∃ x466 : Int, ∃ x467 : Int, ∃ x468 : Int, HV Tryz.prog (Instr.loadAt 52 (.pointer (some a461))) h463 (.agg #[(.int .i64 x464), (.string s465), (.int .u32 x466), (.int .i64 x467), (.int .i64 x468)]) ∧ K (.tuple #[(.agg #[(.int .i64 x464), (.string s465), (.int .u32 x466), (.int .i64 x467), (.int .i64 x468)]), (.bool b462)]) h463)
   (k444 + 1) p1 a3 a446 h445)
noncomputable def lex_Scanner_read_m1_ls : List Lab := [⟨1, (Code.seq .skip (sub (bodyOf Tryz.f71) [true, false, true, true, true, true])), 1, [0, 2, 4], (fun e => match e with | .ret => [2, 3] | _ => [])⟩, ⟨3, (Code.seq .skip (sub (bodyOf Tryz.f71) [true, false, true, true, true, true, true, true, true, true, true])), 1, [0, 2, 4, 5], (fun e => match e with | .ret => [2, 3] | _ => [])⟩, ⟨2, (Code.seq .skip (sub (bodyOf Tryz.f71) [true, false, true, true, true, true, true, true, true, true, true, true, true, true, true, true])), 1, [0, 2], (fun e => match e with | .ret => [2, 3] | _ => [])⟩, ⟨0, (Code.seq .skip (sub (bodyOf Tryz.f71) [true, false, true, true, true, true, true, true, true, true, true, true, true, true, true, true, true, true])), 1, [0, 2], (fun e => match e with | .ret => [2, 3] | _ => [])⟩]
def lex_Scanner_read_m1_G (l : Nat) (Q : Qx) (k : Nat) (tm : Tm) (h : Hp) : Prop := match Nat.beq l 1 with
  | true => lex_Scanner_read_m1_1_L Q k tm h
  | false => match Nat.beq l 3 with
  | true => lex_Scanner_read_m1_3_L Q k tm h
  | false => match Nat.beq l 2 with
  | true => lex_Scanner_read_m1_2_L Q k tm h
  | false => match Nat.beq l 0 with
  | true => lex_Scanner_read_m1_0_L Q k tm h
  | false => False
def lex_Scanner_read_m1_S (Q : Qx) (tm : Tm) (h : Hp) : Prop := ∃ k, codeWp Tryz.prog 170 false lp0 cut0 (sub (bodyOf Tryz.f71) [true, false]) 6 (gotoM lex_Scanner_read_m1_ls (fun l tm h => lex_Scanner_read_m1_G l Q k tm h) Q) tm h
def lex_Scanner_read_lp (i : Nat) (Q : Qx) (tm : Tm) (h : Hp) : Prop := match Nat.beq i 3 with
  | true => lex_Scanner_read_m1_S Q tm h
  | false => False
def lex_Scanner_read_cut (i : Nat) : Option (List Nat) := match Nat.beq i 3 with
  | true => some []
  | false => none
set_option maxRecDepth 100000 in
theorem lex_Scanner_read_m1_1_step (Q : Qx) (k : Nat) (p15 : Option Addr) (a16 : Addr) (a17 : Addr) (h : Hp) : lex_Scanner_read_m1_G 1 Q (k + 1) (mkTm [(0, some (.pointer p15)), (2, some (.pointer (some a16))), (4, some (.pointer (some a17)))]) h =
    codeWp Tryz.prog 170 false lp0 cut0 (Code.seq .skip (sub (bodyOf Tryz.f71) [true, false, true, true, true, true])) 1 (gotoM lex_Scanner_read_m1_ls (fun l tm h => lex_Scanner_read_m1_G l Q k tm h) (maskQ (fun e => match e with | .ret => [2, 3] | _ => []) Q)) (mkTm [(0, some (.pointer p15)), (2, some (.pointer (some a16))), (4, some (.pointer (some a17)))]) h := by kernel_rfl
theorem lex_Scanner_read_m1_1_mask (Q : Qx) (k : Nat) (tm : Tm) (h : Hp) : lex_Scanner_read_m1_1_L Q k tm h ↔ lex_Scanner_read_m1_1_L Q k (mask [0, 2, 4] tm) h := Iff.rfl
set_option maxRecDepth 100000 in
theorem lex_Scanner_read_m1_1_ok : findLabel (sub (bodyOf Tryz.f71) [true, false]) 1 = some (Code.seq .skip (sub (bodyOf Tryz.f71) [true, false, true, true, true, true])) ∧ Good Tryz.prog 170 none false lp0 cut0 (Code.seq .skip (sub (bodyOf Tryz.f71) [true, false, true, true, true, true])) 1 ∧ (∀ Q tm h, ¬ lex_Scanner_read_m1_G 1 Q 0 tm h) ∧
      ∀ Q k tm h, lex_Scanner_read_m1_G 1 Q (k + 1) tm h → codeWp Tryz.prog 170 false lp0 cut0 (Code.seq .skip (sub (bodyOf Tryz.f71) [true, false, true, true, true, true])) 1 (gotoM lex_Scanner_read_m1_ls (fun l tm h => lex_Scanner_read_m1_G l Q k tm h) (maskQ (fun e => match e with | .ret => [2, 3] | _ => []) Q)) (mask [0, 2, 4] tm) h := by
  refine ⟨by kernel_rfl, good_by (pn := false) (c := (Code.seq .skip (sub (bodyOf Tryz.f71) [true, false, true, true, true, true]))) (i := 1) (l := []) (by kernel_rfl) (fun _ h => by cases h), ?_, ?_⟩
  · intro Q tm h H
    have H : lex_Scanner_read_m1_1_L Q 0 tm h := H
    obtain ⟨p15, e0, H⟩ := selP_ex H
    obtain ⟨a16, e2, H⟩ := selA_ex H
    obtain ⟨a17, e4, H⟩ := selA_ex H
    exact H
  · intro Q k tm h H
    have H : lex_Scanner_read_m1_1_L Q (k + 1) tm h := H
    have H0 := H
    obtain ⟨p15, e0, H⟩ := selP_ex H
    obtain ⟨a16, e2, H⟩ := selA_ex H
    obtain ⟨a17, e4, H⟩ := selA_ex H
    have e : mask [0, 2, 4] tm = mkTm [(0, some (.pointer p15)), (2, some (.pointer (some a16))), (4, some (.pointer (some a17)))] := by simp only [mask, List.map_cons, List.map_nil, e0, e2, e4] <;> rfl
    rw [e]
    refine Eq.mp (lex_Scanner_read_m1_1_step Q k p15 a16 a17 h) ?_
    rw [← e]
    exact (lex_Scanner_read_m1_1_mask Q (k + 1) tm h).mp H0
set_option maxRecDepth 100000 in
theorem lex_Scanner_read_m1_3_step (Q : Qx) (k : Nat) (p64 : Option Addr) (a65 : Addr) (a66 : Addr) (x67 : Int) (h : Hp) : lex_Scanner_read_m1_G 3 Q (k + 1) (mkTm [(0, some (.pointer p64)), (2, some (.pointer (some a65))), (4, some (.pointer (some a66))), (5, some (.int .i64 x67))]) h =
    codeWp Tryz.prog 170 false lp0 cut0 (Code.seq .skip (sub (bodyOf Tryz.f71) [true, false, true, true, true, true, true, true, true, true, true])) 1 (gotoM lex_Scanner_read_m1_ls (fun l tm h => lex_Scanner_read_m1_G l Q k tm h) (maskQ (fun e => match e with | .ret => [2, 3] | _ => []) Q)) (mkTm [(0, some (.pointer p64)), (2, some (.pointer (some a65))), (4, some (.pointer (some a66))), (5, some (.int .i64 x67))]) h := by kernel_rfl
theorem lex_Scanner_read_m1_3_mask (Q : Qx) (k : Nat) (tm : Tm) (h : Hp) : lex_Scanner_read_m1_3_L Q k tm h ↔ lex_Scanner_read_m1_3_L Q k (mask [0, 2, 4, 5] tm) h := Iff.rfl
set_option maxRecDepth 100000 in
theorem lex_Scanner_read_m1_3_ok : findLabel (sub (bodyOf Tryz.f71) [true, false]) 3 = some (Code.seq .skip (sub (bodyOf Tryz.f71) [true, false, true, true, true, true, true, true, true, true, true])) ∧ Good Tryz.prog 170 none false lp0 cut0 (Code.seq .skip (sub (bodyOf Tryz.f71) [true, false, true, true, true, true, true, true, true, true, true])) 1 ∧ (∀ Q tm h, ¬ lex_Scanner_read_m1_G 3 Q 0 tm h) ∧
      ∀ Q k tm h, lex_Scanner_read_m1_G 3 Q (k + 1) tm h → codeWp Tryz.prog 170 false lp0 cut0 (Code.seq .skip (sub (bodyOf Tryz.f71) [true, false, true, true, true, true, true, true, true, true, true])) 1 (gotoM lex_Scanner_read_m1_ls (fun l tm h => lex_Scanner_read_m1_G l Q k tm h) (maskQ (fun e => match e with | .ret => [2, 3] | _ => []) Q)) (mask [0, 2, 4, 5] tm) h := by
  refine ⟨by kernel_rfl, good_by (pn := false) (c := (Code.seq .skip (sub (bodyOf Tryz.f71) [true, false, true, true, true, true, true, true, true, true, true]))) (i := 1) (l := []) (by kernel_rfl) (fun _ h => by cases h), ?_, ?_⟩
  · intro Q tm h H
    have H : lex_Scanner_read_m1_3_L Q 0 tm h := H
    obtain ⟨p64, e0, H⟩ := selP_ex H
    obtain ⟨a65, e2, H⟩ := selA_ex H
    obtain ⟨a66, e4, H⟩ := selA_ex H
    obtain ⟨x67, e5, H⟩ := selI_ex H
    exact H
  · intro Q k tm h H
    have H : lex_Scanner_read_m1_3_L Q (k + 1) tm h := H
    have H0 := H
    obtain ⟨p64, e0, H⟩ := selP_ex H
    obtain ⟨a65, e2, H⟩ := selA_ex H
    obtain ⟨a66, e4, H⟩ := selA_ex H
    obtain ⟨x67, e5, H⟩ := selI_ex H
    have e : mask [0, 2, 4, 5] tm = mkTm [(0, some (.pointer p64)), (2, some (.pointer (some a65))), (4, some (.pointer (some a66))), (5, some (.int .i64 x67))] := by simp only [mask, List.map_cons, List.map_nil, e0, e2, e4, e5] <;> rfl
    rw [e]
    refine Eq.mp (lex_Scanner_read_m1_3_step Q k p64 a65 a66 x67 h) ?_
    rw [← e]
    exact (lex_Scanner_read_m1_3_mask Q (k + 1) tm h).mp H0
set_option maxRecDepth 100000 in
theorem lex_Scanner_read_m1_2_step (Q : Qx) (k : Nat) (p146 : Option Addr) (a147 : Addr) (h : Hp) : lex_Scanner_read_m1_G 2 Q (k + 1) (mkTm [(0, some (.pointer p146)), (2, some (.pointer (some a147)))]) h =
    codeWp Tryz.prog 170 false lp0 cut0 (Code.seq .skip (sub (bodyOf Tryz.f71) [true, false, true, true, true, true, true, true, true, true, true, true, true, true, true, true])) 1 (gotoM lex_Scanner_read_m1_ls (fun l tm h => lex_Scanner_read_m1_G l Q k tm h) (maskQ (fun e => match e with | .ret => [2, 3] | _ => []) Q)) (mkTm [(0, some (.pointer p146)), (2, some (.pointer (some a147)))]) h := by kernel_rfl
theorem lex_Scanner_read_m1_2_mask (Q : Qx) (k : Nat) (tm : Tm) (h : Hp) : lex_Scanner_read_m1_2_L Q k tm h ↔ lex_Scanner_read_m1_2_L Q k (mask [0, 2] tm) h := Iff.rfl
set_option maxRecDepth 100000 in
theorem lex_Scanner_read_m1_2_ok : findLabel (sub (bodyOf Tryz.f71) [true, false]) 2 = some (Code.seq .skip (sub (bodyOf Tryz.f71) [true, false, true, true, true, true, true, true, true, true, true, true, true, true, true, true])) ∧ Good Tryz.prog 170 none false lp0 cut0 (Code.seq .skip (sub (bodyOf Tryz.f71) [true, false, true, true, true, true, true, true, true, true, true, true, true, true, true, true])) 1 ∧ (∀ Q tm h, ¬ lex_Scanner_read_m1_G 2 Q 0 tm h) ∧
      ∀ Q k tm h, lex_Scanner_read_m1_G 2 Q (k + 1) tm h → codeWp Tryz.prog 170 false lp0 cut0 (Code.seq .skip (sub (bodyOf Tryz.f71) [true, false, true, true, true, true, true, true, true, true, true, true, true, true, true, true])) 1 (gotoM lex_Scanner_read_m1_ls (fun l tm h => lex_Scanner_read_m1_G l Q k tm h) (maskQ (fun e => match e with | .ret => [2, 3] | _ => []) Q)) (mask [0, 2] tm) h := by
  refine ⟨by kernel_rfl, good_by (pn := false) (c := (Code.seq .skip (sub (bodyOf Tryz.f71) [true, false, true, true, true, true, true, true, true, true, true, true, true, true, true, true]))) (i := 1) (l := []) (by kernel_rfl) (fun _ h => by cases h), ?_, ?_⟩
  · intro Q tm h H
    have H : lex_Scanner_read_m1_2_L Q 0 tm h := H
    obtain ⟨p146, e0, H⟩ := selP_ex H
    obtain ⟨a147, e2, H⟩ := selA_ex H
    exact H
  · intro Q k tm h H
    have H : lex_Scanner_read_m1_2_L Q (k + 1) tm h := H
    have H0 := H
    obtain ⟨p146, e0, H⟩ := selP_ex H
    obtain ⟨a147, e2, H⟩ := selA_ex H
    have e : mask [0, 2] tm = mkTm [(0, some (.pointer p146)), (2, some (.pointer (some a147)))] := by simp only [mask, List.map_cons, List.map_nil, e0, e2] <;> rfl
    rw [e]
    refine Eq.mp (lex_Scanner_read_m1_2_step Q k p146 a147 h) ?_
    rw [← e]
    exact (lex_Scanner_read_m1_2_mask Q (k + 1) tm h).mp H0
set_option maxRecDepth 100000 in
theorem lex_Scanner_read_m1_0_step (Q : Qx) (k : Nat) (p161 : Option Addr) (a162 : Addr) (h : Hp) : lex_Scanner_read_m1_G 0 Q (k + 1) (mkTm [(0, some (.pointer p161)), (2, some (.pointer (some a162)))]) h =
    codeWp Tryz.prog 170 false lp0 cut0 (Code.seq .skip (sub (bodyOf Tryz.f71) [true, false, true, true, true, true, true, true, true, true, true, true, true, true, true, true, true, true])) 1 (gotoM lex_Scanner_read_m1_ls (fun l tm h => lex_Scanner_read_m1_G l Q k tm h) (maskQ (fun e => match e with | .ret => [2, 3] | _ => []) Q)) (mkTm [(0, some (.pointer p161)), (2, some (.pointer (some a162)))]) h := by kernel_rfl
theorem lex_Scanner_read_m1_0_mask (Q : Qx) (k : Nat) (tm : Tm) (h : Hp) : lex_Scanner_read_m1_0_L Q k tm h ↔ lex_Scanner_read_m1_0_L Q k (mask [0, 2] tm) h := Iff.rfl
set_option maxRecDepth 100000 in
theorem lex_Scanner_read_m1_0_ok : findLabel (sub (bodyOf Tryz.f71) [true, false]) 0 = some (Code.seq .skip (sub (bodyOf Tryz.f71) [true, false, true, true, true, true, true, true, true, true, true, true, true, true, true, true, true, true])) ∧ Good Tryz.prog 170 none false lp0 cut0 (Code.seq .skip (sub (bodyOf Tryz.f71) [true, false, true, true, true, true, true, true, true, true, true, true, true, true, true, true, true, true])) 1 ∧ (∀ Q tm h, ¬ lex_Scanner_read_m1_G 0 Q 0 tm h) ∧
      ∀ Q k tm h, lex_Scanner_read_m1_G 0 Q (k + 1) tm h → codeWp Tryz.prog 170 false lp0 cut0 (Code.seq .skip (sub (bodyOf Tryz.f71) [true, false, true, true, true, true, true, true, true, true, true, true, true, true, true, true, true, true])) 1 (gotoM lex_Scanner_read_m1_ls (fun l tm h => lex_Scanner_read_m1_G l Q k tm h) (maskQ (fun e => match e with | .ret => [2, 3] | _ => []) Q)) (mask [0, 2] tm) h := by
  refine ⟨by kernel_rfl, good_by (pn := false) (c := (Code.seq .skip (sub (bodyOf Tryz.f71) [true, false, true, true, true, true, true, true, true, true, true, true, true, true, true, true, true, true]))) (i := 1) (l := []) (by kernel_rfl) (fun _ h => by cases h), ?_, ?_⟩
  · intro Q tm h H
    have H : lex_Scanner_read_m1_0_L Q 0 tm h := H
    obtain ⟨p161, e0, H⟩ := selP_ex H
    obtain ⟨a162, e2, H⟩ := selA_ex H
    exact H
  · intro Q k tm h H
    have H : lex_Scanner_read_m1_0_L Q (k + 1) tm h := H
    have H0 := H
    obtain ⟨p161, e0, H⟩ := selP_ex H
    obtain ⟨a162, e2, H⟩ := selA_ex H
    have e : mask [0, 2] tm = mkTm [(0, some (.pointer p161)), (2, some (.pointer (some a162)))] := by simp only [mask, List.map_cons, List.map_nil, e0, e2] <;> rfl
    rw [e]
    refine Eq.mp (lex_Scanner_read_m1_0_step Q k p161 a162 h) ?_
    rw [← e]
    exact (lex_Scanner_read_m1_0_mask Q (k + 1) tm h).mp H0
set_option maxRecDepth 100000 in
theorem lex_Scanner_read_m1_snd : SndAt Tryz.prog 170 none (sub (bodyOf Tryz.f71) [true]) (lex_Scanner_read_lp 3) :=
  scopes_sound (lp := lp0) (cut := cut0) (c := (sub (bodyOf Tryz.f71) [true, false])) (i := 6) lex_Scanner_read_m1_ls lex_Scanner_read_m1_G (good_by (pn := false) (c := (sub (bodyOf Tryz.f71) [true, false])) (i := 6) (l := []) (by kernel_rfl) (fun _ h => by cases h)) (List.forall_mem_cons.2 ⟨lex_Scanner_read_m1_1_ok, (List.forall_mem_cons.2 ⟨lex_Scanner_read_m1_3_ok, (List.forall_mem_cons.2 ⟨lex_Scanner_read_m1_2_ok, (List.forall_mem_cons.2 ⟨lex_Scanner_read_m1_0_ok, (fun _ h => by cases h)⟩)⟩)⟩)⟩)
set_option maxRecDepth 100000 in
theorem lex_Scanner_read_eq (p1 : Option Addr) (h : Hp) (K : Value → Hp → Prop) : lex_Scanner_read p1 h K =
    codeWp Tryz.prog 170 false lex_Scanner_read_lp lex_Scanner_read_cut (bodyOf Tryz.f71) 1 (endQ Tryz.prog Tryz.f71.results.toList K) (argTm [(.pointer p1)]) h := by kernel_rfl
set_option maxRecDepth 100000 in
theorem lex_Scanner_read_ok (p1 : Option Addr) {h : Hp} {K : Value → Hp → Prop} (H : lex_Scanner_read p1 h K) : CallsH Tryz.prog 71 #[(.pointer p1)] h K :=
  calls_of (pn := false) (args := [(.pointer p1)]) (n := 170) (lp := lex_Scanner_read_lp) (cut := lex_Scanner_read_cut) Tryz.func71 (c := bodyOf Tryz.f71) (by kernel_rfl) (by kernel_rfl) (by kernel_rfl) (good_by (pn := false) (c := (bodyOf Tryz.f71)) (i := 1) (l := [(3, (sub (bodyOf Tryz.f71) [true]))]) (by kernel_rfl) (List.forall_mem_cons.2 ⟨lex_Scanner_read_m1_snd, (fun _ h => by cases h)⟩))
    (Eq.mp (lex_Scanner_read_eq p1 h K) H)

/-! ### quintet/lex.New: function 39 -/
set_option maxRecDepth 100000 in
def lex_New (s1 : ByteArray) (h : Hp) (K : Value → Hp → Prop) : Prop :=
  newC h (.cells #[(.string s1), (.int .i64 0), (.int .i64 1), (.int .i64 0), (.slice none 0 0), (.int .i64 0), (.pointer none)] 173 (0, 0)) fun a3 h2 => 
  br (decide (((s1 : ByteArray).size : Int) > 65536))
  (newC h2 (.cells #[(.int .i64 2), (.int .i64 0), (.int .i64 0)] 34 (0, 0)) fun a5 h4 => 
  HU Tryz.prog (Instr.storeAt 27 (.pointer (some (a3.add 6))) (.pointer (some a5))) h4 fun h6 => 
  K (.pointer (some a3)) h6)
  (CallsH Tryz.prog 70 #[(.pointer (some a3))] h2 fun r8 h7 =>
  r8 = (.tuple #[]) ∧ 
  K (.pointer (some a3)) h7)
def lex_New_lp (i : Nat) (Q : Qx) (tm : Tm) (h : Hp) : Prop := False
def lex_New_cut (i : Nat) : Option (List Nat) := none
set_option maxRecDepth 100000 in
theorem lex_New_eq (s1 : ByteArray) (h : Hp) (K : Value → Hp → Prop) : lex_New s1 h K =
    codeWp Tryz.prog 18 false lex_New_lp lex_New_cut (bodyOf Tryz.f39) 1 (endQ Tryz.prog Tryz.f39.results.toList K) (argTm [(.string s1)]) h := by kernel_rfl
set_option maxRecDepth 100000 in
theorem lex_New_ok (s1 : ByteArray) {h : Hp} {K : Value → Hp → Prop} (H : lex_New s1 h K) : CallsH Tryz.prog 39 #[(.string s1)] h K :=
  calls_of (pn := false) (args := [(.string s1)]) (n := 18) (lp := lex_New_lp) (cut := lex_New_cut) Tryz.func39 (c := bodyOf Tryz.f39) (by kernel_rfl) (by kernel_rfl) (by kernel_rfl) (good_by (pn := false) (c := (bodyOf Tryz.f39)) (i := 1) (l := []) (by kernel_rfl) (fun _ h => by cases h))
    (Eq.mp (lex_New_eq s1 h K) H)

/-! ### (*quintet/lex.Scanner).Next: function 40 -/
def lex_Scanner_Next_j1 (K0 : Addr → Bool → Value → Hp → Prop) (p44 : Option Addr) (a45 : Addr) (h : Hp) : Prop :=
  drf p44 fun a64 =>
  ∃ x65 : Int, HV Tryz.prog (Instr.loadAt 3 (.pointer (some (a64.add 5)))) h (.int .i64 x65) ∧ 
  drf p44 fun a66 =>
  HU Tryz.prog (Instr.storeAt 3 (.pointer (some (a66.add 5))) (.int .i64 (IntKind.i64.wrap (x65 + 1)))) h fun h67 => 
  drf p44 fun a68 =>
  ∃ A69 : Option Addr, ∃ l69 : Nat, ∃ c69 : Nat, HV Tryz.prog (Instr.loadAt 46 (.pointer (some (a68.add 4)))) h67 (.slice A69 l69 c69) ∧ 
  drf p44 fun a70 =>
  ∃ x71 : Int, HV Tryz.prog (Instr.loadAt 3 (.pointer (some (a70.add 5)))) h67 (.int .i64 x71) ∧ 
  ∃ a72 : Addr, PV Tryz.prog (Instr.indexAt 46 (.slice A69 l69 c69) (.int .i64 (IntKind.i64.wrap (x71 - 1)))) (.pointer (some a72)) ∧
  ∃ x73 : Int, ∃ s74 : ByteArray, ∃ x75 : Int, ∃ x76 : Int, ∃ x77 : Int, HV Tryz.prog (Instr.loadAt 52 (.pointer (some a72))) h67 (.agg #[(.int .i64 x73), (.string s74), (.int .u32 x75), (.int .i64 x76), (.int .i64 x77)]) ∧ 
  HU Tryz.prog (Instr.storeAt 52 (.pointer (some a45)) (.agg #[(.int .i64 x73), (.string s74), (.int .u32 x75), (.int .i64 x76), (.int .i64 x77)])) h67 fun h78 => 
  K0 a45 true .nilIface h78
def lex_Scanner_Next_j1_L (Q : Qx) (tm : Tm) (h : Hp) : Prop :=
  selP (tm 0) fun p44 =>
  selA (tm 2) fun a45 =>
  lex_Scanner_Next_j1 (fun (a61 : Addr) (b62 : Bool) (v63 : Value) h => Q (.ret) (mkTm [(2, some (.pointer (some a61))), (3, some (.bool b62)), (4, some v63)]) h) p44 a45 h
set_option maxRecDepth 100000 in
def lex_Scanner_Next (p1 : Option Addr) (h : Hp) (K : Value → Hp → Prop) : Prop :=
  newC h (.cells #[(.int .i64 0), (.string ⟨#[]⟩), (.int .u32 0), (.int .i64 0), (.int .i64 0)] 52 (0, 0)) fun a3 h2 => 
  ∃ b4 : Bool, PV Tryz.prog (binOp .eql 118 (.pointer p1) (.pointer none)) (.bool b4) ∧
  br b4
  (HU Tryz.prog (Instr.storeAt 52 (.pointer (some a3)) (.agg #[(.int .i64 0), (.string ⟨#[]⟩), (.int .u32 0), (.int .i64 0), (.int .i64 0)])) h2 fun h5 => 
  ∃ x6 : Int, ∃ s7 : ByteArray, ∃ x8 : Int, ∃ x9 : Int, ∃ x10 : Int, HV Tryz.prog (Instr.loadAt 52 (.pointer (some a3))) h5 (.agg #[(.int .i64 x6), (.string s7), (.int .u32 x8), (.int .i64 x9), (.int .i64 x10)]) ∧ K (.tuple #[(.agg #[(.int .i64 x6), (.string s7), (.int .u32 x8), (.int .i64 x9), (.int .i64 x10)]), (.bool false), .nilIface]) h5)
  (drf p1 fun a79 =>
  ∃ x80 : Int, HV Tryz.prog (Instr.loadAt 3 (.pointer (some (a79.add 5)))) h2 (.int .i64 x80) ∧ 
  drf p1 fun a81 =>
  ∃ A82 : Option Addr, ∃ l82 : Nat, ∃ c82 : Nat, HV Tryz.prog (Instr.loadAt 46 (.pointer (some (a81.add 4)))) h2 (.slice A82 l82 c82) ∧ 
  br (x80 == (l82 : Int))
  (CallsH Tryz.prog 71 #[(.pointer p1)] h2 fun r84 h83 =>
  ∃ x85 : Int, ∃ s86 : ByteArray, ∃ x87 : Int, ∃ x88 : Int, ∃ x89 : Int, ∃ b90 : Bool, r84 = (.tuple #[(.agg #[(.int .i64 x85), (.string s86), (.int .u32 x87), (.int .i64 x88), (.int .i64 x89)]), (.bool b90)]) ∧ 
  newC h83 (.cells #[(.int .i64 0), (.string ⟨#[]⟩), (.int .u32 0), (.int .i64 0), (.int .i64 0)] 52 (0, 0)) fun a92 h91 => 
  HU Tryz.prog (Instr.storeAt 52 (.pointer (some a92)) (.agg #[(.int .i64 x85), (.string s86), (.int .u32 x87), (.int .i64 x88), (.int .i64 x89)])) h91 fun h93 => 
  br (!b90)
  (CallsH Tryz.prog 72 #[(.pointer p1)] h93 fun r95 h94 =>
  ∃ v96 : Value, r95 = v96 ∧ 
  HU Tryz.prog (Instr.storeAt 52 (.pointer (some a3)) (.agg #[(.int .i64 0), (.string ⟨#[]⟩), (.int .u32 0), (.int .i64 0), (.int .i64 0)])) h94 fun h97 => 
  ∃ x98 : Int, ∃ s99 : ByteArray, ∃ x100 : Int, ∃ x101 : Int, ∃ x102 : Int, HV Tryz.prog (Instr.loadAt 52 (.pointer (some a3))) h97 (.agg #[(.int .i64 x98), (.string s99), (.int .u32 x100), (.int .i64 x101), (.int .i64 x102)]) ∧ K (.tuple #[(.agg #[(.int .i64 x98), (.string s99), (.int .u32 x100), (.int .i64 x101), (.int .i64 x102)]), (.bool false), v96]) h97)
  (drf p1 fun a103 =>
  ∃ A104 : Option Addr, ∃ l104 : Nat, ∃ c104 : Nat, HV Tryz.prog (Instr.loadAt 46 (.pointer (some (a103.add 4)))) h93 (.slice A104 l104 c104) ∧ 
  ∃ x105 : Int, ∃ s106 : ByteArray, ∃ x107 : Int, ∃ x108 : Int, ∃ x109 : Int, HV Tryz.prog (Instr.loadAt 52 (.pointer (some a92))) h93 (.agg #[(.int .i64 x105), (.string s106), (.int .u32 x107), (.int .i64 x108), (.int .i64 x109)]) ∧ 
  newC h93 (.cells #[(.int .i64 x105), (.string s106), (.int .u32 x107), (.int .i64 x108), (.int .i64 x109)] 52 (0, 0)) fun a111 h110 => HV Tryz.prog (Instr.loadAt 46 (.pointer (some (a103.add 4)))) h110 (.slice A104 l104 c104) ∧ 
  HW Tryz.prog (Builtin.append_ #[46, 46] 46 #[(.slice A104 l104 c104), (.slice (some a111) 1 1)]) h110 fun r113 h112 =>
  ∃ A114 : Option Addr, ∃ l114 : Nat, ∃ c114 : Nat, r113 = (.slice A114 l114 c114) ∧ 
  drf p1 fun a115 =>
  HU Tryz.prog (Instr.storeAt 46 (.pointer (some (a115.add 4))) (.slice A114 l114 c114)) h112 fun h116 => 
  lex_Scanner_Next_j1
  (fun (a117 : Addr) (b118 : Bool) (v119 : Value) (h120 : Hp) =>
  ∃ x121 : Int, ∃ s122 : ByteArray, ∃ x123 : Int, ∃ x124 : Int, ∃ x125 : Int, HV Tryz.prog (Instr.loadAt 52 (.pointer (some a117))) h120 (.agg #[(.int .i64 x121), (.string s122), (.int .u32 x123), (.int .i64 x124), (.int .i64 x125)]) ∧ K (.tuple #[(.agg #[(.int .i64 x121), (.string s122), (.int .u32 x123), (.int .i64 x124), (.int .i64 x125)]), (.bool b118), v119]) h120)
  p1 a3 h116))
  (lex_Scanner_Next_j1
  (fun (a126 : Addr) (b127 : Bool) (v128 : Value) (h129 : Hp) =>
  ∃ x130 : Int, ∃ s131 : ByteArray, ∃ x132 : Int, ∃ x133 : Int, ∃ x134 : Int, HV Tryz.prog (Instr.loadAt 52 (.pointer (some a126))) h129 (.agg #[(.int .i64 x130), (.string s131), (.int .u32 x132), (.int .i64 x133), (.int .i64 x134)]) ∧ K (.tuple #[(.agg #[(.int .i64 x130), (.string s131), (.int .u32 x132), (.int .i64 x133), (.int .i64 x134)]), (.bool b127), v128]) h129)
  p1 a3 h2))
def lex_Scanner_Next_lp (i : Nat) (Q : Qx) (tm : Tm) (h : Hp) : Prop := match Nat.beq i 7 with
  | true => lex_Scanner_Next_j1_L Q tm h
  | false => False
def lex_Scanner_Next_cut (i : Nat) : Option (List Nat) := match Nat.beq i 7 with
  | true => some [0, 2]
  | false => none
set_option maxRecDepth 100000 in
theorem lex_Scanner_Next_j1_step (Q : Qx) (p44 : Option Addr) (a45 : Addr) (h : Hp) : lex_Scanner_Next_j1_L Q (mkTm [(0, some (.pointer p44)), (2, some (.pointer (some a45)))]) h =
    codeWp Tryz.prog 58 false lex_Scanner_Next_lp lex_Scanner_Next_cut (sub (bodyOf Tryz.f40) [true, true, true]) 15 (maskQ (fun e => match e with | .ret => [2, 3, 4] | _ => []) Q) (mkTm [(0, some (.pointer p44)), (2, some (.pointer (some a45)))]) h := by kernel_rfl
theorem lex_Scanner_Next_j1_mask (Q : Qx) (tm : Tm) (h : Hp) : lex_Scanner_Next_j1_L Q tm h ↔ lex_Scanner_Next_j1_L Q (mask [0, 2] tm) h := Iff.rfl
set_option maxRecDepth 100000 in
theorem lex_Scanner_Next_j1_snd : SndAt Tryz.prog 58 none (sub (bodyOf Tryz.f40) [true, true, true]) (lex_Scanner_Next_lp 7) := by
  refine join_sound (pn := false) (lp := lex_Scanner_Next_lp) (cut := lex_Scanner_Next_cut) (i := 7) (c := (sub (bodyOf Tryz.f40) [true, true, true])) [0, 2] (fun e => match e with | .ret => [2, 3, 4] | _ => []) lex_Scanner_Next_j1_L ?_ ?_
  · exact good_by (pn := false) (c := (sub (bodyOf Tryz.f40) [true, true, true])) (i := 15) (l := []) (by kernel_rfl) (fun _ h => by cases h)
  · intro Q tm h H
    have H0 := H
    obtain ⟨p44, e0, H⟩ := selP_ex H
    obtain ⟨a45, e2, H⟩ := selA_ex H
    have e : mask [0, 2] tm = mkTm [(0, some (.pointer p44)), (2, some (.pointer (some a45)))] := by simp only [mask, List.map_cons, List.map_nil, e0, e2] <;> rfl
    rw [e]
    refine Eq.mp (lex_Scanner_Next_j1_step Q p44 a45 h) ?_
    rw [← e]
    exact (lex_Scanner_Next_j1_mask Q tm h).mp H0
set_option maxRecDepth 100000 in
theorem lex_Scanner_Next_eq (p1 : Option Addr) (h : Hp) (K : Value → Hp → Prop) : lex_Scanner_Next p1 h K =
    codeWp Tryz.prog 58 false lex_Scanner_Next_lp lex_Scanner_Next_cut (bodyOf Tryz.f40) 1 (endQ Tryz.prog Tryz.f40.results.toList K) (argTm [(.pointer p1)]) h := by kernel_rfl
set_option maxRecDepth 100000 in
theorem lex_Scanner_Next_ok (p1 : Option Addr) {h : Hp} {K : Value → Hp → Prop} (H : lex_Scanner_Next p1 h K) : CallsH Tryz.prog 40 #[(.pointer p1)] h K :=
  calls_of (pn := false) (args := [(.pointer p1)]) (n := 58) (lp := lex_Scanner_Next_lp) (cut := lex_Scanner_Next_cut) Tryz.func40 (c := bodyOf Tryz.f40) (by kernel_rfl) (by kernel_rfl) (by kernel_rfl) (good_by (pn := false) (c := (bodyOf Tryz.f40)) (i := 1) (l := [(7, (sub (bodyOf Tryz.f40) [true, true, true]))]) (by kernel_rfl) (List.forall_mem_cons.2 ⟨lex_Scanner_Next_j1_snd, (fun _ h => by cases h)⟩))
    (Eq.mp (lex_Scanner_Next_eq p1 h K) H)

/-! ### quintet/lex.All: function 14 -/
def lex_All_l1 (p5 : Option Addr) (K0 : (Option Addr) → Nat → Nat → Value → Hp → Prop)  : Nat → (Option Addr) → Nat → Nat → Hp → Prop
  | 0, _, _, _, _ => False
  | k + 1, A6, l6, c6, h =>
    CallsH Tryz.prog 40 #[(.pointer p5)] h fun r33 h32 =>
    ∃ x34 : Int, ∃ s35 : ByteArray, ∃ x36 : Int, ∃ x37 : Int, ∃ x38 : Int, ∃ b39 : Bool, ∃ v40 : Value, r33 = (.tuple #[(.agg #[(.int .i64 x34), (.string s35), (.int .u32 x36), (.int .i64 x37), (.int .i64 x38)]), (.bool b39), v40]) ∧ 
    newC h32 (.cells #[(.int .i64 0), (.string ⟨#[]⟩), (.int .u32 0), (.int .i64 0), (.int .i64 0)] 52 (0, 0)) fun a42 h41 => 
    HU Tryz.prog (Instr.storeAt 52 (.pointer (some a42)) (.agg #[(.int .i64 x34), (.string s35), (.int .u32 x36), (.int .i64 x37), (.int .i64 x38)])) h41 fun h43 => 
    ∃ b44 : Bool, PV Tryz.prog (binOp .neq 24 v40 .nilIface) (.bool b44) ∧
    br b44
    (K0 none 0 0 v40 h43)
    (br (!b39)
    (K0 A6 l6 c6 .nilIface h43)
    (∃ x45 : Int, ∃ s46 : ByteArray, ∃ x47 : Int, ∃ x48 : Int, ∃ x49 : Int, HV Tryz.prog (Instr.loadAt 52 (.pointer (some a42))) h43 (.agg #[(.int .i64 x45), (.string s46), (.int .u32 x47), (.int .i64 x48), (.int .i64 x49)]) ∧ 
    newC h43 (.cells #[(.int .i64 x45), (.string s46), (.int .u32 x47), (.int .i64 x48), (.int .i64 x49)] 52 (0, 0)) fun a51 h50 => 
    HW Tryz.prog (Builtin.append_ #[46, 46] 46 #[(.slice A6 l6 c6), (.slice (some a51) 1 1)]) h50 fun r53 h52 =>
    ∃ A54 : Option Addr, ∃ l54 : Nat, ∃ c54 : Nat, r53 = (.slice A54 l54 c54) ∧ 
    lex_All_l1 p5 K0 k A54 l54 c54 h52))
def lex_All_l1_L (Q : Qx) (k : Nat) (tm : Tm) (h : Hp) : Prop :=
  selP (tm 4) fun p5 =>
  selS (tm 5) fun A6 l6 c6 =>
  lex_All_l1 p5 (fun (A30 : Option Addr) (l30 : Nat) (c30 : Nat) (v31 : Value) h => Q (.ret) (mkTm [(2, some (.slice A30 l30 c30)), (3, some v31)]) h) k A6 l6 c6 h
set_option maxRecDepth 100000 in
def lex_All (s1 : ByteArray) (h : Hp) (K : Value → Hp → Prop) : Prop :=
  CallsH Tryz.prog 39 #[(.string s1)] h fun r3 h2 =>
  ∃ p4 : Option Addr, r3 = (.pointer p4) ∧ 
  ∃ k58, lex_All_l1 p4
  (fun (A55 : Option Addr) (l55 : Nat) (c55 : Nat) (v56 : Value) (h57 : Hp) =>
  K (.tuple #[(.slice A55 l55 c55), v56]) h57)
   k58 none 0 0 h2
def lex_All_lp (i : Nat) (Q : Qx) (tm : Tm) (h : Hp) : Prop := match Nat.beq i 30 with
  | true => ∃ k, lex_All_l1_L Q k tm h
  | false => False
def lex_All_cut (i : Nat) : Option (List Nat) := none
set_option maxRecDepth 100000 in
theorem lex_All_l1_step (Q : Qx) (k : Nat) (p5 : Option Addr) (A6 : Option Addr) (l6 : Nat) (c6 : Nat) (h : Hp) : lex_All_l1_L Q (k + 1) (mkTm [(4, some (.pointer p5)), (5, some (.slice A6 l6 c6))]) h =
    codeWp Tryz.prog 27 false lex_All_lp lex_All_cut (sub (bodyOf Tryz.f14) [true, true, true, false, false]) 60 (thenQ (fun tm h => lex_All_l1_L Q k (mask [4, 5] tm) h) (maskQ (fun e => match e with | .ret => [2, 3] | _ => []) Q)) (mkTm [(4, some (.pointer p5)), (5, some (.slice A6 l6 c6))]) h := by kernel_rfl
theorem lex_All_l1_mask (Q : Qx) (k : Nat) (tm : Tm) (h : Hp) : lex_All_l1_L Q k tm h ↔ lex_All_l1_L Q k (mask [4, 5] tm) h := Iff.rfl
set_option maxRecDepth 100000 in
theorem lex_All_l1_snd : SndAt Tryz.prog 27 none (sub (bodyOf Tryz.f14) [true, true, true, false]) (lex_All_lp 30) := by
  refine loop_sound (pn := false) (lp := lex_All_lp) (cut := lex_All_cut) (i := 30) (c := (sub (bodyOf Tryz.f14) [true, true, true, false, false])) [4, 5] (fun e => match e with | .ret => [2, 3] | _ => []) lex_All_l1_L ?_ ?_ ?_
  · exact good_by (pn := false) (c := (sub (bodyOf Tryz.f14) [true, true, true, false, false])) (i := 60) (l := []) (by kernel_rfl) (fun _ h => by cases h)
  · intro Q tm h H
    obtain ⟨p5, e4, H⟩ := selP_ex H
    obtain ⟨A6, l6, c6, e5, H⟩ := selS_ex H
    exact H
  · intro Q k tm h H
    have H0 := H
    obtain ⟨p5, e4, H⟩ := selP_ex H
    obtain ⟨A6, l6, c6, e5, H⟩ := selS_ex H
    have e : mask [4, 5] tm = mkTm [(4, some (.pointer p5)), (5, some (.slice A6 l6 c6))] := by simp only [mask, List.map_cons, List.map_nil, e4, e5] <;> rfl
    rw [e]
    refine Eq.mp (lex_All_l1_step Q k p5 A6 l6 c6 h) ?_
    rw [← e]
    exact (lex_All_l1_mask Q (k + 1) tm h).mp H0
set_option maxRecDepth 100000 in
theorem lex_All_eq (s1 : ByteArray) (h : Hp) (K : Value → Hp → Prop) : lex_All s1 h K =
    codeWp Tryz.prog 27 false lex_All_lp lex_All_cut (bodyOf Tryz.f14) 1 (endQ Tryz.prog Tryz.f14.results.toList K) (argTm [(.string s1)]) h := by kernel_rfl
set_option maxRecDepth 100000 in
theorem lex_All_ok (s1 : ByteArray) {h : Hp} {K : Value → Hp → Prop} (H : lex_All s1 h K) : CallsH Tryz.prog 14 #[(.string s1)] h K :=
  calls_of (pn := false) (args := [(.string s1)]) (n := 27) (lp := lex_All_lp) (cut := lex_All_cut) Tryz.func14 (c := bodyOf Tryz.f14) (by kernel_rfl) (by kernel_rfl) (by kernel_rfl) (good_by (pn := false) (c := (bodyOf Tryz.f14)) (i := 1) (l := [(30, (sub (bodyOf Tryz.f14) [true, true, true, false]))]) (by kernel_rfl) (List.forall_mem_cons.2 ⟨lex_All_l1_snd, (fun _ h => by cases h)⟩))
    (Eq.mp (lex_All_eq s1 h K) H)

end Go.Proofs.YtfdpccbajaiepaaGreatDoor.Sxp.Fx

/- Laws of memory over the heap alone: rows of the call's own, written, appended to, copied. -/
namespace Go.Proofs.YtfdpccbajaiepaaGreatDoor.Sx
open Go Go.RowKit
set_option linter.unusedVariables false
set_option linter.unusedSimpArgs false
/-- What changes lies in S. -/
structure Fr (S : Nat → Prop) (h h' : Hp) : Prop where
  size : h.size ≤ h'.size
  keep : ∀ k, k < h.size → ¬ S k → h'[k]? = h[k]?
theorem Ext.fr {h h' : Hp} (e : Ext h h') (S : Nat → Prop) : Fr S h h' := ⟨e.size, fun k hk _ => e.old k hk⟩
theorem Fr.refl (S : Nat → Prop) (h : Hp) : Fr S h h := (Ext.refl h).fr S
theorem Fr.mono {S S' : Nat → Prop} {h h' : Hp} (f : Fr S h h') (hs : ∀ k, S k → S' k) : Fr S' h h' := ⟨f.size, fun k hk hn => f.keep k hk (fun hS => hn (hs k hS))⟩
theorem Fr.trans {S : Nat → Prop} {a b c : Hp} (f : Fr S a b) (g : Fr S b c) : Fr S a c := ⟨Nat.le_trans f.size g.size, fun k hk hn => (g.keep k (Nat.lt_of_lt_of_le hk f.size) hn).trans (f.keep k hk hn)⟩
/-- Blocks made on the way may change later. -/
theorem Fr.then_ {S S' : Nat → Prop} {a b c : Hp} (f : Fr S a b) (g : Fr S' b c) (hs : ∀ k, S' k → S k ∨ a.size ≤ k) : Fr S a c :=
  ⟨Nat.le_trans f.size g.size, fun k hk hn => (g.keep k (Nat.lt_of_lt_of_le hk f.size) (fun h => by rcases hs k h with h | h; exact hn h; omega)).trans (f.keep k hk hn)⟩
theorem Fr.get {S : Nat → Prop} {h h' : Hp} (f : Fr S h h') {b : Nat} {o : Obj} (hb : h[b]? = some o) (hn : ¬ S b) : h'[b]? = some o := (f.keep b (lt_of_get hb) hn).trans hb
theorem Fr.cl {S : Nat → Prop} {h h' : Hp} (f : Fr S h h') {a : Addr} {vs : List Value} (c : Cl h a vs) (hn : ¬ S a.block) : Cl h' a vs :=
  ⟨c.spot, fun j v hj => by
    have := c.at_ j v hj
    rw [cell_same]
    · exact this
    · have hb : (a.add j).block = a.block := by rw [add_off c.spot]
      rw [hb]
      have := cell_lt this
      rw [hb] at this
      exact f.keep _ this hn⟩
def setB (h : Hp) (b : Nat) (cs : List Value) (T : TypeId) : Hp := h.setIfInBounds b (.cells cs.toArray T (0, 0))
theorem setB_get {h : Hp} {b : Nat} {cs : List Value} {T : TypeId} (hb : b < h.size) : (setB h b cs T)[b]? = some (.cells cs.toArray T (0, 0)) := by simp [setB, hb]
theorem setB_ne {h : Hp} {b k : Nat} {cs : List Value} {T : TypeId} (hk : k ≠ b) : (setB h b cs T)[k]? = h[k]? := by
  unfold setB; rw [Array.getElem?_setIfInBounds_ne (Ne.symm hk)]
theorem setB_size {h : Hp} {b : Nat} {cs : List Value} {T : TypeId} : (setB h b cs T).size = h.size := by simp [setB]
theorem setB_fr {h : Hp} {b : Nat} {cs : List Value} {T : TypeId} {S : Nat → Prop} (hS : S b) : Fr S h (setB h b cs T) :=
  ⟨by rw [setB_size]; exact Nat.le_refl _, fun k hk hn => setB_ne (fun e => hn (e ▸ hS))⟩
theorem setB_setB {h : Hp} {b : Nat} {cs cs' : List Value} {T : TypeId} : setB (setB h b cs T) b cs' T = setB h b cs' T := by simp [setB]
theorem setB_self {h : Hp} {b : Nat} {cs : List Value} {T : TypeId} (hb : h[b]? = some (.cells cs.toArray T (0, 0))) : setB h b cs T = h := by
  unfold setB
  apply Array.ext_getElem?
  intro i
  by_cases hi : b = i
  · subst hi
    rw [hb, Array.getElem?_setIfInBounds_self_of_lt (lt_of_get hb)]
  · rw [Array.getElem?_setIfInBounds_ne hi]
theorem setCell_heap {h : Hp} {b o : Nat} {cs : List Value} {T : TypeId} {v : Value} (hb : h[b]? = some (.cells cs.toArray T (0, 0))) : ((W h).setCell ⟨b, o, none⟩ v).heap = setB h b (cs.set o v) T := by
  unfold World.setCell setB W
  simp only
  apply Array.ext_getElem?
  intro i
  rw [Array.getElem?_modify]
  by_cases hi : b = i
  · subst hi
    rw [if_pos rfl, hb, Array.getElem?_setIfInBounds_self_of_lt (lt_of_get hb)]
    simp
  · rw [if_neg hi, Array.getElem?_setIfInBounds_ne hi]
theorem frozen_false {h : Hp} {b o : Nat} {cs : List Value} {T : TypeId} (hb : h[b]? = some (.cells cs.toArray T (0, 0))) : (W h).frozen? ⟨b, o, none⟩ = false := by
  show (match h[b]? with | some (.cells _ _ (lo, hi)) => decide (lo ≤ o) && decide (o < hi) | _ => false) = false
  rw [hb]; simp
section
variable (P : Program)
theorem wp_bind {α β : Type} {s : Sem α} {f : α → Sem β} {h : Hp} {K : β → Hp → Prop} (hh : semWp P s h (fun a h' => semWp P (f a) h' K)) : semWp P (s >>= f) h K := semWp_bind P s f h K hh
theorem wp_underlying {t : TypeId} {d : TypeDesc} {h : Hp} {K : TypeDesc → Hp → Prop} (hu : P.underlying t = some d) (hk : K d h) : semWp P (underlying t) h K := by
  unfold underlying
  refine wp_bind P ?_
  show semWp P (match P.underlying t with | some d => pure d | none => stuck "no such type") h K
  rw [hu]; exact hk
theorem wp_info {t : TypeId} {i : TypeInfo} {h : Hp} {K : TypeInfo → Hp → Prop} (hi : P.info? t = some i) (hk : K i h) : semWp P (typeInfo t) h K := by
  unfold typeInfo
  refine wp_bind P ?_
  show semWp P (match P.info? t with | some i => pure i | none => stuck "no such type") h K
  rw [hi]; exact hk
theorem wp_size {t : TypeId} {i : TypeInfo} {h : Hp} {K : Nat → Hp → Prop} (hi : P.info? t = some i) (hk : K i.size h) : semWp P (sizeOf t) h K := by
  unfold sizeOf
  exact wp_bind P (wp_info P hi hk)
theorem wp_zero {t : TypeId} {i : TypeInfo} {z : Value} {h : Hp} {K : Value → Hp → Prop} (hi : P.info? t = some i) (hz : i.zero = some z) (hk : K z h) : semWp P (zeroValue t) h K := by
  unfold zeroValue
  refine wp_bind P (wp_info P hi ?_)
  rw [hz]; exact hk
theorem wp_loadCells {a : Addr} {us : List Value} {h : Hp} {K : Array Value → Hp → Prop} (hc : Cl h a us) (hk : K us.toArray h) : semWp P (loadCells a us.length) h K := by
  have key : ∀ (n i : Nat) (acc : Array Value), n + i = us.length → acc.toList = us.take i → semWp P (loadCellsFrom a i n acc) h K := by
    intro n
    induction n with
    | zero =>
      intro i acc hn hacc
      have : acc = us.toArray := by apply Array.ext'; rw [hacc, List.take_of_length_le (by omega)]
      rw [loadCellsFrom, this]; exact hk
    | succ n ih =>
      intro i acc hn hacc
      have hlt : i < us.length := by omega
      have hi : us[i]? = some us[i] := List.getElem?_eq_getElem hlt
      rw [loadCellsFrom]
      refine wp_bind P ⟨us[i], hc.at_ i _ hi, ?_⟩
      refine ih (i + 1) _ (by omega) ?_
      rw [Array.toList_push, hacc, List.take_succ_eq_append_getElem hlt]
  exact key us.length 0 #[] (by omega) (by simp)
theorem wp_storeCells {b o : Nat} {T : TypeId} {K : Unit → Hp → Prop} : ∀ (us : List Value) (i : Nat) (cs : List Value) (h : Hp), h[b]? = some (.cells cs.toArray T (0, 0)) → o + i + us.length ≤ cs.length → (∀ u ∈ us, flatV u = true) →
    K () (setB h b (cs.take (o + i) ++ us ++ cs.drop (o + i + us.length)) T) → semWp P (storeCells ⟨b, o, none⟩ us i) h K
  | [], i, cs, h, hb, hl, hf, hk => by
    rw [storeCells]
    simp only [List.append_nil, List.length_nil, Nat.add_zero, List.take_append_drop] at hk
    rw [setB_self hb] at hk
    exact hk
  | u :: us, i, cs, h, hb, hl, hf, hk => by
    rw [storeCells]
    have hlt : o + i < cs.length := by simp at hl; omega
    have hadd : (⟨b, o, none⟩ : Addr).add i = ⟨b, o + i, none⟩ := add_off rfl i
    refine wp_bind P ?_
    rw [hadd]
    refine ⟨hf u (List.mem_cons_self ..), ⟨cs[o + i], ?_⟩, frozen_false hb, ?_⟩
    · show cell h _ = _
      rw [cell_of hb, List.getElem?_eq_getElem hlt]
    · rw [setCell_heap hb]
      have hb2 : (setB h b (cs.set (o + i) u) T)[b]? = some (.cells (cs.set (o + i) u).toArray T (0, 0)) := setB_get (lt_of_get hb)
      refine wp_storeCells us (i + 1) (cs.set (o + i) u) _ hb2 (by simp at hl ⊢; omega) (fun x hx => hf x (List.mem_cons_of_mem _ hx)) ?_
      rw [setB_setB]
      have e : (cs.set (o + i) u).take (o + (i + 1)) ++ us ++ (cs.set (o + i) u).drop (o + (i + 1) + us.length) = cs.take (o + i) ++ (u :: us) ++ cs.drop (o + i + (u :: us).length) := by
        have h1 : (cs.set (o + i) u).take (o + (i + 1)) = cs.take (o + i) ++ [u] := by
          rw [← Nat.add_assoc, List.take_succ_eq_append_getElem (by simpa using hlt)]
          simp [List.take_set_of_le]
        have h2 : (cs.set (o + i) u).drop (o + (i + 1) + us.length) = cs.drop (o + i + (u :: us).length) := by
          rw [List.drop_set_of_lt (by omega)]
          congr 1
          simp; omega
        rw [h1, h2]; simp
      rw [e]; exact hk
end
/-- A store into a block that is known whole. -/
theorem HU_st {P : Program} {t : TypeId} {b o : Nat} {T : TypeId} {cs us : List Value} {v : Value} {h : Hp} {K : Hp → Prop} (hb : h[b]? = some (.cells cs.toArray T (0, 0))) (hv : v.cells = us.toArray) (hsz : (P.info? t).map (·.size) = some us.length)
    (hl : o + us.length ≤ cs.length) (hf : us.all flatV = true) (hk : K (setB h b (cs.take o ++ us ++ cs.drop (o + us.length)) T)) : HU P (Instr.storeAt t (.pointer (some ⟨b, o, none⟩)) v) h K := by
  unfold HU Instr.storeAt Instr.sureAddr
  refine wp_bind P ?_
  unfold storeVar
  cases hi : P.info? t with
  | none => rw [hi] at hsz; cases hsz
  | some i =>
    rw [hi] at hsz
    simp only [Option.map_some, Option.some.injEq] at hsz
    refine wp_bind P (wp_size P hi ?_)
    have : ¬ (v.cells.size ≠ i.size) := by rw [hv, hsz]; simp
    rw [if_neg this]
    rw [hv]
    refine wp_storeCells P us 0 cs h hb (by omega) (fun u hu => List.all_eq_true.1 hf u hu) ?_
    simpa using hk
/-- A row of the call's own: nil, or the head of a block. -/
def OSl (h : Hp) (E sz : Nat) (A : Option Addr) (n c : Nat) (cs : List Value) : Prop :=
  (A = none ∧ n = 0 ∧ c = 0 ∧ cs = []) ∨ ∃ g rest, A = some ⟨g, 0, none⟩ ∧ h[g]? = some (.cells (cs ++ rest).toArray E (0, 0)) ∧ cs.length = n * sz ∧ (cs ++ rest).length = c * sz ∧ n ≤ c
def blk (A : Option Addr) (k : Nat) : Prop := ∃ a, A = some a ∧ a.block = k
theorem OSl.read {h : Hp} {E sz : Nat} {A : Option Addr} {n c : Nat} {cs : List Value} (r : OSl h E sz A n c cs) : RSl h A n sz cs := by
  rcases r with ⟨rfl, rfl, rfl, rfl⟩ | ⟨g, rest, rfl, hb, h1, h2, h3⟩
  · exact ⟨by simp, .inl rfl⟩
  · refine ⟨h1, .inr ⟨_, rfl, Cl.of_block hb fun j v hj => ?_⟩⟩
    rw [Nat.zero_add, List.getElem?_append_left (List.getElem?_eq_some_iff.1 hj).1]; exact hj
theorem OSl.keep {h h' : Hp} {E sz : Nat} {A : Option Addr} {n c : Nat} {cs : List Value} {S : Nat → Prop} (r : OSl h E sz A n c cs) (f : Fr S h h') (hn : ∀ k, blk A k → ¬ S k) : OSl h' E sz A n c cs := by
  rcases r with r | ⟨g, rest, rfl, hb, h1, h2, h3⟩
  · exact .inl r
  · exact .inr ⟨g, rest, rfl, f.get hb (hn g ⟨_, rfl, rfl⟩), h1, h2, h3⟩
theorem OSl.blk_lt {h : Hp} {E sz : Nat} {A : Option Addr} {n c : Nat} {cs : List Value} (r : OSl h E sz A n c cs) {k : Nat} (hk : blk A k) : k < h.size := by
  rcases r with ⟨rfl, _⟩ | ⟨g, rest, rfl, hb, _⟩
  · obtain ⟨a, ha, _⟩ := hk; cases ha
  · obtain ⟨a, ha, rfl⟩ := hk
    injection ha with ha
    subst ha
    exact lt_of_get hb
/-! ### append -/
def zcells (zero : List Value) (n : Nat) : List Value := (Builtin.zeroCells zero.toArray n).toList
theorem zcells_len (zero : List Value) (n : Nat) : (zcells zero n).length = n * zero.length := by simp [zcells, Builtin.zeroCells]
theorem growBy_le (need : Nat) : ∀ (r c : Nat), c < need → Builtin.growBy need r c ≤ 2 * need + 768
  | 0, c, h => by simp [Builtin.growBy]; omega
  | r + 1, c, h => by
    rw [Builtin.growBy]
    split
    · omega
    · by_cases h2 : c + (c + 768) / 4 < need
      · exact growBy_le need r _ h2
      · have : ∀ r', Builtin.growBy need r' (c + (c + 768) / 4) = c + (c + 768) / 4 := by
          intro r'
          cases r' with
          | zero => rfl
          | succ r' => rw [Builtin.growBy, if_pos (by omega)]
        rw [this]; omega
theorem nextcap_le {need cap : Nat} (h : cap < need) : Builtin.nextslicecap need cap ≤ 2 * need + 768 := by
  unfold Builtin.nextslicecap
  split
  · omega
  · split
    · omega
    · exact growBy_le need 4 cap h
theorem wp_askRoom {P : Program} {n : Nat} {h : Hp} {K : Unit → Hp → Prop} (hk : K () h) : semWp P (askRoom n) h K := by
  unfold askRoom
  split
  · exact hk
  · exact hk
theorem add_eq0 (g : Nat) (n : Nat) : (⟨g, 0, none⟩ : Addr).add n = ⟨g, n, none⟩ := by rw [add_off rfl]; simp
theorem wp_firstCells {P : Program} {A : Option Addr} {n c sz : Nat} {cs : List Value} {h : Hp} {K : Array Value → Hp → Prop} (r : RSl h A n sz cs) (hk : K cs.toArray h) : semWp P (Builtin.firstCells sz n (.slice A n c)) h K := by
  obtain ⟨hl, r⟩ := r
  cases A with
  | none =>
    rcases r with r | ⟨a, ha, _⟩
    · subst r
      have : cs = [] := List.eq_nil_of_length_eq_zero (by rw [hl]; simp)
      subst this
      exact hk
    · cases ha
  | some a =>
    show semWp P (loadCells a (n * sz)) h K
    rcases r with r | ⟨a', ha, c⟩
    · subst r
      have : cs = [] := List.eq_nil_of_length_eq_zero (by rw [hl]; simp)
      subst this
      rw [Nat.zero_mul]
      exact hk
    · rw [← hl]
      injection ha with ha; subst ha; exact wp_loadCells P c hk
theorem semWp_bind_eq (P : Program) {α β : Type} (s : Sem α) (f : α → Sem β) : ∀ (h : Hp) (K : β → Hp → Prop), semWp P (s >>= f) h K = semWp P s h (fun a h' => semWp P (f a) h' K) := by
  show ∀ (h : Hp) (K : β → Hp → Prop), semWp P (Sem.bind s f) h K = _
  induction s with
  | pure a => intro h K; rfl
  | load m a k ih => intro h K; simp only [Sem.bind, semWp, ih]
  | store m a v k ih => intro h K; simp only [Sem.bind, semWp, ih]
  | new o k ih => intro h K; simp only [Sem.bind, semWp, ih]
  | shape r k ih => intro h K; simp only [Sem.bind, semWp, ih]
  | freeze a n k ih => intro h K; simp only [Sem.bind, semWp, ih]
  | frozen a k ih => intro h K; simp only [Sem.bind, semWp, ih]
  | getObj r k ih => intro h K; simp only [Sem.bind, semWp, ih]
  | setObj r o k ih => intro h K; simp only [Sem.bind, semWp, ih]
  | choose q k ih => intro h K; simp only [Sem.bind, semWp, ih]
  | sys c k ih => intro h K; rfl
  | program k ih => intro h K; simp only [Sem.bind, semWp, ih]
  | mark m k ih => intro h K; simp only [Sem.bind, semWp, ih]
  | halt x => intro h K; rfl
theorem semWp_pure_eq (P : Program) {α : Type} (a : α) (h : Hp) (K : α → Hp → Prop) : semWp P (pure a : Sem α) h K = K a h := rfl
theorem underlying_eq {P : Program} {t : TypeId} {d : TypeDesc} (hu : P.underlying t = some d) (h : Hp) (K : TypeDesc → Hp → Prop) : semWp P (underlying t) h K = K d h := by
  unfold underlying
  rw [semWp_bind_eq]
  show semWp P (match P.underlying t with | some d => pure d | none => stuck "no such type") h K = _
  rw [hu]; rfl
theorem info_eq {P : Program} {t : TypeId} {i : TypeInfo} (hi : P.info? t = some i) (h : Hp) (K : TypeInfo → Hp → Prop) : semWp P (typeInfo t) h K = K i h := by
  unfold typeInfo
  rw [semWp_bind_eq]
  show semWp P (match P.info? t with | some i => pure i | none => stuck "no such type") h K = _
  rw [hi]; rfl
theorem size_eq {P : Program} {t : TypeId} {i : TypeInfo} (hi : P.info? t = some i) (h : Hp) (K : Nat → Hp → Prop) : semWp P (sizeOf t) h K = K i.size h := by
  unfold sizeOf
  rw [semWp_bind_eq, info_eq hi]; rfl
theorem zero_eq {P : Program} {t : TypeId} {i : TypeInfo} {z : Value} (hi : P.info? t = some i) (hz : i.zero = some z) (h : Hp) (K : Value → Hp → Prop) : semWp P (zeroValue t) h K = K z h := by
  unfold zeroValue
  rw [semWp_bind_eq, info_eq hi, hz]; rfl
theorem askRoom_eq {P : Program} {n : Nat} (h : Hp) (K : Unit → Hp → Prop) : semWp P (askRoom n) h K = K () h := by
  unfold askRoom
  split <;> rfl
theorem semWp_map_eq (P : Program) {α β : Type} (f : α → β) (s : Sem α) (h : Hp) (K : β → Hp → Prop) : semWp P (f <$> s) h K = semWp P s h (fun a h' => K (f a) h') := by
  show semWp P (s >>= fun a => pure (f a)) h K = _
  rw [semWp_bind_eq]; rfl
/-- append(s, x...), s a row of the call's own, x a slice that is read. -/
theorem HW_appendC {P : Program} {T E : TypeId} {i : TypeInfo} {z : Value} {h : Hp} {A : Option Addr} {n c m cx : Nat} {ax : Addr} {cs ns : List Value} {K : Value → Hp → Prop}
    (hu : P.underlying T = some (.slice E)) (hi : P.info? E = some i) (hz : i.zero = some z) (hzl : z.cells.size = i.size) (hb0 : 0 < i.bytes)
    (r : OSl h E i.size A n c cs) (hx : Cl h ax ns) (hm : ns.length = m * i.size) (hm0 : 0 < m) (hf : ns.all flatV = true) (hbound : (2 * (n + m) + 768) * i.bytes ≤ 2 ^ 48)
    (H : ∀ h' A' c', OSl h' E i.size A' (n + m) c' (cs ++ ns) → (A' = A ∨ ∀ k, blk A' k → h.size ≤ k) → A'.isSome = true → Fr (blk A) h h' → (c' = c ∨ c' < 2 ^ 63) → K (.slice A' (n + m) c') h') :
    HW P (Builtin.append_ #[T, T] T #[.slice A n c, .slice (some ax) m cx]) h K := by
  unfold HW
  have hub : n + m < 2 ^ 62 := by
    have : (2 * (n + m) + 768) * 1 ≤ (2 * (n + m) + 768) * i.bytes := Nat.mul_le_mul_left _ hb0
    omega
  simp [Builtin.append_, semWp_bind_eq, underlying_eq hu, size_eq hi, Builtin.lenOf, semWp_pure_eq]
  have hrx : RSl h (some ax) m i.size ns := ⟨hm, .inr ⟨ax, rfl, hx⟩⟩
  by_cases hroom : n + m ≤ c
  · rw [if_pos hroom, semWp_bind_eq]
    refine wp_firstCells hrx ?_
    rcases r with ⟨rfl, rfl, rfl, rfl⟩ | ⟨g, rest, rfl, hb, h1, h2, h3⟩
    · omega
    · simp only [semWp_map_eq]
      rw [add_eq0]
      have hlen : n * i.size + ns.length ≤ (cs ++ rest).length := by
        rw [h2, hm, ← Nat.add_mul]; exact Nat.mul_le_mul_right _ hroom
      refine wp_storeCells P ns 0 (cs ++ rest) h hb (by simpa using hlen) (fun u hu => List.all_eq_true.1 hf u hu) ?_
      have e : (cs ++ rest).take (n * i.size + 0) ++ ns ++ (cs ++ rest).drop (n * i.size + 0 + ns.length) = (cs ++ ns) ++ rest.drop ns.length := by
        rw [Nat.add_zero, ← h1, List.take_left, List.drop_append, List.drop_of_length_le (by omega)]
        simp
      rw [e]
      refine H _ _ c (.inr ⟨g, rest.drop ns.length, rfl, setB_get (lt_of_get hb), ?_, ?_, hroom⟩) (.inl rfl) rfl (setB_fr ⟨_, rfl, rfl⟩) (.inl rfl)
      · rw [List.length_append, h1, hm, Nat.add_mul]
      · simp only [List.length_append, List.length_drop] at h2 hlen ⊢
        omega
  · rw [if_neg hroom]
    have hne : ¬ (i.bytes = 0) := by omega
    have hcap := nextcap_le (need := n + m) (cap := c) (by omega)
    have hok : ¬ (281474976710656 < Builtin.nextslicecap (n + m) c * i.bytes) := by
      have := Nat.mul_le_mul_right i.bytes hcap
      omega
    simp only [semWp_bind_eq, info_eq hi, hne, and_false, if_false, hok]
    refine ⟨fun hq => by simp [Question.forced] at hq, fun _ t => ?_⟩
    show semWp P (pure _ : Sem Nat) h _
    rw [semWp_pure_eq]
    have hcapn : n + m ≤ Question.cut (.appendCap (n + m) c E) t := by simp [Question.cut]
    have hcapu : Question.cut (.appendCap (n + m) c E) t < 2 ^ 63 := by
      simp only [Question.cut]
      have := Nat.mod_lt t (show 0 < 2 ^ 63 - (n + m) by omega)
      omega
    revert hcapu
    generalize Question.cut (.appendCap (n + m) c E) t = nc at hcapn
    intro hcapu
    simp only [askRoom_eq]
    refine wp_firstCells r.read ?_
    refine wp_firstCells hrx ?_
    simp only [zero_eq hi hz, semWp_map_eq]
    show K (.slice (some ⟨h.size, 0, none⟩) (n + m) nc) (h.push _)
    have hzc : (cs.toArray ++ (ns.toArray ++ Builtin.zeroCells z.cells (nc - (n + m)))) = ((cs ++ ns) ++ zcells z.cells.toList (nc - (n + m))).toArray := by
      apply Array.ext'
      simp [zcells]
    rw [hzc]
    refine H _ _ nc (.inr ⟨h.size, zcells z.cells.toList (nc - (n + m)), rfl, by simp, ?_, ?_, hcapn⟩) (.inr ?_) rfl ((Ext.push h _).fr _) (.inr hcapu)
    · rw [List.length_append, r.read.1, hm, Nat.add_mul]
    · rw [List.length_append, List.length_append, r.read.1, hm, zcells_len, ← Nat.add_mul]
      have : z.cells.toList.length = i.size := by simpa using hzl
      rw [this, ← Nat.add_mul]
      congr 1
      omega
    · rintro k ⟨a, ha, rfl⟩
      injection ha with ha
      subst ha
      exact Nat.le_refl _
theorem HW_append {P : Program} {T E : TypeId} {i : TypeInfo} {z : Value} {h : Hp} {A : Option Addr} {n c m cx : Nat} {ax : Addr} {cs ns : List Value} {K : Value → Hp → Prop}
    (hu : P.underlying T = some (.slice E)) (hi : P.info? E = some i) (hz : i.zero = some z) (hzl : z.cells.size = i.size) (hb0 : 0 < i.bytes)
    (r : OSl h E i.size A n c cs) (hx : Cl h ax ns) (hm : ns.length = m * i.size) (hm0 : 0 < m) (hf : ns.all flatV = true) (hbound : (2 * (n + m) + 768) * i.bytes ≤ 2 ^ 48)
    (H : ∀ h' A' c', OSl h' E i.size A' (n + m) c' (cs ++ ns) → (A' = A ∨ ∀ k, blk A' k → h.size ≤ k) → A'.isSome = true → Fr (blk A) h h' → K (.slice A' (n + m) c') h') :
    HW P (Builtin.append_ #[T, T] T #[.slice A n c, .slice (some ax) m cx]) h K := HW_appendC hu hi hz hzl hb0 r hx hm hm0 hf hbound fun h' A' c' a b d e _ => H h' A' c' a b d e
/-! ### Cuts -/
theorem slLo {P : Program} {T E : TypeId} {i : TypeInfo} {A : Option Addr} {l c : Nat} {x : Int} (hu : P.underlying T = some (.slice E)) (hi : P.info? E = some i) (h0 : 0 ≤ x) (h1 : x ≤ l) :
    PV P (Instr.sliceAt T (.slice A l c) (some (.int .i64 x)) none none) (.slice (if c = x.toNat then A else A.map (·.add (x.toNat * i.size))) (l - x.toNat) (c - x.toNat)) := by
  intro w
  simp [Instr.sliceAt, Instr.slice, run_underlying hu, Instr.sliceBounds, Instr.sliceBound, asIntOf, h0, h1, sizeOf, typeInfo, hi]
theorem slHi {P : Program} {T E : TypeId} {i : TypeInfo} {A : Option Addr} {l c : Nat} {x : Int} (hu : P.underlying T = some (.slice E)) (hi : P.info? E = some i) (h0 : 0 ≤ x) (h1 : x ≤ c) :
    PV P (Instr.sliceAt T (.slice A l c) none (some (.int .i64 x)) none) (.slice A x.toNat c) := by
  intro w
  simp [Instr.sliceAt, Instr.slice, run_underlying hu, Instr.sliceBounds, Instr.sliceBound, asIntOf, h0, h1, sizeOf, typeInfo, hi, add_zero]
/-! ### copy -/
theorem HW_copy0 {P : Program} {T E ty : TypeId} {i : TypeInfo} {h : Hp} {dA sA : Option Addr} {dn dc sn sc : Nat} {K : Value → Hp → Prop}
    (hu : P.underlying T = some (.slice E)) (hi : P.info? E = some i) (hn : Nat.min sn dn = 0) (H : K (.int .i64 0) h) :
    HW P (Builtin.copy_ #[T, T] ty #[.slice dA dn dc, .slice sA sn sc]) h K := by
  unfold HW
  simp [Builtin.copy_, semWp_bind_eq, underlying_eq hu, size_eq hi, Builtin.lenOf, semWp_pure_eq, hn]
  have hf : ∀ (K : Array Value → Hp → Prop), K #[] h → semWp P (Builtin.firstCells i.size 0 (.slice sA sn sc)) h K := by
    intro K hk
    cases sA with
    | none => exact hk
    | some a => show semWp P (loadCells a (0 * i.size)) h K; rw [Nat.zero_mul]; exact hk
  refine hf _ ?_
  cases dA with
  | none => exact H
  | some a => simp only [semWp_map_eq]; exact H
theorem HW_copy {P : Program} {T E ty : TypeId} {i : TypeInfo} {h : Hp} {g o dn dc sn sc : Nat} {sa : Addr} {cs us : List Value} {K : Value → Hp → Prop}
    (hu : P.underlying T = some (.slice E)) (hi : P.info? E = some i) (hb : h[g]? = some (.cells cs.toArray E (0, 0))) (hc : Cl h sa us) (hl : us.length = Nat.min sn dn * i.size) (ho : o + us.length ≤ cs.length) (hf : us.all flatV = true)
    (H : K (.int .i64 (Nat.min sn dn : Nat)) (setB h g (cs.take o ++ us ++ cs.drop (o + us.length)) E)) :
    HW P (Builtin.copy_ #[T, T] ty #[.slice (some ⟨g, o, none⟩) dn dc, .slice (some sa) sn sc]) h K := by
  unfold HW
  simp [Builtin.copy_, semWp_bind_eq, underlying_eq hu, size_eq hi, Builtin.lenOf, semWp_pure_eq]
  show semWp P (loadCells sa (Nat.min sn dn * i.size)) h _
  rw [← hl]
  refine wp_loadCells P hc ?_
  simp only [semWp_map_eq]
  refine wp_storeCells P us 0 cs h hb (by omega) (fun u hu => List.all_eq_true.1 hf u hu) ?_
  simpa [goInt] using H
/-! ### make -/
theorem zcells_eq (z : List Value) (k : Nat) (hz : 0 < z.length) : zcells z k = (List.replicate k z).flatten := by
  apply List.ext_getElem?
  intro j
  by_cases hj : j < k * z.length
  · have h1 : (zcells z k)[j]? = z[j % z.length]? := by
      have hlt := Nat.mod_lt j hz
      simp [zcells, Builtin.zeroCells, hj, hlt]
    rw [h1]
    clear h1
    induction k generalizing j with
    | zero => simp at hj
    | succ k ih =>
      rw [List.replicate_succ, List.flatten_cons]
      by_cases hlt : j < z.length
      · rw [List.getElem?_append_left hlt, Nat.mod_eq_of_lt hlt]
      · rw [List.getElem?_append_right (by omega), ← ih (j - z.length) (by rw [Nat.add_mul] at hj; omega)]
        rw [← Nat.mod_eq_sub_mod (by omega)]
  · rw [List.getElem?_eq_none (by rw [zcells_len]; omega), List.getElem?_eq_none (by simp; omega)]
theorem HW_make {P : Program} {T E : TypeId} {i : TypeInfo} {z : Value} {h : Hp} {n c : Int} {K : Value → Hp → Prop}
    (hu : P.underlying T = some (.slice E)) (hi : P.info? E = some i) (hz : i.zero = some z) (hzl : z.cells.size = i.size) (hz0 : 0 < i.size) (h0 : 0 ≤ n) (h1 : n ≤ c) (hb : i.bytes * c ≤ 2 ^ 48) (hc : c < 2 ^ 62)
    (H : ∀ h', h' = h.push (.cells (List.replicate c.toNat z.cells.toList).flatten.toArray E (0, 0)) → OSl h' E i.size (some ⟨h.size, 0, none⟩) n.toNat c.toNat ((List.replicate n.toNat z.cells.toList).flatten) → K (.slice (some ⟨h.size, 0, none⟩) n.toNat c.toNat) h') :
    HW P (Instr.makeSlice T (.int .i64 n) (.int .i64 c)) h K := by
  unfold HW
  have w1 : IntKind.i64.wrap n = n := wrap_in (by omega) (by omega)
  have w2 : IntKind.i64.wrap c = c := wrap_in (by omega) (by omega)
  have hb' : ¬ ((i.bytes : Int) * c > 281474976710656) := by omega
  have hno : ((decide (c < 0) || decide ((i.bytes : Int) * c > 2 ^ 48)) || decide (n < 0) || decide (n > c)) = false := by
    simp; omega
  simp only [Instr.makeSlice, semWp_bind_eq, underlying_eq hu, info_eq hi, size_eq hi, asInt, asIntOf, semWp_pure_eq, w1, w2]
  rw [if_neg (by simp at hno ⊢; omega)]
  simp only [semWp_bind_eq, askRoom_eq, size_eq hi]
  have hzl' : z.cells.toList.length = i.size := by simpa using hzl
  have hcells : ∀ (zc : Array Value), (c.toNat * i.size = 0 ∧ zc = #[]) ∨ (c.toNat * i.size ≠ 0 ∧ zc = z.cells) → (Array.range (c.toNat * i.size)).map (fun j => zc[j % zc.size]!) = (List.replicate c.toNat z.cells.toList).flatten.toArray := by
    intro zc hzc
    rw [← zcells_eq _ _ (by omega)]
    rcases hzc with ⟨h2, rfl⟩ | ⟨h2, rfl⟩
    · apply Array.ext'
      simp [zcells, Builtin.zeroCells, h2]
      rw [hzl]; exact h2
    · apply Array.ext'
      simp [zcells, Builtin.zeroCells, hzl]
  have fin : ∀ zc : Array Value, ((c.toNat * i.size = 0 ∧ zc = #[]) ∨ (c.toNat * i.size ≠ 0 ∧ zc = z.cells)) → K (.slice (some ⟨h.size, 0, none⟩) n.toNat c.toNat) (h.push (.cells ((Array.range (c.toNat * i.size)).map (fun j => zc[j % zc.size]!)) E)) := by
    intro zc hzc
    rw [hcells zc hzc]
    refine H _ rfl (.inr ⟨h.size, (List.replicate (c.toNat - n.toNat) z.cells.toList).flatten, rfl, ?_, ?_, ?_, by omega⟩)
    · rw [← List.flatten_append, List.replicate_append_replicate]
      have : n.toNat + (c.toNat - n.toNat) = c.toNat := by omega
      rw [this]; simp
    · simp [hzl]
    · rw [← List.flatten_append, List.replicate_append_replicate]
      have : n.toNat + (c.toNat - n.toNat) = c.toNat := by omega
      rw [this]; simp [hzl]
  split
  · rename_i h2
    exact fin #[] (.inl ⟨h2, rfl⟩)
  · rename_i h2
    simp only [semWp_bind_eq, zero_eq hi hz, semWp_pure_eq]
    exact fin z.cells (.inr ⟨h2, rfl⟩)
end Go.Proofs.YtfdpccbajaiepaaGreatDoor.Sx
