/- Texts laid together: SxpDraw, SxpCode. -/
import Derived.Test.YtfdpccbajaiepaaGreatDoorA01
/- A region whose order is open, with a way out for panics at its last operation. -/
namespace Go.Proofs.YtfdpccbajaiepaaGreatDoor.Sxp
open Go Go.Proofs.YtfdpccbajaiepaaGreatDoor.Sx
set_option linter.unusedVariables false
set_option linter.unusedSimpArgs false
section
variable {P : Program} {ops : Array Oper} {n : Nat}
def dW (P : Program) (ops : Array Oper) (n : Nat) (Q : Tm → Hp → Prop) (KP : Kt) : List Nat → Tm → Hp → Past → Reads → Prop
  | [], tm, h, _, _ => Q tm h
  | i :: rest, tm, h, past, reads => ∃ o, ops[i]? = some o ∧ okDst n o.dst = true ∧
      ((wantB ops tm o = some false ∧ dW P ops n Q KP rest (tm.putO o.dst undef) h past reads) ∨
       (wantB ops tm o = some true ∧ plainOp o ∧ definedB tm o = true ∧
         ((isE P o = false ∧ ∃ v, (∀ hp, hp = h ∨ (∃ e, (e, hp) ∈ past ∧ Pr ops e i = false) → RdS P o tm hp v) ∧ dW P ops n Q KP rest (tm.putO o.dst v) h past ((i, fun h' => RdS P o tm h' v) :: reads)) ∨
          (isE P o = true ∧ EfS P o tm h (fun v h' => (∀ j r, (j, r) ∈ reads → Pr ops j i = false → r h') ∧ dW P ops n Q KP rest (tm.putO o.dst v) h' ((i, h) :: past) reads)) ∨
          (isE P o = true ∧ rest = [] ∧ (∀ j, j < ops.size → j ≠ i → Pr ops j i = true) ∧ EfP P o tm h (fun v h' => Q (tm.putO o.dst v) h') (KP tm)))))
theorem look_efP {o : Oper} {tm : Tm} {x : Option Nat} {v : Value} (h : ∀ d, x = some d → d ∉ o.looksAt ops) (hp : plainOp o) (hh : Hp) (K : Value → Hp → Prop) (KP : Kp) : EfP P o (tm.putO x v) hh K KP = EfP P o tm hh K KP := by unfold EfP; rw [look_exec h hp]
theorem dW_mono {Q : Tm → Hp → Prop} {KP : Kt} : ∀ (l : List Nat) (tm : Tm) (h : Hp) (past past' : Past) (reads reads' : Reads),
    (∀ x ∈ past', x ∈ past) → (∀ h' i, (∀ j r, (j, r) ∈ reads → Pr ops j i = false → r h') → ∀ j r, (j, r) ∈ reads' → Pr ops j i = false → r h') → dW P ops n Q KP l tm h past reads → dW P ops n Q KP l tm h past' reads'
  | [], tm, h, past, past', reads, reads', hp, hr, hh => hh
  | i :: rest, tm, h, past, past', reads, reads', hp, hr, hh => by
    obtain ⟨o, ho, hk, hh⟩ := hh
    refine ⟨o, ho, hk, ?_⟩
    rcases hh with ⟨hw, hh⟩ | ⟨hw, h1, h2, hh⟩
    · exact .inl ⟨hw, dW_mono rest _ _ _ _ _ _ hp hr hh⟩
    · refine .inr ⟨hw, h1, h2, ?_⟩
      rcases hh with ⟨he, v, hv, hh⟩ | ⟨he, hh⟩ | hh
      · refine .inl ⟨he, v, fun q hq => hv q (hq.imp id (fun ⟨e, h3, h4⟩ => ⟨e, hp _ h3, h4⟩)), dW_mono rest _ _ _ _ _ _ hp ?_ hh⟩
        intro h' i' hall j r hmem hpr
        rcases List.mem_cons.1 hmem with e | hm
        · injection e with e1 e2
          subst e1 e2
          exact hall _ _ (List.mem_cons_self ..) hpr
        · exact hr h' i' (fun j' r' hr' => hall j' r' (List.mem_cons_of_mem _ hr')) j r hm hpr
      · refine .inr (.inl ⟨he, hh.mono fun v h' ⟨hall, hd⟩ => ⟨hr h' i hall, dW_mono rest _ _ _ _ _ _ ?_ hr hd⟩⟩)
        intro q hq
        rcases List.mem_cons.1 hq with rfl | hm
        · exact List.mem_cons_self ..
        · exact List.mem_cons_of_mem _ (hp q hm)
      · exact .inr (.inr hh)
theorem dW_first {Q : Tm → Hp → Prop} {KP : Kt} {i : Nat} {oi : Oper} (hoi : ops[i]? = some oi) (hki : okDst n oi.dst = true) : ∀ (pre post : List Nat) (tm : Tm) (h : Hp) (past : Past) (reads : Reads),
    (∀ j ∈ pre, Apart ops i j) → (∀ j ∈ pre, Pr ops j i = false) → (wantB ops tm oi = some false ∨ isE P oi = false) → dW P ops n Q KP (pre ++ i :: post) tm h past reads →
    ∃ v, ((wantB ops tm oi = some false ∧ v = undef) ∨ (wantB ops tm oi = some true ∧ plainOp oi ∧ definedB tm oi = true ∧ ∀ hp, hp = h ∨ (∃ e, (e, hp) ∈ past ∧ Pr ops e i = false) → RdS P oi tm hp v)) ∧
      dW P ops n Q KP (pre ++ post) (tm.putO oi.dst v) h past reads
  | [], post, tm, h, past, reads, _, _, hE, hh => by
    obtain ⟨o, ho, hk, hh⟩ := hh
    obtain rfl : oi = o := Option.some.inj (hoi.symm.trans ho)
    rcases hh with ⟨hw, hh⟩ | ⟨hw, h1, h2, hh⟩
    · exact ⟨undef, .inl ⟨hw, rfl⟩, hh⟩
    · rcases hh with ⟨he, v, hv, hh⟩ | ⟨he, hh⟩ | ⟨he, hr, _⟩
      · exact ⟨v, .inr ⟨hw, h1, h2, hv⟩, dW_mono _ _ _ _ _ _ _ (fun _ h => h) (fun h' i' hall j r hr => hall j r (List.mem_cons_of_mem _ hr)) hh⟩
      · rcases hE with hE | hE
        · rw [hw] at hE; cases hE
        · rw [he] at hE; cases hE
      · rcases hE with hE | hE
        · rw [hw] at hE; cases hE
        · rw [he] at hE; cases hE
  | j :: pre, post, tm, h, past, reads, hap, hnp, hE, hh => by
    obtain ⟨oj, hoj, hk, hh⟩ := hh
    have hA := hap j (List.mem_cons_self ..) oi oj hoi hoj
    obtain ⟨a1, a2, a3⟩ := Oper.apart_spec hA
    have hrest : ∀ k ∈ pre, Apart ops i k := fun k hk => hap k (List.mem_cons_of_mem _ hk)
    have hrp : ∀ k ∈ pre, Pr ops k i = false := fun k hk => hnp k (List.mem_cons_of_mem _ hk)
    have wi : ∀ u, wantB ops (tm.putO oj.dst u) oi = wantB ops tm oi := fun u => look_want a3
    have di : ∀ u, definedB (tm.putO oj.dst u) oi = definedB tm oi := fun u => look_defined a3
    have wj : ∀ u, wantB ops (tm.putO oi.dst u) oj = wantB ops tm oj := fun u => look_want a1
    have dj : ∀ u, definedB (tm.putO oi.dst u) oj = definedB tm oj := fun u => look_defined a1
    have comm : ∀ v u, (tm.putO oj.dst u).putO oi.dst v = (tm.putO oi.dst v).putO oj.dst u := fun v u => (putO_comm tm v u a2).symm
    rcases hh with ⟨hw, hh⟩ | ⟨hw, h1, h2, hh⟩
    · obtain ⟨v, hv, hd⟩ := dW_first hoi hki pre post _ h past reads hrest hrp (by rw [wi]; exact hE) hh
      rw [wi, di] at hv
      refine ⟨v, ?_, oj, hoj, hk, .inl ⟨by rw [wj]; exact hw, by rw [← comm]; exact hd⟩⟩
      rcases hv with hv | ⟨b1, b2, b3, b4⟩
      · exact .inl hv
      · exact .inr ⟨b1, b2, b3, fun q hq => by have := b4 q hq; rwa [look_rd a3 b2] at this⟩
    · rcases hh with ⟨he, u, hu, hh⟩ | ⟨he, hh⟩ | ⟨he, hr, _⟩
      · obtain ⟨v, hv, hd⟩ := dW_first hoi hki pre post _ h past _ hrest hrp (by rw [wi]; exact hE) hh
        rw [wi, di] at hv
        refine ⟨v, ?_, oj, hoj, hk, .inr ⟨by rw [wj]; exact hw, h1, by rw [dj]; exact h2, .inl ⟨he, u, fun q hq => by rw [look_rd a1 h1]; exact hu q hq, ?_⟩⟩⟩
        · rcases hv with hv | ⟨b1, b2, b3, b4⟩
          · exact .inl hv
          · exact .inr ⟨b1, b2, b3, fun q hq => by have := b4 q hq; rwa [look_rd a3 b2] at this⟩
        · rw [← comm]
          have e : (fun h' => RdS P oj (tm.putO oi.dst v) h' u) = fun h' => RdS P oj tm h' u := funext fun h' => look_rd a1 h1 h' u
          rw [e]; exact hd
      · -- an effect: what is read behind it could be read ahead
        have key : EfS P oj tm h (fun u h' => (∀ j' r, (j', r) ∈ reads → Pr ops j' j = false → r h') ∧ ∃ v, ((wantB ops tm oi = some false ∧ v = undef) ∨ (wantB ops tm oi = some true ∧ plainOp oi ∧ definedB tm oi = true ∧ ∀ hp, hp = h' ∨ (∃ e, (e, hp) ∈ (j, h) :: past ∧ Pr ops e i = false) → RdS P oi tm hp v)) ∧
            dW P ops n Q KP (pre ++ post) ((tm.putO oi.dst v).putO oj.dst u) h' ((j, h) :: past) reads) := by
          refine hh.mono fun u h' ⟨hall, hd⟩ => ⟨hall, ?_⟩
          obtain ⟨v, hv, hd'⟩ := dW_first hoi hki pre post _ h' ((j, h) :: past) reads hrest hrp (by rw [wi]; exact hE) hd
          rw [wi, di] at hv
          rw [comm] at hd'
          refine ⟨v, ?_, hd'⟩
          rcases hv with hv | ⟨b1, b2, b3, b4⟩
          · exact .inl hv
          · exact .inr ⟨b1, b2, b3, fun q hq => by have := b4 q hq; rwa [look_rd a3 b2] at this⟩
        obtain ⟨u0, h0, _, v0, hv0, _⟩ := key.some
        have hv0' : (wantB ops tm oi = some false ∧ v0 = undef) ∨ (wantB ops tm oi = some true ∧ plainOp oi ∧ definedB tm oi = true ∧ ∀ hp, hp = h ∨ (∃ e, (e, hp) ∈ past ∧ Pr ops e i = false) → RdS P oi tm hp v0) :=
          hv0.imp id fun ⟨b1, b2, b3, b4⟩ => ⟨b1, b2, b3, fun q hq => b4 q (.inr (hq.elim (fun e => ⟨j, by rw [e]; exact List.mem_cons_self .., hnp j (List.mem_cons_self ..)⟩) (fun ⟨e, h3, h4⟩ => ⟨e, List.mem_cons_of_mem _ h3, h4⟩)))⟩
        refine ⟨v0, hv0', oj, hoj, hk, .inr ⟨by rw [wj]; exact hw, h1, by rw [dj]; exact h2, .inr (.inl ⟨he, ?_⟩)⟩⟩
        rw [look_ef a1 h1]
        refine key.mono fun u h' ⟨hall, v, hv, hd⟩ => ⟨hall, ?_⟩
        have : v = v0 := by
          rcases hv with ⟨c1, c2⟩ | ⟨c1, _, _, c4⟩
          · rcases hv0' with ⟨d1, d2⟩ | ⟨d1, _⟩
            · rw [c2, d2]
            · rw [c1] at d1; cases d1
          · rcases hv0' with ⟨d1, _⟩ | ⟨_, _, _, d4⟩
            · rw [c1] at d1; cases d1
            · exact (c4 h (.inr ⟨j, List.mem_cons_self .., hnp j (List.mem_cons_self ..)⟩)).uniq (d4 h (.inl rfl))
        rw [← this]; exact hd
      · exact absurd hr (by simp)
theorem dW_effect {Q : Tm → Hp → Prop} {KP : Kt} {i : Nat} {oi : Oper} (hoi : ops[i]? = some oi) : ∀ (pre post : List Nat) (tm : Tm) (h : Hp) (past : Past) (reads : Reads),
    (∀ j ∈ pre, Apart ops i j) → (∀ j ∈ pre, Pr ops j i = false) → (∀ j ∈ pre, j ≠ i) → (∀ j ∈ pre, ∀ oj, ops[j]? = some oj → isE P oj = false) → wantB ops tm oi = some true → isE P oi = true → dW P ops n Q KP (pre ++ i :: post) tm h past reads →
    plainOp oi ∧ definedB tm oi = true ∧ (EfS P oi tm h (fun v h' => (∀ j r, (j, r) ∈ reads → Pr ops j i = false → r h') ∧ dW P ops n Q KP (pre ++ post) (tm.putO oi.dst v) h' [] reads) ∨ (pre ++ post = [] ∧ (∀ j, j < ops.size → j ≠ i → Pr ops j i = true) ∧ EfP P oi tm h (fun v h' => Q (tm.putO oi.dst v) h') (KP tm)))
  | [], post, tm, h, past, reads, _, _, _, _, hwi, hE, hh => by
    obtain ⟨o, ho, hk, hh⟩ := hh
    obtain rfl : oi = o := Option.some.inj (hoi.symm.trans ho)
    rcases hh with ⟨hw, hh⟩ | ⟨hw, h1, h2, hh⟩
    · rw [hwi] at hw; cases hw
    · rcases hh with ⟨he, _⟩ | ⟨he, hh⟩ | ⟨he, hr, hall, hh⟩
      · rw [he] at hE; cases hE
      · exact ⟨h1, h2, .inl (hh.mono fun v h' ⟨hall, hd⟩ => ⟨hall, dW_mono _ _ _ _ _ _ _ (fun _ h => by cases h) (fun _ _ h => h) hd⟩)⟩
      · exact ⟨h1, h2, .inr ⟨hr, hall, hh⟩⟩
  | j :: pre, post, tm, h, past, reads, hap, hnp, hji, hne, hwi, hE, hh => by
    obtain ⟨oj, hoj, hk, hh⟩ := hh
    have hA := hap j (List.mem_cons_self ..) oi oj hoi hoj
    obtain ⟨a1, a2, a3⟩ := Oper.apart_spec hA
    have hrest : ∀ k ∈ pre, Apart ops i k := fun k hk => hap k (List.mem_cons_of_mem _ hk)
    have hne' : ∀ k ∈ pre, ∀ ok, ops[k]? = some ok → isE P ok = false := fun k hk => hne k (List.mem_cons_of_mem _ hk)
    have hrp : ∀ k ∈ pre, Pr ops k i = false := fun k hk => hnp k (List.mem_cons_of_mem _ hk)
    have hji2 : ∀ k ∈ pre, k ≠ i := fun k hk => hji k (List.mem_cons_of_mem _ hk)
    have hno : ¬ ∀ k, k < ops.size → k ≠ i → Pr ops k i = true := fun hk => by
      have := hk j (Array.getElem?_eq_some_iff.1 hoj).1 (hji j (List.mem_cons_self ..))
      rw [hnp j (List.mem_cons_self ..)] at this
      cases this
    have wi : ∀ u, wantB ops (tm.putO oj.dst u) oi = wantB ops tm oi := fun u => look_want a3
    have di : ∀ u, definedB (tm.putO oj.dst u) oi = definedB tm oi := fun u => look_defined a3
    have wj : ∀ u, wantB ops (tm.putO oi.dst u) oj = wantB ops tm oj := fun u => look_want a1
    have dj : ∀ u, definedB (tm.putO oi.dst u) oj = definedB tm oj := fun u => look_defined a1
    have comm : ∀ v u, (tm.putO oj.dst u).putO oi.dst v = (tm.putO oi.dst v).putO oj.dst u := fun v u => (putO_comm tm v u a2).symm
    have hje := hne j (List.mem_cons_self ..) oj hoj
    rcases hh with ⟨hw, hh⟩ | ⟨hw, h1, h2, hh⟩
    · obtain ⟨b1, b2, b3⟩ := dW_effect hoi pre post _ h past reads hrest hrp hji2 hne' (by rw [wi]; exact hwi) hE hh
      rw [di] at b2
      rw [look_ef a3 b1] at b3
      rcases b3 with b3 | ⟨_, b3, _⟩
      · exact ⟨b1, b2, .inl (b3.mono fun v h' ⟨hall, hd⟩ => ⟨hall, oj, hoj, hk, .inl ⟨by rw [wj]; exact hw, by rw [← comm]; exact hd⟩⟩)⟩
      · exact absurd b3 hno
    · rcases hh with ⟨he, u, hu, hh⟩ | ⟨he, hh⟩ | ⟨he, hr, _⟩
      · obtain ⟨b1, b2, b3⟩ := dW_effect hoi pre post _ h past _ hrest hrp hji2 hne' (by rw [wi]; exact hwi) hE hh
        rw [di] at b2
        rw [look_ef a3 b1] at b3
        rcases b3 with b3 | ⟨_, b3, _⟩
        rotate_left
        · exact absurd b3 hno
        refine ⟨b1, b2, .inl (b3.mono fun v h' ⟨hall, hd⟩ => ⟨fun j' r hr => hall j' r (List.mem_cons_of_mem _ hr), oj, hoj, hk, .inr ⟨by rw [wj]; exact hw, h1, by rw [dj]; exact h2, .inl ⟨he, u, fun q hq => ?_, ?_⟩⟩⟩)⟩
        · rw [look_rd a1 h1]
          rcases hq with rfl | hq
          · exact hall _ _ (List.mem_cons_self ..) (hnp j (List.mem_cons_self ..))
          · obtain ⟨_, hq, _⟩ := hq; cases hq
        · rw [← comm]
          have e : (fun h' => RdS P oj (tm.putO oi.dst v) h' u) = fun h' => RdS P oj tm h' u := funext fun h' => look_rd a1 h1 h' u
          rw [e]; exact hd
      · rw [hje] at he; cases he
      · rw [hje] at he; cases he
theorem dW_want {Q : Tm → Hp → Prop} {KP : Kt} {i : Nat} {oi : Oper} (hoi : ops[i]? = some oi) : ∀ (pre post : List Nat) (tm : Tm) (h : Hp) (past : Past) (reads : Reads),
    (∀ j ∈ pre, Apart ops i j) → dW P ops n Q KP (pre ++ i :: post) tm h past reads → (wantB ops tm oi = some false ∨ wantB ops tm oi = some true) ∧ okDst n oi.dst = true
  | [], post, tm, h, past, reads, _, hh => by
    obtain ⟨o, ho, hk, hh⟩ := hh
    obtain rfl : oi = o := Option.some.inj (hoi.symm.trans ho)
    exact ⟨hh.imp (fun h => h.1) (fun h => h.1), hk⟩
  | j :: pre, post, tm, h, past, reads, hap, hh => by
    obtain ⟨oj, hoj, hk, hh⟩ := hh
    obtain ⟨a1, a2, a3⟩ := Oper.apart_spec (hap j (List.mem_cons_self ..) oi oj hoi hoj)
    have hrest : ∀ k ∈ pre, Apart ops i k := fun k hk => hap k (List.mem_cons_of_mem _ hk)
    have wi : ∀ u, wantB ops (tm.putO oj.dst u) oi = wantB ops tm oi := fun u => look_want a3
    rcases hh with ⟨hw, hh⟩ | ⟨hw, h1, h2, hh⟩
    · have := dW_want hoi pre post _ h past reads hrest hh; rwa [wi] at this
    · rcases hh with ⟨he, u, hu, hh⟩ | ⟨he, hh⟩ | ⟨he, hr, _⟩
      · have := dW_want hoi pre post _ h past _ hrest hh; rwa [wi] at this
      · obtain ⟨u, h', _, hd⟩ := hh.some
        have := dW_want hoi pre post _ h' _ reads hrest hd; rwa [wi] at this
      · exact absurd hr (by simp)
end
def drawOK (P : Program) (ops : Array Oper) : Bool :=
  P.follows .mixedOrders && backB ops && (List.range ops.size).all fun i => (List.range i).all fun j =>
    match ops[i]?, ops[j]? with
    | some oi, some oj => (oi.apart ops oj || hasPred ops ops.size j i) && (!(isE P oi && isE P oj) || hasPred ops ops.size j i)
    | _, _ => true
section
variable {P : Program} {ops : Array Oper}
theorem dW_sound {ds : List Deferred} {n m : Nat} {ρ : Option Nat} {Q : Tm → Hp → Prop} {KP : Kt} {Q' : Exit → Act → World → Prop} {w0 : World} (hOK : drawOK P ops = true) (hQ : ∀ a w, LQ ds w0 n Q a w → Q' .normal a w) (hP : ∀ ch a w, LQ ds w0 n (fun tm h => KP tm ch h) a w → Q' (.panic ch) a w) :
    ∀ (fuel : Nat) (listed : Array Bool) (rem : List Nat) (tm : Tm) (a : Act) (w : World), Closed ops listed → Rem ops listed rem → fuel = rem.length → dW P ops n Q KP rem tm w.heap [] [] → Le ds tm a → a.tmps.size = n → Same w0 w →
      wpAnyIn (FW ρ) m P .any ops Q' fuel listed a w := by
  simp only [drawOK, Bool.and_eq_true] at hOK
  obtain ⟨⟨_, hback⟩, hpairs⟩ := hOK
  have back : ∀ i o, ops[i]? = some o → ∀ e ∈ o.after, Region.binds .any e = true → e.on < i := by
    intro i o ho e he hb
    have hi : i < ops.size := (Array.getElem?_eq_some_iff.1 ho).1
    have h1 := List.all_eq_true.1 hback i (List.mem_range.2 hi)
    rw [ho] at h1
    have h2 := List.all_eq_true.1 h1 e (by simpa using he)
    rw [hb] at h2
    simpa using h2
  have pair : ∀ i j oi oj, j < i → ops[i]? = some oi → ops[j]? = some oj → (oi.apart ops oj = true ∨ hasPred ops ops.size j i = true) ∧ (isE P oi = true → isE P oj = true → hasPred ops ops.size j i = true) := by
    intro i j oi oj hji hoi hoj
    have hi : i < ops.size := (Array.getElem?_eq_some_iff.1 hoi).1
    have h1 := List.all_eq_true.1 (List.all_eq_true.1 hpairs i (List.mem_range.2 hi)) j (List.mem_range.2 hji)
    rw [hoi, hoj] at h1
    simp only [Bool.and_eq_true, Bool.or_eq_true] at h1
    refine ⟨h1.1, fun e1 e2 => ?_⟩
    rcases h1.2 with h | h
    · simp [e1, e2] at h
    · exact h
  intro fuel
  induction fuel with
  | zero =>
    intro listed rem tm a w hc hr hf hd hl hz hs
    have : rem = [] := List.eq_nil_of_length_eq_zero hf.symm
    subst this
    refine ⟨?_, hQ a w ⟨tm, hl, hz, hs, hd⟩⟩
    refine List.eq_nil_iff_forall_not_mem.2 fun i hi => ?_
    obtain ⟨hun, oi, hoi, _⟩ := mem_ready.1 hi
    exact (List.not_mem_nil (a := i)) ((hr.mem i).2 ⟨(Array.getElem?_eq_some_iff.1 hoi).1, hun⟩)
  | succ fuel ih =>
    intro listed rem tm a w hc hr hf hd hl hz hs
    refine ⟨fun hnil => ?_, fun i hi => ?_⟩
    · exfalso
      cases rem with
      | nil => cases hf
      | cons i0 rest =>
        obtain ⟨hlt, hun⟩ := (hr.mem i0).1 (List.mem_cons_self ..)
        have hoi : ops[i0]? = some ops[i0] := Array.getElem?_eq_getElem hlt
        have : i0 ∈ Region.ready .any ops listed := mem_ready.2 ⟨hun, _, hoi, fun e he hb => by
          have h1 := back i0 _ hoi e he hb
          have h2 : e.on ∉ i0 :: rest := fun hm => by
            rcases List.mem_cons.1 hm with h | h
            · omega
            · have := List.rel_of_pairwise_cons hr.sorted h; omega
          have h3 : ¬ (listed.getD e.on true = false) := fun h => h2 ((hr.mem e.on).2 ⟨by omega, h⟩)
          rw [← getD_ft (by rw [hc.size]; omega)]
          simpa using h3⟩
        rw [hnil] at this
        cases this
    · obtain ⟨hun, oi, hoi, hall⟩ := mem_ready.1 hi
      have hlt : i < ops.size := (Array.getElem?_eq_some_iff.1 hoi).1
      have himem : i ∈ rem := (hr.mem i).2 ⟨hlt, hun⟩
      obtain ⟨pre, post, rfl⟩ := List.append_of_mem himem
      have hpre : ∀ j ∈ pre, j < i := fun j hj => (List.pairwise_append.1 hr.sorted).2.2 j hj i (List.mem_cons_self ..)
      have hprel : ∀ j ∈ pre, hasPred ops ops.size j i = false := by
        intro j hj
        cases hp : hasPred ops ops.size j i with
        | false => rfl
        | true =>
          have h1 := hasPred_listed hc ops.size j i oi hoi hall hp
          have h2 := ((hr.mem j).1 (List.mem_append_left _ hj)).2
          rw [getD_false_of h1] at h2
          cases h2
      have hap : ∀ j ∈ pre, Apart ops i j := by
        intro j hj oi' oj h1 h2
        have := (pair i j oi' oj (hpre j hj) h1 h2).1
        rw [hprel j hj] at this
        simpa using this
      obtain ⟨hwant, hki⟩ := dW_want hoi pre post tm w.heap [] [] hap hd
      have hr' : Rem ops (listed.setIfInBounds i true) (pre ++ post) := by
        obtain ⟨s1, s2, s3⟩ := List.pairwise_append.1 hr.sorted
        obtain ⟨s4, s5⟩ := List.pairwise_cons.1 s2
        refine ⟨List.pairwise_append.2 ⟨s1, s5, fun x hx y hy => s3 x hx y (List.mem_cons_of_mem _ hy)⟩, fun k => ?_⟩
        by_cases hik : i = k
        · subst hik
          refine ⟨fun hm => ?_, fun ⟨_, h⟩ => ?_⟩
          · rcases List.mem_append.1 hm with h | h
            · have := hpre i h; omega
            · have := s4 i h; omega
          · have : i < listed.size := by rw [hc.size]; exact hlt
            simp [this] at h
        · rw [getD_set_ne true hik, ← hr.mem k]
          simp only [List.mem_append, List.mem_cons]
          constructor
          · rintro (h | h)
            · exact .inl h
            · exact .inr (.inr h)
          · rintro (h | h | h)
            · exact .inl h
            · exact absurd h.symm hik
            · exact .inr h
      have hlen : fuel = (pre ++ post).length := by simp at hf ⊢; omega
      have hc' := hc.set hi
      unfold wpOpIn
      simp only [hoi]
      have first : (wantB ops tm oi = some false ∨ isE P oi = false) → (if Region.wanted oi (yielded ops a.tmps) = true then oi.wpIn (FW ρ) m P a w (wpAnyIn (FW ρ) m P .any ops Q' fuel (listed.setIfInBounds i true)) Q'
          else (∀ f, oi.about P w a.eval = some f → (FW ρ).fn f) ∧ wpAnyIn (FW ρ) m P .any ops Q' fuel (listed.setIfInBounds i true) (a.put oi.dst undef) w) := by
        intro hE
        obtain ⟨v, hv, hd'⟩ := dW_first hoi hki pre post tm w.heap [] [] hap hprel hE hd
        obtain ⟨p1, p2⟩ := putO_le hl hz hki v
        have hnext := ih _ _ _ _ w hc' hr' hlen hd' p1 p2 hs
        rcases hv with ⟨h1, rfl⟩ | ⟨h1, h2, h3, h4⟩
        · rw [wanted_of_wantB hl h1]
          simp only [Bool.false_eq_true, if_false]
          exact ⟨fun _ _ => trivial, hnext⟩
        · rw [wanted_of_wantB hl h1]
          simp only [if_true]
          exact wpIn_rd h2 h3 hl (h4 _ (.inl rfl)) hnext
      rcases hwant with hw | hw
      · exact first (.inl hw)
      · cases hE : isE P oi with
        | false => exact first (.inr hE)
        | true =>
          have hne : ∀ j ∈ pre, ∀ oj, ops[j]? = some oj → isE P oj = false := by
            intro j hj oj hoj
            cases he : isE P oj with
            | false => rfl
            | true =>
              have := (pair i j oi oj (hpre j hj) hoi hoj).2 hE he
              rw [hprel j hj] at this
              cases this
          obtain ⟨h1, h2, h3⟩ := dW_effect hoi pre post tm w.heap [] [] hap hprel (fun j hj => Nat.ne_of_lt (hpre j hj)) hne hw hE hd
          rw [wanted_of_wantB hl hw]
          simp only [if_true]
          rcases h3 with h3 | ⟨hnil, _, h3⟩
          rotate_left
          · refine wpIn_ep h1 h2 hl h3 (fun v w' hs2 hK => ?_) (fun ch w' hs2 hK => hP ch a w' ⟨tm, hl, hz, hs.trans hs2, hK⟩)
            obtain ⟨p1, p2⟩ := putO_le hl hz hki v
            refine ih _ _ _ _ w' hc' hr' hlen ?_ p1 p2 (hs.trans hs2)
            rw [hnil]
            exact hK
          refine wpIn_ef h1 h2 hl h3 (fun v w' hs2 hK => ?_)
          obtain ⟨p1, p2⟩ := putO_le hl hz hki v
          exact ih _ _ _ _ w' hc' hr' hlen hK.2 p1 p2 (hs.trans hs2)
end
theorem opD_step_draw {P : Program} {o : Oper} {tm : Tm} {h : Hp} {past : Past} {reads : Reads} {kp : Option Kp} {K : KD} {pr : Nat → Nat → Bool} {i : Nat} (hh : opD P true pr i o tm h past reads kp K) :
    plainOp o ∧ definedB tm o = true ∧
      ((isE P o = false ∧ ∃ v reads', (∀ hp, hp = h ∨ (∃ e, (e, hp) ∈ past ∧ pr e i = false) → RdS P o tm hp v) ∧ (∀ x, x ∈ reads' → x ∈ reads ∨ (x.1 = i ∧ ∀ h', RdS P o tm h' v → x.2 h')) ∧ (∀ x, x ∈ reads → x ∈ reads') ∧ ((i, fun h' => RdS P o tm h' v) ∈ reads' ∨ (∀ h', RdS P o tm h' v) ∨ ∃ r, (i, r) ∈ reads' ∧ ∀ h', r h' → RdS P o tm h' v) ∧ K v h past reads') ∨
       (isE P o = true ∧ EfS P o tm h (fun v h' => (∀ j r, (j, r) ∈ reads → pr j i = false → r h') ∧ K v h' ((i, h) :: past) reads)) ∨ (isE P o = true ∧ ∃ KP, kp = some KP ∧ EfP P o tm h (fun v h' => (∀ j r, (j, r) ∈ reads → pr j i = false → r h') ∧ K v h' ((i, h) :: past) reads) KP)) := by
  unfold opD at hh
  cases hd : definedB tm o with
  | false => rw [hd] at hh; exact hh.elim
  | true =>
    rw [hd] at hh
    simp only at hh
    refine ⟨plain_of_cls (P := P) (fun hx => by rw [hx] at hh; exact hh), rfl, ?_⟩
    have pureCase : ∀ v, (∀ hp : Hp, RdS P o tm hp v) → isE P o = false → K v h past reads → _ := fun v hr hE hK =>
      (Or.inl ⟨hE, v, reads, fun hp _ => hr hp, fun x hx => .inl hx, fun x hx => hx, .inr (.inl hr), hK⟩ : ((isE P o = false ∧ ∃ v reads', (∀ hp, hp = h ∨ (∃ e, (e, hp) ∈ past ∧ pr e i = false) → RdS P o tm hp v) ∧ (∀ x, x ∈ reads' → x ∈ reads ∨ (x.1 = i ∧ ∀ h', RdS P o tm h' v → x.2 h')) ∧ (∀ x, x ∈ reads → x ∈ reads') ∧ ((i, fun h' => RdS P o tm h' v) ∈ reads' ∨ (∀ h', RdS P o tm h' v) ∨ ∃ r, (i, r) ∈ reads' ∧ ∀ h', r h' → RdS P o tm h' v) ∧ K v h past reads') ∨
       (isE P o = true ∧ EfS P o tm h (fun v h' => (∀ j r, (j, r) ∈ reads → pr j i = false → r h') ∧ K v h' ((i, h) :: past) reads)) ∨ (isE P o = true ∧ ∃ KP, kp = some KP ∧ EfP P o tm h (fun v h' => (∀ j r, (j, r) ∈ reads → pr j i = false → r h') ∧ K v h' ((i, h) :: past) reads) KP)))
    have ef : ∀ {v : Value} {h' : Hp}, efK true pr i h past reads K v h' → (∀ j r, (j, r) ∈ reads → pr j i = false → r h') ∧ K v h' ((i, h) :: past) reads := fun hh => allR_all reads hh
    cases hc : cls P o <;> rw [hc] at hh <;> simp only at hh
    case a =>
      split at hh
      · rename_i v hv; exact pureCase v (fun hp => rd_of_pure hv) (by simp [isE, hc]) hh
      · exact hh.elim
    case n =>
      split at hh
      · rename_i x hx
        split at hh
        · rename_i p hp
          unfold drf at hh
          split at hh
          · rename_i a
            refine pureCase _ (fun _ => rd_of_pure ?_) (by simp [isE, hc]) hh
            simp only [execOp, hx, hp]
            rfl
          · exact hh.elim
        · split at hh
          · rename_i v hv; exact pureCase v (fun hp => rd_of_pure hv) (by simp [isE, hc]) hh
          · exact hh.elim
      · exact hh.elim
    case p =>
      obtain ⟨v, hv, hK⟩ := exT_ex _ hh
      exact pureCase v (fun hp => rd_of_HV (.inl hc) (fun w _ => hv w)) (by simp [isE, hc]) hK
    case b =>
      split at hh
      · rename_i op t x y yt hx
        split at hh
        · rename_i hg
          obtain ⟨v, hv, hK⟩ := exT_ex _ hh
          refine pureCase v (fun hp w _ => ?_) (by simp [isE, hc]) hK
          have h1 := guardB_run hg w
          have h2 := (show PV P _ v from hv) w
          simp only [opVal, hx] at h2
          simp [execOp, hx, h1, h2, Result.andThen]
        · exact hh.elim
      · exact hh.elim
    case l =>
      obtain ⟨v, hv, hK⟩ := exT_ex _ hh
      obtain ⟨hpast, hK⟩ := allHV_all past hK
      have hRH : ∀ h', RdS P o tm h' v → HV P (opVal (ev tm) o) h' v := by
        intro h' hr w hw
        have h1 := hr w hw
        rcases execOp_val P (ev tm) o (.inr (.inl hc)) with he | ⟨op, t, x, y, yt, he⟩
        · rw [he] at h1
          simp only [Sem.run_bind] at h1
          cases hq : (opVal (ev tm) o).run P w with
          | ok u w' =>
            rw [hq] at h1
            simp only [Result.andThen] at h1
            injection h1 with e1 e2
            injection e1 with e1
            rw [e1, e2]
          | halt x w' => rw [hq] at h1; simp [Result.andThen] at h1
        · rcases cls_binOp (P := P) he with h1 | h1 <;> rw [h1] at hc <;> cases hc
      refine .inl ⟨by simp [isE, hc], v, _, fun q hq => rd_of_HV (.inr hc) (hq.elim (fun e => by rw [e]; exact hv) (fun ⟨e, h3, h4⟩ => hpast e q h3 h4)), fun x hx => ?_, fun x hx => List.mem_cons_of_mem _ hx, .inr (.inr ⟨_, List.mem_cons_self .., fun h' a => rd_of_HV (.inr hc) a⟩), hK⟩
      rcases List.mem_cons.1 hx with rfl | hx
      · exact .inr ⟨rfl, fun h' => hRH h'⟩
      · exact .inl hx
    case u =>
      split at hh
      · rename_i t m k x hx
        refine .inr (.inl ⟨by simp [isE, hc], ?_⟩)
        unfold EfS
        simp only [execOp, hx]
        exact semWp_bind P _ _ h _ (semWp_mono P _ h (fun _ h' hk => ef hk) hh)
      · rename_i t x y hx
        refine .inr (.inl ⟨by simp [isE, hc], ?_⟩)
        unfold EfS
        simp only [execOp, hx]
        exact semWp_bind P _ _ h _ (semWp_mono P _ h (fun _ h' hk => ef hk) hh)
      · exact hh.elim
    case e => exact .inr (.inl ⟨by simp [isE, hc], ef_of_HW (.inl hc) (semWp_mono P _ h (fun v h' hk => ef hk) hh)⟩)
    case w => exact .inr (.inl ⟨by simp [isE, hc], ef_of_HW (.inr hc) (semWp_mono P _ h (fun v h' ha => ef (asT_v ha)) hh)⟩)
    case z =>
      split at hh
      · simp only [noDr] at hh
      · exact hh.elim
    case y =>
      split at hh
      · rename_i it s hx
        refine .inr (.inl ⟨by simp [isE, hc], ?_⟩)
        unfold EfS
        simp only [execOp, hx]
        exact semWp_bind P _ _ h _ (semWp_mono P _ h (fun v h' ha => ef (asNx_v ha)) hh)
      · exact hh.elim
    case k =>
      split at hh
      · rename_i f args hf
        cases kp with
        | none =>
          refine .inr (.inl ⟨by simp [isE, hc], ?_⟩)
          unfold EfS
          exact semWp_pure P _ _ h _ hf (CallsH.mono hh (fun v h' ha => ef (asT_v ha)))
        | some KP =>
          refine .inr (.inr ⟨by simp [isE, hc], KP, rfl, ?_⟩)
          unfold EfP
          exact semWp_pure P _ _ h _ hf (CallsP.mono hh (fun v h' ha => ef (asT_v ha)) (fun _ _ h => h))
      · rename_i v hf
        refine .inr (.inl ⟨by simp [isE, hc], ?_⟩)
        unfold EfS
        exact semWp_pure P _ _ h _ hf (ef hh)
      · exact hh.elim
    case v =>
      split at hh
      · rename_i f args at_ hx
        have e : (do let d ← resolve (ev tm) { callee := .value f, args := args, argTypes := at_ } o.type; invoke d.target d.args) = callS (ev tm f) (argsL (ev tm) args) := by
          simp only [resolve, callS, argsL_eq]
        cases kp with
        | none =>
          refine .inr (.inl ⟨by simp [isE, hc], ?_⟩)
          unfold EfS
          simp only [execOp, hx]
          rw [e]
          exact HN_mono (fun v h' ha => ef (asT_v ha)) hh
        | some KP =>
          refine .inr (.inr ⟨by simp [isE, hc], KP, rfl, ?_⟩)
          unfold EfP
          simp only [execOp, hx]
          rw [e]
          exact HNP_mono (fun v h' ha => ef (asT_v ha)) hh
      · rename_i r m args at_ hx
        cases kp with
        | none =>
          refine .inr (.inl ⟨by simp [isE, hc], ?_⟩)
          unfold EfS
          simp only [execOp, hx]
          rw [invoke_eq]
          exact HN_mono (fun v h' ha => ef (asT_v ha)) hh
        | some KP =>
          refine .inr (.inr ⟨by simp [isE, hc], KP, rfl, ?_⟩)
          unfold EfP
          simp only [execOp, hx]
          rw [invoke_eq]
          exact HNP_mono (fun v h' ha => ef (asT_v ha)) hh
      · exact hh.elim
theorem lastB_spec {ops : Array Oper} {i : Nat} (h : lastB ops i = true) : i + 1 = ops.size ∧ ∀ j, j < ops.size → j ≠ i → Pr ops j i = true := by
  simp only [lastB, Bool.and_eq_true] at h
  obtain ⟨h1, h2⟩ := h
  have h1 := Nat.eq_of_beq_eq_true h1
  exact ⟨h1, fun j hj hne => List.all_eq_true.1 h2 j (List.mem_range.2 (by omega))⟩
theorem opsW_dW {P : Program} {ops : Array Oper} {n : Nat} {Q : Tm → Hp → Prop} {kp : Option Kt} : ∀ (l : List Nat) (tm : Tm) (h : Hp) (past : Past) (reads readsA : Reads), (∃ s, l = List.range' s (ops.size - s)) →
    (∀ h' i, (∀ j r, (j, r) ∈ readsA → Pr ops j i = false → r h') ↔ (∀ j r, (j, r) ∈ reads → Pr ops j i = false → r h')) → opsW P ops n true Q kp l tm h past reads → dW P ops n Q (kpOf kp) l tm h past readsA
  | [], tm, h, past, reads, readsA, _, _, hh => hh
  | i :: rest, tm, h, past, reads, readsA, hrg, hiff, hh => by
    have hrg2 : (∃ s, rest = List.range' s (ops.size - s)) ∧ (i + 1 = ops.size → rest = []) := by
      obtain ⟨s, hs⟩ := hrg
      cases hk : ops.size - s with
      | zero => rw [hk] at hs; cases hs
      | succ k =>
        rw [hk, List.range'_succ] at hs
        injection hs with h1 h2
        refine ⟨⟨s + 1, by rw [h2]; congr 1; omega⟩, fun e => ?_⟩
        have : k = 0 := by omega
        rw [h2, this]
        rfl
    rw [opsW] at hh
    cases ho : ops[i]? with
    | none => rw [ho] at hh; exact hh.elim
    | some o =>
      rw [ho] at hh
      simp only at hh
      cases hk : okDst n o.dst with
      | false => rw [hk] at hh; exact hh.elim
      | true =>
        rw [hk] at hh
        simp only at hh
        have step : ∀ tm2, tm2 = tm → wantB ops tm o = some true → opD P true (hasPred ops ops.size) i o tm2 h past reads (kpAt ops true i kp tm2) (fun v h' p r => opsW P ops n true Q kp rest (tm2.putO o.dst v) h' p r) → dW P ops n Q (kpOf kp) (i :: rest) tm h past readsA := by
          intro tm2 e hw hop
          subst e
          obtain ⟨h1, h2, h3⟩ := opD_step_draw hop
          refine ⟨o, ho, hk, .inr ⟨hw, h1, h2, ?_⟩⟩
          rcases h3 with ⟨hE, v, reads', hr, hto, hfrom, hself, hK⟩ | ⟨hE, h3⟩ | ⟨hE, KP, hkp, h3⟩
          · refine .inl ⟨hE, v, hr, opsW_dW rest _ _ _ _ _ hrg2.1 (fun h' i' => ⟨fun a j r hjr hpr => ?_, fun a j r hjr hpr => ?_⟩) hK⟩
            · rcases hto (j, r) hjr with h4 | ⟨h4, h5⟩
              · exact (hiff h' i').1 (fun j r hjr => a j r (List.mem_cons_of_mem _ hjr)) j r h4 hpr
              · simp only at h4 h5
                subst h4
                exact h5 h' (a _ _ (List.mem_cons_self ..) hpr)
            · rcases List.mem_cons.1 hjr with e | hjr
              · injection e with e1 e2
                subst e1 e2
                rcases hself with h4 | h4 | ⟨r', h4, h5⟩
                · exact a _ _ h4 hpr
                · exact h4 h'
                · exact h5 h' (a _ _ h4 hpr)
              · exact (hiff h' i').2 (fun j r hjr => a j r (hfrom _ hjr)) j r hjr hpr
          · exact .inr (.inl ⟨hE, h3.mono fun v h' ⟨hall, hK⟩ => ⟨(hiff h' i).2 hall, opsW_dW rest _ _ _ _ _ hrg2.1 hiff hK⟩⟩)
          · simp only [kpAt] at hkp
            cases hlb : lastB ops i with
            | false => rw [hlb] at hkp; cases hkp
            | true =>
              rw [hlb] at hkp
              simp only at hkp
              obtain ⟨l1, l2⟩ := lastB_spec hlb
              have hnil := hrg2.2 l1
              refine .inr (.inr ⟨hE, hnil, l2, ?_⟩)
              have e : kpOf kp tm2 = KP := by rw [← kpO_T, hkp]; rfl
              rw [e]
              refine h3.mono fun v h' ⟨_, hK⟩ => ?_
              rw [hnil] at hK
              exact hK
        have skip : ∀ tm2, tm2 = tm → wantB ops tm o = some false → opsW P ops n true Q kp rest (tm2.putO o.dst undef) h past reads → dW P ops n Q (kpOf kp) (i :: rest) tm h past readsA := by
          intro tm2 e hw hop
          subst e
          exact ⟨o, ho, hk, .inl ⟨hw, opsW_dW rest _ _ _ _ _ hrg2.1 hiff hop⟩⟩
        cases hg : o.guard with
        | none =>
          rw [hg] at hh
          exact step tm rfl (by simp [wantB, hg]) hh
        | some jw =>
          obtain ⟨j, want⟩ := jw
          rw [hg] at hh
          simp only at hh
          cases hj : (ops[j]?).bind (·.dst) with
          | none => rw [hj] at hh; exact hh.elim
          | some d =>
            rw [hj] at hh
            simp only at hh
            cases ht : tm d with
            | none => rw [ht] at hh; exact hh.elim
            | some v =>
              rw [ht] at hh
              have hput : tm.put d v = tm := Tm.put_same ht
              have hwb : ∀ b, v = .bool b → wantB ops tm o = some (b == want) := fun b e => by simp [wantB, hg, hj, ht, e]
              cases v <;> first
                | (exact skip tm rfl (by simp [wantB, hg, hj, ht]) hh)
                | skip
              rename_i b
              cases b <;> cases want <;> simp only [br] at hh
              · exact step _ hput (hwb _ rfl) hh
              · exact skip _ hput (hwb _ rfl) hh
              · exact skip _ hput (hwb _ rfl) hh
              · exact step _ hput (hwb _ rfl) hh
theorem opsW_sound_draw {ds : List Deferred} {P : Program} {ops : Array Oper} {n m : Nat} {ρ : Option Nat} {id : Nat} {Q : Tm → Hp → Prop} {kp : Option Kt} {Q' : Exit → Act → World → Prop} {w0 : World} (hQ : ∀ a w, LQ ds w0 n Q a w → Q' .normal a w) (hOK : drawOK P ops = true) (hP : ∀ ch a w, LQ ds w0 n (fun tm h => kpOf kp tm ch h) a w → Q' (.panic ch) a w)
    {tm : Tm} {a : Act} {w : World} (h : opsW P ops n true Q kp (List.range ops.size) tm w.heap [] []) (hl : Le ds tm a) (hz : a.tmps.size = n) (hs : Same w0 w) : (Code.region id ops true).wpIn (FW ρ) m P Q' a w := by
  have hm : P.follows .mixedOrders = true := by
    simp only [drawOK, Bool.and_eq_true] at hOK
    exact hOK.1.1
  refine wpIn_region_any hm ?_
  have h1 := opsW_dW _ tm w.heap [] [] [] ⟨0, by rw [List.range_eq_range']; rfl⟩ (fun _ _ => Iff.rfl) h
  refine dW_sound hOK hQ hP ops.size (Array.replicate ops.size false) (List.range ops.size) tm a _ ⟨by simp, fun k o ho hl => ?_⟩ ⟨List.pairwise_lt_range, fun i => ?_⟩ (by simp) h1 hl hz ⟨hs.os, hs.tape, hs.output, trivial⟩
  · exfalso
    rcases Nat.lt_or_ge k ops.size with h | h <;> simp [h] at hl
  · rw [List.mem_range]
    constructor
    · intro h; exact ⟨h, by simp [h]⟩
    · exact fun h => h.1
end Go.Proofs.YtfdpccbajaiepaaGreatDoor.Sxp

/- Whole functions, with a way out for panics; scopes of many labels. -/
namespace Go.Proofs.YtfdpccbajaiepaaGreatDoor.Sxp
open Go Go.Proofs.YtfdpccbajaiepaaGreatDoor.Sx
set_option linter.unusedVariables false
set_option linter.unusedSimpArgs false
/-- What a panic comes to. -/
def kpQ (pn : Bool) (Q : Qx) : Option Kt := match pn with
  | true => some (fun tm ch h => Q (.panic ch) tm h)
  | false => none
theorem kpQ_out {ds : List Deferred} {w0 : World} {n : Nat} {pn : Bool} {Q : Qx} : ∀ ch a w, LQ ds w0 n (fun tm h => kpOf (kpQ pn Q) tm ch h) a w → LE ds w0 n Q (.panic ch) a w := fun ch a w ⟨tm, h1, h2, h3, h4⟩ => by
  cases pn with
  | false => exact h4.elim
  | true => exact ⟨tm, h1, h2, h3, h4⟩
def codeWp (P : Program) (n : Nat) (pn : Bool) (lp : Nat → Qx → Tm → Hp → Prop) (cut : Nat → Option (List Nat)) : Code → Nat → Qx → Tm → Hp → Prop
  | .skip, _, Q, tm, h => Q .normal tm h
  | .region _ ops dr, _, Q, tm, h => match dr with
    | false => opsW P ops n false (fun tm h => Q .normal tm h) (kpQ pn Q) (List.range ops.size) tm h [] []
    | true => match drawOK P ops with
      | true => opsW P ops n true (fun tm h => Q .normal tm h) (kpQ pn Q) (List.range ops.size) tm h [] []
      | false => False
  | .seq a b, i, Q, tm, h => codeWp P n pn lp cut a (2 * i) (thenQ (fun tm' h' => match cut i with
      | none => codeWp P n pn lp cut b (2 * i + 1) Q tm' h'
      | some live => lp i Q (mask live tm') h') Q) tm h
  | .cond c a b, i, Q, tm, h => match ev? tm c with
    | some (.bool x) => br x (codeWp P n pn lp cut a (2 * i) Q (litO c true tm) h) (codeWp P n pn lp cut b (2 * i + 1) Q (litO c false tm) h)
    | _ => False
  | .block id c, i, Q, tm, h => codeWp P n pn lp cut c (2 * i) (blkQ id Q) tm h
  | .loop _, i, Q, tm, h => lp i Q tm h
  | .rangeFunc .., i, Q, tm, h => lp i Q tm h
  | .exit id, _, Q, tm, h => Q (.exit id) tm h
  | .scope c, i, Q, tm, h => match cut i with
    | none => codeWp P n pn lp cut c (2 * i) (noGotoQ Q) tm h
    | some _ => lp i Q tm h
  | .label _, _, Q, tm, h => Q .normal tm h
  | .goto l, _, Q, tm, h => Q (.goto l) tm h
  | .ret, _, Q, tm, h => Q .ret tm h
  | .refuse _, _, _, _, _ => False
def Good (P : Program) (n : Nat) (ρ : Option Nat) (pn : Bool) (lp : Nat → Qx → Tm → Hp → Prop) (cut : Nat → Option (List Nat)) : Code → Nat → Prop
  | .seq a b, i => Good P n ρ pn lp cut a (2 * i) ∧ (match cut i with
    | none => Good P n ρ pn lp cut b (2 * i + 1)
    | some _ => SndAt P n ρ b (lp i))
  | .cond _ a b, i => Good P n ρ pn lp cut a (2 * i) ∧ Good P n ρ pn lp cut b (2 * i + 1)
  | .block _ c, i => Good P n ρ pn lp cut c (2 * i)
  | .scope c, i => match cut i with
    | none => Good P n ρ pn lp cut c (2 * i)
    | some _ => SndAt P n ρ (.scope c) (lp i)
  | .loop c, i => SndAt P n ρ (.loop c) (lp i)
  | .rangeFunc f ps as c, i => SndAt P n ρ (.rangeFunc f ps as c) (lp i)
  | _, _ => True
theorem codeWp_sound {P : Program} {n : Nat} {pn : Bool} {ρ : Option Nat} {lp : Nat → Qx → Tm → Hp → Prop} {cut : Nat → Option (List Nat)} : ∀ (c : Code) (i : Nat), Good P n ρ pn lp cut c i → SndAt P n ρ c (codeWp P n pn lp cut c i)
  | .skip, i, hg => fun ds Q tm a w w0 h hl hz hs m => wpIn_skip ⟨tm, hl, hz, hs, h⟩
  | .region id ops dr, i, hg => fun ds Q tm a w w0 h hl hz hs m => by
    cases dr with
    | false => exact opsW_sound (Q := fun tm h => Q .normal tm h) (fun a w h => h) kpQ_out h hl hz hs
    | true =>
      rw [codeWp] at h
      cases hd : drawOK P ops with
      | false => rw [hd] at h; exact h.elim
      | true => rw [hd] at h; exact opsW_sound_draw (Q := fun tm h => Q .normal tm h) (fun a w h => h) hd kpQ_out h hl hz hs
  | .seq x y, i, hg => fun ds Q tm a w w0 h hl hz hs m => by
    refine wpIn_seq (wpIn_mono (codeWp_sound x (2 * i) hg.1 ds _ tm a w w0 h hl hz hs m) (fun e a' w' ⟨tm', h1, h2, h3, h4⟩ => ?_))
    have hy : SndAt P n ρ y (fun Q tm' h' => match cut i with
      | none => codeWp P n pn lp cut y (2 * i + 1) Q tm' h'
      | some live => lp i Q (mask live tm') h') := by
      have hg2 := hg.2
      cases hc : cut i with
      | none => rw [hc] at hg2; exact codeWp_sound y (2 * i + 1) hg2
      | some live => rw [hc] at hg2; exact fun ds Q tm a w w0 h hl hz hs m => hg2 ds Q (mask live tm) a w w0 h (hl.mask live) hz hs m
    cases e with
    | normal => exact hy ds Q tm' a' w' w0 h4 h1 h2 h3 m
    | _ => exact ⟨tm', h1, h2, h3, h4⟩
  | .cond c x y, i, hg => fun ds Q tm a w w0 h hl hz hs m => by
    rw [codeWp] at h
    split at h
    · rename_i b hb
      have hlit : litO c b tm = tm := by
        cases c with
        | tmp t => exact Tm.put_same hb
        | _ => rfl
      refine wpIn_cond (t := b) (hl.ev hb) ?_
      cases b with
      | true =>
        simp only [br] at h
        rw [hlit] at h
        exact codeWp_sound x (2 * i) hg.1 ds _ _ _ _ _ h hl hz hs m
      | false =>
        simp only [br] at h
        rw [hlit] at h
        exact codeWp_sound y (2 * i + 1) hg.2 ds _ _ _ _ _ h hl hz hs m
    · exact h.elim
  | .block id c, i, hg => fun ds Q tm a w w0 h hl hz hs m => by
    refine wpIn_block (wpIn_mono (codeWp_sound c (2 * i) hg ds _ tm a w w0 h hl hz hs m) (fun e a' w' ⟨tm', h1, h2, h3, h4⟩ => ?_))
    cases e with
    | exit j =>
      simp only [blkQ] at h4
      simp only [Exit.inBlock]
      cases hb : Nat.beq j id with
      | true =>
        rw [hb] at h4
        rw [if_pos (Nat.eq_of_beq_eq_true hb)]
        exact ⟨tm', h1, h2, h3, h4⟩
      | false =>
        rw [hb] at h4
        rw [if_neg (fun e => by subst e; simp at hb)]
        exact ⟨tm', h1, h2, h3, h4⟩
    | _ => exact ⟨tm', h1, h2, h3, h4⟩
  | .loop c, i, hg => hg
  | .rangeFunc f ps as c, i, hg => hg
  | .exit id, i, hg => fun ds Q tm a w w0 h hl hz hs m => wpIn_exit ⟨tm, hl, hz, hs, h⟩
  | .scope c, i, hg => by
    cases hcut : cut i with
    | none =>
      simp only [Good, hcut] at hg
      intro ds Q tm a w w0 h hl hz hs m
      simp only [codeWp, hcut] at h
      refine wpIn_scope_straight (wpIn_mono (codeWp_sound c (2 * i) hg ds _ tm a w w0 h hl hz hs m) (fun e a' w' ⟨tm', h1, h2, h3, h4⟩ => ?_))
      cases e with
      | goto l => exact h4.elim
      | _ => exact ⟨tm', h1, h2, h3, h4⟩
    | some l =>
      simp only [Good, hcut] at hg
      intro ds Q tm a w w0 h hl hz hs m
      simp only [codeWp, hcut] at h
      exact hg ds Q tm a w w0 h hl hz hs m
  | .label l, i, hg => fun ds Q tm a w w0 h hl hz hs m => wpIn_label ⟨tm, hl, hz, hs, h⟩
  | .goto l, i, hg => fun ds Q tm a w w0 h hl hz hs m => wpIn_goto ⟨tm, hl, hz, hs, h⟩
  | .ret, i, hg => fun ds Q tm a w w0 h hl hz hs m => wpIn_ret ⟨tm, hl, hz, hs, h⟩
  | .refuse y, i, hg => fun ds Q tm a w w0 h hl hz hs m => h.elim

theorem good_of_leaves {P : Program} {n : Nat} {pn : Bool} {ρ : Option Nat} {lp : Nat → Qx → Tm → Hp → Prop} {cut : Nat → Option (List Nat)} : ∀ (c : Code) (i : Nat), (∀ p ∈ leaves cut c i, SndAt P n ρ p.2 (lp p.1)) → Good P n ρ pn lp cut c i
  | .seq a b, i, h => by
    simp only [leaves] at h
    refine ⟨good_of_leaves a (2 * i) (fun p hp => h p (List.mem_append_left _ hp)), ?_⟩
    cases hc : cut i with
    | none => rw [hc] at h; exact good_of_leaves b (2 * i + 1) (fun p hp => h p (List.mem_append_right _ hp))
    | some l => rw [hc] at h; exact h (i, b) (List.mem_append_right _ (List.mem_cons_self ..))
  | .cond c a b, i, h => by
    simp only [leaves] at h
    exact ⟨good_of_leaves a (2 * i) (fun p hp => h p (List.mem_append_left _ hp)), good_of_leaves b (2 * i + 1) (fun p hp => h p (List.mem_append_right _ hp))⟩
  | .block id c, i, h => good_of_leaves c (2 * i) h
  | .scope c, i, h => by
    cases hcut : cut i with
    | none =>
      simp only [leaves, hcut] at h
      simp only [Good, hcut]
      exact good_of_leaves c (2 * i) h
    | some l =>
      simp only [leaves, hcut] at h
      simp only [Good, hcut]
      exact h (i, .scope c) (List.mem_cons_self ..)
  | .loop c, i, h => h (i, .loop c) (List.mem_cons_self ..)
  | .rangeFunc f ps as c, i, h => h (i, .rangeFunc f ps as c) (List.mem_cons_self ..)
  | .skip, i, h => trivial
  | .region .., i, h => trivial
  | .exit _, i, h => trivial
  | .label _, i, h => trivial
  | .goto _, i, h => trivial
  | .ret, i, h => trivial
  | .refuse _, i, h => trivial
theorem good_by {P : Program} {n : Nat} {pn : Bool} {ρ : Option Nat} {lp : Nat → Qx → Tm → Hp → Prop} {cut : Nat → Option (List Nat)} {c : Code} {i : Nat} {l : List (Nat × Code)} (he : leaves cut c i = l) (h : ∀ p ∈ l, SndAt P n ρ p.2 (lp p.1)) : Good P n ρ pn lp cut c i :=
  good_of_leaves c i (by rw [he]; exact h)
theorem loop_sound {P : Program} {n : Nat} {pn : Bool} {ρ : Option Nat} {lp : Nat → Qx → Tm → Hp → Prop} {cut : Nat → Option (List Nat)} {c : Code} {i : Nat} (live : List Nat) (lx : Exit → List Nat)
    (Lp : Qx → Nat → Tm → Hp → Prop) (hg : Good P n ρ pn lp cut c (2 * i)) (h0 : ∀ Q tm h, ¬ Lp Q 0 tm h)
    (hs : ∀ Q k tm h, Lp Q (k + 1) tm h → codeWp P n pn lp cut c (2 * i) (thenQ (fun tm h => Lp Q k (mask live tm) h) (maskQ lx Q)) (mask live tm) h) :
    SndAt P n ρ (.loop c) (fun Q tm h => ∃ k, Lp Q k tm h) := by
  intro ds Q tm a w w0 ⟨k, hk⟩ hl hz hsm m
  refine wpIn_loop_rounds k ?_
  induction k generalizing tm a w with
  | zero => exact (h0 _ _ _ hk).elim
  | succ k ih =>
    refine wpIn_mono (codeWp_sound c (2 * i) hg ds _ _ a w w0 (hs Q k tm w.heap hk) (hl.mask live) hz hsm m) (fun e a' w' ⟨tm', h1, h2, h3, h4⟩ => ?_)
    cases e with
    | normal => exact ih (mask live tm') a' w' h4 (h1.mask live) h2 h3
    | _ => exact ⟨_, h1.mask _, h2, h3, h4⟩
theorem join_sound {P : Program} {n : Nat} {pn : Bool} {ρ : Option Nat} {lp : Nat → Qx → Tm → Hp → Prop} {cut : Nat → Option (List Nat)} {c : Code} {i : Nat} (live : List Nat) (lx : Exit → List Nat)
    (J : Qx → Tm → Hp → Prop) (hg : Good P n ρ pn lp cut c (2 * i + 1)) (hs : ∀ Q tm h, J Q tm h → codeWp P n pn lp cut c (2 * i + 1) (maskQ lx Q) (mask live tm) h) : SndAt P n ρ c J := by
  intro ds Q tm a w w0 hJ hl hz hsm m
  refine wpIn_mono (codeWp_sound c (2 * i + 1) hg ds _ _ a w w0 (hs Q tm w.heap hJ) (hl.mask live) hz hsm m) (fun e a' w' ⟨tm', h1, h2, h3, h4⟩ => ?_)
  exact ⟨_, h1.mask _, h2, h3, h4⟩

theorem scope_sound {P : Program} {n : Nat} {pn : Bool} {ρ : Option Nat} {lp : Nat → Qx → Tm → Hp → Prop} {cut : Nat → Option (List Nat)} {c rest : Code} {i j l : Nat} (live : List Nat) (lx : Exit → List Nat)
    (G : Qx → Nat → Tm → Hp → Prop) (hf : findLabel c l = some rest) (hgc : Good P n ρ pn lp cut c i) (hgr : Good P n ρ pn lp cut rest j) (h0 : ∀ Q tm h, ¬ G Q 0 tm h)
    (hs : ∀ Q k tm h, G Q (k + 1) tm h → codeWp P n pn lp cut rest j (gotoQ l (fun tm h => G Q k (mask live tm) h) (maskQ lx Q)) (mask live tm) h) :
    SndAt P n ρ (.scope c) (fun Q tm h => ∃ k, codeWp P n pn lp cut c i (gotoQ l (fun tm h => G Q k (mask live tm) h) Q) tm h) := by
  intro ds Q tm a w w0 ⟨k, hk⟩ hl hz hsm m b k0 cs hro hb hr
  have calm : ∀ a k w, Machine.fenced P (FW ρ) (lone (b.atR a (.inScope c :: k)) cs w) := fun a k w => fenced_calm hb hr rfl
  have key : ∀ k tm a w, G Q k tm w.heap → Le ds tm a → a.tmps.size = n → Same w0 w →
      ∃ e a' w', LE ds w0 n Q e a' w' ∧ ArrivesIn (Machine.fenced P (FW ρ)) P (lone (b.atR a (.code rest :: .inScope c :: k0)) cs w) b k0 cs e a' w' := by
    intro k
    induction k with
    | zero => intro tm a w h; exact (h0 _ _ _ h).elim
    | succ k ih =>
      intro tm a w h hl hz hsm
      obtain ⟨e, a₁, w₁, hq, harr⟩ := codeWp_sound rest j hgr ds _ _ a w w0 (hs Q k tm w.heap h) (hl.mask live) hz hsm m b (.inScope c :: k0) cs hro hb hr
      have hq' : LE ds w0 n (gotoQ l (fun tm h => G Q k (mask live tm) h) Q) e a₁ w₁ := by
        obtain ⟨tm', h1, h2, h3, h4⟩ := hq
        cases e with
        | goto g => exact ⟨tm', h1, h2, h3, h4⟩
        | _ => exact ⟨_, h1.mask _, h2, h3, h4⟩
      exact scope_pass hf calm (fun tm a w h hl hz hsm => ih (mask live tm) a w h (hl.mask live) hz hsm) hq' harr
  obtain ⟨e, a₁, w₁, hq, harr⟩ := codeWp_sound c i hgc ds _ tm a w w0 hk hl hz hsm m b (.inScope c :: k0) cs hro hb hr
  obtain ⟨e, a', w', hq2, harr2⟩ := scope_pass hf calm (fun tm a w h hl hz hsm => key k (mask live tm) a w h (hl.mask live) hz hsm) hq harr
  exact ⟨e, a', w', hq2, .of_steps (.one (fenced_calm hb hr rfl) stepR_scope') harr2⟩

/-! ### A scope with many labels -/
structure Lab where
  l : Nat
  rest : Code
  j : Nat
  live : List Nat
  lx : Exit → List Nat
def labAt : List Lab → Nat → Option Lab
  | [], _ => none
  | r :: rs, l => match Nat.beq l r.l with
    | true => some r
    | false => labAt rs l
theorem labAt_mem : ∀ {ls : List Lab} {l : Nat} {r : Lab}, labAt ls l = some r → r ∈ ls ∧ r.l = l
  | [], _, _, h => by cases h
  | x :: xs, l, r, h => by
    rw [labAt] at h
    cases hb : Nat.beq l x.l with
    | true =>
      rw [hb] at h
      injection h with h
      subst h
      exact ⟨List.mem_cons_self .., (Nat.eq_of_beq_eq_true hb).symm⟩
    | false =>
      rw [hb] at h
      obtain ⟨h1, h2⟩ := labAt_mem h
      exact ⟨List.mem_cons_of_mem _ h1, h2⟩
def gotoM (ls : List Lab) (G : Nat → Tm → Hp → Prop) (Q : Qx) : Qx
  | .goto j, tm, h => match labAt ls j with
    | some r => G j (mask r.live tm) h
    | none => False
  | e, tm, h => Q e tm h
theorem scope_passM {ds : List Deferred} {P : Program} {F : Fence} {n : Nat} {ls : List Lab} {w0 : World} {c : Code} {Gk : Nat → Tm → Hp → Prop} {Q : Qx} {b : Frame} {k0 : List Item} {cs : List Frame} (hf : ∀ r ∈ ls, findLabel c r.l = some r.rest)
    (calm : ∀ a k w, Machine.fenced P F (lone (b.atR a (.inScope c :: k)) cs w))
    (next : ∀ r ∈ ls, ∀ tm a w, Gk r.l tm w.heap → Le ds tm a → a.tmps.size = n → Same w0 w → ∃ e a' w', LE ds w0 n Q e a' w' ∧ ArrivesIn (Machine.fenced P F) P (lone (b.atR a (.code r.rest :: .inScope c :: k0)) cs w) b k0 cs e a' w')
    {m0 : Machine} {e : Exit} {a₁ : Act} {w₁ : World} (hq : LE ds w0 n (gotoM ls Gk Q) e a₁ w₁) (harr : ArrivesIn (Machine.fenced P F) P m0 b (.inScope c :: k0) cs e a₁ w₁) :
    ∃ e a' w', LE ds w0 n Q e a' w' ∧ ArrivesIn (Machine.fenced P F) P m0 b k0 cs e a' w' := by
  obtain ⟨tm', h1, h2, h3, h4⟩ := hq
  cases e with
  | normal => exact ⟨.normal, a₁, w₁, ⟨tm', h1, h2, h3, h4⟩, StepsIn.trans harr (.one (calm _ _ _) stepR_inScope')⟩
  | exit id =>
    have hx : exitTo id (.inScope c :: k0) = exitTo id k0 := by simp [exitTo]
    exact ⟨.exit id, a₁, w₁, ⟨tm', h1, h2, h3, h4⟩, fun k' hk => harr.1 k' (by rw [hx]; exact hk), fun hr' hk => harr.2 hr' (by rw [hx]; exact hk)⟩
  | goto j =>
    simp only [gotoM] at h4
    cases hb : labAt ls j with
    | none => rw [hb] at h4; exact h4.elim
    | some r =>
      rw [hb] at h4
      obtain ⟨hm, hj⟩ := labAt_mem hb
      subst hj
      obtain ⟨e₂, a₂, w₂, hq₂, harr₂⟩ := next r hm (mask r.live tm') a₁ w₁ h4 (h1.mask _) h2 h3
      exact ⟨e₂, a₂, w₂, hq₂, .of_steps (harr.1 _ (by simp only [gotoIn, hf r hm])) harr₂⟩
  | ret => exact ⟨_, a₁, w₁, ⟨tm', h1, h2, h3, h4⟩, harr⟩
  | panic ch => exact ⟨_, a₁, w₁, ⟨tm', h1, h2, h3, h4⟩, harr⟩
  | outgrown => exact ⟨_, a₁, w₁, ⟨tm', h1, h2, h3, h4⟩, harr⟩
theorem scopes_sound {P : Program} {n : Nat} {pn : Bool} {ρ : Option Nat} {lp : Nat → Qx → Tm → Hp → Prop} {cut : Nat → Option (List Nat)} {c : Code} {i : Nat} (ls : List Lab)
    (G : Nat → Qx → Nat → Tm → Hp → Prop) (hgc : Good P n ρ pn lp cut c i)
    (hl : ∀ r ∈ ls, findLabel c r.l = some r.rest ∧ Good P n ρ pn lp cut r.rest r.j ∧ (∀ Q tm h, ¬ G r.l Q 0 tm h) ∧
      ∀ Q k tm h, G r.l Q (k + 1) tm h → codeWp P n pn lp cut r.rest r.j (gotoM ls (fun l tm h => G l Q k tm h) (maskQ r.lx Q)) (mask r.live tm) h) :
    SndAt P n ρ (.scope c) (fun Q tm h => ∃ k, codeWp P n pn lp cut c i (gotoM ls (fun l tm h => G l Q k tm h) Q) tm h) := by
  intro ds Q tm a w w0 ⟨k, hk⟩ hl0 hz hsm m b k0 cs hro hb hr
  have calm : ∀ a k w, Machine.fenced P (FW ρ) (lone (b.atR a (.inScope c :: k)) cs w) := fun a k w => fenced_calm hb hr rfl
  have key : ∀ k, ∀ r ∈ ls, ∀ tm a w, G r.l Q k tm w.heap → Le ds tm a → a.tmps.size = n → Same w0 w →
      ∃ e a' w', LE ds w0 n Q e a' w' ∧ ArrivesIn (Machine.fenced P (FW ρ)) P (lone (b.atR a (.code r.rest :: .inScope c :: k0)) cs w) b k0 cs e a' w' := by
    intro k
    induction k with
    | zero => intro r hr tm a w h; exact ((hl r hr).2.2.1 _ _ _ h).elim
    | succ k ih =>
      intro r hr2 tm a w h hl1 hz hsm
      obtain ⟨_, hg, _, hs⟩ := hl r hr2
      obtain ⟨e, a₁, w₁, hq, harr⟩ := codeWp_sound r.rest r.j hg ds _ _ a w w0 (hs Q k tm w.heap h) (hl1.mask r.live) hz hsm m b (.inScope c :: k0) cs hro hb hr
      have hq' : LE ds w0 n (gotoM ls (fun l tm h => G l Q k tm h) Q) e a₁ w₁ := by
        obtain ⟨tm', h1, h2, h3, h4⟩ := hq
        cases e with
        | goto g => exact ⟨tm', h1, h2, h3, h4⟩
        | _ => exact ⟨_, h1.mask _, h2, h3, h4⟩
      exact scope_passM (fun r hr => (hl r hr).1) calm ih hq' harr
  obtain ⟨e, a₁, w₁, hq, harr⟩ := codeWp_sound c i hgc ds _ tm a w w0 hk hl0 hz hsm m b (.inScope c :: k0) cs hro hb hr
  obtain ⟨e, a', w', hq2, harr2⟩ := scope_passM (fun r hr => (hl r hr).1) calm (key k) hq harr
  exact ⟨e, a', w', hq2, .of_steps (.one (fenced_calm hb hr rfl) stepR_scope') harr2⟩
/-! ### A function -/
def endP (P : Program) (rs : List ResultVar) (K : Value → Hp → Prop) (KP : Kp) : Qx
  | .normal, tm, h => resQ P tm h rs fun l => K (oneV l) h
  | .ret, tm, h => resQ P tm h rs fun l => K (oneV l) h
  | .panic ch, _, h => KP ch h
  | _, _, _ => False
theorem calls_of {P : Program} {f : FuncId} {fn : Func} {c : Code} {n : Nat} {pn : Bool} {args : List Value} {h : Hp} {K : Value → Hp → Prop} {lp : Nat → Qx → Tm → Hp → Prop} {cut : Nat → Option (List Nat)}
    (hf : P.funcs[f]? = some fn) (hb : fn.body = some c) (hn : fn.ntmps = n) (ha : Nat.ble args.length n = true) (hg : Good P n none pn lp cut c 1)
    (hc : codeWp P n pn lp cut c 1 (endQ P fn.results.toList K) (argTm args) h) : CallsH P f args.toArray h K := by
  intro w hw
  subst hw
  refine (callsIn_wide (n := 0)).1 (callsIn_of_wp hf hb trivial ?_)
  have hle : args.length ≤ n := Nat.le_of_ble_eq_true ha
  have h1 : Le [] (argTm args) { tmps := args.toArray ++ Array.replicate (fn.ntmps - args.toArray.size) undef, defers := [] } := by
    refine ⟨fun i v hi => ?_, rfl⟩
    simp only [argTm] at hi
    have hlt := (List.getElem?_eq_some_iff.1 hi).1
    rw [Array.getElem?_append_left (by simpa using hlt)]
    simpa using hi
  have h2 : (args.toArray ++ Array.replicate (fn.ntmps - args.toArray.size) undef).size = n := by simp [hn]; omega
  refine wpIn_mono (codeWp_sound c 1 hg [] _ _ _ w w hc h1 h2 (.refl w) 0) (fun e a' w' ⟨tm', l1, l2, l3, l4⟩ => ?_)
  have fin : resQ P tm' w'.heap fn.results.toList (fun l => K (oneV l) w'.heap) → ∃ v, (results fn a'.tmps).run P w' = .ok v w' ∧ ∃ u, Ending.returned v = .returned u ∧ Same w w' ∧ K u w'.heap := by
    intro hr
    obtain ⟨l, hrun, hK⟩ := resQ_run l1 _ _ hr
    refine ⟨oneV l, ?_, _, rfl, l3, hK⟩
    rw [results_eq, ← Array.toArray_toList (xs := fn.results), List.mapM_toArray]
    simp only [Sem.run_bind]
    simp [hrun, Result.andThen]
    match l with
    | [] => simp [oneV]
    | [v] => simp [oneV]
    | v :: u :: r => simp [oneV]
  cases e with
  | normal => exact ⟨l1.defers, fin l4⟩
  | ret => exact ⟨l1.defers, fin l4⟩
  | _ => exact l4.elim
theorem callsP_of {P : Program} {f : FuncId} {fn : Func} {c : Code} {n : Nat} {pn : Bool} {args : List Value} {h : Hp} {K : Value → Hp → Prop} {KP : Kp} {lp : Nat → Qx → Tm → Hp → Prop} {cut : Nat → Option (List Nat)}
    (hf : P.funcs[f]? = some fn) (hb : fn.body = some c) (hn : fn.ntmps = n) (ha : Nat.ble args.length n = true) (hg : Good P n none pn lp cut c 1)
    (hc : codeWp P n pn lp cut c 1 (endP P fn.results.toList K KP) (argTm args) h) : CallsP P f args.toArray h K KP := by
  intro w hw
  subst hw
  refine (callsIn_wide (n := 0)).1 (callsIn_of_wp hf hb trivial ?_)
  have hle : args.length ≤ n := Nat.le_of_ble_eq_true ha
  have h1 : Le [] (argTm args) { tmps := args.toArray ++ Array.replicate (fn.ntmps - args.toArray.size) undef, defers := [] } := by
    refine ⟨fun i v hi => ?_, rfl⟩
    simp only [argTm] at hi
    have hlt := (List.getElem?_eq_some_iff.1 hi).1
    rw [Array.getElem?_append_left (by simpa using hlt)]
    simpa using hi
  have h2 : (args.toArray ++ Array.replicate (fn.ntmps - args.toArray.size) undef).size = n := by simp [hn]; omega
  refine wpIn_mono (codeWp_sound c 1 hg [] _ _ _ w w hc h1 h2 (.refl w) 0) (fun e a' w' ⟨tm', l1, l2, l3, l4⟩ => ?_)
  have fin : resQ P tm' w'.heap fn.results.toList (fun l => K (oneV l) w'.heap) → ∃ v, (results fn a'.tmps).run P w' = .ok v w' ∧ ((∃ u, Ending.returned v = .returned u ∧ Same w w' ∧ K u w'.heap) ∨ ∃ ch, Ending.returned v = .panicked ch ∧ Same w w' ∧ KP ch w'.heap) := by
    intro hr
    obtain ⟨l, hrun, hK⟩ := resQ_run l1 _ _ hr
    refine ⟨oneV l, ?_, .inl ⟨_, rfl, l3, hK⟩⟩
    rw [results_eq, ← Array.toArray_toList (xs := fn.results), List.mapM_toArray]
    simp only [Sem.run_bind]
    simp [hrun, Result.andThen]
    match l with
    | [] => simp [oneV]
    | [v] => simp [oneV]
    | v :: u :: r => simp [oneV]
  cases e with
  | normal => exact ⟨l1.defers, fin l4⟩
  | ret => exact ⟨l1.defers, fin l4⟩
  | panic ch => exact ⟨l1.defers, .inr ⟨ch, rfl, l3, l4⟩⟩
  | _ => exact l4.elim
end Go.Proofs.YtfdpccbajaiepaaGreatDoor.Sxp
