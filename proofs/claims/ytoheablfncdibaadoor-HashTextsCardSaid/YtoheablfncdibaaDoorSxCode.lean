/- Whole functions over the heap alone: blocks, branches, loops (each by a word of its own), joins (each by a word of its own), and the end. -/
import Derived.Test.YtoheablfncdibaaDoorSxDraw
namespace Go.Proofs.YtoheablfncdibaaDoor.Sx
open Go
set_option linter.unusedVariables false
set_option linter.unusedSimpArgs false

abbrev Qx := Exit → Tm → Hp → Prop
def thenQ (K : Tm → Hp → Prop) (Q : Qx) : Qx
  | .normal, tm, h => K tm h
  | e, tm, h => Q e tm h
def blkQ (id : Nat) (Q : Qx) : Qx
  | .exit i, tm, h => match Nat.beq i id with
    | true => Q .normal tm h
    | false => Q (.exit i) tm h
  | e, tm, h => Q e tm h
def noGotoQ (Q : Qx) : Qx
  | .goto _, _, _ => False
  | e, tm, h => Q e tm h
def litO (c : Operand) (b : Bool) (tm : Tm) : Tm := match c with
  | .tmp t => tm.put t (.bool b)
  | _ => tm
def codeWp (P : Program) (n : Nat) (lp : Nat → Qx → Tm → Hp → Prop) (cut : Nat → Option (List Nat)) : Code → Nat → Qx → Tm → Hp → Prop
  | .skip, _, Q, tm, h => Q .normal tm h
  | .region _ ops dr, _, Q, tm, h => match dr with
    | false => opsW P ops n false (fun tm h => Q .normal tm h) (List.range ops.size) tm h [] []
    | true => match drawOK P ops with
      | true => opsW P ops n true (fun tm h => Q .normal tm h) (List.range ops.size) tm h [] []
      | false => False
  | .seq a b, i, Q, tm, h => codeWp P n lp cut a (2 * i) (thenQ (fun tm' h' => match cut i with
      | none => codeWp P n lp cut b (2 * i + 1) Q tm' h'
      | some live => lp i Q (mask live tm') h') Q) tm h
  | .cond c a b, i, Q, tm, h => match ev? tm c with
    | some (.bool x) => br x (codeWp P n lp cut a (2 * i) Q (litO c true tm) h) (codeWp P n lp cut b (2 * i + 1) Q (litO c false tm) h)
    | _ => False
  | .block id c, i, Q, tm, h => codeWp P n lp cut c (2 * i) (blkQ id Q) tm h
  | .loop _, i, Q, tm, h => lp i Q tm h
  | .rangeFunc .., i, Q, tm, h => lp i Q tm h
  | .exit id, _, Q, tm, h => Q (.exit id) tm h
  | .scope c, i, Q, tm, h => match cut i with
    | none => codeWp P n lp cut c (2 * i) (noGotoQ Q) tm h
    | some _ => lp i Q tm h
  | .label _, _, Q, tm, h => Q .normal tm h
  | .goto l, _, Q, tm, h => Q (.goto l) tm h
  | .ret, _, Q, tm, h => Q .ret tm h
  | .refuse _, _, _, _, _ => False
def LE (ds : List Deferred) (w0 : World) (n : Nat) (Q : Qx) (e : Exit) (a : Act) (w : World) : Prop := LQ ds w0 n (Q e) a w
/-- A word for a piece of code is right. -/
def SndAt (P : Program) (n : Nat) (ρ : Option Nat) (c : Code) (R : Qx → Tm → Hp → Prop) : Prop :=
  ∀ (ds : List Deferred) (Q : Qx) (tm : Tm) (a : Act) (w w0 : World), R Q tm w.heap → Le ds tm a → a.tmps.size = n → Same w0 w → ∀ m, c.wpIn (FW ρ) m P (LE ds w0 n Q) a w
theorem stepR_scope' {P : Program} {b : Frame} {a : Act} {k : List Item} {cs : List Frame} {w : World} {c : Code} :
    step P (lone (b.atR a (.code (.scope c) :: k)) cs w) = .next (lone (b.atR a (.code c :: .inScope c :: k)) cs w) :=
  step_lone_go (by simp [stepG, stepG.exec, Frame.atR])
theorem stepR_inScope' {P : Program} {b : Frame} {a : Act} {k : List Item} {cs : List Frame} {w : World} {c : Code} :
    step P (lone (b.atR a (.inScope c :: k)) cs w) = .next (lone (b.atR a k) cs w) :=
  step_lone_go (by simp [stepG, stepG.exec, Frame.atR])
theorem wpIn_scope_straight {F : Fence} {m : Nat} {P : Program} {c : Code} {Q : Exit → Act → World → Prop} {a : Act} {w : World} (h : c.wpIn F m P (Exit.noGoto Q) a w) : (Code.scope c).wpIn F m P Q a w := by
  intro b k cs hro hb hr
  have h0 : (lone (b.atR a (.code (.scope c) :: k)) cs w).fenced P F := fenced_calm hb hr rfl
  obtain ⟨e, a₁, w₁, hq, harr⟩ := h b (.inScope c :: k) cs hro hb hr
  cases e with
  | normal => exact ⟨.normal, a₁, w₁, hq, .head h0 stepR_scope' (StepsIn.trans harr (.one (fenced_calm hb hr rfl) stepR_inScope'))⟩
  | exit id =>
    have hx : exitTo id (.inScope c :: k) = exitTo id k := by simp [exitTo]
    exact ⟨.exit id, a₁, w₁, hq, fun k' hk => .head h0 stepR_scope' (harr.1 k' (by rw [hx]; exact hk)),
      fun hr' hk => let ⟨k₁, h1, h2⟩ := harr.2 hr' (by rw [hx]; exact hk); ⟨k₁, h1, .head h0 stepR_scope' h2⟩⟩
  | goto l => exact hq.elim
  | ret => exact ⟨_, a₁, w₁, hq, .of_steps (.one h0 stepR_scope') harr⟩
  | panic ch => exact ⟨_, a₁, w₁, hq, .of_steps (.one h0 stepR_scope') harr⟩
  | outgrown => exact ⟨_, a₁, w₁, hq, .of_steps (.one h0 stepR_scope') harr⟩
def Good (P : Program) (n : Nat) (ρ : Option Nat) (lp : Nat → Qx → Tm → Hp → Prop) (cut : Nat → Option (List Nat)) : Code → Nat → Prop
  | .seq a b, i => Good P n ρ lp cut a (2 * i) ∧ (match cut i with
    | none => Good P n ρ lp cut b (2 * i + 1)
    | some _ => SndAt P n ρ b (lp i))
  | .cond _ a b, i => Good P n ρ lp cut a (2 * i) ∧ Good P n ρ lp cut b (2 * i + 1)
  | .block _ c, i => Good P n ρ lp cut c (2 * i)
  | .scope c, i => match cut i with
    | none => Good P n ρ lp cut c (2 * i)
    | some _ => SndAt P n ρ (.scope c) (lp i)
  | .loop c, i => SndAt P n ρ (.loop c) (lp i)
  | .rangeFunc f ps as c, i => SndAt P n ρ (.rangeFunc f ps as c) (lp i)
  | _, _ => True
theorem LE_mono {ds : List Deferred} {w0 : World} {n : Nat} {Q Q' : Qx} (h : ∀ e tm h, Q e tm h → Q' e tm h) : ∀ e a w, LE ds w0 n Q e a w → LE ds w0 n Q' e a w :=
  fun e a w ⟨tm, h1, h2, h3, h4⟩ => ⟨tm, h1, h2, h3, h _ _ _ h4⟩
theorem codeWp_sound {P : Program} {n : Nat} {ρ : Option Nat} {lp : Nat → Qx → Tm → Hp → Prop} {cut : Nat → Option (List Nat)} : ∀ (c : Code) (i : Nat), Good P n ρ lp cut c i → SndAt P n ρ c (codeWp P n lp cut c i)
  | .skip, i, hg => fun ds Q tm a w w0 h hl hz hs m => wpIn_skip ⟨tm, hl, hz, hs, h⟩
  | .region id ops dr, i, hg => fun ds Q tm a w w0 h hl hz hs m => by
    cases dr with
    | false => exact opsW_sound (Q := fun tm h => Q .normal tm h) (fun a w h => h) h hl hz hs
    | true =>
      rw [codeWp] at h
      cases hd : drawOK P ops with
      | false => rw [hd] at h; exact h.elim
      | true => rw [hd] at h; exact opsW_sound_draw (Q := fun tm h => Q .normal tm h) (fun a w h => h) hd h hl hz hs
  | .seq x y, i, hg => fun ds Q tm a w w0 h hl hz hs m => by
    refine wpIn_seq (wpIn_mono (codeWp_sound x (2 * i) hg.1 ds _ tm a w w0 h hl hz hs m) (fun e a' w' ⟨tm', h1, h2, h3, h4⟩ => ?_))
    have hy : SndAt P n ρ y (fun Q tm' h' => match cut i with
      | none => codeWp P n lp cut y (2 * i + 1) Q tm' h'
      | some live => lp i Q (mask live tm') h') := by
      have hg2 := hg.2
      cases hc : cut i with
      | none => rw [hc] at hg2; exact codeWp_sound y (2 * i + 1) hg2
      | some live => rw [hc] at hg2; exact fun ds Q tm a w w0 h hl hz hs m => hg2 ds Q (mask live tm) a w w0 h (hl.mask live) hz hs m
    cases e with
    | normal => exact hy ds Q tm' a' w' w0 h4 h1 h2 h3 m
    | _ => exact ⟨tm', h1, h2, h3, h4⟩
  | .cond c x y, i, hg => fun ds Q tm a w w0 h hl hz hs m => by
    rw [codeWp] at h
    split at h
    · rename_i b hb
      have hlit : litO c b tm = tm := by
        cases c with
        | tmp t => exact Tm.put_same hb
        | _ => rfl
      refine wpIn_cond (t := b) (hl.ev hb) ?_
      cases b with
      | true =>
        simp only [br] at h
        rw [hlit] at h
        exact codeWp_sound x (2 * i) hg.1 ds _ _ _ _ _ h hl hz hs m
      | false =>
        simp only [br] at h
        rw [hlit] at h
        exact codeWp_sound y (2 * i + 1) hg.2 ds _ _ _ _ _ h hl hz hs m
    · exact h.elim
  | .block id c, i, hg => fun ds Q tm a w w0 h hl hz hs m => by
    refine wpIn_block (wpIn_mono (codeWp_sound c (2 * i) hg ds _ tm a w w0 h hl hz hs m) (fun e a' w' ⟨tm', h1, h2, h3, h4⟩ => ?_))
    cases e with
    | exit j =>
      simp only [blkQ] at h4
      simp only [Exit.inBlock]
      cases hb : Nat.beq j id with
      | true =>
        rw [hb] at h4
        rw [if_pos (Nat.eq_of_beq_eq_true hb)]
        exact ⟨tm', h1, h2, h3, h4⟩
      | false =>
        rw [hb] at h4
        rw [if_neg (fun e => by subst e; simp at hb)]
        exact ⟨tm', h1, h2, h3, h4⟩
    | _ => exact ⟨tm', h1, h2, h3, h4⟩
  | .loop c, i, hg => hg
  | .rangeFunc f ps as c, i, hg => hg
  | .exit id, i, hg => fun ds Q tm a w w0 h hl hz hs m => wpIn_exit ⟨tm, hl, hz, hs, h⟩
  | .scope c, i, hg => by
    cases hcut : cut i with
    | none =>
      simp only [Good, hcut] at hg
      intro ds Q tm a w w0 h hl hz hs m
      simp only [codeWp, hcut] at h
      refine wpIn_scope_straight (wpIn_mono (codeWp_sound c (2 * i) hg ds _ tm a w w0 h hl hz hs m) (fun e a' w' ⟨tm', h1, h2, h3, h4⟩ => ?_))
      cases e with
      | goto l => exact h4.elim
      | _ => exact ⟨tm', h1, h2, h3, h4⟩
    | some l =>
      simp only [Good, hcut] at hg
      intro ds Q tm a w w0 h hl hz hs m
      simp only [codeWp, hcut] at h
      exact hg ds Q tm a w w0 h hl hz hs m
  | .label l, i, hg => fun ds Q tm a w w0 h hl hz hs m => wpIn_label ⟨tm, hl, hz, hs, h⟩
  | .goto l, i, hg => fun ds Q tm a w w0 h hl hz hs m => wpIn_goto ⟨tm, hl, hz, hs, h⟩
  | .ret, i, hg => fun ds Q tm a w w0 h hl hz hs m => wpIn_ret ⟨tm, hl, hz, hs, h⟩
  | .refuse y, i, hg => fun ds Q tm a w w0 h hl hz hs m => h.elim

/-- The pieces that have words of their own. -/
def leaves (cut : Nat → Option (List Nat)) : Code → Nat → List (Nat × Code)
  | .seq a b, i => leaves cut a (2 * i) ++ (match cut i with
    | none => leaves cut b (2 * i + 1)
    | some _ => [(i, b)])
  | .cond _ a b, i => leaves cut a (2 * i) ++ leaves cut b (2 * i + 1)
  | .block _ c, i => leaves cut c (2 * i)
  | .scope c, i => match cut i with
    | none => leaves cut c (2 * i)
    | some _ => [(i, .scope c)]
  | .loop c, i => [(i, .loop c)]
  | .rangeFunc f ps as c, i => [(i, .rangeFunc f ps as c)]
  | _, _ => []
theorem good_of_leaves {P : Program} {n : Nat} {ρ : Option Nat} {lp : Nat → Qx → Tm → Hp → Prop} {cut : Nat → Option (List Nat)} : ∀ (c : Code) (i : Nat), (∀ p ∈ leaves cut c i, SndAt P n ρ p.2 (lp p.1)) → Good P n ρ lp cut c i
  | .seq a b, i, h => by
    simp only [leaves] at h
    refine ⟨good_of_leaves a (2 * i) (fun p hp => h p (List.mem_append_left _ hp)), ?_⟩
    cases hc : cut i with
    | none => rw [hc] at h; exact good_of_leaves b (2 * i + 1) (fun p hp => h p (List.mem_append_right _ hp))
    | some l => rw [hc] at h; exact h (i, b) (List.mem_append_right _ (List.mem_cons_self ..))
  | .cond c a b, i, h => by
    simp only [leaves] at h
    exact ⟨good_of_leaves a (2 * i) (fun p hp => h p (List.mem_append_left _ hp)), good_of_leaves b (2 * i + 1) (fun p hp => h p (List.mem_append_right _ hp))⟩
  | .block id c, i, h => good_of_leaves c (2 * i) h
  | .scope c, i, h => by
    cases hcut : cut i with
    | none =>
      simp only [leaves, hcut] at h
      simp only [Good, hcut]
      exact good_of_leaves c (2 * i) h
    | some l =>
      simp only [leaves, hcut] at h
      simp only [Good, hcut]
      exact h (i, .scope c) (List.mem_cons_self ..)
  | .loop c, i, h => h (i, .loop c) (List.mem_cons_self ..)
  | .rangeFunc f ps as c, i, h => h (i, .rangeFunc f ps as c) (List.mem_cons_self ..)
  | .skip, i, h => trivial
  | .region .., i, h => trivial
  | .exit _, i, h => trivial
  | .label _, i, h => trivial
  | .goto _, i, h => trivial
  | .ret, i, h => trivial
  | .refuse _, i, h => trivial
theorem good_by {P : Program} {n : Nat} {ρ : Option Nat} {lp : Nat → Qx → Tm → Hp → Prop} {cut : Nat → Option (List Nat)} {c : Code} {i : Nat} {l : List (Nat × Code)} (he : leaves cut c i = l) (h : ∀ p ∈ l, SndAt P n ρ p.2 (lp p.1)) : Good P n ρ lp cut c i :=
  good_of_leaves c i (by rw [he]; exact h)
/-- A piece of code by its way. -/
def sub : Code → List Bool → Code
  | .seq a b, x :: r => match x with
    | false => sub a r
    | true => sub b r
  | .cond _ a b, x :: r => match x with
    | false => sub a r
    | true => sub b r
  | .block _ c, _ :: r => sub c r
  | .scope c, _ :: r => sub c r
  | .loop c, _ :: r => sub c r
  | .rangeFunc _ _ a b, x :: r => match x with
    | false => sub a r
    | true => sub b r
  | c, _ => c
def bodyOf (f : Func) : Code := match f.body with
  | some c => c
  | none => .skip

/-! ### Loops by rounds -/
def roundsIn (F : Fence) (m : Nat) (P : Program) (c : Code) (Q : Exit → Act → World → Prop) : Nat → Act → World → Prop
  | 0, _, _ => False
  | k + 1, a, w => c.wpIn F m P (Exit.then (roundsIn F m P c Q k) Q) a w
theorem wpIn_loop_rounds {F : Fence} {m : Nat} {P : Program} {Q : Exit → Act → World → Prop} {a : Act} {w : World} {c : Code} (k : Nat) (h : roundsIn F m P c Q k a w) : (Code.loop c).wpIn F m P Q a w := by
  intro b k0 cs hro hb hr
  have key : ∀ j a w, roundsIn F m P c Q j a w →
      ∃ e a' w', Q e a' w' ∧ ArrivesIn (Machine.fenced P F) P (lone (b.atR a (.code c :: .inLoop c :: k0)) cs w) b k0 cs e a' w' := by
    intro j
    induction j with
    | zero => intro a w h; exact h.elim
    | succ j ih =>
      intro a w h
      obtain ⟨e, a₁, w₁, hq, harr⟩ := h b (.inLoop c :: k0) cs hro hb hr
      cases e with
      | normal =>
        obtain ⟨e₂, a₂, w₂, hq₂, harr₂⟩ := ih a₁ w₁ hq
        exact ⟨e₂, a₂, w₂, hq₂, .of_steps (StepsIn.trans harr (.one (fenced_calm hb hr rfl) stepR_inLoop)) harr₂⟩
      | exit id => exact ⟨_, a₁, w₁, hq, .pass (x := .inLoop c) rfl (fun _ _ => .inl (by simp)) harr⟩
      | goto l => exact ⟨_, a₁, w₁, hq, .pass (x := .inLoop c) rfl (fun _ _ => .inl (by simp)) harr⟩
      | ret => exact ⟨_, a₁, w₁, hq, .pass (x := .inLoop c) rfl (fun _ _ => .inl (by simp)) harr⟩
      | panic ch => exact ⟨_, a₁, w₁, hq, .pass (x := .inLoop c) rfl (fun _ _ => .inl (by simp)) harr⟩
      | outgrown => exact ⟨_, a₁, w₁, hq, .pass (x := .inLoop c) rfl (fun _ _ => .inl (by simp)) harr⟩
  obtain ⟨e, a', w', hq, harr⟩ := key k a w h
  exact ⟨e, a', w', hq, .of_steps (.one (fenced_calm hb hr rfl) stepR_loop) harr⟩
/-- What is kept at each way out. -/
def maskQ (lx : Exit → List Nat) (Q : Qx) : Qx := fun e tm h => Q e (mask (lx e) tm) h
theorem loop_sound {P : Program} {n : Nat} {ρ : Option Nat} {lp : Nat → Qx → Tm → Hp → Prop} {cut : Nat → Option (List Nat)} {c : Code} {i : Nat} (live : List Nat) (lx : Exit → List Nat)
    (Lp : Qx → Nat → Tm → Hp → Prop) (hg : Good P n ρ lp cut c (2 * i)) (h0 : ∀ Q tm h, ¬ Lp Q 0 tm h)
    (hs : ∀ Q k tm h, Lp Q (k + 1) tm h → codeWp P n lp cut c (2 * i) (thenQ (fun tm h => Lp Q k (mask live tm) h) (maskQ lx Q)) (mask live tm) h) :
    SndAt P n ρ (.loop c) (fun Q tm h => ∃ k, Lp Q k tm h) := by
  intro ds Q tm a w w0 ⟨k, hk⟩ hl hz hsm m
  refine wpIn_loop_rounds k ?_
  induction k generalizing tm a w with
  | zero => exact (h0 _ _ _ hk).elim
  | succ k ih =>
    refine wpIn_mono (codeWp_sound c (2 * i) hg ds _ _ a w w0 (hs Q k tm w.heap hk) (hl.mask live) hz hsm m) (fun e a' w' ⟨tm', h1, h2, h3, h4⟩ => ?_)
    cases e with
    | normal => exact ih (mask live tm') a' w' h4 (h1.mask live) h2 h3
    | _ => exact ⟨_, h1.mask _, h2, h3, h4⟩
/-- A join: a piece of code behind a cut. -/
theorem join_sound {P : Program} {n : Nat} {ρ : Option Nat} {lp : Nat → Qx → Tm → Hp → Prop} {cut : Nat → Option (List Nat)} {c : Code} {i : Nat} (live : List Nat) (lx : Exit → List Nat)
    (J : Qx → Tm → Hp → Prop) (hg : Good P n ρ lp cut c (2 * i + 1)) (hs : ∀ Q tm h, J Q tm h → codeWp P n lp cut c (2 * i + 1) (maskQ lx Q) (mask live tm) h) : SndAt P n ρ c J := by
  intro ds Q tm a w w0 hJ hl hz hsm m
  refine wpIn_mono (codeWp_sound c (2 * i + 1) hg ds _ _ a w w0 (hs Q tm w.heap hJ) (hl.mask live) hz hsm m) (fun e a' w' ⟨tm', h1, h2, h3, h4⟩ => ?_)
  exact ⟨_, h1.mask _, h2, h3, h4⟩

/-! ### A scope with one label that is jumped to -/
def gotoQ (l : Nat) (G : Tm → Hp → Prop) (Q : Qx) : Qx
  | .goto j, tm, h => match Nat.beq j l with
    | true => G tm h
    | false => False
  | e, tm, h => Q e tm h
def lp0 : Nat → Qx → Tm → Hp → Prop := fun _ _ _ _ => False
def cut0 : Nat → Option (List Nat) := fun _ => none
theorem scope_pass {ds : List Deferred} {P : Program} {F : Fence} {n l : Nat} {w0 : World} {c rest : Code} {Gk : Tm → Hp → Prop} {Q : Qx} {b : Frame} {k0 : List Item} {cs : List Frame} (hf : findLabel c l = some rest)
    (calm : ∀ a k w, Machine.fenced P F (lone (b.atR a (.inScope c :: k)) cs w))
    (next : ∀ tm a w, Gk tm w.heap → Le ds tm a → a.tmps.size = n → Same w0 w → ∃ e a' w', LE ds w0 n Q e a' w' ∧ ArrivesIn (Machine.fenced P F) P (lone (b.atR a (.code rest :: .inScope c :: k0)) cs w) b k0 cs e a' w')
    {m0 : Machine} {e : Exit} {a₁ : Act} {w₁ : World} (hq : LE ds w0 n (gotoQ l Gk Q) e a₁ w₁) (harr : ArrivesIn (Machine.fenced P F) P m0 b (.inScope c :: k0) cs e a₁ w₁) :
    ∃ e a' w', LE ds w0 n Q e a' w' ∧ ArrivesIn (Machine.fenced P F) P m0 b k0 cs e a' w' := by
  obtain ⟨tm', h1, h2, h3, h4⟩ := hq
  cases e with
  | normal => exact ⟨.normal, a₁, w₁, ⟨tm', h1, h2, h3, h4⟩, StepsIn.trans harr (.one (calm _ _ _) stepR_inScope')⟩
  | exit id =>
    have hx : exitTo id (.inScope c :: k0) = exitTo id k0 := by simp [exitTo]
    exact ⟨.exit id, a₁, w₁, ⟨tm', h1, h2, h3, h4⟩, fun k' hk => harr.1 k' (by rw [hx]; exact hk), fun hr' hk => harr.2 hr' (by rw [hx]; exact hk)⟩
  | goto j =>
    simp only [gotoQ] at h4
    cases hb : Nat.beq j l with
    | false => rw [hb] at h4; exact h4.elim
    | true =>
      rw [hb] at h4
      have hj : j = l := Nat.eq_of_beq_eq_true hb
      subst hj
      obtain ⟨e₂, a₂, w₂, hq₂, harr₂⟩ := next tm' a₁ w₁ h4 h1 h2 h3
      exact ⟨e₂, a₂, w₂, hq₂, .of_steps (harr.1 _ (by simp only [gotoIn, hf])) harr₂⟩
  | ret => exact ⟨_, a₁, w₁, ⟨tm', h1, h2, h3, h4⟩, harr⟩
  | panic ch => exact ⟨_, a₁, w₁, ⟨tm', h1, h2, h3, h4⟩, harr⟩
  | outgrown => exact ⟨_, a₁, w₁, ⟨tm', h1, h2, h3, h4⟩, harr⟩
theorem scope_sound {P : Program} {n : Nat} {ρ : Option Nat} {lp : Nat → Qx → Tm → Hp → Prop} {cut : Nat → Option (List Nat)} {c rest : Code} {i j l : Nat} (live : List Nat) (lx : Exit → List Nat)
    (G : Qx → Nat → Tm → Hp → Prop) (hf : findLabel c l = some rest) (hgc : Good P n ρ lp cut c i) (hgr : Good P n ρ lp cut rest j) (h0 : ∀ Q tm h, ¬ G Q 0 tm h)
    (hs : ∀ Q k tm h, G Q (k + 1) tm h → codeWp P n lp cut rest j (gotoQ l (fun tm h => G Q k (mask live tm) h) (maskQ lx Q)) (mask live tm) h) :
    SndAt P n ρ (.scope c) (fun Q tm h => ∃ k, codeWp P n lp cut c i (gotoQ l (fun tm h => G Q k (mask live tm) h) Q) tm h) := by
  intro ds Q tm a w w0 ⟨k, hk⟩ hl hz hsm m b k0 cs hro hb hr
  have calm : ∀ a k w, Machine.fenced P (FW ρ) (lone (b.atR a (.inScope c :: k)) cs w) := fun a k w => fenced_calm hb hr rfl
  have key : ∀ k tm a w, G Q k tm w.heap → Le ds tm a → a.tmps.size = n → Same w0 w →
      ∃ e a' w', LE ds w0 n Q e a' w' ∧ ArrivesIn (Machine.fenced P (FW ρ)) P (lone (b.atR a (.code rest :: .inScope c :: k0)) cs w) b k0 cs e a' w' := by
    intro k
    induction k with
    | zero => intro tm a w h; exact (h0 _ _ _ h).elim
    | succ k ih =>
      intro tm a w h hl hz hsm
      obtain ⟨e, a₁, w₁, hq, harr⟩ := codeWp_sound rest j hgr ds _ _ a w w0 (hs Q k tm w.heap h) (hl.mask live) hz hsm m b (.inScope c :: k0) cs hro hb hr
      have hq' : LE ds w0 n (gotoQ l (fun tm h => G Q k (mask live tm) h) Q) e a₁ w₁ := by
        obtain ⟨tm', h1, h2, h3, h4⟩ := hq
        cases e with
        | goto g => exact ⟨tm', h1, h2, h3, h4⟩
        | _ => exact ⟨_, h1.mask _, h2, h3, h4⟩
      exact scope_pass hf calm (fun tm a w h hl hz hsm => ih (mask live tm) a w h (hl.mask live) hz hsm) hq' harr
  obtain ⟨e, a₁, w₁, hq, harr⟩ := codeWp_sound c i hgc ds _ tm a w w0 hk hl hz hsm m b (.inScope c :: k0) cs hro hb hr
  obtain ⟨e, a', w', hq2, harr2⟩ := scope_pass hf calm (fun tm a w h hl hz hsm => key k (mask live tm) a w h (hl.mask live) hz hsm) hq harr
  exact ⟨e, a', w', hq2, .of_steps (.one (fenced_calm hb hr rfl) stepR_scope') harr2⟩

/-! ### A function -/
def resQ (P : Program) (tm : Tm) (h : Hp) : List ResultVar → (List Value → Prop) → Prop
  | [], K => K []
  | .tmp t :: r, K => match tm t with
    | some v => resQ P tm h r fun l => K (v :: l)
    | none => False
  | .cell a t :: r, K => match tm a with
    | some p => exT (shOf P t) fun v => HV P (Instr.loadAt t p) h v ∧ resQ P tm h r fun l => K (v :: l)
    | none => False
def oneV : List Value → Value
  | [v] => v
  | l => .tuple l.toArray
def endQ (P : Program) (rs : List ResultVar) (K : Value → Hp → Prop) : Qx
  | .normal, tm, h => resQ P tm h rs fun l => K (oneV l) h
  | .ret, tm, h => resQ P tm h rs fun l => K (oneV l) h
  | _, _, _ => False
def argTm (args : List Value) : Tm := fun i => args[i]?
def resF (tmps : Array Value) : ResultVar → Sem Value
  | .tmp t => pure (tmps.getD t undef)
  | .cell a t => do loadVar t (← asAddr (tmps.getD a undef))
theorem results_eq (fn : Func) (tmps : Array Value) : results fn tmps = (do
    let vs ← fn.results.mapM (resF tmps)
    pure (if h : vs.size = 1 then vs[0] else .tuple vs)) := by
  unfold results
  congr 1
theorem resQ_run {ds : List Deferred} {P : Program} {tm : Tm} {a : Act} {w : World} (hl : Le ds tm a) : ∀ (rs : List ResultVar) (K : List Value → Prop), resQ P tm w.heap rs K →
    ∃ l, (List.mapM (m := Sem) (resF a.tmps) rs).run P w = .ok l w ∧ K l
  | [], K, h => ⟨[], rfl, h⟩
  | .tmp t :: r, K, h => by
    simp only [resQ] at h
    cases ht : tm t with
    | none => rw [ht] at h; exact h.elim
    | some v =>
      rw [ht] at h
      obtain ⟨l, hr, hK⟩ := resQ_run hl r _ h
      refine ⟨v :: l, ?_, hK⟩
      have h0 : (resF a.tmps (.tmp t)).run P w = .ok v w := by
        have := hl.at_ t v ht
        simp [resF, this]
      rw [List.mapM_cons, Sem.run_bind, h0]
      simp only [Result.andThen, Sem.run_bind, hr]
      rfl
  | .cell x t :: r, K, h => by
    simp only [resQ] at h
    cases ht : tm x with
    | none => rw [ht] at h; exact h.elim
    | some p =>
      rw [ht] at h
      obtain ⟨v, hv, h⟩ := exT_ex _ h
      obtain ⟨l, hr, hK⟩ := resQ_run hl r _ h
      refine ⟨v :: l, ?_, hK⟩
      have h0 : (resF a.tmps (.cell x t)).run P w = .ok v w := by
        have h1 := hl.at_ x p ht
        have h2 := hv w rfl
        have e : a.tmps.getD x undef = p := by simp [h1]
        show (do loadVar t (← asAddr (a.tmps.getD x undef)) : Sem Value).run P w = .ok v w
        rw [e]
        cases p with
        | pointer q =>
          cases q with
          | none => simp [Instr.loadAt, Instr.sureAddr, stuck, Result.andThen] at h2
          | some q => exact h2
        | _ => simp [Instr.loadAt, Instr.sureAddr, stuck, Result.andThen] at h2
      rw [List.mapM_cons, Sem.run_bind, h0]
      simp only [Result.andThen, Sem.run_bind, hr]
      rfl
theorem calls_of {P : Program} {f : FuncId} {fn : Func} {c : Code} {n : Nat} {args : List Value} {h : Hp} {K : Value → Hp → Prop} {lp : Nat → Qx → Tm → Hp → Prop} {cut : Nat → Option (List Nat)}
    (hf : P.funcs[f]? = some fn) (hb : fn.body = some c) (hn : fn.ntmps = n) (ha : Nat.ble args.length n = true) (hg : Good P n none lp cut c 1)
    (hc : codeWp P n lp cut c 1 (endQ P fn.results.toList K) (argTm args) h) : CallsH P f args.toArray h K := by
  intro w hw
  subst hw
  refine (callsIn_wide (n := 0)).1 (callsIn_of_wp hf hb trivial ?_)
  have hle : args.length ≤ n := Nat.le_of_ble_eq_true ha
  have h1 : Le [] (argTm args) { tmps := args.toArray ++ Array.replicate (fn.ntmps - args.toArray.size) undef, defers := [] } := by
    refine ⟨fun i v hi => ?_, rfl⟩
    simp only [argTm] at hi
    have hlt := (List.getElem?_eq_some_iff.1 hi).1
    rw [Array.getElem?_append_left (by simpa using hlt)]
    simpa using hi
  have h2 : (args.toArray ++ Array.replicate (fn.ntmps - args.toArray.size) undef).size = n := by simp [hn]; omega
  refine wpIn_mono (codeWp_sound c 1 hg [] _ _ _ w w hc h1 h2 (.refl w) 0) (fun e a' w' ⟨tm', l1, l2, l3, l4⟩ => ?_)
  have fin : resQ P tm' w'.heap fn.results.toList (fun l => K (oneV l) w'.heap) → ∃ v, (results fn a'.tmps).run P w' = .ok v w' ∧ ∃ u, Ending.returned v = .returned u ∧ Same w w' ∧ K u w'.heap := by
    intro hr
    obtain ⟨l, hrun, hK⟩ := resQ_run l1 _ _ hr
    refine ⟨oneV l, ?_, _, rfl, l3, hK⟩
    rw [results_eq, ← Array.toArray_toList (xs := fn.results), List.mapM_toArray]
    simp only [Sem.run_bind]
    simp [hrun, Result.andThen]
    match l with
    | [] => simp [oneV]
    | [v] => simp [oneV]
    | v :: u :: r => simp [oneV]
  cases e with
  | normal => exact ⟨l1.defers, fin l4⟩
  | ret => exact ⟨l1.defers, fin l4⟩
  | _ => exact l4.elim
end Go.Proofs.YtoheablfncdibaaDoor.Sx
