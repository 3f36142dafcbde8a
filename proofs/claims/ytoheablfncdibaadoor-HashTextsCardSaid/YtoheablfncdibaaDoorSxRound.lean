/- A round of a range over a function: the body as a word; loops beside ranges. -/
import Derived.Test.YtoheablfncdibaaDoorSxRange
import Derived.Test.YtoheablfncdibaaDoorSxOwn
namespace Go.Proofs.YtoheablfncdibaaDoor.Sx
open Go
set_option linter.unusedVariables false
set_option linter.unusedSimpArgs false
/-! ### Loops in functions that range over functions -/
def maskR (lx : Exit → List Nat) (Q : Qr) : Qr := fun e tm dl h => Q e (mask (lx e) tm) dl h
theorem loop_soundR {P : Program} {n : Nat} {lp : Nat → Qr → Tm → List Nat → Hp → Prop} {cut : Nat → Option (List Nat)} {c : Code} {i : Nat} (live : List Nat) (lx : Exit → List Nat)
    (Lp : Qr → Nat → Tm → List Nat → Hp → Prop) (hg : GoodR P n lp cut c (2 * i)) (h0 : ∀ Q tm dl h, ¬ Lp Q 0 tm dl h)
    (hs : ∀ Q k tm dl h, Lp Q (k + 1) tm dl h → rcodeWp P n lp cut c (2 * i) (thenR (fun tm dl h => Lp Q k (mask live tm) dl h) (maskR lx Q)) (mask live tm) dl h) :
    SndR P n (.loop c) (fun Q tm dl h => ∃ k, Lp Q k tm dl h) := by
  intro Q tm dl a w w0 ⟨k, hk⟩ hl hz hsm m
  refine wpIn_loop_rounds k ?_
  induction k generalizing tm dl a w with
  | zero => exact (h0 _ _ _ _ hk).elim
  | succ k ih =>
    refine wpIn_mono (rcodeWp_sound c (2 * i) hg _ _ dl a w w0 (hs Q k tm dl w.heap hk) (hl.mask live) hz hsm m) (fun e a' w' ⟨tm', dl', h1, h2, h3, h4⟩ => ?_)
    cases e with
    | normal => exact ih (mask live tm') dl' a' w' h4 (h1.mask live) h2 h3
    | _ => exact ⟨_, dl', h1.mask _, h2, h3, h4⟩
/-! ### One round -/
/-- The round begins: its record is busy. -/
def rbeg (l : Nat) (h : Hp) (G : Hp → Prop) : Prop := ∃ r : Loop, h[l]? = some (.loop r) ∧ r.state = .ready ∧ G (h.setIfInBounds l (.loop { r with state := .busy }))
/-- It ends: what yield answers. -/
def rend (l : Nat) (j : Option Code) (h : Hp) (G : Hp → Prop) : Prop := ∃ r : Loop, h[l]? = some (.loop r) ∧ G (h.setIfInBounds l (.loop { r with state := if j.isNone then .ready else .done, pending := j }))
def endQd (l : Nat) (K : Value → Hp → Prop) : Qx
  | .normal, tm, h => rend l none h fun h' => K (.bool true) h'
  | .ret, tm, h => rend l (some .ret) h fun h' => K (.bool false) h'
  | .exit id, tm, h => rend l (some (.exit id)) h fun h' => K (.bool false) h'
  | _, _, _ => False
def begQ (l : Nat) (G : Tm → Hp → Prop) : Qx
  | .normal, tm, h => rbeg l h fun h' => G tm h'
  | _, _, _ => False
def prmTm : List Nat → List Value → Tm → Tm
  | p :: ps, v :: vs, tm => prmTm ps vs (tm.put p v)
  | _, _, tm => tm
/-- The word of a round. -/
def roundW (P : Program) (n : Nat) (lp : Nat → Qx → Tm → Hp → Prop) (cut : Nat → Option (List Nat)) (l : Nat) (as bd : Code) (i : Nat) (K : Value → Hp → Prop) (tm : Tm) (h : Hp) : Prop :=
  codeWp P n lp cut as (2 * i) (begQ l fun tm h => codeWp P n lp cut bd (2 * i + 1) (endQd l K) tm h) tm h
theorem prm_le : ∀ (ps : List Nat) (vs : List Value) (tm : Tm) (t : Array Value) (n : Nat), (∀ p ∈ ps, p < n) → t.size = n → Le [] tm { tmps := t, defers := [] } →
    Le [] (prmTm ps vs tm) { tmps := (ps.zip vs).foldl (fun t (p, v) => t.setIfInBounds p v) t, defers := [] } ∧ ((ps.zip vs).foldl (fun t (p, v) => t.setIfInBounds p v) t).size = n
  | [], vs, tm, t, n, _, hz, hl => by cases vs <;> exact ⟨hl, hz⟩
  | p :: ps, [], tm, t, n, _, hz, hl => ⟨hl, hz⟩
  | p :: ps, v :: vs, tm, t, n, hp, hz, hl => by
    have h1 := hl.put (d := p) v (by rw [hz]; exact hp p List.mem_cons_self)
    exact prm_le ps vs (tm.put p v) (t.setIfInBounds p v) n (fun q hq => hp q (List.mem_cons_of_mem _ hq)) (by simpa using hz) h1
theorem zip_fold (ps : List Nat) (vs : List Value) (t : Array Value) : ((ps.toArray).zip vs.toArray).foldl (fun t (x : Nat × Value) => t.setIfInBounds x.1 x.2) t = (ps.zip vs).foldl (fun t (x : Nat × Value) => t.setIfInBounds x.1 x.2) t := by
  simp
theorem same_put2 (w : World) (r : Nat) (o : Obj) : Same w (w.putObj r o) := ⟨rfl, rfl, rfl, Nat.le_refl _⟩
theorem round_sound {P : Program} {n : Nat} {lp : Nat → Qx → Tm → Hp → Prop} {cut : Nat → Option (List Nat)} {ps : List Nat} {vs : List Value} {as bd : Code} {i D l : Nat} {tm : Tm} {h : Hp} {r : Loop} {K : Value → Hp → Prop}
    (hga : Good P n (some l) lp cut as (2 * i)) (hgb : Good P n (some l) lp cut bd (2 * i + 1)) (hr : h[l]? = some (.loop r)) (ok : RecOK n ps.toArray as bd tm D r) (hsz : vs.length = ps.length) (hps : ps.all (fun p => Nat.blt p n) = true)
    (hW : roundW P n lp cut l as bd i K (prmTm ps vs tm) h) : HN P (callS (yieldV l) vs.toArray) h K := by
  have hnx : ∀ K' : Next → Hp → Prop, K' (.round l r.fn ((r.params.zip vs.toArray).foldl (fun tmps (t, a) => tmps.setIfInBounds t a) r.tmps) r.assign r.body) h → semWp P (callS (yieldV l) vs.toArray) h K' := by
    intro K' hK
    have hz : ¬ ((#[] ++ vs.toArray).size ≠ r.params.size) := by rw [ok.params]; simp [hsz]
    unfold callS yieldV
    simp only [Deferred.ofValue, semWp_bind_eq, semWp_pure_eq, invoke, Instr.yield, Instr.getLoop, getObj]
    refine ⟨_, hr, rfl, ?_⟩
    simp only [semWp, semWp_bind_eq, semWp_pure_eq]
    rw [if_neg hz]
    simpa [semWp_bind_eq, semWp_pure_eq, semWp, pure] using hK
  refine hnx _ ?_
  show RoundH P l r.fn _ r.assign r.body h K
  rw [ok.params, ok.assign, ok.body]
  intro w hw m
  subst hw
  have hps' : ∀ p ∈ ps, p < n := fun p hp => Nat.lt_of_lt_of_eq (by simpa using (List.all_eq_true.1 hps p hp)) rfl
  obtain ⟨l1, l2⟩ := prm_le ps vs tm r.tmps n hps' ok.size ⟨ok.tmps, rfl⟩
  refine roundIn_of_wpIn (n := m) trivial ?_
  rw [zip_fold]
  refine wpIn_mono (codeWp_sound as (2 * i) hga [] _ _ _ w w hW l1 l2 (.refl w) m) (fun e a1 w1 ⟨tm1, h1, h2, h3, h4⟩ => ?_)
  cases e with
  | normal =>
    obtain ⟨r1, hr1, hst, hG⟩ := h4
    refine ⟨_, run_beginRound hr1 hst, ?_⟩
    refine wpIn_mono (codeWp_sound bd (2 * i + 1) hgb [] _ tm1 a1 _ w hG h1 h2 (h3.trans (same_put2 _ _ _)) m) (fun e a2 w2 ⟨tm2, g1, g2, g3, g4⟩ => ?_)
    cases e with
    | normal =>
      obtain ⟨r2, hr2, hK⟩ := g4
      exact ⟨_, _, run_endRound none hr2, _, rfl, g3.trans (same_put2 _ _ _), hK⟩
    | ret =>
      obtain ⟨r2, hr2, hK⟩ := g4
      exact ⟨_, _, run_endRound (some .ret) hr2, _, rfl, g3.trans (same_put2 _ _ _), hK⟩
    | exit id =>
      obtain ⟨r2, hr2, hK⟩ := g4
      exact ⟨_, _, run_endRound (some (.exit id)) hr2, _, rfl, g3.trans (same_put2 _ _ _), hK⟩
    | _ => exact g4.elim
  | _ => exact h4.elim
end Go.Proofs.YtoheablfncdibaaDoor.Sx
