/- Functions that range over functions: the loop's record and its mark stand in the heap; the iterator is called once, with yield. -/
import Derived.Test.YtoheablfncdibaaDoorSxSel
import Derived.RangeFuncLeaves
import Derived.RangeFuncRecord
namespace Go.Proofs.YtoheablfncdibaaDoor.Sx
open Go
set_option linter.unusedVariables false
set_option linter.unusedSimpArgs false

def marks (dl : List Nat) : List Deferred := dl.map fun D => { target := .collected D, args := #[] }
abbrev Qr := Exit → Tm → List Nat → Hp → Prop
/-- The loop's record as it is entered. -/
structure RecOK (n : Nat) (ps : Array Tmp) (as bd : Code) (tm : Tm) (D : Nat) (r : Loop) : Prop where
  state : r.state = .ready
  pending : r.pending = none
  params : r.params = ps
  assign : r.assign = as
  body : r.body = bd
  defers : r.defers = D
  tmps : ∀ i v, tm i = some v → r.tmps[i]? = some v
  size : r.tmps.size = n
/-- A function with a body of its own. -/
def enters (P : Program) (f : FuncId) : Bool := match P.funcs[f]? with
  | some fn => !(fn.name == "runtime.NumGoroutine") && fn.body.isSome
  | none => false
theorem enters_run {P : Program} {f : FuncId} (h : enters P f = true) (args : Array Value) (w : World) : (callFunc f args).run P w = .ok (.enter f args) w := by
  unfold enters at h
  cases hf : P.funcs[f]? with
  | none => rw [hf] at h; cases h
  | some fn =>
    rw [hf] at h
    simp only [Bool.and_eq_true, Bool.not_eq_true'] at h
    obtain ⟨h1, h2⟩ := h
    have h4 : fn.body ≠ none := by intro hb; rw [hb] at h2; cases h2
    have h5 : fn.name ≠ "runtime.NumGoroutine" := by simpa using h1
    unfold callFunc
    simp [go_sem, hf, h5, h4]
/-- The pending jump. -/
def pickX (id : Nat) : List (Nat × Prop) → Prop
  | [] => False
  | (e, p) :: r => match Nat.beq id e with
    | true => p
    | false => pickX id r
def jmpQ (c : Code) (ret : Prop) (ex : List (Nat × Prop)) : Prop := match c with
  | .ret => ret
  | .exit id => pickX id ex
  | _ => False
def exitsOf : Code → List Nat
  | .seq a b => exitsOf a ++ exitsOf b
  | .cond _ a b => exitsOf a ++ exitsOf b
  | .block id c => (exitsOf c).filter fun e => !(Nat.beq e id)
  | .scope c => exitsOf c
  | .loop c => exitsOf c
  | .rangeFunc _ _ _ b => exitsOf b
  | .exit id => [id]
  | _ => []
/-- What is known behind the iterator's call. -/
def endL (h2 : Hp) (D : Nat) (Kn : Nat → Hp → Prop) (Kj : Code → Nat → Hp → Prop) : Prop :=
  ∃ r2 : Loop, h2[D + 1]? = some (.loop r2) ∧ r2.state ≠ .busy ∧ (match r2.pending with
    | none => Kn D (h2.setIfInBounds (D + 1) (.loop { r2 with state := .exhausted }))
    | some c => Kj c D (h2.setIfInBounds (D + 1) (.loop { r2 with state := .exhausted })))
def yieldV (l : Nat) : Value := .func (.yield l) #[] #[]
def RangeW (P : Program) (n : Nat) (fv : Value) (ps : Array Tmp) (as bd : Code) (tm : Tm) (h : Hp) (Kn : Nat → Hp → Prop) (Kj : Code → Nat → Hp → Prop) : Prop :=
  ∃ f lb, fv = .func (.func f) #[] lb ∧ enters P f = true ∧ ∀ r : Loop, RecOK n ps as bd tm h.size r →
    CallsH P f (#[yieldV (h.size + 1)] ++ lb) ((h.push (.deferred (some []))).push (.loop r)) fun _ h2 => endL h2 h.size Kn Kj
def thenR (K : Tm → List Nat → Hp → Prop) (Q : Qr) : Qr
  | .normal, tm, dl, h => K tm dl h
  | e, tm, dl, h => Q e tm dl h
def blkR (id : Nat) (Q : Qr) : Qr
  | .exit i, tm, dl, h => match Nat.beq i id with
    | true => Q .normal tm dl h
    | false => Q (.exit i) tm dl h
  | e, tm, dl, h => Q e tm dl h
def noGotoR (Q : Qr) : Qr
  | .goto _, _, _, _ => False
  | e, tm, dl, h => Q e tm dl h
def rcodeWp (P : Program) (n : Nat) (lp : Nat → Qr → Tm → List Nat → Hp → Prop) (cut : Nat → Option (List Nat)) : Code → Nat → Qr → Tm → List Nat → Hp → Prop
  | .skip, _, Q, tm, dl, h => Q .normal tm dl h
  | .region id ops dr, i, Q, tm, dl, h => codeWp P n lp0 cut0 (.region id ops dr) i (fun e tm h => Q e tm dl h) tm h
  | .seq a b, i, Q, tm, dl, h => rcodeWp P n lp cut a (2 * i) (thenR (fun tm' dl' h' => match cut i with
      | none => rcodeWp P n lp cut b (2 * i + 1) Q tm' dl' h'
      | some live => lp i Q (mask live tm') dl' h') Q) tm dl h
  | .cond c a b, i, Q, tm, dl, h => match ev? tm c with
    | some (.bool x) => br x (rcodeWp P n lp cut a (2 * i) Q (litO c true tm) dl h) (rcodeWp P n lp cut b (2 * i + 1) Q (litO c false tm) dl h)
    | _ => False
  | .block id c, i, Q, tm, dl, h => rcodeWp P n lp cut c (2 * i) (blkR id Q) tm dl h
  | .loop _, i, Q, tm, dl, h => lp i Q tm dl h
  | .rangeFunc g ps as bd, i, Q, tm, dl, h => match ev? tm g with
    | some fv => match cut i with
      | some live => RangeW P n fv ps as bd (mask live tm) h (fun D h' => Q .normal tm (D :: dl) h') (fun c D h' => jmpQ c (Q .ret tm (D :: dl) h') ((exitsOf bd).map fun e => (e, Q (.exit e) tm (D :: dl) h')))
      | none => False
    | none => False
  | .exit id, _, Q, tm, dl, h => Q (.exit id) tm dl h
  | .scope c, i, Q, tm, dl, h => rcodeWp P n lp cut c (2 * i) (noGotoR Q) tm dl h
  | .label _, _, Q, tm, dl, h => Q .normal tm dl h
  | .goto _, _, _, _, _, _ => False
  | .ret, _, Q, tm, dl, h => Q .ret tm dl h
  | .refuse _, _, _, _, _, _ => False
def LER (w0 : World) (n : Nat) (Q : Qr) (e : Exit) (a : Act) (w : World) : Prop := ∃ tm dl, Le (marks dl) tm a ∧ a.tmps.size = n ∧ Same w0 w ∧ Q e tm dl w.heap
def SndR (P : Program) (n : Nat) (c : Code) (R : Qr → Tm → List Nat → Hp → Prop) : Prop :=
  ∀ (Q : Qr) (tm : Tm) (dl : List Nat) (a : Act) (w w0 : World), R Q tm dl w.heap → Le (marks dl) tm a → a.tmps.size = n → Same w0 w → ∀ m, c.wpIn (FW none) m P (LER w0 n Q) a w
def GoodR (P : Program) (n : Nat) (lp : Nat → Qr → Tm → List Nat → Hp → Prop) (cut : Nat → Option (List Nat)) : Code → Nat → Prop
  | .seq a b, i => GoodR P n lp cut a (2 * i) ∧ (match cut i with
    | none => GoodR P n lp cut b (2 * i + 1)
    | some _ => SndR P n b (lp i))
  | .cond _ a b, i => GoodR P n lp cut a (2 * i) ∧ GoodR P n lp cut b (2 * i + 1)
  | .block _ c, i => GoodR P n lp cut c (2 * i)
  | .scope c, i => GoodR P n lp cut c (2 * i)
  | .loop c, i => SndR P n (.loop c) (lp i)
  | _, _ => True
theorem same_alloc (w : World) (o : Obj) : Same w (w.alloc o) := ⟨rfl, rfl, rfl, Nat.le_refl _⟩
theorem same_put (w : World) (r : Nat) (o : Obj) : Same w (w.putObj r o) := ⟨rfl, rfl, rfl, Nat.le_refl _⟩
theorem pickX_map {id : Nat} {F : Nat → Prop} : ∀ (l : List Nat), pickX id (l.map fun e => (e, F e)) → F id
  | [], h => h.elim
  | e :: r, h => by
    simp only [List.map_cons, pickX] at h
    cases hb : Nat.beq id e with
    | true => rw [hb] at h; rw [Nat.eq_of_beq_eq_true hb]; exact h
    | false => rw [hb] at h; exact pickX_map r h
theorem range_sound {P : Program} {n : Nat} {g : Operand} {ps : Array Tmp} {as bd : Code} {Q : Qr} {tm tm0 : Tm} {dl : List Nat} {a : Act} {w w0 : World} {fv : Value}
    (hg : ev? tm g = some fv) (hsub : ∀ i v, tm0 i = some v → tm i = some v)
    (h : RangeW P n fv ps as bd tm0 w.heap (fun D h' => Q .normal tm (D :: dl) h') (fun c D h' => jmpQ c (Q .ret tm (D :: dl) h') ((exitsOf bd).map fun e => (e, Q (.exit e) tm (D :: dl) h'))))
    (hl : Le (marks dl) tm a) (hz : a.tmps.size = n) (hs : Same w0 w) (m : Nat) : (Code.rangeFunc g ps as bd).wpIn (FW none) m P (LER w0 n Q) a w := by
  obtain ⟨f, lb, rfl, hen, hr⟩ := h
  refine wpIn_rangeFunc ?_
  intro fn hfn
  have hgv : a.eval g = .func (.func f) #[] lb := hl.ev hg
  obtain ⟨rec, hrec⟩ : ∃ rec : Loop, rec = { state := .ready, pending := none, fn, tmps := a.tmps, params := ps, assign := as, body := bd, defers := w.heap.size } := ⟨_, rfl⟩
  obtain ⟨W1, hW1⟩ : ∃ W1, (w.alloc (.deferred (some []))).alloc (.loop rec) = W1 := ⟨_, rfl⟩
  have hH : W1.heap = (w.heap.push (.deferred (some []))).push (.loop rec) := by rw [← hW1]; rfl
  have hS : Same w W1 := by rw [← hW1]; exact (same_alloc _ _).trans (same_alloc _ _)
  refine ⟨w.heap.size + 1, [{ target := .collected w.heap.size, args := #[] }], W1, { target := .fn (.func f) lb, args := #[.func (.yield (w.heap.size + 1)) #[] #[]] }, W1, f,
    #[.func (.yield (w.heap.size + 1)) #[] #[]] ++ lb, W1, ?_, ?_, ?_, ?_, (fun h => by cases h), ?_⟩
  · rw [← hW1, hrec]; exact run_enterLoop_outer _ _ _ _ _
  · simp only [resolve, hgv]
    simp [go_sem]
  · intro f' _; trivial
  · simp [invoke, go_sem, enters_run hen]
  · have hc := hr rec ⟨by rw [hrec], by rw [hrec], by rw [hrec], by rw [hrec], by rw [hrec], by rw [hrec], fun i v hi => by rw [hrec]; exact hl.at_ i v (hsub i v hi), by rw [hrec]; exact hz⟩
    have hc2 : CallsIn Fence.wide (m - 1) P f (#[.func (.yield (w.heap.size + 1)) #[] #[]] ++ lb) W1 _ := callsIn_wide.2 (hc W1 hH)
    refine CallsIn.mono hc2 ?_
    rintro e w3 ⟨v, rfl, hs3, r2, hr2, hb, hK⟩
    refine ⟨r2.pending, w3.putObj (w.heap.size + 1) (.loop { r2 with state := .exhausted }), run_endLoop hr2 hb, ?_⟩
    have hS3 := (hs.trans hS).trans hs3
    have hl' : Le (marks (w.heap.size :: dl)) tm { a with defers := [({ target := .collected w.heap.size, args := #[] } : Deferred)] ++ a.defers } := ⟨hl.at_, by rw [hl.defers]; rfl⟩
    cases hp : r2.pending with
    | none =>
      rw [hp] at hK
      exact ⟨tm, _, hl', hz, hS3.trans (same_put _ _ _), hK⟩
    | some c =>
      rw [hp] at hK
      cases c <;> simp only [jmpQ] at hK <;> try exact hK.elim
      case ret => exact wpIn_ret ⟨tm, _, hl', hz, hS3.trans (same_put _ _ _), hK⟩
      case exit id => exact wpIn_exit ⟨tm, _, hl', hz, hS3.trans (same_put _ _ _), pickX_map (F := fun e => Q (.exit e) tm _ _) _ hK⟩
theorem rcodeWp_sound {P : Program} {n : Nat} {lp : Nat → Qr → Tm → List Nat → Hp → Prop} {cut : Nat → Option (List Nat)} : ∀ (c : Code) (i : Nat), GoodR P n lp cut c i → SndR P n c (rcodeWp P n lp cut c i)
  | .skip, i, hg => fun Q tm dl a w w0 h hl hz hs m => wpIn_skip ⟨tm, dl, hl, hz, hs, h⟩
  | .region id ops dr, i, hg => fun Q tm dl a w w0 h hl hz hs m =>
    wpIn_mono (codeWp_sound (ρ := none) (.region id ops dr) i (by trivial) (marks dl) (fun e tm h => Q e tm dl h) tm a w w0 h hl hz hs m) (fun e a' w' ⟨tm', h1, h2, h3, h4⟩ => ⟨tm', dl, h1, h2, h3, h4⟩)
  | .seq x y, i, hg => fun Q tm dl a w w0 h hl hz hs m => by
    refine wpIn_seq (wpIn_mono (rcodeWp_sound x (2 * i) hg.1 _ tm dl a w w0 h hl hz hs m) (fun e a' w' ⟨tm', dl', h1, h2, h3, h4⟩ => ?_))
    have hy : SndR P n y (fun Q tm' dl' h' => match cut i with
      | none => rcodeWp P n lp cut y (2 * i + 1) Q tm' dl' h'
      | some live => lp i Q (mask live tm') dl' h') := by
      have hg2 := hg.2
      cases hc : cut i with
      | none => rw [hc] at hg2; exact rcodeWp_sound y (2 * i + 1) hg2
      | some live => rw [hc] at hg2; exact fun Q tm dl a w w0 h hl hz hs m => hg2 Q (mask live tm) dl a w w0 h (hl.mask live) hz hs m
    cases e with
    | normal => exact hy Q tm' dl' a' w' w0 h4 h1 h2 h3 m
    | _ => exact ⟨tm', dl', h1, h2, h3, h4⟩
  | .cond c x y, i, hg => fun Q tm dl a w w0 h hl hz hs m => by
    rw [rcodeWp] at h
    split at h
    · rename_i b hb
      have hlit : litO c b tm = tm := by
        cases c with
        | tmp t => exact Tm.put_same hb
        | _ => rfl
      refine wpIn_cond (t := b) (hl.ev hb) ?_
      cases b with
      | true =>
        simp only [br] at h
        rw [hlit] at h
        exact rcodeWp_sound x (2 * i) hg.1 _ _ _ _ _ _ h hl hz hs m
      | false =>
        simp only [br] at h
        rw [hlit] at h
        exact rcodeWp_sound y (2 * i + 1) hg.2 _ _ _ _ _ _ h hl hz hs m
    · exact h.elim
  | .block id c, i, hg => fun Q tm dl a w w0 h hl hz hs m => by
    refine wpIn_block (wpIn_mono (rcodeWp_sound c (2 * i) hg _ tm dl a w w0 h hl hz hs m) (fun e a' w' ⟨tm', dl', h1, h2, h3, h4⟩ => ?_))
    cases e with
    | exit j =>
      simp only [blkR] at h4
      simp only [Exit.inBlock]
      cases hb : Nat.beq j id with
      | true =>
        rw [hb] at h4
        rw [if_pos (Nat.eq_of_beq_eq_true hb)]
        exact ⟨tm', dl', h1, h2, h3, h4⟩
      | false =>
        rw [hb] at h4
        rw [if_neg (fun e => by subst e; simp at hb)]
        exact ⟨tm', dl', h1, h2, h3, h4⟩
    | _ => exact ⟨tm', dl', h1, h2, h3, h4⟩
  | .loop c, i, hg => hg
  | .rangeFunc g ps as bd, i, hg => fun Q tm dl a w w0 h hl hz hs m => by
    rw [rcodeWp] at h
    split at h
    · rename_i fv hfv
      split at h
      · rename_i live _
        exact range_sound hfv (fun i v hi => mkTm_mask tm live i v hi) h hl hz hs m
      · exact h.elim
    · exact h.elim
  | .exit id, i, hg => fun Q tm dl a w w0 h hl hz hs m => wpIn_exit ⟨tm, dl, hl, hz, hs, h⟩
  | .scope c, i, hg => fun Q tm dl a w w0 h hl hz hs m => by
    refine wpIn_scope_straight (wpIn_mono (rcodeWp_sound c (2 * i) hg _ tm dl a w w0 h hl hz hs m) (fun e a' w' ⟨tm', dl', h1, h2, h3, h4⟩ => ?_))
    cases e with
    | goto l => exact h4.elim
    | _ => exact ⟨tm', dl', h1, h2, h3, h4⟩
  | .label l, i, hg => fun Q tm dl a w w0 h hl hz hs m => wpIn_label ⟨tm, dl, hl, hz, hs, h⟩
  | .goto l, i, hg => fun Q tm dl a w w0 h hl hz hs m => h.elim
  | .ret, i, hg => fun Q tm dl a w w0 h hl hz hs m => wpIn_ret ⟨tm, dl, hl, hz, hs, h⟩
  | .refuse y, i, hg => fun Q tm dl a w w0 h hl hz hs m => h.elim
def leavesR (cut : Nat → Option (List Nat)) : Code → Nat → List (Nat × Code)
  | .seq a b, i => leavesR cut a (2 * i) ++ (match cut i with
    | none => leavesR cut b (2 * i + 1)
    | some _ => [(i, b)])
  | .cond _ a b, i => leavesR cut a (2 * i) ++ leavesR cut b (2 * i + 1)
  | .block _ c, i => leavesR cut c (2 * i)
  | .scope c, i => leavesR cut c (2 * i)
  | .loop c, i => [(i, .loop c)]
  | _, _ => []
theorem good_of_leavesR {P : Program} {n : Nat} {lp : Nat → Qr → Tm → List Nat → Hp → Prop} {cut : Nat → Option (List Nat)} : ∀ (c : Code) (i : Nat), (∀ p ∈ leavesR cut c i, SndR P n p.2 (lp p.1)) → GoodR P n lp cut c i
  | .seq a b, i, h => by
    simp only [leavesR] at h
    refine ⟨good_of_leavesR a (2 * i) (fun p hp => h p (List.mem_append_left _ hp)), ?_⟩
    cases hc : cut i with
    | none => rw [hc] at h; exact good_of_leavesR b (2 * i + 1) (fun p hp => h p (List.mem_append_right _ hp))
    | some l => rw [hc] at h; exact h (i, b) (List.mem_append_right _ (List.mem_cons_self ..))
  | .cond c a b, i, h => by
    simp only [leavesR] at h
    exact ⟨good_of_leavesR a (2 * i) (fun p hp => h p (List.mem_append_left _ hp)), good_of_leavesR b (2 * i + 1) (fun p hp => h p (List.mem_append_right _ hp))⟩
  | .block id c, i, h => good_of_leavesR c (2 * i) h
  | .scope c, i, h => good_of_leavesR c (2 * i) h
  | .loop c, i, h => h (i, .loop c) (List.mem_cons_self ..)
  | .rangeFunc f ps as c, i, h => trivial
  | .skip, i, h => trivial
  | .region .., i, h => trivial
  | .exit _, i, h => trivial
  | .label _, i, h => trivial
  | .goto _, i, h => trivial
  | .ret, i, h => trivial
  | .refuse _, i, h => trivial
theorem good_byR {P : Program} {n : Nat} {lp : Nat → Qr → Tm → List Nat → Hp → Prop} {cut : Nat → Option (List Nat)} {c : Code} {i : Nat} {l : List (Nat × Code)} (he : leavesR cut c i = l) (h : ∀ p ∈ l, SndR P n p.2 (lp p.1)) : GoodR P n lp cut c i :=
  good_of_leavesR c i (by rw [he]; exact h)
def lpR0 : Nat → Qr → Tm → List Nat → Hp → Prop := fun _ _ _ _ _ => False
/-- The marks are come to on the way out: their blocks are shut. -/
def shut : List Nat → Hp → (Hp → Prop) → Prop
  | [], h, K => K h
  | D :: r, h, K => h[D]? = some (.deferred (some [])) ∧ shut r (h.setIfInBounds D (.deferred none)) K
def endR (P : Program) (rs : List ResultVar) (K : Value → Hp → Prop) : Qr
  | .normal, tm, dl, h => shut dl h fun h' => resQ P tm h' rs fun l => K (oneV l) h'
  | .ret, tm, dl, h => shut dl h fun h' => resQ P tm h' rs fun l => K (oneV l) h'
  | _, _, _, _ => False
theorem shut_leaves {P : Program} {m : Nat} {fn : Func} {tmps : Array Value} {R : Ending → World → Prop} : ∀ (dl : List Nat) (w w0 : World) (K : Hp → Prop), Same w0 w → shut dl w.heap K →
    (∀ w', Same w0 w' → K w'.heap → ∃ v, (results fn tmps).run P w' = .ok v w' ∧ R (.returned v) w') → LeavesInM Fence.wide m P fn tmps R (marks dl) .returning w
  | [], w, w0, K, hs, h, fin => by
    obtain ⟨v, hr, hR⟩ := fin w hs h
    exact ⟨v, hr, hR⟩
  | D :: r, w, w0, K, hs, h, fin => by
    refine ⟨by simp, .inl ⟨D, w.putObj D (.deferred none), rfl, run_takeDeferred h.1, ?_⟩⟩
    exact shut_leaves r _ w0 K (hs.trans (same_put _ _ _)) h.2 fin
theorem calls_ofR {P : Program} {f : FuncId} {fn : Func} {c : Code} {n : Nat} {args : List Value} {h : Hp} {K : Value → Hp → Prop} {lp : Nat → Qr → Tm → List Nat → Hp → Prop} {cut : Nat → Option (List Nat)}
    (hf : P.funcs[f]? = some fn) (hb : fn.body = some c) (hn : fn.ntmps = n) (ha : Nat.ble args.length n = true) (hg : GoodR P n lp cut c 1)
    (hc : rcodeWp P n lp cut c 1 (endR P fn.results.toList K) (argTm args) [] h) : CallsH P f args.toArray h K := by
  intro w hw
  subst hw
  refine (callsIn_wide (n := 0)).1 (callsIn_of_wp_marks hf hb trivial ?_)
  have hle : args.length ≤ n := Nat.le_of_ble_eq_true ha
  have h1 : Le (marks []) (argTm args) { tmps := args.toArray ++ Array.replicate (fn.ntmps - args.toArray.size) undef, defers := [] } := by
    refine ⟨fun i v hi => ?_, rfl⟩
    simp only [argTm] at hi
    have hlt := (List.getElem?_eq_some_iff.1 hi).1
    rw [Array.getElem?_append_left (by simpa using hlt)]
    simpa using hi
  have h2 : (args.toArray ++ Array.replicate (fn.ntmps - args.toArray.size) undef).size = n := by simp [hn]; omega
  refine wpIn_mono (rcodeWp_sound c 1 hg _ _ [] _ w w hc h1 h2 (.refl w) 0) (fun e a' w' ⟨tm', dl', l1, l2, l3, l4⟩ => ?_)
  have fin : shut dl' w'.heap (fun h' => resQ P tm' h' fn.results.toList fun l => K (oneV l) h') → LeavesInM Fence.wide 0 P fn a'.tmps (fun e w' => ∃ v, e = .returned v ∧ Same w w' ∧ K v w'.heap) a'.defers .returning w' := by
    intro hsh
    rw [l1.defers]
    refine shut_leaves dl' w' w _ l3 hsh (fun w2 hs2 hr => ?_)
    obtain ⟨l, hrun, hK⟩ := resQ_run (ds := marks dl') (a := a') (w := w2) l1 _ _ hr
    refine ⟨oneV l, ?_, _, rfl, hs2, hK⟩
    rw [results_eq, ← Array.toArray_toList (xs := fn.results), List.mapM_toArray]
    simp only [Sem.run_bind]
    simp [hrun, Result.andThen]
    match l with
    | [] => simp [oneV]
    | [v] => simp [oneV]
    | v :: u :: r => simp [oneV]
  cases e with
  | normal => exact fin l4
  | ret => exact fin l4
  | _ => exact l4.elim
end Go.Proofs.YtoheablfncdibaaDoor.Sx
