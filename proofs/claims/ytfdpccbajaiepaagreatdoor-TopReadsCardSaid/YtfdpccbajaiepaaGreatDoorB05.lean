/- Texts laid together: RdSpec1, RdSpec2, RdSpec3, RdSpec4, RdSpec5, RdSpec6, RdSpec7, RdSpec8, RdSpec9, FxT, RuSpec, RdSpec10, RdSpec11, RdSpec12. -/
import Derived.Test.YtfdpccbajaiepaaGreatDoorB03
import Derived.Test.YtfdpccbajaiepaaGreatDoorB04
import Derived.Test.YtfdpccbajaiepaaGreatDoorB01
import Derived.Test.YtfdpccbajaiepaaGreatDoorB02
import Derived.Test.YtfdpccbajaiepaaGreatDoorProg
/- The reader: its cells, a fault given up, sign, number. -/
namespace Go.Proofs.YtfdpccbajaiepaaGreatDoor.Lx
open Go Go.RowKit Go.Proofs.YtfdpccbajaiepaaGreatDoor.Sx Go.Proofs.YtfdpccbajaiepaaGreatDoor.Sxp Go.Proofs.YtfdpccbajaiepaaGreatDoor.Sxp.Fx
set_option linter.unusedVariables false
set_option linter.unusedSimpArgs false
set_option maxRecDepth 10000
def rdCells (A : Option Addr) (l c n : Nat) : List Value := [.slice A l c, .int .i64 (n : Int)]
structure RdAt (h : Hp) (b : Nat) (A : Option Addr) (c : Nat) (ts : List TokM) (n : Nat) : Prop where
  q : h[b]? = some (.cells (rdCells A ts.length c n).toArray 130 (0, 0))
  row : RowC h 52 TokM.enc 5 A c ts
  nb : ¬ blk A b
theorem RdAt.cl {h : Hp} {b : Nat} {A : Option Addr} {c : Nat} {ts : List TokM} {n : Nat} (q : RdAt h b A c ts n) : Cl h ⟨b, 0, none⟩ (rdCells A ts.length c n) := Cl.of_block q.q fun j v hj => by rw [Nat.zero_add]; exact hj
theorem RdAt.ext {h h' : Hp} {b : Nat} {A : Option Addr} {c : Nat} {ts : List TokM} {n : Nat} (q : RdAt h b A c ts n) (e : Ext h h') : RdAt h' b A c ts n := ⟨by rw [e.old _ (lt_of_get q.q)]; exact q.q, q.row.ext e, q.nb⟩
theorem RdAt.st {h : Hp} {b : Nat} {A : Option Addr} {c : Nat} {ts : List TokM} {n : Nat} (q : RdAt h b A c ts n) (n' : Nat) {K : Hp → Prop} (H : ∀ h', RdAt h' b A c ts n' → Fr (fun k => k = b) h h' → h'.size = h.size → K h') :
    HU Tryz.prog (Instr.storeAt 3 (.pointer (some ((⟨b, 0, none⟩ : Addr).add 1))) (.int .i64 (n' : Int))) h K := by
  rw [add_eq0]
  refine HU_st (us := [.int .i64 (n' : Int)]) q.q rfl (by kernel_rfl) (by simp [rdCells]) rfl ?_
  have f : Fr (fun k => k = b) h (setB h b (rdCells A ts.length c n') 130) := setB_fr rfl
  exact H _ ⟨setB_get (lt_of_get q.q), q.row.keep f (fun k hk he => q.nb (he ▸ hk)), q.nb⟩ f setB_size
theorem RdAt.look {h : Hp} {b : Nat} {A : Option Addr} {c : Nat} {ts : List TokM} {n : Nat} (q : RdAt h b A c ts n) {t : TokM} (ht : ts[n]? = some t) :
    ∃ a : Addr, PV Tryz.prog (Instr.indexAt 46 (.slice A ts.length c) (.int .i64 (n : Int))) (.pointer (some a)) ∧ Cl h a t.enc := by
  obtain ⟨a, ha0, _, pv, cl⟩ := ixR (P := Tryz.prog) (T := 46) (E := 52) (enc := TokM.enc) (sz := 5) (xs := ts) (h := h) (A := A) (l := ts.length) (c := c) (k := .i64) (i := n) (x := t) (fun _ => rfl) q.row.read rfl undToks tokSz ht
  exact ⟨a, pv, cl⟩
/-- A fault given up. -/
def Up (h : Hp) (b : Nat) (f : Flt) (KP : Kp) : Prop := ∀ h' g, h.size ≤ g → FltC h' g f → Fr (fun k => k = b) h h' → KP [{ v := .iface 27 (.pointer (some ⟨g, 0, none⟩)), recovered := false }] h'
theorem Up.of {h h1 : Hp} {b : Nat} {f : Flt} {KP : Kp} (u : Up h b f KP) (e : Fr (fun k => k = b) h h1) : Up h1 b f KP := fun h' g hg hf fr => u h' g (Nat.le_trans e.size hg) hf (e.trans fr)
theorem fails_s {h : Hp} {b : Nat} (t : TokM) (code : Int) {K : Value → Hp → Prop} {KP : Kp} (u : Up h b ⟨code, t.line, t.col⟩ KP) :
    CallsP Tryz.prog 25 #[.agg #[.int .i64 t.kind, .string (bs t.text), .int .u32 t.value, .int .i64 t.line, .int .i64 t.col], .int .i64 code] h K KP := by
  refine syntax_fails_ok _ _ _ _ _ _ ?_
  unfold syntax_fails
  refine newC_i (cs := t.enc) fun h1 e1 c1 b1 z1 => ?_
  refine ⟨_, ld (c1.at_ 3 _ rfl) (by kernel_rfl), _, ld (c1.at_ 4 _ rfl) (by kernel_rfl), ?_⟩
  refine newC_i (cs := (⟨code, t.line, t.col⟩ : Flt).enc) fun h2 e2 c2 b2 z2 => ?_
  exact u h2 h1.size (by omega) b2 ((e1.trans e2).fr _)
def isSign (t : TokM) (s : List UInt8) : Bool := decide (t.kind = 3) && decide (t.text = s)
theorem sign_s {h : Hp} {b : Nat} {A : Option Addr} {c : Nat} {ts : List TokM} {n : Nat} (q : RdAt h b A c ts n) {t : TokM} (ht : ts[n]? = some t) (hn : n ≤ 1000000) (s : List UInt8) {K : Value → Hp → Prop}
    (H : ∀ h', RdAt h' b A c ts (if isSign t s then n + 1 else n) → Fr (fun k => k = b) h h' → K (.bool (isSign t s)) h') :
    CallsH Tryz.prog 77 #[.pointer (some ⟨b, 0, none⟩), .string (bs s)] h K := by
  refine syntax_reader_sign_ok _ _ ?_
  unfold syntax_reader_sign
  obtain ⟨a, pv, cl⟩ := q.look ht
  refine ⟨_, _, _, ld (q.cl.at_ 0 _ rfl) (by kernel_rfl), _, ld (q.cl.at_ 1 _ rfl) (by kernel_rfl), a, pv, _, _, _, _, _, ldS (vs := t.enc) cl (by kernel_rfl), ?_⟩
  refine newC_i (cs := tok0.enc) fun h1 e1 c1 b1 z1 => ?_
  have q1 := q.ext e1
  refine ⟨ldS (vs := t.enc) (cl.ext e1) (by kernel_rfl), ld (q1.cl.at_ 1 _ rfl) (by kernel_rfl), ld (q1.cl.at_ 0 _ rfl) (by kernel_rfl), ?_⟩
  refine HU_box (us := t.enc) b1 rfl rfl tokSz rfl fun h2 c2 b2 f2 z2 => ?_
  have E2 : Ext h h2 := extOwn e1 f2 (fun k hk => by subst hk; exact Nat.le_refl _)
  have q2 := q.ext E2
  refine ⟨_, ld (c2.at_ 0 _ rfl) (by kernel_rfl), ?_⟩
  by_cases h3 : t.kind = 3
  · refine br_f (by simp [h3]) ⟨_, ld (c2.at_ 1 _ rfl) (by kernel_rfl), ?_⟩
    by_cases h4 : t.text = s
    · have hs : isSign t s = true := by simp [isSign, h3, h4]
      rw [hs] at H
      refine br_f (by rw [h4]; simp) ⟨_, ld (q2.cl.at_ 1 _ rfl) (by kernel_rfl), ?_⟩
      have w1 : IntKind.i64.wrap ((n : Int) + 1) = ((n + 1 : Nat) : Int) := by rw [wrap_in (by omega) (by omega)]; omega
      show HU Tryz.prog (Instr.storeAt 3 _ (.int .i64 (IntKind.i64.wrap ((n : Int) + 1)))) h2 _
      rw [w1]
      exact q2.st (n + 1) fun h3' q3 f3 z3 => H h3' q3 ((E2.fr _).trans f3)
    · have hs : isSign t s = false := by simp [isSign, h4]
      rw [hs] at H
      exact br_t (by simp [bs, h4]) (H h2 q2 (E2.fr _))
  · have hs : isSign t s = false := by simp [isSign, h3]
    rw [hs] at H
    exact br_t (by simp [h3]) (H h2 q2 (E2.fr _))
end Go.Proofs.YtfdpccbajaiepaaGreatDoor.Lx

/- The reader: number, any. -/
namespace Go.Proofs.YtfdpccbajaiepaaGreatDoor.Lx
open Go Go.RowKit Go.Proofs.YtfdpccbajaiepaaGreatDoor.Sx Go.Proofs.YtfdpccbajaiepaaGreatDoor.Sxp Go.Proofs.YtfdpccbajaiepaaGreatDoor.Sxp.Fx
set_option linter.unusedVariables false
set_option linter.unusedSimpArgs false
set_option maxRecDepth 10000
def numM (t : TokM) (mx : Int) : Except Flt Int := if t.kind = 2 then (if t.value > mx then .error ⟨101, t.line, t.col⟩ else .ok t.value) else .error ⟨100, t.line, t.col⟩
/-- What a reader's function tells: a fault given up, or a value with the reader moved. -/
def NumK (R : Except Flt Int) (h : Hp) (b : Nat) (A : Option Addr) (c : Nat) (ts : List TokM) (n' : Nat) (K : Int → Hp → Prop) (KP : Kp) : Prop := match R with
  | .error f => Up h b f KP
  | .ok v => ∀ h', RdAt h' b A c ts n' → Fr (fun k => k = b) h h' → K v h'
theorem number_s {h : Hp} {b : Nat} {A : Option Addr} {c : Nat} {ts : List TokM} {n : Nat} (q : RdAt h b A c ts n) {t : TokM} (ht : ts[n]? = some t) (hn : n ≤ 1000000) (mx : Int) {K : Value → Hp → Prop} {KP : Kp}
    (H : NumK (numM t mx) h b A c ts (n + 1) (fun v h' => K (.int .u32 v) h') KP) :
    CallsP Tryz.prog 75 #[.pointer (some ⟨b, 0, none⟩), .int .u32 mx] h K KP := by
  refine syntax_reader_number_ok _ _ ?_
  unfold syntax_reader_number
  obtain ⟨a, pv, cl⟩ := q.look ht
  refine ⟨_, _, _, ld (q.cl.at_ 0 _ rfl) (by kernel_rfl), _, ld (q.cl.at_ 1 _ rfl) (by kernel_rfl), a, pv, _, _, _, _, _, ldS (vs := t.enc) cl (by kernel_rfl), ?_⟩
  refine newC_i (cs := tok0.enc) fun h1 e1 c1 b1 z1 => ?_
  have q1 := q.ext e1
  refine ⟨ldS (vs := t.enc) (cl.ext e1) (by kernel_rfl), ld (q1.cl.at_ 1 _ rfl) (by kernel_rfl), ld (q1.cl.at_ 0 _ rfl) (by kernel_rfl), ?_⟩
  refine HU_box (us := t.enc) b1 rfl rfl tokSz rfl fun h2 c2 b2 f2 z2 => ?_
  have E2 : Ext h h2 := extOwn e1 f2 (fun k hk => by subst hk; exact Nat.le_refl _)
  have q2 := q.ext E2
  have hbl := lt_of_get q.q
  refine ⟨_, ld (c2.at_ 0 _ rfl) (by kernel_rfl), ?_⟩
  by_cases h3 : t.kind = 2
  · refine br_f (by simp [h3]) ⟨_, ld (c2.at_ 2 _ rfl) (by kernel_rfl), ?_⟩
    by_cases h4 : t.value > mx
    · have hR : numM t mx = .error ⟨101, t.line, t.col⟩ := by simp [numM, h3, h4]
      rw [hR] at H
      exact br_t (by simp [h4]) ⟨_, _, _, _, _, ldS (vs := t.enc) c2 (by kernel_rfl), fails_s t 101 (Up.of H (E2.fr _))⟩
    · have hR : numM t mx = .ok t.value := by simp [numM, h3, h4]
      rw [hR] at H
      refine br_f (by simp [h4]) ⟨_, ld (q2.cl.at_ 1 _ rfl) (by kernel_rfl), ?_⟩
      have w1 : IntKind.i64.wrap ((n : Int) + 1) = ((n + 1 : Nat) : Int) := by rw [wrap_in (by omega) (by omega)]; omega
      show HU Tryz.prog (Instr.storeAt 3 _ (.int .i64 (IntKind.i64.wrap ((n : Int) + 1)))) h2 _
      rw [w1]
      refine q2.st (n + 1) fun h3' q3 f3 z3 => ?_
      have c3 : Cl h3' ⟨h.size, 0, none⟩ t.enc := f3.cl c2 (by show ¬ h.size = b; omega)
      exact ⟨_, ld (c3.at_ 2 _ rfl) (by kernel_rfl), H h3' q3 ((E2.fr _).trans f3)⟩
  · have hR : numM t mx = .error ⟨100, t.line, t.col⟩ := by simp [numM, h3]
    rw [hR] at H
    exact br_t (by simp [h3]) ⟨_, _, _, _, _, ldS (vs := t.enc) c2 (by kernel_rfl), fails_s t 100 (Up.of H (E2.fr _))⟩
theorem any_s {h : Hp} {b : Nat} {A : Option Addr} {c : Nat} {ts : List TokM} {n : Nat} (q : RdAt h b A c ts n) {t : TokM} (ht : ts[n]? = some t) (hn : n ≤ 1000000) {K : Value → Hp → Prop} {KP : Kp}
    (H : NumK (numM t 4294967295) h b A c ts (n + 1) (fun v h' => K (.int .i64 (IntKind.i64.wrap v)) h') KP) :
    CallsP Tryz.prog 54 #[.pointer (some ⟨b, 0, none⟩)] h K KP := by
  refine syntax_reader_any_ok _ ?_
  unfold syntax_reader_any
  refine number_s q ht hn 4294967295 ?_
  cases hR : numM t 4294967295 with
  | error f => rw [hR] at H; exact H
  | ok v => rw [hR] at H; exact fun h' q' f' => ⟨v, rfl, H h' q' f'⟩
end Go.Proofs.YtfdpccbajaiepaaGreatDoor.Lx

/- The reader over the tokens that are left; address. -/
namespace Go.Proofs.YtfdpccbajaiepaaGreatDoor.Lx
open Go Go.RowKit Go.Proofs.YtfdpccbajaiepaaGreatDoor.Sx Go.Proofs.YtfdpccbajaiepaaGreatDoor.Sxp Go.Proofs.YtfdpccbajaiepaaGreatDoor.Sxp.Fx
set_option linter.unusedVariables false
set_option linter.unusedSimpArgs false
set_option maxRecDepth 10000
/-- The reader, and what tokens are left to it. -/
def RAt (h : Hp) (b : Nat) (A : Option Addr) (c : Nat) (ts r : List TokM) : Prop := ts.length ≤ 900000 ∧ ∃ n, RdAt h b A c ts n ∧ ts.drop n = r ∧ n ≤ ts.length
theorem RAt.ext {h h' : Hp} {b : Nat} {A : Option Addr} {c : Nat} {ts r : List TokM} (q : RAt h b A c ts r) (e : Ext h h') : RAt h' b A c ts r := by
  obtain ⟨hl, n, q, a, d⟩ := q
  exact ⟨hl, n, q.ext e, a, d⟩
/-- The last token ends a line. -/
def Good (r : List TokM) : Prop := ∀ e, r.getLast? = some e → e.kind = 4
theorem Good.tail {t : TokM} {r : List TokM} (g : Good (t :: r)) (hk : t.kind ≠ 4) : Good r ∧ r ≠ [] := by
  cases r with
  | nil => exact absurd (g t rfl) hk
  | cons a l => exact ⟨fun e he => g e (by rw [List.getLast?_cons_cons]; exact he), by simp⟩
abbrev ReR (α : Type) := Except Flt (α × List TokM)
def RdK {α : Type} (R : ReR α) (h : Hp) (b : Nat) (A : Option Addr) (c : Nat) (ts : List TokM) (K : α → Hp → Prop) (KP : Kp) : Prop := match R with
  | .error f => Up h b f KP
  | .ok (v, r) => ∀ h', RAt h' b A c ts r → Fr (fun k => k = b) h h' → K v h'
theorem RdK.of {α : Type} {R : ReR α} {h h1 : Hp} {b : Nat} {A : Option Addr} {c : Nat} {ts : List TokM} {K : α → Hp → Prop} {KP : Kp} (H : RdK R h b A c ts K KP) (e : Fr (fun k => k = b) h h1) : RdK R h1 b A c ts K KP := by
  match R with
  | .error f => exact Up.of H e
  | .ok (v, r) => exact fun h' q f => H h' q (e.trans f)
theorem RAt.head {h : Hp} {b : Nat} {A : Option Addr} {c : Nat} {ts r : List TokM} {t : TokM} (q : RAt h b A c ts (t :: r)) : ∃ n, RdAt h b A c ts n ∧ ts[n]? = some t ∧ ts.drop (n + 1) = r ∧ n < ts.length ∧ ts.length ≤ 900000 := by
  obtain ⟨hl, n, q, a, d⟩ := q
  have h1 : n < ts.length := by
    rcases Nat.lt_or_ge n ts.length with h0 | h0
    · exact h0
    · rw [List.drop_of_length_le h0] at a; cases a
  rw [List.drop_eq_getElem_cons h1] at a
  injection a with a1 a2
  exact ⟨n, q, by rw [List.getElem?_eq_getElem h1, a1], a2, h1, hl⟩
def numR (mx : Int) : List TokM → ReR Int
  | [] => .error ⟨0, 0, 0⟩
  | t :: r => match numM t mx with
    | .error f => .error f
    | .ok v => .ok (v, r)
theorem num_r {h : Hp} {b : Nat} {A : Option Addr} {c : Nat} {ts r : List TokM} {t : TokM} (q : RAt h b A c ts (t :: r)) (mx : Int) {K : Value → Hp → Prop} {KP : Kp}
    (H : RdK (numR mx (t :: r)) h b A c ts (fun v h' => K (.int .u32 v) h') KP) :
    CallsP Tryz.prog 75 #[.pointer (some ⟨b, 0, none⟩), .int .u32 mx] h K KP := by
  obtain ⟨n, q, ht, hd, hn, hl⟩ := q.head
  refine number_s q ht (by omega) mx ?_
  have e0 : numR mx (t :: r) = (match numM t mx with | .error f => .error f | .ok v => .ok (v, r)) := rfl
  rw [e0] at H
  cases hR : numM t mx with
  | error f => rw [hR] at H; exact H
  | ok v => rw [hR] at H; exact fun h' q' f' => H h' ⟨hl, n + 1, q', hd, hn⟩ f'
theorem sign_r {h : Hp} {b : Nat} {A : Option Addr} {c : Nat} {ts r : List TokM} {t : TokM} (q : RAt h b A c ts (t :: r)) (s : List UInt8) {K : Value → Hp → Prop}
    (H : ∀ h', RAt h' b A c ts (if isSign t s then r else t :: r) → Fr (fun k => k = b) h h' → K (.bool (isSign t s)) h') :
    CallsH Tryz.prog 77 #[.pointer (some ⟨b, 0, none⟩), .string (bs s)] h K := by
  have q0 := q
  obtain ⟨hl0, n0, q00, d0, l0⟩ := q0
  obtain ⟨n, q, ht, hd, hn, hl⟩ := q.head
  refine sign_s q ht (by omega) s fun h' q' f' => H h' ?_ f'
  by_cases hs : isSign t s = true
  · rw [if_pos hs] at q' ⊢
    exact ⟨hl, n + 1, q', hd, hn⟩
  · rw [if_neg hs] at q' ⊢
    refine ⟨hl, n, q', ?_, by omega⟩
    rw [List.drop_eq_getElem_cons hn, hd]
    rw [List.getElem?_eq_getElem hn] at ht
    injection ht with ht
    rw [ht]
theorem isSign_k {t : TokM} {s : List UInt8} (h : isSign t s = true) : t.kind ≠ 4 := by
  simp only [isSign, Bool.and_eq_true, decide_eq_true_eq] at h
  omega
theorem numM_k {t : TokM} {mx v : Int} (h : numM t mx = .ok v) : t.kind ≠ 4 := by
  unfold numM at h
  split at h
  · omega
  · cases h
def addrL : Nat → Int → List TokM → ReR Int
  | 0, v, r => .ok (v, r)
  | j + 1, v, [] => .error ⟨0, 0, 0⟩
  | j + 1, v, t :: r => if isSign t [46] then (match numR 255 r with
      | .error f => .error f
      | .ok (x, r2) => addrL j (bOr .u32 (IntKind.u32.wrap (v * 256)) x) r2) else .error ⟨100, t.line, t.col⟩
def addrR (r : List TokM) : ReR Int := match numR 255 r with
  | .error f => .error f
  | .ok (x, r2) => addrL 3 x r2
theorem addr_l1 (j : Nat) : ∀ {h : Hp} {b : Nat} {A : Option Addr} {c : Nat} {ts r : List TokM} {v : Int} {i : Nat} {K0 : Int → Hp → Prop} {KP : Kp}, i + j = 3 → RAt h b A c ts r → Good r → r ≠ [] → RdK (addrL j v r) h b A c ts K0 KP →
    syntax_reader_address_l1 (some ⟨b, 0, none⟩) K0 KP (j + 1) v (i : Int) h := by
  induction j with
  | zero =>
    intro h b A c ts r v i K0 KP hi q g hne H
    unfold syntax_reader_address_l1
    exact br_f (by simp; omega) (H h q (Fr.refl _ _))
  | succ j ih =>
    intro h b A c ts r v i K0 KP hi q g hne H
    unfold syntax_reader_address_l1
    refine br_t (by simp; omega) ?_
    cases r with
    | nil => exact absurd rfl hne
    | cons t r =>
      refine Sx.CallsH.p (sign_r q [46] fun h1 q1 f1 => ⟨_, rfl, ?_⟩)
      unfold addrL at H
      by_cases hs : isSign t [46] = true
      · rw [if_pos hs] at H q1
        refine br_f (by rw [hs]; rfl) ?_
        obtain ⟨g1, hne1⟩ := g.tail (isSign_k hs)
        cases r with
        | nil => exact absurd rfl hne1
        | cons t1 r1 =>
          refine num_r q1 255 ?_
          have e0 : numR 255 (t1 :: r1) = (match numM t1 255 with | .error f => .error f | .ok v => .ok (v, r1)) := rfl
          cases hR : numM t1 255 with
          | error f =>
            rw [hR] at e0
            rw [e0] at H ⊢
            exact Up.of H f1
          | ok x =>
            rw [hR] at e0
            rw [e0] at H ⊢
            intro h2 q2 f2
            refine ⟨_, rfl, ?_⟩
            have w1 : IntKind.i64.wrap ((i : Int) + 1) = ((i + 1 : Nat) : Int) := by rw [wrap_in (by omega) (by omega)]; omega
            rw [w1]
            obtain ⟨g2, hne2⟩ := g1.tail (numM_k hR)
            exact ih (by omega) q2 g2 hne2 (RdK.of H (f1.trans f2))
      · rw [if_neg hs] at H q1
        refine br_t (by simp [hs]) ?_
        obtain ⟨n, q2, ht, hd, hn, hl⟩ := q1.head
        obtain ⟨a, pv, cl⟩ := q2.look ht
        exact ⟨_, _, _, ld (q2.cl.at_ 0 _ rfl) (by kernel_rfl), _, ld (q2.cl.at_ 1 _ rfl) (by kernel_rfl), a, pv, _, _, _, _, _, ldS (vs := t.enc) cl (by kernel_rfl), fails_s t 100 (Up.of H f1)⟩
theorem addr_s {h : Hp} {b : Nat} {A : Option Addr} {c : Nat} {ts r : List TokM} (q : RAt h b A c ts r) (g : Good r) (hne : r ≠ []) {K : Value → Hp → Prop} {KP : Kp}
    (H : RdK (addrR r) h b A c ts (fun v h' => K (.int .u32 v) h') KP) :
    CallsP Tryz.prog 74 #[.pointer (some ⟨b, 0, none⟩)] h K KP := by
  refine syntax_reader_address_ok _ ?_
  unfold syntax_reader_address
  cases r with
  | nil => exact absurd rfl hne
  | cons t r =>
    refine num_r q 255 ?_
    unfold addrR at H
    have e0 : numR 255 (t :: r) = (match numM t 255 with | .error f => .error f | .ok v => .ok (v, r)) := rfl
    cases hR : numM t 255 with
    | error f =>
      rw [hR] at e0
      rw [e0] at H ⊢
      exact H
    | ok x =>
      rw [hR] at e0
      rw [e0] at H ⊢
      intro h1 q1 f1
      obtain ⟨g1, hne1⟩ := g.tail (numM_k hR)
      exact ⟨_, rfl, 4, addr_l1 3 (i := 0) rfl q1 g1 hne1 (RdK.of H f1)⟩
end Go.Proofs.YtfdpccbajaiepaaGreatDoor.Lx

/- The reader: prefix. -/
namespace Go.Proofs.YtfdpccbajaiepaaGreatDoor.Lx
open Go Go.RowKit Go.Proofs.YtfdpccbajaiepaaGreatDoor.Sx Go.Proofs.YtfdpccbajaiepaaGreatDoor.Sxp Go.Proofs.YtfdpccbajaiepaaGreatDoor.Sxp.Fx
set_option linter.unusedVariables false
set_option linter.unusedSimpArgs false
set_option maxRecDepth 10000
theorem numR_cons (mx : Int) (t : TokM) (r : List TokM) : numR mx (t :: r) = (match numM t mx with | .error f => .error f | .ok v => .ok (v, r)) := rfl
theorem numR_good {mx v : Int} {r r2 : List TokM} (h : numR mx r = .ok (v, r2)) (g : Good r) : Good r2 ∧ r2 ≠ [] := by
  cases r with
  | nil => cases h
  | cons t r =>
    rw [numR_cons] at h
    cases hR : numM t mx with
    | error f => rw [hR] at h; cases h
    | ok x =>
      rw [hR] at h
      cases h
      exact g.tail (numM_k hR)
theorem addrL_good (j : Nat) : ∀ {v x : Int} {r r2 : List TokM}, addrL j v r = .ok (x, r2) → Good r → r ≠ [] → Good r2 ∧ r2 ≠ [] := by
  induction j with
  | zero =>
    intro v x r r2 h g hne
    unfold addrL at h
    cases h
    exact ⟨g, hne⟩
  | succ j ih =>
    intro v x r r2 h g hne
    cases r with
    | nil => exact absurd rfl hne
    | cons t r =>
      unfold addrL at h
      by_cases hs : isSign t [46] = true
      · rw [if_pos hs] at h
        obtain ⟨g1, hne1⟩ := g.tail (isSign_k hs)
        cases hR : numR 255 r with
        | error f => rw [hR] at h; cases h
        | ok p =>
          obtain ⟨y, r3⟩ := p
          rw [hR] at h
          obtain ⟨g3, hne3⟩ := numR_good hR g1
          exact ih h g3 hne3
      · rw [if_neg hs] at h
        cases h
theorem addrR_good {x : Int} {r r2 : List TokM} (h : addrR r = .ok (x, r2)) (g : Good r) : Good r2 ∧ r2 ≠ [] := by
  unfold addrR at h
  cases hR : numR 255 r with
  | error f => rw [hR] at h; cases h
  | ok p =>
    obtain ⟨y, r3⟩ := p
    rw [hR] at h
    obtain ⟨g3, hne3⟩ := numR_good hR g
    exact addrL_good 3 h g3 hne3
theorem RAt.keep {h h' : Hp} {b : Nat} {A : Option Addr} {c : Nat} {ts r : List TokM} {S : Nat → Prop} (q : RAt h b A c ts r) (f : Fr S h h') (hb : ¬ S b) (hA : ∀ k, blk A k → ¬ S k) : RAt h' b A c ts r := by
  obtain ⟨hl, n, q, a, d⟩ := q
  exact ⟨hl, n, ⟨f.get q.q hb, q.row.keep f hA, q.nb⟩, a, d⟩
theorem RAt.lt {h : Hp} {b : Nat} {A : Option Addr} {c : Nat} {ts r : List TokM} (q : RAt h b A c ts r) : b < h.size ∧ ∀ k, blk A k → k < h.size := by
  obtain ⟨hl, n, q, a, d⟩ := q
  exact ⟨lt_of_get q.q, q.row.old⟩
def prefR (r : List TokM) : ReR (Int × Int) := match r with
  | [] => .error ⟨0, 0, 0⟩
  | t :: r1 => if isSign t [42] then .ok ((0, 0), r1) else match addrR (t :: r1) with
    | .error f => .error f
    | .ok (a, []) => .error ⟨0, 0, 0⟩
    | .ok (a, t2 :: r3) => if isSign t2 [47] then (match numR 32 r3 with
        | .error f => .error f
        | .ok (l, r4) => .ok ((a, IntKind.i64.wrap l), r4)) else .ok ((a, 32), t2 :: r3)
theorem pfSz : (Tryz.prog.info? 69).map (·.size) = some 2 := by kernel_rfl
def pfU (x y : Int) : List Value := [.int .u32 x, .int .i64 y]
theorem pf_fin {h h' : Hp} {b : Nat} {A : Option Addr} {c : Nat} {ts r : List TokM} (q : RAt h' b A c ts r) (hb : b < h.size) (hA : ∀ k, blk A k → k < h.size) (F : Fr (fun k => k = b) h h') {x0 y0 : Int} (bx : h'[h.size]? = some (.cells (pfU x0 y0).toArray 69 (0, 0)))
    (x y : Int) {K : Value → Hp → Prop} (H : ∀ h3, RAt h3 b A c ts r → Fr (fun k => k = b) h h3 → K (.agg #[.int .u32 x, .int .i64 y]) h3) :
    HU Tryz.prog (Instr.storeAt 69 (.pointer (some ⟨h.size, 0, none⟩)) (.agg #[.int .u32 x, .int .i64 y])) h' fun h7 =>
    ∃ x8 : Int, ∃ x9 : Int, HV Tryz.prog (Instr.loadAt 69 (.pointer (some ⟨h.size, 0, none⟩))) h7 (.agg #[.int .u32 x8, .int .i64 x9]) ∧ K (.agg #[.int .u32 x8, .int .i64 x9]) h7 := by
  refine HU_box (us := pfU x y) bx rfl rfl pfSz rfl fun h3 c3 b3 f3 z3 => ?_
  exact ⟨_, _, ldS (vs := pfU x y) c3 (by kernel_rfl), H h3 (q.keep f3 (by omega) (fun k hk he => by have := hA k hk; omega)) (frT F f3 (fun k hk he => by omega))⟩
theorem pref_s {h : Hp} {b : Nat} {A : Option Addr} {c : Nat} {ts r : List TokM} (q : RAt h b A c ts r) (g : Good r) (hne : r ≠ []) {K : Value → Hp → Prop} {KP : Kp}
    (H : RdK (prefR r) h b A c ts (fun v h' => K (.agg #[.int .u32 v.1, .int .i64 v.2]) h') KP) :
    CallsP Tryz.prog 56 #[.pointer (some ⟨b, 0, none⟩)] h K KP := by
  refine syntax_reader_prefix_ok _ ?_
  unfold syntax_reader_prefix
  obtain ⟨hb, hA⟩ := q.lt
  cases r with
  | nil => exact absurd rfl hne
  | cons t r =>
    unfold prefR at H
    refine newC_i (cs := pfU 0 0) fun h1 e1 c1 b1 z1 => ?_
    refine Sx.CallsH.p (sign_r (q.ext e1) [42] fun h2 q2 f2 => ⟨_, rfl, ?_⟩)
    have b2 := f2.get b1 (by omega)
    have F2 : Fr (fun k => k = b) h h2 := (e1.fr _).trans f2
    by_cases hs : isSign t [42] = true
    · rw [if_pos hs] at q2
      simp only [hs, if_true] at H
      exact br_t hs (pf_fin q2 hb hA F2 b2 0 0 fun h3 q3 f3 => H h3 q3 f3)
    · rw [if_neg hs] at q2
      simp only [hs, if_false] at H
      refine br_f (by simpa using hs) ?_
      refine addr_s q2 g (by simp) ?_
      cases hR : addrR (t :: r) with
      | error f =>
        simp only [hR] at H
        exact Up.of H F2
      | ok p =>
        obtain ⟨a, r2⟩ := p
        obtain ⟨g2, hne2⟩ := addrR_good hR g
        cases r2 with
        | nil => exact absurd rfl hne2
        | cons t2 r3 =>
          simp only [hR] at H
          intro h3 q3 f3
          have F3 := F2.trans f3
          have b3 := f3.get b2 (by omega)
          refine ⟨_, rfl, ?_⟩
          refine newV (us := pfU a 32) rfl rfl pfSz rfl fun h4 e4 c4 b4 z4 => ?_
          have zz3 := F3.size
          have F4 := F3.trans (e4.fr _)
          have b3' : h4[h.size]? = some (.cells (pfU 0 0).toArray 69 (0, 0)) := by rw [e4.old _ (lt_of_get b3)]; exact b3
          refine Sx.CallsH.p (sign_r (q3.ext e4) [47] fun h5 q5 f5 => ⟨_, rfl, ?_⟩)
          have F5 := F4.trans f5
          have b5 := f5.get b3' (by omega)
          have b5' := f5.get b4 (by omega)
          have c5 : Cl h5 ⟨h3.size, 0, none⟩ (pfU a 32) := f5.cl c4 (by show ¬ h3.size = b; omega)
          by_cases hs2 : isSign t2 [47] = true
          · rw [if_pos hs2] at q5
            simp only [hs2, if_true] at H
            refine br_t hs2 ?_
            obtain ⟨g3, hne3⟩ := g2.tail (isSign_k hs2)
            cases r3 with
            | nil => exact absurd rfl hne3
            | cons t4 r4 =>
              refine num_r q5 32 ?_
              cases hN : numR 32 (t4 :: r4) with
              | error f =>
                simp only [hN] at H
                exact Up.of H F5
              | ok p =>
                obtain ⟨l, r5⟩ := p
                simp only [hN] at H
                intro h6 q6 f6
                refine ⟨_, rfl, ?_⟩
                have b6 := f6.get b5' (by omega)
                have b6' := f6.get b5 (by omega)
                rw [add_eq0]
                refine HU_st (us := [.int .i64 (IntKind.i64.wrap l)]) b6 rfl (by kernel_rfl) (by simp [pfU]) rfl ?_
                have f7 : Fr (fun k => k = h3.size) h6 (setB h6 h3.size (pfU a (IntKind.i64.wrap l)) 69) := setB_fr rfl
                have b7 : (setB h6 h3.size (pfU a (IntKind.i64.wrap l)) 69)[h3.size]? = _ := setB_get (lt_of_get b6)
                have c7 : Cl (setB h6 h3.size (pfU a (IntKind.i64.wrap l)) 69) ⟨h3.size, 0, none⟩ (pfU a (IntKind.i64.wrap l)) := Cl.of_block b7 fun j v hj => by rw [Nat.zero_add]; exact hj
                refine ⟨_, _, ldS (vs := pfU a (IntKind.i64.wrap l)) c7 (by kernel_rfl), ?_⟩
                have q7 := q6.keep f7 (by omega) (fun k hk he => by have := hA k hk; omega)
                have b8 := f7.get b6' (by have := lt_of_get b3; omega)
                exact pf_fin q7 hb hA (frT (F5.trans f6) f7 (fun k hk he => by omega)) b8 a _ fun h9 q9 f9 => H h9 q9 f9
          · rw [if_neg hs2] at q5
            simp only [hs2, if_false] at H
            refine br_f (by simpa using hs2) ?_
            refine ⟨_, _, ldS (vs := pfU a 32) c5 (by kernel_rfl), ?_⟩
            exact pf_fin q5 hb hA F5 b5 a 32 fun h9 q9 f9 => H h9 q9 f9
end Go.Proofs.YtfdpccbajaiepaaGreatDoor.Lx

/- The reader: mask. -/
namespace Go.Proofs.YtfdpccbajaiepaaGreatDoor.Lx
open Go Go.RowKit Go.Proofs.YtfdpccbajaiepaaGreatDoor.Sx Go.Proofs.YtfdpccbajaiepaaGreatDoor.Sxp Go.Proofs.YtfdpccbajaiepaaGreatDoor.Sxp.Fx
set_option linter.unusedVariables false
set_option linter.unusedSimpArgs false
set_option maxRecDepth 10000
def maskR (r : List TokM) : ReR (Int × Int) := match r with
  | [] => .error ⟨0, 0, 0⟩
  | t :: r1 => if isSign t [42] then .ok ((0, 0), r1) else match numR 255 (t :: r1) with
    | .error f => .error f
    | .ok (a, []) => .error ⟨0, 0, 0⟩
    | .ok (a, t2 :: r3) => if isSign t2 [47] then (match numR 255 r3 with
        | .error f => .error f
        | .ok (l, r4) => .ok ((IntKind.u8.wrap a, IntKind.u8.wrap l), r4)) else .ok ((IntKind.u8.wrap a, 255), t2 :: r3)
theorem mkSz : (Tryz.prog.info? 73).map (·.size) = some 2 := by kernel_rfl
def mkU (x y : Int) : List Value := [.int .u8 x, .int .u8 y]
theorem mk_fin {h h' : Hp} {b : Nat} {A : Option Addr} {c : Nat} {ts r : List TokM} (q : RAt h' b A c ts r) (hb : b < h.size) (hA : ∀ k, blk A k → k < h.size) (F : Fr (fun k => k = b) h h') {x0 y0 : Int} (bx : h'[h.size]? = some (.cells (mkU x0 y0).toArray 73 (0, 0)))
    (x y : Int) {K : Value → Hp → Prop} (H : ∀ h3, RAt h3 b A c ts r → Fr (fun k => k = b) h h3 → K (.agg #[.int .u8 x, .int .u8 y]) h3) :
    HU Tryz.prog (Instr.storeAt 73 (.pointer (some ⟨h.size, 0, none⟩)) (.agg #[.int .u8 x, .int .u8 y])) h' fun h7 =>
    ∃ x8 : Int, ∃ x9 : Int, HV Tryz.prog (Instr.loadAt 73 (.pointer (some ⟨h.size, 0, none⟩))) h7 (.agg #[.int .u8 x8, .int .u8 x9]) ∧ K (.agg #[.int .u8 x8, .int .u8 x9]) h7 := by
  refine HU_box (us := mkU x y) bx rfl rfl mkSz rfl fun h3 c3 b3 f3 z3 => ?_
  exact ⟨_, _, ldS (vs := mkU x y) c3 (by kernel_rfl), H h3 (q.keep f3 (by omega) (fun k hk he => by have := hA k hk; omega)) (frT F f3 (fun k hk he => by omega))⟩
theorem mask_s {h : Hp} {b : Nat} {A : Option Addr} {c : Nat} {ts r : List TokM} (q : RAt h b A c ts r) (g : Good r) (hne : r ≠ []) {K : Value → Hp → Prop} {KP : Kp}
    (H : RdK (maskR r) h b A c ts (fun v h' => K (.agg #[.int .u8 v.1, .int .u8 v.2]) h') KP) :
    CallsP Tryz.prog 58 #[.pointer (some ⟨b, 0, none⟩)] h K KP := by
  refine syntax_reader_mask_ok _ ?_
  unfold syntax_reader_mask
  obtain ⟨hb, hA⟩ := q.lt
  cases r with
  | nil => exact absurd rfl hne
  | cons t r =>
    unfold maskR at H
    refine newC_i (cs := mkU 0 0) fun h1 e1 c1 b1 z1 => ?_
    refine Sx.CallsH.p (sign_r (q.ext e1) [42] fun h2 q2 f2 => ⟨_, rfl, ?_⟩)
    have b2 := f2.get b1 (by omega)
    have F2 : Fr (fun k => k = b) h h2 := (e1.fr _).trans f2
    by_cases hs : isSign t [42] = true
    · rw [if_pos hs] at q2
      simp only [hs, if_true] at H
      exact br_t hs (mk_fin q2 hb hA F2 b2 0 0 fun h3 q3 f3 => H h3 q3 f3)
    · rw [if_neg hs] at q2
      simp only [hs, if_false] at H
      refine br_f (by simpa using hs) ?_
      refine num_r q2 255 ?_
      cases hR : numR 255 (t :: r) with
      | error f =>
        simp only [hR] at H
        exact Up.of H F2
      | ok p =>
        obtain ⟨a, r2⟩ := p
        obtain ⟨g2, hne2⟩ := numR_good hR g
        cases r2 with
        | nil => exact absurd rfl hne2
        | cons t2 r3 =>
          simp only [hR] at H
          intro h3 q3 f3
          have F3 := F2.trans f3
          have b3 := f3.get b2 (by omega)
          refine ⟨_, rfl, ?_⟩
          refine newV (us := mkU (IntKind.u8.wrap a) 255) rfl rfl mkSz rfl fun h4 e4 c4 b4 z4 => ?_
          have zz3 := F3.size
          have F4 := F3.trans (e4.fr _)
          have b3' : h4[h.size]? = some (.cells (mkU 0 0).toArray 73 (0, 0)) := by rw [e4.old _ (lt_of_get b3)]; exact b3
          refine Sx.CallsH.p (sign_r (q3.ext e4) [47] fun h5 q5 f5 => ⟨_, rfl, ?_⟩)
          have F5 := F4.trans f5
          have b5 := f5.get b3' (by omega)
          have b5' := f5.get b4 (by omega)
          have c5 : Cl h5 ⟨h3.size, 0, none⟩ (mkU (IntKind.u8.wrap a) 255) := f5.cl c4 (by show ¬ h3.size = b; omega)
          by_cases hs2 : isSign t2 [47] = true
          · rw [if_pos hs2] at q5
            simp only [hs2, if_true] at H
            refine br_t hs2 ?_
            obtain ⟨g3, hne3⟩ := g2.tail (isSign_k hs2)
            cases r3 with
            | nil => exact absurd rfl hne3
            | cons t4 r4 =>
              refine num_r q5 255 ?_
              cases hN : numR 255 (t4 :: r4) with
              | error f =>
                simp only [hN] at H
                exact Up.of H F5
              | ok p =>
                obtain ⟨l, r5⟩ := p
                simp only [hN] at H
                intro h6 q6 f6
                refine ⟨_, rfl, ?_⟩
                have b6 := f6.get b5' (by omega)
                have b6' := f6.get b5 (by omega)
                rw [add_eq0]
                refine HU_st (us := [.int .u8 (IntKind.u8.wrap l)]) b6 rfl (by kernel_rfl) (by simp [mkU]) rfl ?_
                have f7 : Fr (fun k => k = h3.size) h6 (setB h6 h3.size (mkU (IntKind.u8.wrap a) (IntKind.u8.wrap l)) 73) := setB_fr rfl
                have b7 : (setB h6 h3.size (mkU (IntKind.u8.wrap a) (IntKind.u8.wrap l)) 73)[h3.size]? = _ := setB_get (lt_of_get b6)
                have c7 : Cl (setB h6 h3.size (mkU (IntKind.u8.wrap a) (IntKind.u8.wrap l)) 73) ⟨h3.size, 0, none⟩ (mkU (IntKind.u8.wrap a) (IntKind.u8.wrap l)) := Cl.of_block b7 fun j v hj => by rw [Nat.zero_add]; exact hj
                refine ⟨_, _, ldS (vs := mkU (IntKind.u8.wrap a) (IntKind.u8.wrap l)) c7 (by kernel_rfl), ?_⟩
                have q7 := q6.keep f7 (by omega) (fun k hk he => by have := hA k hk; omega)
                have b8 := f7.get b6' (by have := lt_of_get b3; omega)
                exact mk_fin q7 hb hA (frT (F5.trans f6) f7 (fun k hk he => by omega)) b8 (IntKind.u8.wrap a) _ fun h9 q9 f9 => H h9 q9 f9
          · rw [if_neg hs2] at q5
            simp only [hs2, if_false] at H
            refine br_f (by simpa using hs2) ?_
            refine ⟨_, _, ldS (vs := mkU (IntKind.u8.wrap a) 255) c5 (by kernel_rfl), ?_⟩
            exact mk_fin q5 hb hA F5 b5 (IntKind.u8.wrap a) 255 fun h9 q9 f9 => H h9 q9 f9
end Go.Proofs.YtfdpccbajaiepaaGreatDoor.Lx

/- The reader: span. -/
namespace Go.Proofs.YtfdpccbajaiepaaGreatDoor.Lx
open Go Go.RowKit Go.Proofs.YtfdpccbajaiepaaGreatDoor.Sx Go.Proofs.YtfdpccbajaiepaaGreatDoor.Sxp Go.Proofs.YtfdpccbajaiepaaGreatDoor.Sxp.Fx
set_option linter.unusedVariables false
set_option linter.unusedSimpArgs false
set_option maxRecDepth 10000
def spanR (r : List TokM) : ReR (Int × Int) := match r with
  | [] => .error ⟨0, 0, 0⟩
  | t :: r1 => if isSign t [42] then .ok ((0, 65535), r1) else match numR 65535 (t :: r1) with
    | .error f => .error f
    | .ok (a, []) => .error ⟨0, 0, 0⟩
    | .ok (a, t2 :: r3) => if isSign t2 [58] then (match numR 65535 r3 with
        | .error f => .error f
        | .ok (l, r4) => .ok ((IntKind.u16.wrap a, IntKind.u16.wrap l), r4)) else .ok ((IntKind.u16.wrap a, IntKind.u16.wrap a), t2 :: r3)
theorem spSz : (Tryz.prog.info? 71).map (·.size) = some 2 := by kernel_rfl
def spU (x y : Int) : List Value := [.int .u16 x, .int .u16 y]
theorem sp_hi {h3 h4 : Hp} {w x : Int} (e4 : Ext h3 h4) (b4 : h4[h3.size]? = some (.cells (spU w x).toArray 71 (0, 0))) {T : TypeId} (hT : (Tryz.prog.info? T).map (·.size) = some 1) {K : Hp → Prop}
    (H : ∀ h5, Ext h3 h5 → Cl h5 ⟨h3.size, 0, none⟩ (spU w w) → h5[h3.size]? = some (.cells (spU w w).toArray 71 (0, 0)) → K h5) :
    HU Tryz.prog (Instr.storeAt T (.pointer (some ((⟨h3.size, 0, none⟩ : Addr).add 1))) (.int .u16 w)) h4 K := by
  rw [add_eq0]
  refine HU_st (us := [.int .u16 w]) b4 rfl hT (by simp [spU]) rfl ?_
  have f7 : Fr (fun k => k = h3.size) h4 (setB h4 h3.size (spU w w) 71) := setB_fr rfl
  have b7 : (setB h4 h3.size (spU w w) 71)[h3.size]? = _ := setB_get (lt_of_get b4)
  exact H _ (extOwn e4 f7 (fun k hk => by subst hk; exact Nat.le_refl _)) (Cl.of_block b7 fun j v hj => by rw [Nat.zero_add]; exact hj) b7
theorem sp_fin {h h' : Hp} {b : Nat} {A : Option Addr} {c : Nat} {ts r : List TokM} (q : RAt h' b A c ts r) (hb : b < h.size) (hA : ∀ k, blk A k → k < h.size) (F : Fr (fun k => k = b) h h') {x0 y0 : Int} (bx : h'[h.size]? = some (.cells (spU x0 y0).toArray 71 (0, 0)))
    (x y : Int) {K : Value → Hp → Prop} (H : ∀ h3, RAt h3 b A c ts r → Fr (fun k => k = b) h h3 → K (.agg #[.int .u16 x, .int .u16 y]) h3) :
    HU Tryz.prog (Instr.storeAt 71 (.pointer (some ⟨h.size, 0, none⟩)) (.agg #[.int .u16 x, .int .u16 y])) h' fun h7 =>
    ∃ x8 : Int, ∃ x9 : Int, HV Tryz.prog (Instr.loadAt 71 (.pointer (some ⟨h.size, 0, none⟩))) h7 (.agg #[.int .u16 x8, .int .u16 x9]) ∧ K (.agg #[.int .u16 x8, .int .u16 x9]) h7 := by
  refine HU_box (us := spU x y) bx rfl rfl spSz rfl fun h3 c3 b3 f3 z3 => ?_
  exact ⟨_, _, ldS (vs := spU x y) c3 (by kernel_rfl), H h3 (q.keep f3 (by omega) (fun k hk he => by have := hA k hk; omega)) (frT F f3 (fun k hk he => by omega))⟩
theorem span_s {h : Hp} {b : Nat} {A : Option Addr} {c : Nat} {ts r : List TokM} (q : RAt h b A c ts r) (g : Good r) (hne : r ≠ []) {K : Value → Hp → Prop} {KP : Kp}
    (H : RdK (spanR r) h b A c ts (fun v h' => K (.agg #[.int .u16 v.1, .int .u16 v.2]) h') KP) :
    CallsP Tryz.prog 57 #[.pointer (some ⟨b, 0, none⟩)] h K KP := by
  refine syntax_reader_span_ok _ ?_
  unfold syntax_reader_span
  obtain ⟨hb, hA⟩ := q.lt
  cases r with
  | nil => exact absurd rfl hne
  | cons t r =>
    unfold spanR at H
    refine newC_i (cs := spU 0 0) fun h1 e1 c1 b1 z1 => ?_
    refine Sx.CallsH.p (sign_r (q.ext e1) [42] fun h2 q2 f2 => ⟨_, rfl, ?_⟩)
    have b2 := f2.get b1 (by omega)
    have F2 : Fr (fun k => k = b) h h2 := (e1.fr _).trans f2
    by_cases hs : isSign t [42] = true
    · rw [if_pos hs] at q2
      simp only [hs, if_true] at H
      exact br_t hs (sp_fin q2 hb hA F2 b2 0 65535 fun h3 q3 f3 => H h3 q3 f3)
    · rw [if_neg hs] at q2
      simp only [hs, if_false] at H
      refine br_f (by simpa using hs) ?_
      refine num_r q2 65535 ?_
      cases hR : numR 65535 (t :: r) with
      | error f =>
        simp only [hR] at H
        exact Up.of H F2
      | ok p =>
        obtain ⟨a, r2⟩ := p
        obtain ⟨g2, hne2⟩ := numR_good hR g
        cases r2 with
        | nil => exact absurd rfl hne2
        | cons t2 r3 =>
          simp only [hR] at H
          intro h3 q3 f3
          have F3 := F2.trans f3
          have b3 := f3.get b2 (by omega)
          refine ⟨_, rfl, ?_⟩
          refine newV (us := spU (IntKind.u16.wrap a) 0) rfl rfl spSz rfl fun h4 e4 c4 b4 z4 => ?_
          refine ⟨_, ld (c4.at_ 0 _ rfl) (by kernel_rfl), sp_hi e4 b4 (by kernel_rfl) fun h4 e4 c4 b4 => ?_⟩
          have zz3 := F3.size
          have F4 := F3.trans (e4.fr _)
          have b3' : h4[h.size]? = some (.cells (spU 0 0).toArray 71 (0, 0)) := by rw [e4.old _ (lt_of_get b3)]; exact b3
          refine Sx.CallsH.p (sign_r (q3.ext e4) [58] fun h5 q5 f5 => ⟨_, rfl, ?_⟩)
          have F5 := F4.trans f5
          have b5 := f5.get b3' (by omega)
          have b5' := f5.get b4 (by omega)
          have c5 : Cl h5 ⟨h3.size, 0, none⟩ (spU (IntKind.u16.wrap a) (IntKind.u16.wrap a)) := f5.cl c4 (by show ¬ h3.size = b; omega)
          by_cases hs2 : isSign t2 [58] = true
          · rw [if_pos hs2] at q5
            simp only [hs2, if_true] at H
            refine br_t hs2 ?_
            obtain ⟨g3, hne3⟩ := g2.tail (isSign_k hs2)
            cases r3 with
            | nil => exact absurd rfl hne3
            | cons t4 r4 =>
              refine num_r q5 65535 ?_
              cases hN : numR 65535 (t4 :: r4) with
              | error f =>
                simp only [hN] at H
                exact Up.of H F5
              | ok p =>
                obtain ⟨l, r5⟩ := p
                simp only [hN] at H
                intro h6 q6 f6
                refine ⟨_, rfl, ?_⟩
                have b6 := f6.get b5' (by omega)
                have b6' := f6.get b5 (by omega)
                rw [add_eq0]
                refine HU_st (us := [.int .u16 (IntKind.u16.wrap l)]) b6 rfl (by kernel_rfl) (by simp [spU]) rfl ?_
                have f7 : Fr (fun k => k = h3.size) h6 (setB h6 h3.size (spU (IntKind.u16.wrap a) (IntKind.u16.wrap l)) 71) := setB_fr rfl
                have b7 : (setB h6 h3.size (spU (IntKind.u16.wrap a) (IntKind.u16.wrap l)) 71)[h3.size]? = _ := setB_get (lt_of_get b6)
                have c7 : Cl (setB h6 h3.size (spU (IntKind.u16.wrap a) (IntKind.u16.wrap l)) 71) ⟨h3.size, 0, none⟩ (spU (IntKind.u16.wrap a) (IntKind.u16.wrap l)) := Cl.of_block b7 fun j v hj => by rw [Nat.zero_add]; exact hj
                refine ⟨_, _, ldS (vs := spU (IntKind.u16.wrap a) (IntKind.u16.wrap l)) c7 (by kernel_rfl), ?_⟩
                have q7 := q6.keep f7 (by omega) (fun k hk he => by have := hA k hk; omega)
                have b8 := f7.get b6' (by have := lt_of_get b3; omega)
                exact sp_fin q7 hb hA (frT (F5.trans f6) f7 (fun k hk he => by omega)) b8 (IntKind.u16.wrap a) _ fun h9 q9 f9 => H h9 q9 f9
          · rw [if_neg hs2] at q5
            simp only [hs2, if_false] at H
            refine br_f (by simpa using hs2) ?_
            refine ⟨_, _, ldS (vs := spU (IntKind.u16.wrap a) (IntKind.u16.wrap a)) c5 (by kernel_rfl), ?_⟩
            exact sp_fin q5 hb hA F5 b5 (IntKind.u16.wrap a) (IntKind.u16.wrap a) fun h9 q9 f9 => H h9 q9 f9
end Go.Proofs.YtfdpccbajaiepaaGreatDoor.Lx

/- The reader: end, any. -/
namespace Go.Proofs.YtfdpccbajaiepaaGreatDoor.Lx
open Go Go.RowKit Go.Proofs.YtfdpccbajaiepaaGreatDoor.Sx Go.Proofs.YtfdpccbajaiepaaGreatDoor.Sxp Go.Proofs.YtfdpccbajaiepaaGreatDoor.Sxp.Fx
set_option linter.unusedVariables false
set_option linter.unusedSimpArgs false
set_option maxRecDepth 10000
def endR (r : List TokM) : ReR Unit := match r with
  | [] => .error ⟨0, 0, 0⟩
  | t :: r => if t.kind = 4 then .ok ((), r) else .error ⟨100, t.line, t.col⟩
theorem end_r {h : Hp} {b : Nat} {A : Option Addr} {c : Nat} {ts r : List TokM} {t : TokM} (q : RAt h b A c ts (t :: r)) {K : Value → Hp → Prop} {KP : Kp}
    (H : RdK (endR (t :: r)) h b A c ts (fun _ h' => K (.tuple #[]) h') KP) :
    CallsP Tryz.prog 24 #[.pointer (some ⟨b, 0, none⟩)] h K KP := by
  obtain ⟨n, q, ht, hd, hn, hl⟩ := q.head
  refine syntax_reader_end_ok _ ?_
  unfold syntax_reader_end
  obtain ⟨a, pv, cl⟩ := q.look ht
  refine ⟨_, _, _, ld (q.cl.at_ 0 _ rfl) (by kernel_rfl), _, ld (q.cl.at_ 1 _ rfl) (by kernel_rfl), a, pv, _, _, _, _, _, ldS (vs := t.enc) cl (by kernel_rfl), ?_⟩
  refine newC_i (cs := tok0.enc) fun h1 e1 c1 b1 z1 => ?_
  have q1 := q.ext e1
  refine ⟨ldS (vs := t.enc) (cl.ext e1) (by kernel_rfl), ld (q1.cl.at_ 1 _ rfl) (by kernel_rfl), ld (q1.cl.at_ 0 _ rfl) (by kernel_rfl), ?_⟩
  refine HU_box (us := t.enc) b1 rfl rfl tokSz rfl fun h2 c2 b2 f2 z2 => ?_
  have E2 : Ext h h2 := extOwn e1 f2 (fun k hk => by subst hk; exact Nat.le_refl _)
  have q2 := q.ext E2
  refine ⟨_, ld (c2.at_ 0 _ rfl) (by kernel_rfl), ?_⟩
  by_cases h4 : t.kind = 4
  · have hR : endR (t :: r) = .ok ((), r) := by simp [endR, h4]
    rw [hR] at H
    refine br_f (by simp [h4]) ⟨_, ld (q2.cl.at_ 1 _ rfl) (by kernel_rfl), ?_⟩
    have w1 : IntKind.i64.wrap ((n : Int) + 1) = ((n + 1 : Nat) : Int) := by rw [wrap_in (by omega) (by omega)]; omega
    show HU Tryz.prog (Instr.storeAt 3 _ (.int .i64 (IntKind.i64.wrap ((n : Int) + 1)))) h2 _
    rw [w1]
    exact q2.st (n + 1) fun h3' q3 f3 z3 => H h3' ⟨hl, n + 1, q3, hd, hn⟩ ((E2.fr _).trans f3)
  · have hR : endR (t :: r) = .error ⟨100, t.line, t.col⟩ := by simp [endR, h4]
    rw [hR] at H
    exact br_t (by simp [h4]) ⟨_, _, _, _, _, ldS (vs := t.enc) c2 (by kernel_rfl), fails_s t 100 (Up.of H (E2.fr _))⟩
theorem any_r {h : Hp} {b : Nat} {A : Option Addr} {c : Nat} {ts r : List TokM} {t : TokM} (q : RAt h b A c ts (t :: r)) {K : Value → Hp → Prop} {KP : Kp}
    (H : RdK (numR 4294967295 (t :: r)) h b A c ts (fun v h' => K (.int .i64 (IntKind.i64.wrap v)) h') KP) :
    CallsP Tryz.prog 54 #[.pointer (some ⟨b, 0, none⟩)] h K KP := by
  refine syntax_reader_any_ok _ ?_
  unfold syntax_reader_any
  refine num_r q 4294967295 ?_
  rw [numR_cons] at H ⊢
  cases hR : numM t 4294967295 with
  | error f => rw [hR] at H; exact H
  | ok v => rw [hR] at H; exact fun h' q' f' => ⟨v, rfl, H h' q' f'⟩
end Go.Proofs.YtfdpccbajaiepaaGreatDoor.Lx

/- The reader: action. -/
namespace Go.Proofs.YtfdpccbajaiepaaGreatDoor.Lx
open Go Go.RowKit Go.Proofs.YtfdpccbajaiepaaGreatDoor.Sx Go.Proofs.YtfdpccbajaiepaaGreatDoor.Sxp Go.Proofs.YtfdpccbajaiepaaGreatDoor.Sxp.Fx
set_option linter.unusedVariables false
set_option linter.unusedSimpArgs false
set_option maxRecDepth 10000
def wDeny : List UInt8 := [100, 101, 110, 121]
def wPermit : List UInt8 := [112, 101, 114, 109, 105, 116]
def wLog : List UInt8 := [108, 111, 103]
def wQueue : List UInt8 := [113, 117, 101, 117, 101]
def actU : List Value := [.string (bs []), .string (bs wDeny), .string (bs wPermit), .string (bs wLog), .string (bs wQueue)]
theorem words_s {h : Hp} {K : Value → Hp → Prop} (H : ∀ h', Ext h h' → K (.agg actU.toArray) h') : CallsH Tryz.prog 65 #[] h K := by
  refine syntax_words_ok ?_
  unfold syntax_words
  refine newV (us := actU) rfl rfl (by kernel_rfl) rfl fun h1 e1 c1 b1 z1 => ?_
  exact ⟨_, _, _, _, _, ldS (vs := actU) c1 (by kernel_rfl), H h1 e1⟩
theorem act_step {h : Hp} {b g : Nat} {A : Option Addr} {c : Nat} {ts : List TokM} {n : Nat} {t : TokM} (q : RdAt h b A c ts n) (hn : n ≤ 1000000) (ct : Cl h ⟨g, 0, none⟩ t.enc) {K0 : Int → Hp → Prop} {K1 : Addr → Hp → Prop} {KP : Kp} {k i : Nat} (hi : 0 < i) (hi5 : i < 5) (w : List UInt8)
    {s0 s1 s2 s3 s4 : ByteArray} (pv : PV Tryz.prog (Instr.index 166 (.agg #[.string s0, .string s1, .string s2, .string s3, .string s4]) (.int .i64 (i : Int))) (.string (bs w)))
    (hit : t.kind = 1 → t.text = w → ∀ h', RdAt h' b A c ts (n + 1) → Fr (fun k => k = b) h h' → K0 i h')
    (rest : ¬ (t.kind = 1 ∧ t.text = w) → syntax_reader_action_l1 (some ⟨b, 0, none⟩) ⟨g, 0, none⟩ s0 s1 s2 s3 s4 K0 K1 KP k ((i + 1 : Nat) : Int) h) :
    syntax_reader_action_l1 (some ⟨b, 0, none⟩) ⟨g, 0, none⟩ s0 s1 s2 s3 s4 K0 K1 KP (k + 1) (i : Int) h := by
  unfold syntax_reader_action_l1
  have w1 : IntKind.i64.wrap ((i : Int) + 1) = ((i + 1 : Nat) : Int) := by rw [wrap_in (by omega) (by omega)]; omega
  refine br_t (by simp; omega) ⟨_, pv, br_t (by simp; omega) ⟨_, ld (ct.at_ 0 _ rfl) (by kernel_rfl), ?_⟩⟩
  rw [w1]
  by_cases h1 : t.kind = 1
  · refine br_t (by simp [h1]) ⟨_, ld (ct.at_ 1 _ rfl) (by kernel_rfl), ?_⟩
    by_cases h2 : t.text = w
    · refine br_t (by rw [h2]; simp) ⟨_, ld (q.cl.at_ 1 _ rfl) (by kernel_rfl), ?_⟩
      have w2 : IntKind.i64.wrap ((n : Int) + 1) = ((n + 1 : Nat) : Int) := by rw [wrap_in (by omega) (by omega)]; omega
      show HU Tryz.prog (Instr.storeAt 3 _ (.int .i64 (IntKind.i64.wrap ((n : Int) + 1)))) h _
      rw [w2]
      exact q.st (n + 1) fun h3' q3 f3 z3 => hit h1 h2 h3' q3 f3
    · exact br_f (by simp [bs, h2]) (rest fun hh => h2 hh.2)
  · exact br_f (by simp [h1]) (rest fun hh => h1 hh.1)
end Go.Proofs.YtfdpccbajaiepaaGreatDoor.Lx

/- The reader: action, whole. -/
namespace Go.Proofs.YtfdpccbajaiepaaGreatDoor.Lx
open Go Go.RowKit Go.Proofs.YtfdpccbajaiepaaGreatDoor.Sx Go.Proofs.YtfdpccbajaiepaaGreatDoor.Sxp Go.Proofs.YtfdpccbajaiepaaGreatDoor.Sxp.Fx
set_option linter.unusedVariables false
set_option linter.unusedSimpArgs false
set_option maxRecDepth 10000
def isWord (t : TokM) (w : List UInt8) : Prop := t.kind = 1 ∧ t.text = w
instance (t : TokM) (w : List UInt8) : Decidable (isWord t w) := inferInstanceAs (Decidable (_ ∧ _))
def actR (r : List TokM) : ReR Int := match r with
  | [] => .error ⟨0, 0, 0⟩
  | t :: r => if isWord t wDeny then .ok (1, r) else if isWord t wPermit then .ok (2, r) else if isWord t wLog then .ok (3, r) else if isWord t wQueue then .ok (4, r) else .error ⟨100, t.line, t.col⟩
theorem act_r {h : Hp} {b : Nat} {A : Option Addr} {c : Nat} {ts r : List TokM} {t : TokM} (q : RAt h b A c ts (t :: r)) {K : Value → Hp → Prop} {KP : Kp}
    (H : RdK (actR (t :: r)) h b A c ts (fun v h' => K (.int .i64 v) h') KP) :
    CallsP Tryz.prog 55 #[.pointer (some ⟨b, 0, none⟩)] h K KP := by
  obtain ⟨n, q, ht, hd, hn, hl⟩ := q.head
  refine syntax_reader_action_ok _ ?_
  unfold syntax_reader_action
  obtain ⟨a, pv, cl⟩ := q.look ht
  refine ⟨_, _, _, ld (q.cl.at_ 0 _ rfl) (by kernel_rfl), _, ld (q.cl.at_ 1 _ rfl) (by kernel_rfl), a, pv, _, _, _, _, _, ldS (vs := t.enc) cl (by kernel_rfl), ?_⟩
  refine newC_i (cs := tok0.enc) fun h1 e1 c1 b1 z1 => ?_
  have q1 := q.ext e1
  refine ⟨ldS (vs := t.enc) (cl.ext e1) (by kernel_rfl), ld (q1.cl.at_ 1 _ rfl) (by kernel_rfl), ld (q1.cl.at_ 0 _ rfl) (by kernel_rfl), ?_⟩
  refine HU_box (us := t.enc) b1 rfl rfl tokSz rfl fun h2 c2 b2 f2 z2 => ?_
  have E2 : Ext h h2 := extOwn e1 f2 (fun k hk => by subst hk; exact Nat.le_refl _)
  refine Sx.CallsH.p (words_s fun h3 e3 => ⟨_, _, _, _, _, rfl, 6, ?_⟩)
  have q3 := (q.ext E2).ext e3
  have c3 := c2.ext e3
  have F3 : Fr (fun k => k = b) h h3 := (E2.trans e3).fr _
  have fin : ∀ (v : Int), actR (t :: r) = .ok (v, r) → ∀ h', RdAt h' b A c ts (n + 1) → Fr (fun k => k = b) h3 h' → K (.int .i64 v) h' := fun v hv h' q' f' => by
    rw [hv] at H
    exact H h' ⟨hl, n + 1, q', hd, hn⟩ (F3.trans f')
  unfold syntax_reader_action_l1
  refine br_t (by decide) ⟨bs [], fun w => pureRun_run _ _ _ (by kernel_rfl) w, br_f (by decide) ?_⟩
  refine act_step (i := 1) (t := t) q3 (by omega) c3 (by omega) (by omega) wDeny (fun w => pureRun_run _ _ _ (by kernel_rfl) w) (fun a1 a2 => fin 1 (by simp [actR, isWord, a1, a2])) fun n1 => ?_
  refine act_step (i := 2) (t := t) q3 (by omega) c3 (by omega) (by omega) wPermit (fun w => pureRun_run _ _ _ (by kernel_rfl) w) (fun a1 a2 => fin 2 (by simp [actR, isWord, a1, a2, wDeny, wPermit])) fun n2 => ?_
  refine act_step (i := 3) (t := t) q3 (by omega) c3 (by omega) (by omega) wLog (fun w => pureRun_run _ _ _ (by kernel_rfl) w) (fun a1 a2 => fin 3 (by simp [actR, isWord, a1, a2, wDeny, wPermit, wLog])) fun n3 => ?_
  refine act_step (i := 4) (t := t) q3 (by omega) c3 (by omega) (by omega) wQueue (fun w => pureRun_run _ _ _ (by kernel_rfl) w) (fun a1 a2 => fin 4 (by simp [actR, isWord, a1, a2, wDeny, wPermit, wLog, wQueue])) fun n4 => ?_
  unfold syntax_reader_action_l1
  refine br_f (by decide) ?_
  have hR : actR (t :: r) = .error ⟨100, t.line, t.col⟩ := by
    show (if isWord t wDeny then _ else if isWord t wPermit then _ else if isWord t wLog then _ else if isWord t wQueue then _ else _) = _
    rw [if_neg (show ¬ isWord t wDeny from n1), if_neg (show ¬ isWord t wPermit from n2), if_neg (show ¬ isWord t wLog from n3), if_neg (show ¬ isWord t wQueue from n4)]
  rw [hR] at H
  exact ⟨_, _, _, _, _, ldS (vs := t.enc) c3 (by kernel_rfl), fails_s t 100 (Up.of H F3)⟩
end Go.Proofs.YtfdpccbajaiepaaGreatDoor.Lx

/- Printed by sx.py: words over the heap alone for Go functions, and that each call does what its word says. -/
namespace Go.Proofs.YtfdpccbajaiepaaGreatDoor.Sxp.Fx
open Go Go.RowKit Go.Proofs.YtfdpccbajaiepaaGreatDoor.Sx
set_option linter.unusedVariables false
set_option maxRecDepth 100000
set_option maxHeartbeats 4000000

/-! ### quintet/table.New: function 9 -/
set_option maxRecDepth 100000 in
def table_New (x1 : Int) (x2 : Int) (x3 : Int) (x4 : Int) (x5 : Int) (x6 : Int) (x7 : Int) (h : Hp) (K : Value → Hp → Prop) : Prop :=
  newC h (.cells #[(.int .i64 x1), (.int .i64 x2), (.int .i64 x3), (.int .i64 x4), (.int .i64 x5), (.int .i64 x6), (.int .i64 x7)] 40 (0, 0)) fun a9 h8 => 
  ∃ x10 : Int, ∃ x11 : Int, ∃ x12 : Int, ∃ x13 : Int, ∃ x14 : Int, ∃ x15 : Int, ∃ x16 : Int, HV Tryz.prog (Instr.loadAt 40 (.pointer (some a9))) h8 (.agg #[(.int .i64 x10), (.int .i64 x11), (.int .i64 x12), (.int .i64 x13), (.int .i64 x14), (.int .i64 x15), (.int .i64 x16)]) ∧ 
  CallsH Tryz.prog 34 #[(.agg #[(.int .i64 x10), (.int .i64 x11), (.int .i64 x12), (.int .i64 x13), (.int .i64 x14), (.int .i64 x15), (.int .i64 x16)])] h8 fun r18 h17 =>
  ∃ x19 : Int, r18 = (.int .i64 x19) ∧ 
  br (x19 != 0)
  (K (.tuple #[(.pointer none), (.int .i64 x19)]) h17)
  (∃ x20 : Int, ∃ x21 : Int, ∃ x22 : Int, ∃ x23 : Int, ∃ x24 : Int, ∃ x25 : Int, ∃ x26 : Int, HV Tryz.prog (Instr.loadAt 40 (.pointer (some a9))) h17 (.agg #[(.int .i64 x20), (.int .i64 x21), (.int .i64 x22), (.int .i64 x23), (.int .i64 x24), (.int .i64 x25), (.int .i64 x26)]) ∧ 
  newC h17 (.cells #[(.int .i64 x20), (.int .i64 x21), (.int .i64 x22), (.int .i64 x23), (.int .i64 x24), (.int .i64 x25), (.int .i64 x26), (.slice none 0 0)] 109 (0, 0)) fun a28 h27 => 
  K (.tuple #[(.pointer (some a28)), (.int .i64 0)]) h27)
def table_New_lp (i : Nat) (Q : Qx) (tm : Tm) (h : Hp) : Prop := False
def table_New_cut (i : Nat) : Option (List Nat) := none
set_option maxRecDepth 100000 in
theorem table_New_eq (x1 : Int) (x2 : Int) (x3 : Int) (x4 : Int) (x5 : Int) (x6 : Int) (x7 : Int) (h : Hp) (K : Value → Hp → Prop) : table_New x1 x2 x3 x4 x5 x6 x7 h K =
    codeWp Tryz.prog 13 false table_New_lp table_New_cut (bodyOf Tryz.f9) 1 (endQ Tryz.prog Tryz.f9.results.toList K) (argTm [(.agg #[(.int .i64 x1), (.int .i64 x2), (.int .i64 x3), (.int .i64 x4), (.int .i64 x5), (.int .i64 x6), (.int .i64 x7)])]) h := by kernel_rfl
set_option maxRecDepth 100000 in
theorem table_New_ok (x1 : Int) (x2 : Int) (x3 : Int) (x4 : Int) (x5 : Int) (x6 : Int) (x7 : Int) {h : Hp} {K : Value → Hp → Prop} (H : table_New x1 x2 x3 x4 x5 x6 x7 h K) : CallsH Tryz.prog 9 #[(.agg #[(.int .i64 x1), (.int .i64 x2), (.int .i64 x3), (.int .i64 x4), (.int .i64 x5), (.int .i64 x6), (.int .i64 x7)])] h K :=
  calls_of (pn := false) (args := [(.agg #[(.int .i64 x1), (.int .i64 x2), (.int .i64 x3), (.int .i64 x4), (.int .i64 x5), (.int .i64 x6), (.int .i64 x7)])]) (n := 13) (lp := table_New_lp) (cut := table_New_cut) Tryz.func9 (c := bodyOf Tryz.f9) (by kernel_rfl) (by kernel_rfl) (by kernel_rfl) (good_by (pn := false) (c := (bodyOf Tryz.f9)) (i := 1) (l := []) (by kernel_rfl) (fun _ h => by cases h))
    (Eq.mp (table_New_eq x1 x2 x3 x4 x5 x6 x7 h K) H)

/-! ### (*quintet/table.Table).Set: function 11 -/
def table_Table_Set_l1 (p4 : Option Addr) (A5 : Option Addr) (l5 : Nat) (c5 : Nat) (A6 : Option Addr) (l6 : Nat) (c6 : Nat) (x7 : Int) (K0 : Int → Hp → Prop) (K1 : (Option Addr) → (Option Addr) → Nat → Nat → Hp → Prop)  : Nat → Int → Hp → Prop
  | 0, _, _ => False
  | k + 1, x8, h =>
    br (decide (x8 < x7))
    (∃ a46 : Addr, PV Tryz.prog (Instr.indexAt 22 (.slice A6 l6 c6) (.int .i64 x8)) (.pointer (some a46)) ∧
    ∃ x47 : Int, ∃ x48 : Int, ∃ x49 : Int, ∃ x50 : Int, ∃ x51 : Int, ∃ x52 : Int, ∃ x53 : Int, ∃ x54 : Int, ∃ x55 : Int, ∃ x56 : Int, ∃ x57 : Int, ∃ x58 : Int, HV Tryz.prog (Instr.loadAt 75 (.pointer (some a46))) h (.agg #[(.int .i64 x47), (.int .u32 x48), (.int .i64 x49), (.int .u32 x50), (.int .i64 x51), (.int .u16 x52), (.int .u16 x53), (.int .u16 x54), (.int .u16 x55), (.int .u8 x56), (.int .u8 x57), (.int .i64 x58)]) ∧ 
    newC h (.cells #[(.int .i64 0), (.int .u32 0), (.int .i64 0), (.int .u32 0), (.int .i64 0), (.int .u16 0), (.int .u16 0), (.int .u16 0), (.int .u16 0), (.int .u8 0), (.int .u8 0), (.int .i64 0)] 75 (0, 0)) fun a60 h59 => 
    HU Tryz.prog (Instr.storeAt 75 (.pointer (some a60)) (.agg #[(.int .i64 x47), (.int .u32 x48), (.int .i64 x49), (.int .u32 x50), (.int .i64 x51), (.int .u16 x52), (.int .u16 x53), (.int .u16 x54), (.int .u16 x55), (.int .u8 x56), (.int .u8 x57), (.int .i64 x58)])) h59 fun h61 => 
    ∃ A62 : Option Addr, ∃ l62 : Nat, ∃ c62 : Nat, PV Tryz.prog (Instr.sliceAt 22 (.slice A5 l5 c5) none (some (.int .i64 x8)) none) (.slice A62 l62 c62) ∧
    ∃ x63 : Int, ∃ x64 : Int, ∃ x65 : Int, ∃ x66 : Int, ∃ x67 : Int, ∃ x68 : Int, ∃ x69 : Int, ∃ x70 : Int, ∃ x71 : Int, ∃ x72 : Int, ∃ x73 : Int, ∃ x74 : Int, HV Tryz.prog (Instr.loadAt 75 (.pointer (some a60))) h61 (.agg #[(.int .i64 x63), (.int .u32 x64), (.int .i64 x65), (.int .u32 x66), (.int .i64 x67), (.int .u16 x68), (.int .u16 x69), (.int .u16 x70), (.int .u16 x71), (.int .u8 x72), (.int .u8 x73), (.int .i64 x74)]) ∧ 
    CallsH Tryz.prog 35 #[(.pointer p4), (.slice A62 l62 c62), (.agg #[(.int .i64 x63), (.int .u32 x64), (.int .i64 x65), (.int .u32 x66), (.int .i64 x67), (.int .u16 x68), (.int .u16 x69), (.int .u16 x70), (.int .u16 x71), (.int .u8 x72), (.int .u8 x73), (.int .i64 x74)])] h61 fun r76 h75 =>
    ∃ x77 : Int, r76 = (.int .i64 x77) ∧ 
    br (x77 != 0)
    (K0 x77 h75)
    (drf p4 fun a78 =>
    ∃ x79 : Int, HV Tryz.prog (Instr.loadAt 3 (.pointer (some a78))) h75 (.int .i64 x79) ∧ 
    br (decide (x8 ≥ x79))
    (K0 113 h75)
    (table_Table_Set_l1 p4 A5 l5 c5 A6 l6 c6 x7 K0 K1 k (IntKind.i64.wrap (x8 + 1)) h75)))
    (K1 p4 A5 l5 c5 h)
def table_Table_Set_l1_L (Q : Qx) (k : Nat) (tm : Tm) (h : Hp) : Prop :=
  selP (tm 0) fun p4 =>
  selS (tm 1) fun A5 l5 c5 =>
  selS (tm 10) fun A6 l6 c6 =>
  selI .i64 (tm 11) fun x7 =>
  selI .i64 (tm 12) fun x8 =>
  table_Table_Set_l1 p4 A5 l5 c5 A6 l6 c6 x7 (fun (x43 : Int) h => Q (.ret) (mkTm [(4, some (.int .i64 x43))]) h) (fun (p44 : Option Addr) (A45 : Option Addr) (l45 : Nat) (c45 : Nat) h => Q (.exit 0) (mkTm [(0, some (.pointer p44)), (1, some (.slice A45 l45 c45))]) h) k x8 h
set_option maxRecDepth 100000 in
def table_Table_Set (p1 : Option Addr) (A2 : Option Addr) (l2 : Nat) (c2 : Nat) (h : Hp) (K : Value → Hp → Prop) : Prop :=
  ∃ b3 : Bool, PV Tryz.prog (binOp .eql 35 (.pointer p1) (.pointer none)) (.bool b3) ∧
  br b3
  (K (.int .i64 3) h)
  (∃ k95, table_Table_Set_l1 p1 A2 l2 c2 A2 l2 c2 (l2 : Int)
  (fun (x80 : Int) (h81 : Hp) =>
  K (.int .i64 x80) h81)
  (fun (p82 : Option Addr) (A83 : Option Addr) (l83 : Nat) (c83 : Nat) (h84 : Hp) =>
  HW Tryz.prog (Instr.makeSlice 22 (.int .i64 (l83 : Int)) (.int .i64 (l83 : Int))) h84 fun r86 h85 =>
  ∃ A87 : Option Addr, ∃ l87 : Nat, ∃ c87 : Nat, r86 = (.slice A87 l87 c87) ∧ 
  drf p82 fun a88 =>
  HU Tryz.prog (Instr.storeAt 22 (.pointer (some (a88.add 7))) (.slice A87 l87 c87)) h85 fun h89 => 
  drf p82 fun a90 =>
  ∃ A91 : Option Addr, ∃ l91 : Nat, ∃ c91 : Nat, HV Tryz.prog (Instr.loadAt 22 (.pointer (some (a90.add 7)))) h89 (.slice A91 l91 c91) ∧ 
  HW Tryz.prog (Builtin.copy_ #[22, 22] 3 #[(.slice A91 l91 c91), (.slice A83 l83 c83)]) h89 fun r93 h92 =>
  ∃ x94 : Int, r93 = (.int .i64 x94) ∧ 
  K (.int .i64 0) h92)
   k95 0 h)
def table_Table_Set_lp (i : Nat) (Q : Qx) (tm : Tm) (h : Hp) : Prop := match Nat.beq i 58 with
  | true => ∃ k, table_Table_Set_l1_L Q k tm h
  | false => False
def table_Table_Set_cut (i : Nat) : Option (List Nat) := none
set_option maxRecDepth 100000 in
theorem table_Table_Set_l1_step (Q : Qx) (k : Nat) (p4 : Option Addr) (A5 : Option Addr) (l5 : Nat) (c5 : Nat) (A6 : Option Addr) (l6 : Nat) (c6 : Nat) (x7 : Int) (x8 : Int) (h : Hp) : table_Table_Set_l1_L Q (k + 1) (mkTm [(0, some (.pointer p4)), (1, some (.slice A5 l5 c5)), (10, some (.slice A6 l6 c6)), (11, some (.int .i64 x7)), (12, some (.int .i64 x8))]) h =
    codeWp Tryz.prog 46 false table_Table_Set_lp table_Table_Set_cut (sub (bodyOf Tryz.f11) [true, true, false, true, false, false]) 116 (thenQ (fun tm h => table_Table_Set_l1_L Q k (mask [0, 1, 10, 11, 12] tm) h) (maskQ (fun e => match e with | .ret => [4] | .exit 0 => [0, 1] | _ => []) Q)) (mkTm [(0, some (.pointer p4)), (1, some (.slice A5 l5 c5)), (10, some (.slice A6 l6 c6)), (11, some (.int .i64 x7)), (12, some (.int .i64 x8))]) h := by kernel_rfl
theorem table_Table_Set_l1_mask (Q : Qx) (k : Nat) (tm : Tm) (h : Hp) : table_Table_Set_l1_L Q k tm h ↔ table_Table_Set_l1_L Q k (mask [0, 1, 10, 11, 12] tm) h := Iff.rfl
set_option maxRecDepth 100000 in
theorem table_Table_Set_l1_snd : SndAt Tryz.prog 46 none (sub (bodyOf Tryz.f11) [true, true, false, true, false]) (table_Table_Set_lp 58) := by
  refine loop_sound (pn := false) (lp := table_Table_Set_lp) (cut := table_Table_Set_cut) (i := 58) (c := (sub (bodyOf Tryz.f11) [true, true, false, true, false, false])) [0, 1, 10, 11, 12] (fun e => match e with | .ret => [4] | .exit 0 => [0, 1] | _ => []) table_Table_Set_l1_L ?_ ?_ ?_
  · exact good_by (pn := false) (c := (sub (bodyOf Tryz.f11) [true, true, false, true, false, false])) (i := 116) (l := []) (by kernel_rfl) (fun _ h => by cases h)
  · intro Q tm h H
    obtain ⟨p4, e0, H⟩ := selP_ex H
    obtain ⟨A5, l5, c5, e1, H⟩ := selS_ex H
    obtain ⟨A6, l6, c6, e10, H⟩ := selS_ex H
    obtain ⟨x7, e11, H⟩ := selI_ex H
    obtain ⟨x8, e12, H⟩ := selI_ex H
    exact H
  · intro Q k tm h H
    have H0 := H
    obtain ⟨p4, e0, H⟩ := selP_ex H
    obtain ⟨A5, l5, c5, e1, H⟩ := selS_ex H
    obtain ⟨A6, l6, c6, e10, H⟩ := selS_ex H
    obtain ⟨x7, e11, H⟩ := selI_ex H
    obtain ⟨x8, e12, H⟩ := selI_ex H
    have e : mask [0, 1, 10, 11, 12] tm = mkTm [(0, some (.pointer p4)), (1, some (.slice A5 l5 c5)), (10, some (.slice A6 l6 c6)), (11, some (.int .i64 x7)), (12, some (.int .i64 x8))] := by simp only [mask, List.map_cons, List.map_nil, e0, e1, e10, e11, e12] <;> rfl
    rw [e]
    refine Eq.mp (table_Table_Set_l1_step Q k p4 A5 l5 c5 A6 l6 c6 x7 x8 h) ?_
    rw [← e]
    exact (table_Table_Set_l1_mask Q (k + 1) tm h).mp H0
set_option maxRecDepth 100000 in
theorem table_Table_Set_eq (p1 : Option Addr) (A2 : Option Addr) (l2 : Nat) (c2 : Nat) (h : Hp) (K : Value → Hp → Prop) : table_Table_Set p1 A2 l2 c2 h K =
    codeWp Tryz.prog 46 false table_Table_Set_lp table_Table_Set_cut (bodyOf Tryz.f11) 1 (endQ Tryz.prog Tryz.f11.results.toList K) (argTm [(.pointer p1), (.slice A2 l2 c2)]) h := by kernel_rfl
set_option maxRecDepth 100000 in
theorem table_Table_Set_ok (p1 : Option Addr) (A2 : Option Addr) (l2 : Nat) (c2 : Nat) {h : Hp} {K : Value → Hp → Prop} (H : table_Table_Set p1 A2 l2 c2 h K) : CallsH Tryz.prog 11 #[(.pointer p1), (.slice A2 l2 c2)] h K :=
  calls_of (pn := false) (args := [(.pointer p1), (.slice A2 l2 c2)]) (n := 46) (lp := table_Table_Set_lp) (cut := table_Table_Set_cut) Tryz.func11 (c := bodyOf Tryz.f11) (by kernel_rfl) (by kernel_rfl) (by kernel_rfl) (good_by (pn := false) (c := (bodyOf Tryz.f11)) (i := 1) (l := [(58, (sub (bodyOf Tryz.f11) [true, true, false, true, false]))]) (by kernel_rfl) (List.forall_mem_cons.2 ⟨table_Table_Set_l1_snd, (fun _ h => by cases h)⟩))
    (Eq.mp (table_Table_Set_eq p1 A2 l2 c2 h K) H)

/-! ### (*quintet/table.Table).Rules: function 13 -/
set_option maxRecDepth 100000 in
def table_Table_Rules (p1 : Option Addr) (h : Hp) (K : Value → Hp → Prop) : Prop :=
  ∃ b2 : Bool, PV Tryz.prog (binOp .eql 35 (.pointer p1) (.pointer none)) (.bool b2) ∧
  br b2
  (K (.slice none 0 0) h)
  (drf p1 fun a3 =>
  ∃ A4 : Option Addr, ∃ l4 : Nat, ∃ c4 : Nat, HV Tryz.prog (Instr.loadAt 22 (.pointer (some (a3.add 7)))) h (.slice A4 l4 c4) ∧ 
  HW Tryz.prog (Instr.makeSlice 22 (.int .i64 (l4 : Int)) (.int .i64 (l4 : Int))) h fun r6 h5 =>
  ∃ A7 : Option Addr, ∃ l7 : Nat, ∃ c7 : Nat, r6 = (.slice A7 l7 c7) ∧ 
  drf p1 fun a8 =>
  ∃ A9 : Option Addr, ∃ l9 : Nat, ∃ c9 : Nat, HV Tryz.prog (Instr.loadAt 22 (.pointer (some (a8.add 7)))) h5 (.slice A9 l9 c9) ∧ 
  HW Tryz.prog (Builtin.copy_ #[22, 22] 3 #[(.slice A7 l7 c7), (.slice A9 l9 c9)]) h5 fun r11 h10 =>
  ∃ x12 : Int, r11 = (.int .i64 x12) ∧ 
  K (.slice A7 l7 c7) h10)
def table_Table_Rules_lp (i : Nat) (Q : Qx) (tm : Tm) (h : Hp) : Prop := False
def table_Table_Rules_cut (i : Nat) : Option (List Nat) := none
set_option maxRecDepth 100000 in
theorem table_Table_Rules_eq (p1 : Option Addr) (h : Hp) (K : Value → Hp → Prop) : table_Table_Rules p1 h K =
    codeWp Tryz.prog 19 false table_Table_Rules_lp table_Table_Rules_cut (bodyOf Tryz.f13) 1 (endQ Tryz.prog Tryz.f13.results.toList K) (argTm [(.pointer p1)]) h := by kernel_rfl
set_option maxRecDepth 100000 in
theorem table_Table_Rules_ok (p1 : Option Addr) {h : Hp} {K : Value → Hp → Prop} (H : table_Table_Rules p1 h K) : CallsH Tryz.prog 13 #[(.pointer p1)] h K :=
  calls_of (pn := false) (args := [(.pointer p1)]) (n := 19) (lp := table_Table_Rules_lp) (cut := table_Table_Rules_cut) Tryz.func13 (c := bodyOf Tryz.f13) (by kernel_rfl) (by kernel_rfl) (by kernel_rfl) (good_by (pn := false) (c := (bodyOf Tryz.f13)) (i := 1) (l := []) (by kernel_rfl) (fun _ h => by cases h))
    (Eq.mp (table_Table_Rules_eq p1 h K) H)

/-! ### (*quintet/table.Table).Match: function 33 -/
def table_Table_Match_l1 (p18 : Option Addr) (a19 : Addr) (a20 : Addr) (A21 : Option Addr) (l21 : Nat) (c21 : Nat) (x22 : Int) (K0 : Addr → Int → Hp → Prop) (K1 : (Option Addr) → Addr → Hp → Prop)  : Nat → Int → Hp → Prop
  | 0, _, _ => False
  | k + 1, x23, h =>
    br (decide (x23 < x22))
    (∃ a67 : Addr, PV Tryz.prog (Instr.indexAt 22 (.slice A21 l21 c21) (.int .i64 x23)) (.pointer (some a67)) ∧
    ∃ x68 : Int, ∃ x69 : Int, ∃ x70 : Int, ∃ x71 : Int, ∃ x72 : Int, ∃ x73 : Int, ∃ x74 : Int, ∃ x75 : Int, ∃ x76 : Int, ∃ x77 : Int, ∃ x78 : Int, ∃ x79 : Int, HV Tryz.prog (Instr.loadAt 75 (.pointer (some a67))) h (.agg #[(.int .i64 x68), (.int .u32 x69), (.int .i64 x70), (.int .u32 x71), (.int .i64 x72), (.int .u16 x73), (.int .u16 x74), (.int .u16 x75), (.int .u16 x76), (.int .u8 x77), (.int .u8 x78), (.int .i64 x79)]) ∧ 
    newC h (.cells #[(.int .i64 0), (.int .u32 0), (.int .i64 0), (.int .u32 0), (.int .i64 0), (.int .u16 0), (.int .u16 0), (.int .u16 0), (.int .u16 0), (.int .u8 0), (.int .u8 0), (.int .i64 0)] 75 (0, 0)) fun a81 h80 => 
    HU Tryz.prog (Instr.storeAt 75 (.pointer (some a81)) (.agg #[(.int .i64 x68), (.int .u32 x69), (.int .i64 x70), (.int .u32 x71), (.int .i64 x72), (.int .u16 x73), (.int .u16 x74), (.int .u16 x75), (.int .u16 x76), (.int .u8 x77), (.int .u8 x78), (.int .i64 x79)])) h80 fun h82 => 
    ∃ x83 : Int, ∃ x84 : Int, ∃ x85 : Int, ∃ x86 : Int, ∃ x87 : Int, ∃ x88 : Int, ∃ x89 : Int, ∃ x90 : Int, ∃ x91 : Int, ∃ x92 : Int, ∃ x93 : Int, ∃ x94 : Int, HV Tryz.prog (Instr.loadAt 75 (.pointer (some a81))) h82 (.agg #[(.int .i64 x83), (.int .u32 x84), (.int .i64 x85), (.int .u32 x86), (.int .i64 x87), (.int .u16 x88), (.int .u16 x89), (.int .u16 x90), (.int .u16 x91), (.int .u8 x92), (.int .u8 x93), (.int .i64 x94)]) ∧ 
    ∃ x95 : Int, ∃ x96 : Int, ∃ x97 : Int, ∃ x98 : Int, ∃ x99 : Int, HV Tryz.prog (Instr.loadAt 57 (.pointer (some a19))) h82 (.agg #[(.int .u32 x95), (.int .u32 x96), (.int .u16 x97), (.int .u16 x98), (.int .u8 x99)]) ∧ 
    CallsH Tryz.prog 62 #[(.agg #[(.int .i64 x83), (.int .u32 x84), (.int .i64 x85), (.int .u32 x86), (.int .i64 x87), (.int .u16 x88), (.int .u16 x89), (.int .u16 x90), (.int .u16 x91), (.int .u8 x92), (.int .u8 x93), (.int .i64 x94)]), (.agg #[(.int .u32 x95), (.int .u32 x96), (.int .u16 x97), (.int .u16 x98), (.int .u8 x99)])] h82 fun r101 h100 =>
    ∃ b102 : Bool, r101 = (.bool b102) ∧ 
    br b102
    (∃ x103 : Int, HV Tryz.prog (Instr.loadAt 3 (.pointer (some a81))) h100 (.int .i64 x103) ∧ 
    ∃ x104 : Int, HV Tryz.prog (Instr.loadAt 38 (.pointer (some (a81.add 11)))) h100 (.int .i64 x104) ∧ 
    HU Tryz.prog (Instr.storeAt 104 (.pointer (some a20)) (.agg #[(.bool true), (.int .i64 x103), (.int .i64 x104)])) h100 fun h105 => 
    K0 a20 x23 h105)
    (table_Table_Match_l1 p18 a19 a20 A21 l21 c21 x22 K0 K1 k (IntKind.i64.wrap (x23 + 1)) h100))
    (K1 p18 a20 h)
def table_Table_Match_l1_L (Q : Qx) (k : Nat) (tm : Tm) (h : Hp) : Prop :=
  selP (tm 0) fun p18 =>
  selA (tm 3) fun a19 =>
  selA (tm 4) fun a20 =>
  selS (tm 14) fun A21 l21 c21 =>
  selI .i64 (tm 15) fun x22 =>
  selI .i64 (tm 16) fun x23 =>
  table_Table_Match_l1 p18 a19 a20 A21 l21 c21 x22 (fun (a63 : Addr) (x64 : Int) h => Q (.ret) (mkTm [(4, some (.pointer (some a63))), (5, some (.int .i64 x64))]) h) (fun (p65 : Option Addr) (a66 : Addr) h => Q (.exit 0) (mkTm [(0, some (.pointer p65)), (4, some (.pointer (some a66)))]) h) k x23 h
set_option maxRecDepth 100000 in
def table_Table_Match (p1 : Option Addr) (x2 : Int) (x3 : Int) (x4 : Int) (x5 : Int) (x6 : Int) (h : Hp) (K : Value → Hp → Prop) : Prop :=
  newC h (.cells #[(.int .u32 x2), (.int .u32 x3), (.int .u16 x4), (.int .u16 x5), (.int .u8 x6)] 57 (0, 0)) fun a8 h7 => 
  newC h7 (.cells #[(.bool false), (.int .i64 0), (.int .i64 0)] 104 (0, 0)) fun a10 h9 => 
  ∃ b11 : Bool, PV Tryz.prog (binOp .eql 35 (.pointer p1) (.pointer none)) (.bool b11) ∧
  br b11
  (HU Tryz.prog (Instr.storeAt 104 (.pointer (some a10)) (.agg #[(.bool false), (.int .i64 0), (.int .i64 0)])) h9 fun h12 => 
  ∃ b13 : Bool, ∃ x14 : Int, ∃ x15 : Int, HV Tryz.prog (Instr.loadAt 104 (.pointer (some a10))) h12 (.agg #[(.bool b13), (.int .i64 x14), (.int .i64 x15)]) ∧ K (.tuple #[(.agg #[(.bool b13), (.int .i64 x14), (.int .i64 x15)]), (.int .i64 (-1))]) h12)
  (drf p1 fun a16 =>
  ∃ A17 : Option Addr, ∃ l17 : Nat, ∃ c17 : Nat, HV Tryz.prog (Instr.loadAt 22 (.pointer (some (a16.add 7)))) h9 (.slice A17 l17 c17) ∧ 
  ∃ k121, table_Table_Match_l1 p1 a8 a10 A17 l17 c17 (l17 : Int)
  (fun (a106 : Addr) (x107 : Int) (h108 : Hp) =>
  ∃ b109 : Bool, ∃ x110 : Int, ∃ x111 : Int, HV Tryz.prog (Instr.loadAt 104 (.pointer (some a106))) h108 (.agg #[(.bool b109), (.int .i64 x110), (.int .i64 x111)]) ∧ K (.tuple #[(.agg #[(.bool b109), (.int .i64 x110), (.int .i64 x111)]), (.int .i64 x107)]) h108)
  (fun (p112 : Option Addr) (a113 : Addr) (h114 : Hp) =>
  drf p112 fun a115 =>
  ∃ x116 : Int, HV Tryz.prog (Instr.loadAt 38 (.pointer (some (a115.add 1)))) h114 (.int .i64 x116) ∧ 
  HU Tryz.prog (Instr.storeAt 104 (.pointer (some a113)) (.agg #[(.bool false), (.int .i64 0), (.int .i64 x116)])) h114 fun h117 => 
  ∃ b118 : Bool, ∃ x119 : Int, ∃ x120 : Int, HV Tryz.prog (Instr.loadAt 104 (.pointer (some a113))) h117 (.agg #[(.bool b118), (.int .i64 x119), (.int .i64 x120)]) ∧ K (.tuple #[(.agg #[(.bool b118), (.int .i64 x119), (.int .i64 x120)]), (.int .i64 (-1))]) h117)
   k121 0 h9)
def table_Table_Match_lp (i : Nat) (Q : Qx) (tm : Tm) (h : Hp) : Prop := match Nat.beq i 58 with
  | true => ∃ k, table_Table_Match_l1_L Q k tm h
  | false => False
def table_Table_Match_cut (i : Nat) : Option (List Nat) := none
set_option maxRecDepth 100000 in
theorem table_Table_Match_l1_step (Q : Qx) (k : Nat) (p18 : Option Addr) (a19 : Addr) (a20 : Addr) (A21 : Option Addr) (l21 : Nat) (c21 : Nat) (x22 : Int) (x23 : Int) (h : Hp) : table_Table_Match_l1_L Q (k + 1) (mkTm [(0, some (.pointer p18)), (3, some (.pointer (some a19))), (4, some (.pointer (some a20))), (14, some (.slice A21 l21 c21)), (15, some (.int .i64 x22)), (16, some (.int .i64 x23))]) h =
    codeWp Tryz.prog 37 false table_Table_Match_lp table_Table_Match_cut (sub (bodyOf Tryz.f33) [true, true, false, true, false, false]) 116 (thenQ (fun tm h => table_Table_Match_l1_L Q k (mask [0, 3, 4, 14, 15, 16] tm) h) (maskQ (fun e => match e with | .ret => [4, 5] | .exit 0 => [0, 4] | _ => []) Q)) (mkTm [(0, some (.pointer p18)), (3, some (.pointer (some a19))), (4, some (.pointer (some a20))), (14, some (.slice A21 l21 c21)), (15, some (.int .i64 x22)), (16, some (.int .i64 x23))]) h := by kernel_rfl
theorem table_Table_Match_l1_mask (Q : Qx) (k : Nat) (tm : Tm) (h : Hp) : table_Table_Match_l1_L Q k tm h ↔ table_Table_Match_l1_L Q k (mask [0, 3, 4, 14, 15, 16] tm) h := Iff.rfl
set_option maxRecDepth 100000 in
theorem table_Table_Match_l1_snd : SndAt Tryz.prog 37 none (sub (bodyOf Tryz.f33) [true, true, false, true, false]) (table_Table_Match_lp 58) := by
  refine loop_sound (pn := false) (lp := table_Table_Match_lp) (cut := table_Table_Match_cut) (i := 58) (c := (sub (bodyOf Tryz.f33) [true, true, false, true, false, false])) [0, 3, 4, 14, 15, 16] (fun e => match e with | .ret => [4, 5] | .exit 0 => [0, 4] | _ => []) table_Table_Match_l1_L ?_ ?_ ?_
  · exact good_by (pn := false) (c := (sub (bodyOf Tryz.f33) [true, true, false, true, false, false])) (i := 116) (l := []) (by kernel_rfl) (fun _ h => by cases h)
  · intro Q tm h H
    obtain ⟨p18, e0, H⟩ := selP_ex H
    obtain ⟨a19, e3, H⟩ := selA_ex H
    obtain ⟨a20, e4, H⟩ := selA_ex H
    obtain ⟨A21, l21, c21, e14, H⟩ := selS_ex H
    obtain ⟨x22, e15, H⟩ := selI_ex H
    obtain ⟨x23, e16, H⟩ := selI_ex H
    exact H
  · intro Q k tm h H
    have H0 := H
    obtain ⟨p18, e0, H⟩ := selP_ex H
    obtain ⟨a19, e3, H⟩ := selA_ex H
    obtain ⟨a20, e4, H⟩ := selA_ex H
    obtain ⟨A21, l21, c21, e14, H⟩ := selS_ex H
    obtain ⟨x22, e15, H⟩ := selI_ex H
    obtain ⟨x23, e16, H⟩ := selI_ex H
    have e : mask [0, 3, 4, 14, 15, 16] tm = mkTm [(0, some (.pointer p18)), (3, some (.pointer (some a19))), (4, some (.pointer (some a20))), (14, some (.slice A21 l21 c21)), (15, some (.int .i64 x22)), (16, some (.int .i64 x23))] := by simp only [mask, List.map_cons, List.map_nil, e0, e3, e4, e14, e15, e16] <;> rfl
    rw [e]
    refine Eq.mp (table_Table_Match_l1_step Q k p18 a19 a20 A21 l21 c21 x22 x23 h) ?_
    rw [← e]
    exact (table_Table_Match_l1_mask Q (k + 1) tm h).mp H0
set_option maxRecDepth 100000 in
theorem table_Table_Match_eq (p1 : Option Addr) (x2 : Int) (x3 : Int) (x4 : Int) (x5 : Int) (x6 : Int) (h : Hp) (K : Value → Hp → Prop) : table_Table_Match p1 x2 x3 x4 x5 x6 h K =
    codeWp Tryz.prog 37 false table_Table_Match_lp table_Table_Match_cut (bodyOf Tryz.f33) 1 (endQ Tryz.prog Tryz.f33.results.toList K) (argTm [(.pointer p1), (.agg #[(.int .u32 x2), (.int .u32 x3), (.int .u16 x4), (.int .u16 x5), (.int .u8 x6)])]) h := by kernel_rfl
set_option maxRecDepth 100000 in
theorem table_Table_Match_ok (p1 : Option Addr) (x2 : Int) (x3 : Int) (x4 : Int) (x5 : Int) (x6 : Int) {h : Hp} {K : Value → Hp → Prop} (H : table_Table_Match p1 x2 x3 x4 x5 x6 h K) : CallsH Tryz.prog 33 #[(.pointer p1), (.agg #[(.int .u32 x2), (.int .u32 x3), (.int .u16 x4), (.int .u16 x5), (.int .u8 x6)])] h K :=
  calls_of (pn := false) (args := [(.pointer p1), (.agg #[(.int .u32 x2), (.int .u32 x3), (.int .u16 x4), (.int .u16 x5), (.int .u8 x6)])]) (n := 37) (lp := table_Table_Match_lp) (cut := table_Table_Match_cut) Tryz.func33 (c := bodyOf Tryz.f33) (by kernel_rfl) (by kernel_rfl) (by kernel_rfl) (good_by (pn := false) (c := (bodyOf Tryz.f33)) (i := 1) (l := [(58, (sub (bodyOf Tryz.f33) [true, true, false, true, false]))]) (by kernel_rfl) (List.forall_mem_cons.2 ⟨table_Table_Match_l1_snd, (fun _ h => by cases h)⟩))
    (Eq.mp (table_Table_Match_eq p1 x2 x3 x4 x5 x6 h K) H)

/-! ### quintet/table.Check: function 34 -/
def table_Check_l3 (x53 : Int) (x54 : Int) (x55 : Int) (K0 : Bool → Hp → Prop)  : Nat → Bool → Int → Hp → Prop
  | 0, _, _, _ => False
  | k + 1, b52, x56, h =>
    br (decide (x56 < 3))
    (∃ x62 : Int, PV Tryz.prog (Instr.index 164 (.agg #[(.int .i64 x53), (.int .i64 x54), (.int .i64 x55)]) (.int .i64 x56)) (.int .i64 x62) ∧
    br b52
    (CallsH Tryz.prog 63 #[(.int .i64 x62), (.int .i64 0), (.int .i64 1048576)] h fun r64 h63 =>
    ∃ b65 : Bool, r64 = (.bool b65) ∧ 
    table_Check_l3 x53 x54 x55 K0 k b65 (IntKind.i64.wrap (x56 + 1)) h63)
    (table_Check_l3 x53 x54 x55 K0 k false (IntKind.i64.wrap (x56 + 1)) h))
    (K0 b52 h)
def table_Check_l3_L (Q : Qx) (k : Nat) (tm : Tm) (h : Hp) : Prop :=
  selB (tm 3) fun b52 =>
  selAg (tm 30) fun m30_0 =>
  selC m30_0 fun u30_0 m30_1 =>
  selC m30_1 fun u30_1 m30_2 =>
  selC m30_2 fun u30_2 m30_3 =>
  selN m30_3
  (selI .i64 (some u30_0) fun x53 =>
  selI .i64 (some u30_1) fun x54 =>
  selI .i64 (some u30_2) fun x55 =>
  selI .i64 (tm 31) fun x56 =>
  table_Check_l3 x53 x54 x55 (fun (b61 : Bool) h => Q (.exit 0) (mkTm [(3, some (.bool b61))]) h) k b52 x56 h)
def table_Check_j2 (K0 : Int → Hp → Prop) (a26 : Addr) (b27 : Bool) (h : Hp) : Prop :=
  ∃ x49 : Int, HV Tryz.prog (Instr.loadAt 3 (.pointer (some (a26.add 2)))) h (.int .i64 x49) ∧ 
  ∃ x50 : Int, HV Tryz.prog (Instr.loadAt 3 (.pointer (some (a26.add 3)))) h (.int .i64 x50) ∧ 
  ∃ x51 : Int, HV Tryz.prog (Instr.loadAt 3 (.pointer (some (a26.add 4)))) h (.int .i64 x51) ∧ 
  ∃ k68, table_Check_l3 x49 x50 x51
  (fun (b66 : Bool) (h67 : Hp) =>
  br (!b66)
  (K0 110 h67)
  (K0 0 h67))
   k68 b27 0 h
def table_Check_j2_L (Q : Qx) (tm : Tm) (h : Hp) : Prop :=
  selA (tm 1) fun a26 =>
  selB (tm 3) fun b27 =>
  table_Check_j2 (fun (x48 : Int) h => Q (.ret) (mkTm [(2, some (.int .i64 x48))]) h) a26 b27 h
set_option maxRecDepth 100000 in
def table_Check (x1 : Int) (x2 : Int) (x3 : Int) (x4 : Int) (x5 : Int) (x6 : Int) (x7 : Int) (h : Hp) (K : Value → Hp → Prop) : Prop :=
  newC h (.cells #[(.int .i64 x1), (.int .i64 x2), (.int .i64 x3), (.int .i64 x4), (.int .i64 x5), (.int .i64 x6), (.int .i64 x7)] 40 (0, 0)) fun a9 h8 => 
  ∃ x69 : Int, HV Tryz.prog (Instr.loadAt 3 (.pointer (some a9))) h8 (.int .i64 x69) ∧ 
  CallsH Tryz.prog 63 #[(.int .i64 x69), (.int .i64 1), (.int .i64 64)] h8 fun r71 h70 =>
  ∃ b72 : Bool, r71 = (.bool b72) ∧ 
  br b72
  (∃ x73 : Int, HV Tryz.prog (Instr.loadAt 38 (.pointer (some (a9.add 1)))) h70 (.int .i64 x73) ∧ 
  CallsH Tryz.prog 63 #[(.int .i64 x73), (.int .i64 1), (.int .i64 4)] h70 fun r75 h74 =>
  ∃ b76 : Bool, r75 = (.bool b76) ∧ 
  br b76
  (∃ x77 : Int, HV Tryz.prog (Instr.loadAt 3 (.pointer (some (a9.add 5)))) h74 (.int .i64 x77) ∧ 
  CallsH Tryz.prog 63 #[(.int .i64 x77), (.int .i64 1), (.int .i64 16)] h74 fun r79 h78 =>
  ∃ b80 : Bool, r79 = (.bool b80) ∧ 
  br b80
  (∃ x81 : Int, HV Tryz.prog (Instr.loadAt 3 (.pointer (some (a9.add 6)))) h78 (.int .i64 x81) ∧ 
  CallsH Tryz.prog 63 #[(.int .i64 x81), (.int .i64 0), (.int .i64 10)] h78 fun r83 h82 =>
  ∃ b84 : Bool, r83 = (.bool b84) ∧ 
  table_Check_j2
  (fun (x85 : Int) (h86 : Hp) =>
  K (.int .i64 x85) h86)
  a9 b84 h82)
  (table_Check_j2
  (fun (x87 : Int) (h88 : Hp) =>
  K (.int .i64 x87) h88)
  a9 false h78))
  (table_Check_j2
  (fun (x89 : Int) (h90 : Hp) =>
  K (.int .i64 x89) h90)
  a9 false h74))
  (table_Check_j2
  (fun (x91 : Int) (h92 : Hp) =>
  K (.int .i64 x91) h92)
  a9 false h70)
def table_Check_lp (i : Nat) (Q : Qx) (tm : Tm) (h : Hp) : Prop := match Nat.beq i 58 with
  | true => ∃ k, table_Check_l3_L Q k tm h
  | false => match Nat.beq i 3 with
  | true => table_Check_j2_L Q tm h
  | false => False
def table_Check_cut (i : Nat) : Option (List Nat) := match Nat.beq i 3 with
  | true => some [1, 3]
  | false => none
set_option maxRecDepth 100000 in
theorem table_Check_l3_step (Q : Qx) (k : Nat) (b52 : Bool) (x53 : Int) (x54 : Int) (x55 : Int) (x56 : Int) (h : Hp) : table_Check_l3_L Q (k + 1) (mkTm [(3, some (.bool b52)), (30, some (.agg #[(.int .i64 x53), (.int .i64 x54), (.int .i64 x55)])), (31, some (.int .i64 x56))]) h =
    codeWp Tryz.prog 42 false table_Check_lp table_Check_cut (sub (bodyOf Tryz.f34) [true, true, false, true, false, false]) 116 (thenQ (fun tm h => table_Check_l3_L Q k (mask [3, 30, 31] tm) h) (maskQ (fun e => match e with | .exit 0 => [3] | _ => []) Q)) (mkTm [(3, some (.bool b52)), (30, some (.agg #[(.int .i64 x53), (.int .i64 x54), (.int .i64 x55)])), (31, some (.int .i64 x56))]) h := by kernel_rfl
theorem table_Check_l3_mask (Q : Qx) (k : Nat) (tm : Tm) (h : Hp) : table_Check_l3_L Q k tm h ↔ table_Check_l3_L Q k (mask [3, 30, 31] tm) h := Iff.rfl
set_option maxRecDepth 100000 in
theorem table_Check_l3_snd : SndAt Tryz.prog 42 none (sub (bodyOf Tryz.f34) [true, true, false, true, false]) (table_Check_lp 58) := by
  refine loop_sound (pn := false) (lp := table_Check_lp) (cut := table_Check_cut) (i := 58) (c := (sub (bodyOf Tryz.f34) [true, true, false, true, false, false])) [3, 30, 31] (fun e => match e with | .exit 0 => [3] | _ => []) table_Check_l3_L ?_ ?_ ?_
  · exact good_by (pn := false) (c := (sub (bodyOf Tryz.f34) [true, true, false, true, false, false])) (i := 116) (l := []) (by kernel_rfl) (fun _ h => by cases h)
  · intro Q tm h H
    obtain ⟨b52, e3, H⟩ := selB_ex H
    obtain ⟨m30_0, e30, H⟩ := selAg_ex H
    obtain ⟨u30_0, m30_1, f, G⟩ := selC_ex H
    clear H
    subst f
    have H := G
    clear G
    obtain ⟨u30_1, m30_2, f, G⟩ := selC_ex H
    clear H
    subst f
    have H := G
    clear G
    obtain ⟨u30_2, m30_3, f, G⟩ := selC_ex H
    clear H
    subst f
    have H := G
    clear G
    obtain ⟨f, G⟩ := selN_ex H
    clear H
    subst f
    have H := G
    clear G
    obtain ⟨x53, f, G⟩ := selI_ex H
    clear H
    have H := G
    clear G
    obtain rfl := Option.some.inj f
    obtain ⟨x54, f, G⟩ := selI_ex H
    clear H
    have H := G
    clear G
    obtain rfl := Option.some.inj f
    obtain ⟨x55, f, G⟩ := selI_ex H
    clear H
    have H := G
    clear G
    obtain rfl := Option.some.inj f
    obtain ⟨x56, e31, H⟩ := selI_ex H
    exact H
  · intro Q k tm h H
    have H0 := H
    obtain ⟨b52, e3, H⟩ := selB_ex H
    obtain ⟨m30_0, e30, H⟩ := selAg_ex H
    obtain ⟨u30_0, m30_1, f, G⟩ := selC_ex H
    clear H
    subst f
    have H := G
    clear G
    obtain ⟨u30_1, m30_2, f, G⟩ := selC_ex H
    clear H
    subst f
    have H := G
    clear G
    obtain ⟨u30_2, m30_3, f, G⟩ := selC_ex H
    clear H
    subst f
    have H := G
    clear G
    obtain ⟨f, G⟩ := selN_ex H
    clear H
    subst f
    have H := G
    clear G
    obtain ⟨x53, f, G⟩ := selI_ex H
    clear H
    have H := G
    clear G
    obtain rfl := Option.some.inj f
    obtain ⟨x54, f, G⟩ := selI_ex H
    clear H
    have H := G
    clear G
    obtain rfl := Option.some.inj f
    obtain ⟨x55, f, G⟩ := selI_ex H
    clear H
    have H := G
    clear G
    obtain rfl := Option.some.inj f
    obtain ⟨x56, e31, H⟩ := selI_ex H
    have e : mask [3, 30, 31] tm = mkTm [(3, some (.bool b52)), (30, some (.agg #[(.int .i64 x53), (.int .i64 x54), (.int .i64 x55)])), (31, some (.int .i64 x56))] := by simp only [mask, List.map_cons, List.map_nil, e3, e30, e31] <;> rfl
    rw [e]
    refine Eq.mp (table_Check_l3_step Q k b52 x53 x54 x55 x56 h) ?_
    rw [← e]
    exact (table_Check_l3_mask Q (k + 1) tm h).mp H0
set_option maxRecDepth 100000 in
theorem table_Check_j2_step (Q : Qx) (a26 : Addr) (b27 : Bool) (h : Hp) : table_Check_j2_L Q (mkTm [(1, some (.pointer (some a26))), (3, some (.bool b27))]) h =
    codeWp Tryz.prog 42 false table_Check_lp table_Check_cut (sub (bodyOf Tryz.f34) [true, true]) 7 (maskQ (fun e => match e with | .ret => [2] | _ => []) Q) (mkTm [(1, some (.pointer (some a26))), (3, some (.bool b27))]) h := by kernel_rfl
theorem table_Check_j2_mask (Q : Qx) (tm : Tm) (h : Hp) : table_Check_j2_L Q tm h ↔ table_Check_j2_L Q (mask [1, 3] tm) h := Iff.rfl
set_option maxRecDepth 100000 in
theorem table_Check_j2_snd : SndAt Tryz.prog 42 none (sub (bodyOf Tryz.f34) [true, true]) (table_Check_lp 3) := by
  refine join_sound (pn := false) (lp := table_Check_lp) (cut := table_Check_cut) (i := 3) (c := (sub (bodyOf Tryz.f34) [true, true])) [1, 3] (fun e => match e with | .ret => [2] | _ => []) table_Check_j2_L ?_ ?_
  · exact good_by (pn := false) (c := (sub (bodyOf Tryz.f34) [true, true])) (i := 7) (l := [(58, (sub (bodyOf Tryz.f34) [true, true, false, true, false]))]) (by kernel_rfl) (List.forall_mem_cons.2 ⟨table_Check_l3_snd, (fun _ h => by cases h)⟩)
  · intro Q tm h H
    have H0 := H
    obtain ⟨a26, e1, H⟩ := selA_ex H
    obtain ⟨b27, e3, H⟩ := selB_ex H
    have e : mask [1, 3] tm = mkTm [(1, some (.pointer (some a26))), (3, some (.bool b27))] := by simp only [mask, List.map_cons, List.map_nil, e1, e3] <;> rfl
    rw [e]
    refine Eq.mp (table_Check_j2_step Q a26 b27 h) ?_
    rw [← e]
    exact (table_Check_j2_mask Q tm h).mp H0
set_option maxRecDepth 100000 in
theorem table_Check_eq (x1 : Int) (x2 : Int) (x3 : Int) (x4 : Int) (x5 : Int) (x6 : Int) (x7 : Int) (h : Hp) (K : Value → Hp → Prop) : table_Check x1 x2 x3 x4 x5 x6 x7 h K =
    codeWp Tryz.prog 42 false table_Check_lp table_Check_cut (bodyOf Tryz.f34) 1 (endQ Tryz.prog Tryz.f34.results.toList K) (argTm [(.agg #[(.int .i64 x1), (.int .i64 x2), (.int .i64 x3), (.int .i64 x4), (.int .i64 x5), (.int .i64 x6), (.int .i64 x7)])]) h := by kernel_rfl
set_option maxRecDepth 100000 in
theorem table_Check_ok (x1 : Int) (x2 : Int) (x3 : Int) (x4 : Int) (x5 : Int) (x6 : Int) (x7 : Int) {h : Hp} {K : Value → Hp → Prop} (H : table_Check x1 x2 x3 x4 x5 x6 x7 h K) : CallsH Tryz.prog 34 #[(.agg #[(.int .i64 x1), (.int .i64 x2), (.int .i64 x3), (.int .i64 x4), (.int .i64 x5), (.int .i64 x6), (.int .i64 x7)])] h K :=
  calls_of (pn := false) (args := [(.agg #[(.int .i64 x1), (.int .i64 x2), (.int .i64 x3), (.int .i64 x4), (.int .i64 x5), (.int .i64 x6), (.int .i64 x7)])]) (n := 42) (lp := table_Check_lp) (cut := table_Check_cut) Tryz.func34 (c := bodyOf Tryz.f34) (by kernel_rfl) (by kernel_rfl) (by kernel_rfl) (good_by (pn := false) (c := (bodyOf Tryz.f34)) (i := 1) (l := [(3, (sub (bodyOf Tryz.f34) [true, true]))]) (by kernel_rfl) (List.forall_mem_cons.2 ⟨table_Check_j2_snd, (fun _ h => by cases h)⟩))
    (Eq.mp (table_Check_eq x1 x2 x3 x4 x5 x6 x7 h K) H)

/-! ### (*quintet/table.Table).takes: function 35 -/
set_option maxRecDepth 100000 in
def table_Table_takes (p1 : Option Addr) (A2 : Option Addr) (l2 : Nat) (c2 : Nat) (x3 : Int) (x4 : Int) (x5 : Int) (x6 : Int) (x7 : Int) (x8 : Int) (x9 : Int) (x10 : Int) (x11 : Int) (x12 : Int) (x13 : Int) (x14 : Int) (h : Hp) (K : Value → Hp → Prop) : Prop :=
  newC h (.cells #[(.int .i64 x3), (.int .u32 x4), (.int .i64 x5), (.int .u32 x6), (.int .i64 x7), (.int .u16 x8), (.int .u16 x9), (.int .u16 x10), (.int .u16 x11), (.int .u8 x12), (.int .u8 x13), (.int .i64 x14)] 75 (0, 0)) fun a16 h15 => 
  ∃ x17 : Int, ∃ x18 : Int, ∃ x19 : Int, ∃ x20 : Int, ∃ x21 : Int, ∃ x22 : Int, ∃ x23 : Int, ∃ x24 : Int, ∃ x25 : Int, ∃ x26 : Int, ∃ x27 : Int, ∃ x28 : Int, HV Tryz.prog (Instr.loadAt 75 (.pointer (some a16))) h15 (.agg #[(.int .i64 x17), (.int .u32 x18), (.int .i64 x19), (.int .u32 x20), (.int .i64 x21), (.int .u16 x22), (.int .u16 x23), (.int .u16 x24), (.int .u16 x25), (.int .u8 x26), (.int .u8 x27), (.int .i64 x28)]) ∧ 
  CallsH Tryz.prog 59 #[(.agg #[(.int .i64 x17), (.int .u32 x18), (.int .i64 x19), (.int .u32 x20), (.int .i64 x21), (.int .u16 x22), (.int .u16 x23), (.int .u16 x24), (.int .u16 x25), (.int .u8 x26), (.int .u8 x27), (.int .i64 x28)])] h15 fun r30 h29 =>
  ∃ x31 : Int, ∃ x32 : Int, r30 = (.tuple #[(.int .i64 x31), (.int .i64 x32)]) ∧ 
  br (x31 != 0)
  (K (.int .i64 x31) h29)
  (∃ x33 : Int, HV Tryz.prog (Instr.loadAt 3 (.pointer (some a16))) h29 (.int .i64 x33) ∧ 
  CallsH Tryz.prog 64 #[(.slice A2 l2 c2), (.int .i64 x33)] h29 fun r35 h34 =>
  ∃ x36 : Int, r35 = (.int .i64 x36) ∧ 
  br (decide (x36 ≥ 0))
  (K (.int .i64 111) h34)
  (K (.int .i64 0) h34))
def table_Table_takes_lp (i : Nat) (Q : Qx) (tm : Tm) (h : Hp) : Prop := False
def table_Table_takes_cut (i : Nat) : Option (List Nat) := none
set_option maxRecDepth 100000 in
theorem table_Table_takes_eq (p1 : Option Addr) (A2 : Option Addr) (l2 : Nat) (c2 : Nat) (x3 : Int) (x4 : Int) (x5 : Int) (x6 : Int) (x7 : Int) (x8 : Int) (x9 : Int) (x10 : Int) (x11 : Int) (x12 : Int) (x13 : Int) (x14 : Int) (h : Hp) (K : Value → Hp → Prop) : table_Table_takes p1 A2 l2 c2 x3 x4 x5 x6 x7 x8 x9 x10 x11 x12 x13 x14 h K =
    codeWp Tryz.prog 22 false table_Table_takes_lp table_Table_takes_cut (bodyOf Tryz.f35) 1 (endQ Tryz.prog Tryz.f35.results.toList K) (argTm [(.pointer p1), (.slice A2 l2 c2), (.agg #[(.int .i64 x3), (.int .u32 x4), (.int .i64 x5), (.int .u32 x6), (.int .i64 x7), (.int .u16 x8), (.int .u16 x9), (.int .u16 x10), (.int .u16 x11), (.int .u8 x12), (.int .u8 x13), (.int .i64 x14)])]) h := by kernel_rfl
set_option maxRecDepth 100000 in
theorem table_Table_takes_ok (p1 : Option Addr) (A2 : Option Addr) (l2 : Nat) (c2 : Nat) (x3 : Int) (x4 : Int) (x5 : Int) (x6 : Int) (x7 : Int) (x8 : Int) (x9 : Int) (x10 : Int) (x11 : Int) (x12 : Int) (x13 : Int) (x14 : Int) {h : Hp} {K : Value → Hp → Prop} (H : table_Table_takes p1 A2 l2 c2 x3 x4 x5 x6 x7 x8 x9 x10 x11 x12 x13 x14 h K) : CallsH Tryz.prog 35 #[(.pointer p1), (.slice A2 l2 c2), (.agg #[(.int .i64 x3), (.int .u32 x4), (.int .i64 x5), (.int .u32 x6), (.int .i64 x7), (.int .u16 x8), (.int .u16 x9), (.int .u16 x10), (.int .u16 x11), (.int .u8 x12), (.int .u8 x13), (.int .i64 x14)])] h K :=
  calls_of (pn := false) (args := [(.pointer p1), (.slice A2 l2 c2), (.agg #[(.int .i64 x3), (.int .u32 x4), (.int .i64 x5), (.int .u32 x6), (.int .i64 x7), (.int .u16 x8), (.int .u16 x9), (.int .u16 x10), (.int .u16 x11), (.int .u8 x12), (.int .u8 x13), (.int .i64 x14)])]) (n := 22) (lp := table_Table_takes_lp) (cut := table_Table_takes_cut) Tryz.func35 (c := bodyOf Tryz.f35) (by kernel_rfl) (by kernel_rfl) (by kernel_rfl) (good_by (pn := false) (c := (bodyOf Tryz.f35)) (i := 1) (l := []) (by kernel_rfl) (fun _ h => by cases h))
    (Eq.mp (table_Table_takes_eq p1 A2 l2 c2 x3 x4 x5 x6 x7 x8 x9 x10 x11 x12 x13 x14 h K) H)

/-! ### quintet/rule.Match: function 62 -/
set_option maxRecDepth 100000 in
def rule_Match (x1 : Int) (x2 : Int) (x3 : Int) (x4 : Int) (x5 : Int) (x6 : Int) (x7 : Int) (x8 : Int) (x9 : Int) (x10 : Int) (x11 : Int) (x12 : Int) (x13 : Int) (x14 : Int) (x15 : Int) (x16 : Int) (x17 : Int) (h : Hp) (K : Value → Hp → Prop) : Prop :=
  newC h (.cells #[(.int .i64 x1), (.int .u32 x2), (.int .i64 x3), (.int .u32 x4), (.int .i64 x5), (.int .u16 x6), (.int .u16 x7), (.int .u16 x8), (.int .u16 x9), (.int .u8 x10), (.int .u8 x11), (.int .i64 x12)] 75 (0, 0)) fun a19 h18 => 
  newC h18 (.cells #[(.int .u32 x13), (.int .u32 x14), (.int .u16 x15), (.int .u16 x16), (.int .u8 x17)] 57 (0, 0)) fun a21 h20 => 
  ∃ x22 : Int, ∃ x23 : Int, ∃ x24 : Int, ∃ x25 : Int, ∃ x26 : Int, ∃ x27 : Int, ∃ x28 : Int, ∃ x29 : Int, ∃ x30 : Int, ∃ x31 : Int, ∃ x32 : Int, ∃ x33 : Int, HV Tryz.prog (Instr.loadAt 75 (.pointer (some a19))) h20 (.agg #[(.int .i64 x22), (.int .u32 x23), (.int .i64 x24), (.int .u32 x25), (.int .i64 x26), (.int .u16 x27), (.int .u16 x28), (.int .u16 x29), (.int .u16 x30), (.int .u8 x31), (.int .u8 x32), (.int .i64 x33)]) ∧ 
  CallsH Tryz.prog 81 #[(.agg #[(.int .i64 x22), (.int .u32 x23), (.int .i64 x24), (.int .u32 x25), (.int .i64 x26), (.int .u16 x27), (.int .u16 x28), (.int .u16 x29), (.int .u16 x30), (.int .u8 x31), (.int .u8 x32), (.int .i64 x33)])] h20 fun r35 h34 =>
  ∃ b36 : Bool, r35 = (.bool b36) ∧ 
  br b36
  (∃ x37 : Int, ∃ x38 : Int, HV Tryz.prog (Instr.loadAt 69 (.pointer (some (a19.add 1)))) h34 (.agg #[(.int .u32 x37), (.int .i64 x38)]) ∧ 
  ∃ x39 : Int, HV Tryz.prog (Instr.loadAt 50 (.pointer (some a21))) h34 (.int .u32 x39) ∧ 
  CallsH Tryz.prog 82 #[(.agg #[(.int .u32 x37), (.int .i64 x38)]), (.int .u32 x39)] h34 fun r41 h40 =>
  ∃ b42 : Bool, r41 = (.bool b42) ∧ 
  br b42
  (∃ x43 : Int, ∃ x44 : Int, HV Tryz.prog (Instr.loadAt 69 (.pointer (some (a19.add 3)))) h40 (.agg #[(.int .u32 x43), (.int .i64 x44)]) ∧ 
  ∃ x45 : Int, HV Tryz.prog (Instr.loadAt 50 (.pointer (some (a21.add 1)))) h40 (.int .u32 x45) ∧ 
  CallsH Tryz.prog 82 #[(.agg #[(.int .u32 x43), (.int .i64 x44)]), (.int .u32 x45)] h40 fun r47 h46 =>
  ∃ b48 : Bool, r47 = (.bool b48) ∧ 
  br b48
  (∃ x49 : Int, ∃ x50 : Int, HV Tryz.prog (Instr.loadAt 71 (.pointer (some (a19.add 5)))) h46 (.agg #[(.int .u16 x49), (.int .u16 x50)]) ∧ 
  ∃ x51 : Int, HV Tryz.prog (Instr.loadAt 55 (.pointer (some (a21.add 2)))) h46 (.int .u16 x51) ∧ 
  CallsH Tryz.prog 83 #[(.agg #[(.int .u16 x49), (.int .u16 x50)]), (.int .u16 x51)] h46 fun r53 h52 =>
  ∃ b54 : Bool, r53 = (.bool b54) ∧ 
  br b54
  (∃ x55 : Int, ∃ x56 : Int, HV Tryz.prog (Instr.loadAt 71 (.pointer (some (a19.add 7)))) h52 (.agg #[(.int .u16 x55), (.int .u16 x56)]) ∧ 
  ∃ x57 : Int, HV Tryz.prog (Instr.loadAt 55 (.pointer (some (a21.add 3)))) h52 (.int .u16 x57) ∧ 
  CallsH Tryz.prog 83 #[(.agg #[(.int .u16 x55), (.int .u16 x56)]), (.int .u16 x57)] h52 fun r59 h58 =>
  ∃ b60 : Bool, r59 = (.bool b60) ∧ 
  br b60
  (∃ x61 : Int, ∃ x62 : Int, HV Tryz.prog (Instr.loadAt 73 (.pointer (some (a19.add 9)))) h58 (.agg #[(.int .u8 x61), (.int .u8 x62)]) ∧ 
  ∃ x63 : Int, HV Tryz.prog (Instr.loadAt 5 (.pointer (some (a21.add 4)))) h58 (.int .u8 x63) ∧ 
  CallsH Tryz.prog 84 #[(.agg #[(.int .u8 x61), (.int .u8 x62)]), (.int .u8 x63)] h58 fun r65 h64 =>
  ∃ b66 : Bool, r65 = (.bool b66) ∧ 
  K (.bool b66) h64)
  (K (.bool false) h58))
  (K (.bool false) h52))
  (K (.bool false) h46))
  (K (.bool false) h40))
  (K (.bool false) h34)
def rule_Match_lp (i : Nat) (Q : Qx) (tm : Tm) (h : Hp) : Prop := False
def rule_Match_cut (i : Nat) : Option (List Nat) := none
set_option maxRecDepth 100000 in
theorem rule_Match_eq (x1 : Int) (x2 : Int) (x3 : Int) (x4 : Int) (x5 : Int) (x6 : Int) (x7 : Int) (x8 : Int) (x9 : Int) (x10 : Int) (x11 : Int) (x12 : Int) (x13 : Int) (x14 : Int) (x15 : Int) (x16 : Int) (x17 : Int) (h : Hp) (K : Value → Hp → Prop) : rule_Match x1 x2 x3 x4 x5 x6 x7 x8 x9 x10 x11 x12 x13 x14 x15 x16 x17 h K =
    codeWp Tryz.prog 42 false rule_Match_lp rule_Match_cut (bodyOf Tryz.f62) 1 (endQ Tryz.prog Tryz.f62.results.toList K) (argTm [(.agg #[(.int .i64 x1), (.int .u32 x2), (.int .i64 x3), (.int .u32 x4), (.int .i64 x5), (.int .u16 x6), (.int .u16 x7), (.int .u16 x8), (.int .u16 x9), (.int .u8 x10), (.int .u8 x11), (.int .i64 x12)]), (.agg #[(.int .u32 x13), (.int .u32 x14), (.int .u16 x15), (.int .u16 x16), (.int .u8 x17)])]) h := by kernel_rfl
set_option maxRecDepth 100000 in
theorem rule_Match_ok (x1 : Int) (x2 : Int) (x3 : Int) (x4 : Int) (x5 : Int) (x6 : Int) (x7 : Int) (x8 : Int) (x9 : Int) (x10 : Int) (x11 : Int) (x12 : Int) (x13 : Int) (x14 : Int) (x15 : Int) (x16 : Int) (x17 : Int) {h : Hp} {K : Value → Hp → Prop} (H : rule_Match x1 x2 x3 x4 x5 x6 x7 x8 x9 x10 x11 x12 x13 x14 x15 x16 x17 h K) : CallsH Tryz.prog 62 #[(.agg #[(.int .i64 x1), (.int .u32 x2), (.int .i64 x3), (.int .u32 x4), (.int .i64 x5), (.int .u16 x6), (.int .u16 x7), (.int .u16 x8), (.int .u16 x9), (.int .u8 x10), (.int .u8 x11), (.int .i64 x12)]), (.agg #[(.int .u32 x13), (.int .u32 x14), (.int .u16 x15), (.int .u16 x16), (.int .u8 x17)])] h K :=
  calls_of (pn := false) (args := [(.agg #[(.int .i64 x1), (.int .u32 x2), (.int .i64 x3), (.int .u32 x4), (.int .i64 x5), (.int .u16 x6), (.int .u16 x7), (.int .u16 x8), (.int .u16 x9), (.int .u8 x10), (.int .u8 x11), (.int .i64 x12)]), (.agg #[(.int .u32 x13), (.int .u32 x14), (.int .u16 x15), (.int .u16 x16), (.int .u8 x17)])]) (n := 42) (lp := rule_Match_lp) (cut := rule_Match_cut) Tryz.func62 (c := bodyOf Tryz.f62) (by kernel_rfl) (by kernel_rfl) (by kernel_rfl) (good_by (pn := false) (c := (bodyOf Tryz.f62)) (i := 1) (l := []) (by kernel_rfl) (fun _ h => by cases h))
    (Eq.mp (rule_Match_eq x1 x2 x3 x4 x5 x6 x7 x8 x9 x10 x11 x12 x13 x14 x15 x16 x17 h K) H)

/-! ### quintet/table.in: function 63 -/
set_option maxRecDepth 100000 in
def table_in (x1 : Int) (x2 : Int) (x3 : Int) (h : Hp) (K : Value → Hp → Prop) : Prop :=
  br (decide (x1 ≥ x2))
  (K (.bool (decide (x1 ≤ x3))) h)
  (K (.bool false) h)
def table_in_lp (i : Nat) (Q : Qx) (tm : Tm) (h : Hp) : Prop := False
def table_in_cut (i : Nat) : Option (List Nat) := none
set_option maxRecDepth 100000 in
theorem table_in_eq (x1 : Int) (x2 : Int) (x3 : Int) (h : Hp) (K : Value → Hp → Prop) : table_in x1 x2 x3 h K =
    codeWp Tryz.prog 15 false table_in_lp table_in_cut (bodyOf Tryz.f63) 1 (endQ Tryz.prog Tryz.f63.results.toList K) (argTm [(.int .i64 x1), (.int .i64 x2), (.int .i64 x3)]) h := by kernel_rfl
set_option maxRecDepth 100000 in
theorem table_in_ok (x1 : Int) (x2 : Int) (x3 : Int) {h : Hp} {K : Value → Hp → Prop} (H : table_in x1 x2 x3 h K) : CallsH Tryz.prog 63 #[(.int .i64 x1), (.int .i64 x2), (.int .i64 x3)] h K :=
  calls_of (pn := false) (args := [(.int .i64 x1), (.int .i64 x2), (.int .i64 x3)]) (n := 15) (lp := table_in_lp) (cut := table_in_cut) Tryz.func63 (c := bodyOf Tryz.f63) (by kernel_rfl) (by kernel_rfl) (by kernel_rfl) (good_by (pn := false) (c := (bodyOf Tryz.f63)) (i := 1) (l := []) (by kernel_rfl) (fun _ h => by cases h))
    (Eq.mp (table_in_eq x1 x2 x3 h K) H)

/-! ### quintet/table.find: function 64 -/
def table_find_l1 (A3 : Option Addr) (l3 : Nat) (c3 : Nat) (x4 : Int) (x5 : Int) (K0 : Int → Hp → Prop) (K1 : Hp → Prop)  : Nat → Int → Hp → Prop
  | 0, _, _ => False
  | k + 1, x6, h =>
    br (decide (x6 < x5))
    (∃ a10 : Addr, PV Tryz.prog (Instr.indexAt 22 (.slice A3 l3 c3) (.int .i64 x6)) (.pointer (some a10)) ∧
    ∃ x11 : Int, HV Tryz.prog (Instr.loadAt 3 (.pointer (some a10))) h (.int .i64 x11) ∧ 
    br (x11 == x4)
    (K0 x6 h)
    (table_find_l1 A3 l3 c3 x4 x5 K0 K1 k (IntKind.i64.wrap (x6 + 1)) h))
    (K1 h)
def table_find_l1_L (Q : Qx) (k : Nat) (tm : Tm) (h : Hp) : Prop :=
  selS (tm 0) fun A3 l3 c3 =>
  selI .i64 (tm 1) fun x4 =>
  selI .i64 (tm 7) fun x5 =>
  selI .i64 (tm 8) fun x6 =>
  table_find_l1 A3 l3 c3 x4 x5 (fun (x9 : Int) h => Q (.ret) (mkTm [(4, some (.int .i64 x9))]) h) (fun  h => Q (.exit 0) (mkTm []) h) k x6 h
set_option maxRecDepth 100000 in
def table_find (A1 : Option Addr) (l1 : Nat) (c1 : Nat) (x2 : Int) (h : Hp) (K : Value → Hp → Prop) : Prop :=
  ∃ k15, table_find_l1 A1 l1 c1 x2 (l1 : Int)
  (fun (x12 : Int) (h13 : Hp) =>
  K (.int .i64 x12) h13)
  (fun  (h14 : Hp) =>
  K (.int .i64 (-1)) h14)
   k15 0 h
def table_find_lp (i : Nat) (Q : Qx) (tm : Tm) (h : Hp) : Prop := match Nat.beq i 26 with
  | true => ∃ k, table_find_l1_L Q k tm h
  | false => False
def table_find_cut (i : Nat) : Option (List Nat) := none
set_option maxRecDepth 100000 in
theorem table_find_l1_step (Q : Qx) (k : Nat) (A3 : Option Addr) (l3 : Nat) (c3 : Nat) (x4 : Int) (x5 : Int) (x6 : Int) (h : Hp) : table_find_l1_L Q (k + 1) (mkTm [(0, some (.slice A3 l3 c3)), (1, some (.int .i64 x4)), (7, some (.int .i64 x5)), (8, some (.int .i64 x6))]) h =
    codeWp Tryz.prog 20 false table_find_lp table_find_cut (sub (bodyOf Tryz.f64) [true, false, true, false, false]) 52 (thenQ (fun tm h => table_find_l1_L Q k (mask [0, 1, 7, 8] tm) h) (maskQ (fun e => match e with | .ret => [4] | .exit 0 => [] | _ => []) Q)) (mkTm [(0, some (.slice A3 l3 c3)), (1, some (.int .i64 x4)), (7, some (.int .i64 x5)), (8, some (.int .i64 x6))]) h := by kernel_rfl
theorem table_find_l1_mask (Q : Qx) (k : Nat) (tm : Tm) (h : Hp) : table_find_l1_L Q k tm h ↔ table_find_l1_L Q k (mask [0, 1, 7, 8] tm) h := Iff.rfl
set_option maxRecDepth 100000 in
theorem table_find_l1_snd : SndAt Tryz.prog 20 none (sub (bodyOf Tryz.f64) [true, false, true, false]) (table_find_lp 26) := by
  refine loop_sound (pn := false) (lp := table_find_lp) (cut := table_find_cut) (i := 26) (c := (sub (bodyOf Tryz.f64) [true, false, true, false, false])) [0, 1, 7, 8] (fun e => match e with | .ret => [4] | .exit 0 => [] | _ => []) table_find_l1_L ?_ ?_ ?_
  · exact good_by (pn := false) (c := (sub (bodyOf Tryz.f64) [true, false, true, false, false])) (i := 52) (l := []) (by kernel_rfl) (fun _ h => by cases h)
  · intro Q tm h H
    obtain ⟨A3, l3, c3, e0, H⟩ := selS_ex H
    obtain ⟨x4, e1, H⟩ := selI_ex H
    obtain ⟨x5, e7, H⟩ := selI_ex H
    obtain ⟨x6, e8, H⟩ := selI_ex H
    exact H
  · intro Q k tm h H
    have H0 := H
    obtain ⟨A3, l3, c3, e0, H⟩ := selS_ex H
    obtain ⟨x4, e1, H⟩ := selI_ex H
    obtain ⟨x5, e7, H⟩ := selI_ex H
    obtain ⟨x6, e8, H⟩ := selI_ex H
    have e : mask [0, 1, 7, 8] tm = mkTm [(0, some (.slice A3 l3 c3)), (1, some (.int .i64 x4)), (7, some (.int .i64 x5)), (8, some (.int .i64 x6))] := by simp only [mask, List.map_cons, List.map_nil, e0, e1, e7, e8] <;> rfl
    rw [e]
    refine Eq.mp (table_find_l1_step Q k A3 l3 c3 x4 x5 x6 h) ?_
    rw [← e]
    exact (table_find_l1_mask Q (k + 1) tm h).mp H0
set_option maxRecDepth 100000 in
theorem table_find_eq (A1 : Option Addr) (l1 : Nat) (c1 : Nat) (x2 : Int) (h : Hp) (K : Value → Hp → Prop) : table_find A1 l1 c1 x2 h K =
    codeWp Tryz.prog 20 false table_find_lp table_find_cut (bodyOf Tryz.f64) 1 (endQ Tryz.prog Tryz.f64.results.toList K) (argTm [(.slice A1 l1 c1), (.int .i64 x2)]) h := by kernel_rfl
set_option maxRecDepth 100000 in
theorem table_find_ok (A1 : Option Addr) (l1 : Nat) (c1 : Nat) (x2 : Int) {h : Hp} {K : Value → Hp → Prop} (H : table_find A1 l1 c1 x2 h K) : CallsH Tryz.prog 64 #[(.slice A1 l1 c1), (.int .i64 x2)] h K :=
  calls_of (pn := false) (args := [(.slice A1 l1 c1), (.int .i64 x2)]) (n := 20) (lp := table_find_lp) (cut := table_find_cut) Tryz.func64 (c := bodyOf Tryz.f64) (by kernel_rfl) (by kernel_rfl) (by kernel_rfl) (good_by (pn := false) (c := (bodyOf Tryz.f64)) (i := 1) (l := [(26, (sub (bodyOf Tryz.f64) [true, false, true, false]))]) (by kernel_rfl) (List.forall_mem_cons.2 ⟨table_find_l1_snd, (fun _ h => by cases h)⟩))
    (Eq.mp (table_find_eq A1 l1 c1 x2 h K) H)

/-! ### quintet/rule.may: function 81 -/
set_option maxRecDepth 100000 in
def rule_may (x1 : Int) (x2 : Int) (x3 : Int) (x4 : Int) (x5 : Int) (x6 : Int) (x7 : Int) (x8 : Int) (x9 : Int) (x10 : Int) (x11 : Int) (x12 : Int) (h : Hp) (K : Value → Hp → Prop) : Prop :=
  newC h (.cells #[(.int .i64 x1), (.int .u32 x2), (.int .i64 x3), (.int .u32 x4), (.int .i64 x5), (.int .u16 x6), (.int .u16 x7), (.int .u16 x8), (.int .u16 x9), (.int .u8 x10), (.int .u8 x11), (.int .i64 x12)] 75 (0, 0)) fun a14 h13 => 
  ∃ x15 : Int, ∃ x16 : Int, ∃ x17 : Int, ∃ x18 : Int, ∃ x19 : Int, ∃ x20 : Int, ∃ x21 : Int, ∃ x22 : Int, ∃ x23 : Int, ∃ x24 : Int, ∃ x25 : Int, ∃ x26 : Int, HV Tryz.prog (Instr.loadAt 75 (.pointer (some a14))) h13 (.agg #[(.int .i64 x15), (.int .u32 x16), (.int .i64 x17), (.int .u32 x18), (.int .i64 x19), (.int .u16 x20), (.int .u16 x21), (.int .u16 x22), (.int .u16 x23), (.int .u8 x24), (.int .u8 x25), (.int .i64 x26)]) ∧ 
  CallsH Tryz.prog 59 #[(.agg #[(.int .i64 x15), (.int .u32 x16), (.int .i64 x17), (.int .u32 x18), (.int .i64 x19), (.int .u16 x20), (.int .u16 x21), (.int .u16 x22), (.int .u16 x23), (.int .u8 x24), (.int .u8 x25), (.int .i64 x26)])] h13 fun r28 h27 =>
  ∃ x29 : Int, ∃ x30 : Int, r28 = (.tuple #[(.int .i64 x29), (.int .i64 x30)]) ∧ 
  K (.bool (x29 == 0)) h27
def rule_may_lp (i : Nat) (Q : Qx) (tm : Tm) (h : Hp) : Prop := False
def rule_may_cut (i : Nat) : Option (List Nat) := none
set_option maxRecDepth 100000 in
theorem rule_may_eq (x1 : Int) (x2 : Int) (x3 : Int) (x4 : Int) (x5 : Int) (x6 : Int) (x7 : Int) (x8 : Int) (x9 : Int) (x10 : Int) (x11 : Int) (x12 : Int) (h : Hp) (K : Value → Hp → Prop) : rule_may x1 x2 x3 x4 x5 x6 x7 x8 x9 x10 x11 x12 h K =
    codeWp Tryz.prog 12 false rule_may_lp rule_may_cut (bodyOf Tryz.f81) 1 (endQ Tryz.prog Tryz.f81.results.toList K) (argTm [(.agg #[(.int .i64 x1), (.int .u32 x2), (.int .i64 x3), (.int .u32 x4), (.int .i64 x5), (.int .u16 x6), (.int .u16 x7), (.int .u16 x8), (.int .u16 x9), (.int .u8 x10), (.int .u8 x11), (.int .i64 x12)])]) h := by kernel_rfl
set_option maxRecDepth 100000 in
theorem rule_may_ok (x1 : Int) (x2 : Int) (x3 : Int) (x4 : Int) (x5 : Int) (x6 : Int) (x7 : Int) (x8 : Int) (x9 : Int) (x10 : Int) (x11 : Int) (x12 : Int) {h : Hp} {K : Value → Hp → Prop} (H : rule_may x1 x2 x3 x4 x5 x6 x7 x8 x9 x10 x11 x12 h K) : CallsH Tryz.prog 81 #[(.agg #[(.int .i64 x1), (.int .u32 x2), (.int .i64 x3), (.int .u32 x4), (.int .i64 x5), (.int .u16 x6), (.int .u16 x7), (.int .u16 x8), (.int .u16 x9), (.int .u8 x10), (.int .u8 x11), (.int .i64 x12)])] h K :=
  calls_of (pn := false) (args := [(.agg #[(.int .i64 x1), (.int .u32 x2), (.int .i64 x3), (.int .u32 x4), (.int .i64 x5), (.int .u16 x6), (.int .u16 x7), (.int .u16 x8), (.int .u16 x9), (.int .u8 x10), (.int .u8 x11), (.int .i64 x12)])]) (n := 12) (lp := rule_may_lp) (cut := rule_may_cut) Tryz.func81 (c := bodyOf Tryz.f81) (by kernel_rfl) (by kernel_rfl) (by kernel_rfl) (good_by (pn := false) (c := (bodyOf Tryz.f81)) (i := 1) (l := []) (by kernel_rfl) (fun _ h => by cases h))
    (Eq.mp (rule_may_eq x1 x2 x3 x4 x5 x6 x7 x8 x9 x10 x11 x12 h K) H)

/-! ### quintet/prefix.Has: function 82 -/
set_option maxRecDepth 100000 in
def prefix_Has (x1 : Int) (x2 : Int) (x3 : Int) (h : Hp) (K : Value → Hp → Prop) : Prop :=
  newC h (.cells #[(.int .u32 x1), (.int .i64 x2)] 69 (0, 0)) fun a5 h4 => 
  ∃ x6 : Int, ∃ x7 : Int, HV Tryz.prog (Instr.loadAt 69 (.pointer (some a5))) h4 (.agg #[(.int .u32 x6), (.int .i64 x7)]) ∧ 
  CallsH Tryz.prog 78 #[(.agg #[(.int .u32 x6), (.int .i64 x7)])] h4 fun r9 h8 =>
  ∃ x10 : Int, r9 = (.int .i64 x10) ∧ 
  br (x10 == 0)
  (∃ x11 : Int, HV Tryz.prog (Instr.loadAt 3 (.pointer (some (a5.add 1)))) h8 (.int .i64 x11) ∧ 
  CallsH Tryz.prog 91 #[(.int .i64 x11)] h8 fun r13 h12 =>
  ∃ x14 : Int, r13 = (.int .u32 x14) ∧ 
  ∃ x15 : Int, HV Tryz.prog (Instr.loadAt 50 (.pointer (some a5))) h12 (.int .u32 x15) ∧ HV Tryz.prog (Instr.loadAt 50 (.pointer (some a5))) h8 (.int .u32 x15) ∧ 
  K (.bool ((bAnd .u32 x3 x14) == x15)) h12)
  (K (.bool false) h8)
def prefix_Has_lp (i : Nat) (Q : Qx) (tm : Tm) (h : Hp) : Prop := False
def prefix_Has_cut (i : Nat) : Option (List Nat) := none
set_option maxRecDepth 100000 in
theorem prefix_Has_eq (x1 : Int) (x2 : Int) (x3 : Int) (h : Hp) (K : Value → Hp → Prop) : prefix_Has x1 x2 x3 h K =
    codeWp Tryz.prog 18 false prefix_Has_lp prefix_Has_cut (bodyOf Tryz.f82) 1 (endQ Tryz.prog Tryz.f82.results.toList K) (argTm [(.agg #[(.int .u32 x1), (.int .i64 x2)]), (.int .u32 x3)]) h := by kernel_rfl
set_option maxRecDepth 100000 in
theorem prefix_Has_ok (x1 : Int) (x2 : Int) (x3 : Int) {h : Hp} {K : Value → Hp → Prop} (H : prefix_Has x1 x2 x3 h K) : CallsH Tryz.prog 82 #[(.agg #[(.int .u32 x1), (.int .i64 x2)]), (.int .u32 x3)] h K :=
  calls_of (pn := false) (args := [(.agg #[(.int .u32 x1), (.int .i64 x2)]), (.int .u32 x3)]) (n := 18) (lp := prefix_Has_lp) (cut := prefix_Has_cut) Tryz.func82 (c := bodyOf Tryz.f82) (by kernel_rfl) (by kernel_rfl) (by kernel_rfl) (good_by (pn := false) (c := (bodyOf Tryz.f82)) (i := 1) (l := []) (by kernel_rfl) (fun _ h => by cases h))
    (Eq.mp (prefix_Has_eq x1 x2 x3 h K) H)

/-! ### quintet/span.Has: function 83 -/
set_option maxRecDepth 100000 in
def span_Has (x1 : Int) (x2 : Int) (x3 : Int) (h : Hp) (K : Value → Hp → Prop) : Prop :=
  newC h (.cells #[(.int .u16 x1), (.int .u16 x2)] 71 (0, 0)) fun a5 h4 => 
  ∃ x6 : Int, HV Tryz.prog (Instr.loadAt 55 (.pointer (some a5))) h4 (.int .u16 x6) ∧ 
  br (decide (x3 ≥ x6))
  (∃ x7 : Int, HV Tryz.prog (Instr.loadAt 55 (.pointer (some (a5.add 1)))) h4 (.int .u16 x7) ∧ 
  K (.bool (decide (x3 ≤ x7))) h4)
  (K (.bool false) h4)
def span_Has_lp (i : Nat) (Q : Qx) (tm : Tm) (h : Hp) : Prop := False
def span_Has_cut (i : Nat) : Option (List Nat) := none
set_option maxRecDepth 100000 in
theorem span_Has_eq (x1 : Int) (x2 : Int) (x3 : Int) (h : Hp) (K : Value → Hp → Prop) : span_Has x1 x2 x3 h K =
    codeWp Tryz.prog 15 false span_Has_lp span_Has_cut (bodyOf Tryz.f83) 1 (endQ Tryz.prog Tryz.f83.results.toList K) (argTm [(.agg #[(.int .u16 x1), (.int .u16 x2)]), (.int .u16 x3)]) h := by kernel_rfl
set_option maxRecDepth 100000 in
theorem span_Has_ok (x1 : Int) (x2 : Int) (x3 : Int) {h : Hp} {K : Value → Hp → Prop} (H : span_Has x1 x2 x3 h K) : CallsH Tryz.prog 83 #[(.agg #[(.int .u16 x1), (.int .u16 x2)]), (.int .u16 x3)] h K :=
  calls_of (pn := false) (args := [(.agg #[(.int .u16 x1), (.int .u16 x2)]), (.int .u16 x3)]) (n := 15) (lp := span_Has_lp) (cut := span_Has_cut) Tryz.func83 (c := bodyOf Tryz.f83) (by kernel_rfl) (by kernel_rfl) (by kernel_rfl) (good_by (pn := false) (c := (bodyOf Tryz.f83)) (i := 1) (l := []) (by kernel_rfl) (fun _ h => by cases h))
    (Eq.mp (span_Has_eq x1 x2 x3 h K) H)

/-! ### quintet/mask.Has: function 84 -/
set_option maxRecDepth 100000 in
def mask_Has (x1 : Int) (x2 : Int) (x3 : Int) (h : Hp) (K : Value → Hp → Prop) : Prop :=
  newC h (.cells #[(.int .u8 x1), (.int .u8 x2)] 73 (0, 0)) fun a5 h4 => 
  ∃ x6 : Int, HV Tryz.prog (Instr.loadAt 5 (.pointer (some (a5.add 1)))) h4 (.int .u8 x6) ∧ 
  ∃ x7 : Int, HV Tryz.prog (Instr.loadAt 5 (.pointer (some a5))) h4 (.int .u8 x7) ∧ 
  K (.bool ((bAnd .u8 x3 x6) == x7)) h4
def mask_Has_lp (i : Nat) (Q : Qx) (tm : Tm) (h : Hp) : Prop := False
def mask_Has_cut (i : Nat) : Option (List Nat) := none
set_option maxRecDepth 100000 in
theorem mask_Has_eq (x1 : Int) (x2 : Int) (x3 : Int) (h : Hp) (K : Value → Hp → Prop) : mask_Has x1 x2 x3 h K =
    codeWp Tryz.prog 12 false mask_Has_lp mask_Has_cut (bodyOf Tryz.f84) 1 (endQ Tryz.prog Tryz.f84.results.toList K) (argTm [(.agg #[(.int .u8 x1), (.int .u8 x2)]), (.int .u8 x3)]) h := by kernel_rfl
set_option maxRecDepth 100000 in
theorem mask_Has_ok (x1 : Int) (x2 : Int) (x3 : Int) {h : Hp} {K : Value → Hp → Prop} (H : mask_Has x1 x2 x3 h K) : CallsH Tryz.prog 84 #[(.agg #[(.int .u8 x1), (.int .u8 x2)]), (.int .u8 x3)] h K :=
  calls_of (pn := false) (args := [(.agg #[(.int .u8 x1), (.int .u8 x2)]), (.int .u8 x3)]) (n := 12) (lp := mask_Has_lp) (cut := mask_Has_cut) Tryz.func84 (c := bodyOf Tryz.f84) (by kernel_rfl) (by kernel_rfl) (by kernel_rfl) (good_by (pn := false) (c := (bodyOf Tryz.f84)) (i := 1) (l := []) (by kernel_rfl) (fun _ h => by cases h))
    (Eq.mp (mask_Has_eq x1 x2 x3 h K) H)

end Go.Proofs.YtfdpccbajaiepaaGreatDoor.Sxp.Fx

/- Rules and their parts: what the small functions come to. -/
namespace Go.Proofs.YtfdpccbajaiepaaGreatDoor.Fs
open Go Go.RowKit Go.Proofs.YtfdpccbajaiepaaGreatDoor.Sx Go.Proofs.YtfdpccbajaiepaaGreatDoor.Sxp.Fx
set_option linter.unusedVariables false
set_option linter.unusedSimpArgs false
set_option maxRecDepth 10000
def careV (l : Int) : Int := IntKind.u32.wrap (4294967295 * 2 ^ min (32 - l).toNat 32)
def prefixCheck (a l : Int) : Int := if l < 0 then 20 else if l > 32 then 20 else if (bAndNot .u32 a (careV l) != 0) = true then 21 else 0
def spanCheck (lo hi : Int) : Int := if lo > hi then 30 else 0
def maskCheck (v c : Int) : Int := if (bAndNot .u8 v c != 0) = true then 40 else 0
theorem prefix_care_s (l : Int) {h : Hp} {K : Value → Hp → Prop} (h0 : 0 ≤ l) (h1 : l ≤ 32) (H : ∀ h', Ext h h' → K (.int .u32 (careV l)) h') : CallsH Tryz.prog 91 #[.int .i64 l] h K := by
  refine prefix_care_ok l ?_
  refine ⟨careV l, ?_, H h (Ext.refl h)⟩
  intro w
  rw [wrap_in (by omega) (by omega)]
  have hn : ¬ (32 - l < 0) := by omega
  simp only [binOp, Op.shift, hn, if_false]
  rfl
theorem prefix_Check_s (a l : Int) {h : Hp} {K : Value → Hp → Prop} (H : ∀ v h', Ext h h' → v = prefixCheck a l → K (.int .i64 v) h') : CallsH Tryz.prog 78 #[.agg #[.int .u32 a, .int .i64 l]] h K := by
  refine prefix_Check_ok a l ?_
  unfold prefix_Check
  repeat' (first
    | (refine prefix_care_s _ ?_ ?_ (fun _ _ => ?_))
    | (refine H _ _ (by first | first | assumption | exact Ext.refl _ | exact Ext.trans2 (by assumption) (by first | first | assumption | exact Ext.refl _ | exact Ext.trans2 (by assumption) (by first | first | assumption | exact Ext.refl _ | exact Ext.trans2 (by assumption) (by first | first | assumption | exact Ext.refl _ | exact Ext.trans2 (by assumption) (by first | first | assumption | exact Ext.refl _ | exact Ext.trans2 (by assumption) (by first | first | assumption | exact Ext.refl _ | exact Ext.trans2 (by assumption) (by first | first | assumption | exact Ext.refl _ | exact Ext.trans2 (by assumption) (by first | first | assumption | exact Ext.refl _ | exact Ext.trans2 (by assumption) (by first | first | assumption | exact Ext.refl _ | exact Ext.trans2 (by assumption) (by first | assumption | exact Ext.refl _)))))))))) ?_)
    | (refine newC_i fun _ _ _ _ _ => ?_)
    | (refine br_i (fun _ => ?_) (fun _ => ?_))
    | (refine And.intro rfl ?_)
    | (refine And.intro (ld (Cl.at_ (by first | assumption | exact Cl.ext2 (by assumption) (by first | assumption | exact Cl.ext2 (by assumption) (by first | assumption | exact Cl.ext2 (by assumption) (by first | assumption | exact Cl.ext2 (by assumption) (by first | assumption | exact Cl.ext2 (by assumption) (by first | assumption | exact Cl.ext2 (by assumption) (by first | assumption | exact Cl.ext2 (by assumption) (by first | assumption | exact Cl.ext2 (by assumption) (by first | assumption | exact Cl.ext2 (by assumption) (by assumption)))))))))) _ _ rfl) (by kernel_rfl)) ?_)
    | (refine And.intro (ld (Cl.head (by first | assumption | exact Cl.ext2 (by assumption) (by first | assumption | exact Cl.ext2 (by assumption) (by first | assumption | exact Cl.ext2 (by assumption) (by first | assumption | exact Cl.ext2 (by assumption) (by first | assumption | exact Cl.ext2 (by assumption) (by first | assumption | exact Cl.ext2 (by assumption) (by first | assumption | exact Cl.ext2 (by assumption) (by first | assumption | exact Cl.ext2 (by assumption) (by first | assumption | exact Cl.ext2 (by assumption) (by assumption))))))))))) (by kernel_rfl)) ?_)
    | (refine And.intro (ldS (by first | assumption | exact Cl.ext2 (by assumption) (by first | assumption | exact Cl.ext2 (by assumption) (by first | assumption | exact Cl.ext2 (by assumption) (by first | assumption | exact Cl.ext2 (by assumption) (by first | assumption | exact Cl.ext2 (by assumption) (by first | assumption | exact Cl.ext2 (by assumption) (by first | assumption | exact Cl.ext2 (by assumption) (by first | assumption | exact Cl.ext2 (by assumption) (by first | assumption | exact Cl.ext2 (by assumption) (by assumption)))))))))) (by kernel_rfl)) ?_)
    | (refine And.intro (ldS (Cl.sl (by first | assumption | exact Cl.ext2 (by assumption) (by first | assumption | exact Cl.ext2 (by assumption) (by first | assumption | exact Cl.ext2 (by assumption) (by first | assumption | exact Cl.ext2 (by assumption) (by first | assumption | exact Cl.ext2 (by assumption) (by first | assumption | exact Cl.ext2 (by assumption) (by first | assumption | exact Cl.ext2 (by assumption) (by first | assumption | exact Cl.ext2 (by assumption) (by first | assumption | exact Cl.ext2 (by assumption) (by assumption)))))))))) rfl) (by kernel_rfl)) ?_)
    | (apply Exists.intro))
  all_goals (simp_all [prefixCheck] <;> omega)
theorem sp_Check_s (a l : Int) {h : Hp} {K : Value → Hp → Prop} (H : ∀ v h', Ext h h' → v = spanCheck a l → K (.int .i64 v) h') : CallsH Tryz.prog 79 #[.agg #[.int .u16 a, .int .u16 l]] h K := by
  refine span_Check_ok a l ?_
  unfold span_Check
  repeat' (first
    | (refine H _ _ (by first | first | assumption | exact Ext.refl _ | exact Ext.trans2 (by assumption) (by first | first | assumption | exact Ext.refl _ | exact Ext.trans2 (by assumption) (by first | first | assumption | exact Ext.refl _ | exact Ext.trans2 (by assumption) (by first | first | assumption | exact Ext.refl _ | exact Ext.trans2 (by assumption) (by first | first | assumption | exact Ext.refl _ | exact Ext.trans2 (by assumption) (by first | first | assumption | exact Ext.refl _ | exact Ext.trans2 (by assumption) (by first | first | assumption | exact Ext.refl _ | exact Ext.trans2 (by assumption) (by first | first | assumption | exact Ext.refl _ | exact Ext.trans2 (by assumption) (by first | first | assumption | exact Ext.refl _ | exact Ext.trans2 (by assumption) (by first | assumption | exact Ext.refl _)))))))))) ?_)
    | (refine newC_i fun _ _ _ _ _ => ?_)
    | (refine br_i (fun _ => ?_) (fun _ => ?_))
    | (refine And.intro rfl ?_)
    | (refine And.intro (ld (Cl.at_ (by first | assumption | exact Cl.ext2 (by assumption) (by first | assumption | exact Cl.ext2 (by assumption) (by first | assumption | exact Cl.ext2 (by assumption) (by first | assumption | exact Cl.ext2 (by assumption) (by first | assumption | exact Cl.ext2 (by assumption) (by first | assumption | exact Cl.ext2 (by assumption) (by first | assumption | exact Cl.ext2 (by assumption) (by first | assumption | exact Cl.ext2 (by assumption) (by first | assumption | exact Cl.ext2 (by assumption) (by assumption)))))))))) _ _ rfl) (by kernel_rfl)) ?_)
    | (refine And.intro (ld (Cl.head (by first | assumption | exact Cl.ext2 (by assumption) (by first | assumption | exact Cl.ext2 (by assumption) (by first | assumption | exact Cl.ext2 (by assumption) (by first | assumption | exact Cl.ext2 (by assumption) (by first | assumption | exact Cl.ext2 (by assumption) (by first | assumption | exact Cl.ext2 (by assumption) (by first | assumption | exact Cl.ext2 (by assumption) (by first | assumption | exact Cl.ext2 (by assumption) (by first | assumption | exact Cl.ext2 (by assumption) (by assumption))))))))))) (by kernel_rfl)) ?_)
    | (refine And.intro (ldS (by first | assumption | exact Cl.ext2 (by assumption) (by first | assumption | exact Cl.ext2 (by assumption) (by first | assumption | exact Cl.ext2 (by assumption) (by first | assumption | exact Cl.ext2 (by assumption) (by first | assumption | exact Cl.ext2 (by assumption) (by first | assumption | exact Cl.ext2 (by assumption) (by first | assumption | exact Cl.ext2 (by assumption) (by first | assumption | exact Cl.ext2 (by assumption) (by first | assumption | exact Cl.ext2 (by assumption) (by assumption)))))))))) (by kernel_rfl)) ?_)
    | (refine And.intro (ldS (Cl.sl (by first | assumption | exact Cl.ext2 (by assumption) (by first | assumption | exact Cl.ext2 (by assumption) (by first | assumption | exact Cl.ext2 (by assumption) (by first | assumption | exact Cl.ext2 (by assumption) (by first | assumption | exact Cl.ext2 (by assumption) (by first | assumption | exact Cl.ext2 (by assumption) (by first | assumption | exact Cl.ext2 (by assumption) (by first | assumption | exact Cl.ext2 (by assumption) (by first | assumption | exact Cl.ext2 (by assumption) (by assumption)))))))))) rfl) (by kernel_rfl)) ?_)
    | (apply Exists.intro))
  all_goals (simp_all [spanCheck] <;> omega)
theorem mask_Check_s (a l : Int) {h : Hp} {K : Value → Hp → Prop} (H : ∀ v h', Ext h h' → v = maskCheck a l → K (.int .i64 v) h') : CallsH Tryz.prog 80 #[.agg #[.int .u8 a, .int .u8 l]] h K := by
  refine mask_Check_ok a l ?_
  unfold mask_Check
  repeat' (first
    | (refine H _ _ (by first | first | assumption | exact Ext.refl _ | exact Ext.trans2 (by assumption) (by first | first | assumption | exact Ext.refl _ | exact Ext.trans2 (by assumption) (by first | first | assumption | exact Ext.refl _ | exact Ext.trans2 (by assumption) (by first | first | assumption | exact Ext.refl _ | exact Ext.trans2 (by assumption) (by first | first | assumption | exact Ext.refl _ | exact Ext.trans2 (by assumption) (by first | first | assumption | exact Ext.refl _ | exact Ext.trans2 (by assumption) (by first | first | assumption | exact Ext.refl _ | exact Ext.trans2 (by assumption) (by first | first | assumption | exact Ext.refl _ | exact Ext.trans2 (by assumption) (by first | first | assumption | exact Ext.refl _ | exact Ext.trans2 (by assumption) (by first | assumption | exact Ext.refl _)))))))))) ?_)
    | (refine newC_i fun _ _ _ _ _ => ?_)
    | (refine br_i (fun _ => ?_) (fun _ => ?_))
    | (refine And.intro rfl ?_)
    | (refine And.intro (ld (Cl.at_ (by first | assumption | exact Cl.ext2 (by assumption) (by first | assumption | exact Cl.ext2 (by assumption) (by first | assumption | exact Cl.ext2 (by assumption) (by first | assumption | exact Cl.ext2 (by assumption) (by first | assumption | exact Cl.ext2 (by assumption) (by first | assumption | exact Cl.ext2 (by assumption) (by first | assumption | exact Cl.ext2 (by assumption) (by first | assumption | exact Cl.ext2 (by assumption) (by first | assumption | exact Cl.ext2 (by assumption) (by assumption)))))))))) _ _ rfl) (by kernel_rfl)) ?_)
    | (refine And.intro (ld (Cl.head (by first | assumption | exact Cl.ext2 (by assumption) (by first | assumption | exact Cl.ext2 (by assumption) (by first | assumption | exact Cl.ext2 (by assumption) (by first | assumption | exact Cl.ext2 (by assumption) (by first | assumption | exact Cl.ext2 (by assumption) (by first | assumption | exact Cl.ext2 (by assumption) (by first | assumption | exact Cl.ext2 (by assumption) (by first | assumption | exact Cl.ext2 (by assumption) (by first | assumption | exact Cl.ext2 (by assumption) (by assumption))))))))))) (by kernel_rfl)) ?_)
    | (refine And.intro (ldS (by first | assumption | exact Cl.ext2 (by assumption) (by first | assumption | exact Cl.ext2 (by assumption) (by first | assumption | exact Cl.ext2 (by assumption) (by first | assumption | exact Cl.ext2 (by assumption) (by first | assumption | exact Cl.ext2 (by assumption) (by first | assumption | exact Cl.ext2 (by assumption) (by first | assumption | exact Cl.ext2 (by assumption) (by first | assumption | exact Cl.ext2 (by assumption) (by first | assumption | exact Cl.ext2 (by assumption) (by assumption)))))))))) (by kernel_rfl)) ?_)
    | (refine And.intro (ldS (Cl.sl (by first | assumption | exact Cl.ext2 (by assumption) (by first | assumption | exact Cl.ext2 (by assumption) (by first | assumption | exact Cl.ext2 (by assumption) (by first | assumption | exact Cl.ext2 (by assumption) (by first | assumption | exact Cl.ext2 (by assumption) (by first | assumption | exact Cl.ext2 (by assumption) (by first | assumption | exact Cl.ext2 (by assumption) (by first | assumption | exact Cl.ext2 (by assumption) (by first | assumption | exact Cl.ext2 (by assumption) (by assumption)))))))))) rfl) (by kernel_rfl)) ?_)
    | (apply Exists.intro))
  all_goals (simp_all [maskCheck])
def prefixHas (a l x : Int) : Bool := prefixCheck a l == 0 && bAnd .u32 x (careV l) == a
def spanHas (lo hi x : Int) : Bool := decide (x ≥ lo) && decide (x ≤ hi)
def maskHas (v c x : Int) : Bool := bAnd .u8 x c == v
theorem prefixCheck_len {a l : Int} (h : prefixCheck a l = 0) : 0 ≤ l ∧ l ≤ 32 := by
  unfold prefixCheck at h
  split at h
  · cases h
  · split at h
    · cases h
    · omega
theorem prefix_Has_s (a l x : Int) {h : Hp} {K : Value → Hp → Prop} (H : ∀ v h', Ext h h' → v = prefixHas a l x → K (.bool v) h') : CallsH Tryz.prog 82 #[.agg #[.int .u32 a, .int .i64 l], .int .u32 x] h K := by
  refine prefix_Has_ok a l x ?_
  unfold prefix_Has
  repeat' (first
    | (refine prefix_Check_s _ _ (fun _ _ _ _ => ?_))
    | (refine prefix_care_s _ ?_ ?_ (fun _ _ => ?_))
    | (refine H _ _ (by first | first | assumption | exact Ext.refl _ | exact Ext.trans2 (by assumption) (by first | first | assumption | exact Ext.refl _ | exact Ext.trans2 (by assumption) (by first | first | assumption | exact Ext.refl _ | exact Ext.trans2 (by assumption) (by first | first | assumption | exact Ext.refl _ | exact Ext.trans2 (by assumption) (by first | first | assumption | exact Ext.refl _ | exact Ext.trans2 (by assumption) (by first | first | assumption | exact Ext.refl _ | exact Ext.trans2 (by assumption) (by first | first | assumption | exact Ext.refl _ | exact Ext.trans2 (by assumption) (by first | first | assumption | exact Ext.refl _ | exact Ext.trans2 (by assumption) (by first | first | assumption | exact Ext.refl _ | exact Ext.trans2 (by assumption) (by first | assumption | exact Ext.refl _)))))))))) ?_)
    | (refine newC_i fun _ _ _ _ _ => ?_)
    | (refine br_i (fun _ => ?_) (fun _ => ?_))
    | (refine And.intro rfl ?_)
    | (refine And.intro (ld (Cl.at_ (by first | assumption | exact Cl.ext2 (by assumption) (by first | assumption | exact Cl.ext2 (by assumption) (by first | assumption | exact Cl.ext2 (by assumption) (by first | assumption | exact Cl.ext2 (by assumption) (by first | assumption | exact Cl.ext2 (by assumption) (by first | assumption | exact Cl.ext2 (by assumption) (by first | assumption | exact Cl.ext2 (by assumption) (by first | assumption | exact Cl.ext2 (by assumption) (by first | assumption | exact Cl.ext2 (by assumption) (by assumption)))))))))) _ _ rfl) (by kernel_rfl)) ?_)
    | (refine And.intro (ld (Cl.head (by first | assumption | exact Cl.ext2 (by assumption) (by first | assumption | exact Cl.ext2 (by assumption) (by first | assumption | exact Cl.ext2 (by assumption) (by first | assumption | exact Cl.ext2 (by assumption) (by first | assumption | exact Cl.ext2 (by assumption) (by first | assumption | exact Cl.ext2 (by assumption) (by first | assumption | exact Cl.ext2 (by assumption) (by first | assumption | exact Cl.ext2 (by assumption) (by first | assumption | exact Cl.ext2 (by assumption) (by assumption))))))))))) (by kernel_rfl)) ?_)
    | (refine And.intro (ldS (by first | assumption | exact Cl.ext2 (by assumption) (by first | assumption | exact Cl.ext2 (by assumption) (by first | assumption | exact Cl.ext2 (by assumption) (by first | assumption | exact Cl.ext2 (by assumption) (by first | assumption | exact Cl.ext2 (by assumption) (by first | assumption | exact Cl.ext2 (by assumption) (by first | assumption | exact Cl.ext2 (by assumption) (by first | assumption | exact Cl.ext2 (by assumption) (by first | assumption | exact Cl.ext2 (by assumption) (by assumption)))))))))) (by kernel_rfl)) ?_)
    | (refine And.intro (ldS (Cl.sl (by first | assumption | exact Cl.ext2 (by assumption) (by first | assumption | exact Cl.ext2 (by assumption) (by first | assumption | exact Cl.ext2 (by assumption) (by first | assumption | exact Cl.ext2 (by assumption) (by first | assumption | exact Cl.ext2 (by assumption) (by first | assumption | exact Cl.ext2 (by assumption) (by first | assumption | exact Cl.ext2 (by assumption) (by first | assumption | exact Cl.ext2 (by assumption) (by first | assumption | exact Cl.ext2 (by assumption) (by assumption)))))))))) rfl) (by kernel_rfl)) ?_)
    | (apply Exists.intro))
  all_goals (simp_all [prefixHas])
  all_goals (rename_i hp; have := prefixCheck_len hp; omega)
theorem sp_Has_s (a l x : Int) {h : Hp} {K : Value → Hp → Prop} (H : ∀ v h', Ext h h' → v = spanHas a l x → K (.bool v) h') : CallsH Tryz.prog 83 #[.agg #[.int .u16 a, .int .u16 l], .int .u16 x] h K := by
  refine span_Has_ok a l x ?_
  unfold span_Has
  repeat' (first
    | (refine H _ _ (by first | first | assumption | exact Ext.refl _ | exact Ext.trans2 (by assumption) (by first | first | assumption | exact Ext.refl _ | exact Ext.trans2 (by assumption) (by first | first | assumption | exact Ext.refl _ | exact Ext.trans2 (by assumption) (by first | first | assumption | exact Ext.refl _ | exact Ext.trans2 (by assumption) (by first | first | assumption | exact Ext.refl _ | exact Ext.trans2 (by assumption) (by first | first | assumption | exact Ext.refl _ | exact Ext.trans2 (by assumption) (by first | first | assumption | exact Ext.refl _ | exact Ext.trans2 (by assumption) (by first | first | assumption | exact Ext.refl _ | exact Ext.trans2 (by assumption) (by first | first | assumption | exact Ext.refl _ | exact Ext.trans2 (by assumption) (by first | assumption | exact Ext.refl _)))))))))) ?_)
    | (refine newC_i fun _ _ _ _ _ => ?_)
    | (refine br_i (fun _ => ?_) (fun _ => ?_))
    | (refine And.intro rfl ?_)
    | (refine And.intro (ld (Cl.at_ (by first | assumption | exact Cl.ext2 (by assumption) (by first | assumption | exact Cl.ext2 (by assumption) (by first | assumption | exact Cl.ext2 (by assumption) (by first | assumption | exact Cl.ext2 (by assumption) (by first | assumption | exact Cl.ext2 (by assumption) (by first | assumption | exact Cl.ext2 (by assumption) (by first | assumption | exact Cl.ext2 (by assumption) (by first | assumption | exact Cl.ext2 (by assumption) (by first | assumption | exact Cl.ext2 (by assumption) (by assumption)))))))))) _ _ rfl) (by kernel_rfl)) ?_)
    | (refine And.intro (ld (Cl.head (by first | assumption | exact Cl.ext2 (by assumption) (by first | assumption | exact Cl.ext2 (by assumption) (by first | assumption | exact Cl.ext2 (by assumption) (by first | assumption | exact Cl.ext2 (by assumption) (by first | assumption | exact Cl.ext2 (by assumption) (by first | assumption | exact Cl.ext2 (by assumption) (by first | assumption | exact Cl.ext2 (by assumption) (by first | assumption | exact Cl.ext2 (by assumption) (by first | assumption | exact Cl.ext2 (by assumption) (by assumption))))))))))) (by kernel_rfl)) ?_)
    | (refine And.intro (ldS (by first | assumption | exact Cl.ext2 (by assumption) (by first | assumption | exact Cl.ext2 (by assumption) (by first | assumption | exact Cl.ext2 (by assumption) (by first | assumption | exact Cl.ext2 (by assumption) (by first | assumption | exact Cl.ext2 (by assumption) (by first | assumption | exact Cl.ext2 (by assumption) (by first | assumption | exact Cl.ext2 (by assumption) (by first | assumption | exact Cl.ext2 (by assumption) (by first | assumption | exact Cl.ext2 (by assumption) (by assumption)))))))))) (by kernel_rfl)) ?_)
    | (refine And.intro (ldS (Cl.sl (by first | assumption | exact Cl.ext2 (by assumption) (by first | assumption | exact Cl.ext2 (by assumption) (by first | assumption | exact Cl.ext2 (by assumption) (by first | assumption | exact Cl.ext2 (by assumption) (by first | assumption | exact Cl.ext2 (by assumption) (by first | assumption | exact Cl.ext2 (by assumption) (by first | assumption | exact Cl.ext2 (by assumption) (by first | assumption | exact Cl.ext2 (by assumption) (by first | assumption | exact Cl.ext2 (by assumption) (by assumption)))))))))) rfl) (by kernel_rfl)) ?_)
    | (apply Exists.intro))
  all_goals (simp_all [spanHas])
  all_goals omega
theorem mask_Has_s (a l x : Int) {h : Hp} {K : Value → Hp → Prop} (H : ∀ v h', Ext h h' → v = maskHas a l x → K (.bool v) h') : CallsH Tryz.prog 84 #[.agg #[.int .u8 a, .int .u8 l], .int .u8 x] h K := by
  refine mask_Has_ok a l x ?_
  unfold mask_Has
  repeat' (first
    | (refine H _ _ (by first | first | assumption | exact Ext.refl _ | exact Ext.trans2 (by assumption) (by first | first | assumption | exact Ext.refl _ | exact Ext.trans2 (by assumption) (by first | first | assumption | exact Ext.refl _ | exact Ext.trans2 (by assumption) (by first | first | assumption | exact Ext.refl _ | exact Ext.trans2 (by assumption) (by first | first | assumption | exact Ext.refl _ | exact Ext.trans2 (by assumption) (by first | first | assumption | exact Ext.refl _ | exact Ext.trans2 (by assumption) (by first | first | assumption | exact Ext.refl _ | exact Ext.trans2 (by assumption) (by first | first | assumption | exact Ext.refl _ | exact Ext.trans2 (by assumption) (by first | first | assumption | exact Ext.refl _ | exact Ext.trans2 (by assumption) (by first | assumption | exact Ext.refl _)))))))))) ?_)
    | (refine newC_i fun _ _ _ _ _ => ?_)
    | (refine br_i (fun _ => ?_) (fun _ => ?_))
    | (refine And.intro rfl ?_)
    | (refine And.intro (ld (Cl.at_ (by first | assumption | exact Cl.ext2 (by assumption) (by first | assumption | exact Cl.ext2 (by assumption) (by first | assumption | exact Cl.ext2 (by assumption) (by first | assumption | exact Cl.ext2 (by assumption) (by first | assumption | exact Cl.ext2 (by assumption) (by first | assumption | exact Cl.ext2 (by assumption) (by first | assumption | exact Cl.ext2 (by assumption) (by first | assumption | exact Cl.ext2 (by assumption) (by first | assumption | exact Cl.ext2 (by assumption) (by assumption)))))))))) _ _ rfl) (by kernel_rfl)) ?_)
    | (refine And.intro (ld (Cl.head (by first | assumption | exact Cl.ext2 (by assumption) (by first | assumption | exact Cl.ext2 (by assumption) (by first | assumption | exact Cl.ext2 (by assumption) (by first | assumption | exact Cl.ext2 (by assumption) (by first | assumption | exact Cl.ext2 (by assumption) (by first | assumption | exact Cl.ext2 (by assumption) (by first | assumption | exact Cl.ext2 (by assumption) (by first | assumption | exact Cl.ext2 (by assumption) (by first | assumption | exact Cl.ext2 (by assumption) (by assumption))))))))))) (by kernel_rfl)) ?_)
    | (refine And.intro (ldS (by first | assumption | exact Cl.ext2 (by assumption) (by first | assumption | exact Cl.ext2 (by assumption) (by first | assumption | exact Cl.ext2 (by assumption) (by first | assumption | exact Cl.ext2 (by assumption) (by first | assumption | exact Cl.ext2 (by assumption) (by first | assumption | exact Cl.ext2 (by assumption) (by first | assumption | exact Cl.ext2 (by assumption) (by first | assumption | exact Cl.ext2 (by assumption) (by first | assumption | exact Cl.ext2 (by assumption) (by assumption)))))))))) (by kernel_rfl)) ?_)
    | (refine And.intro (ldS (Cl.sl (by first | assumption | exact Cl.ext2 (by assumption) (by first | assumption | exact Cl.ext2 (by assumption) (by first | assumption | exact Cl.ext2 (by assumption) (by first | assumption | exact Cl.ext2 (by assumption) (by first | assumption | exact Cl.ext2 (by assumption) (by first | assumption | exact Cl.ext2 (by assumption) (by first | assumption | exact Cl.ext2 (by assumption) (by first | assumption | exact Cl.ext2 (by assumption) (by first | assumption | exact Cl.ext2 (by assumption) (by assumption)))))))))) rfl) (by kernel_rfl)) ?_)
    | (apply Exists.intro))
  all_goals (simp_all [maskHas])
/-- A rule. -/
structure Rul where
  id : Int
  sA : Int
  sL : Int
  dA : Int
  dL : Int
  s0 : Int
  s1 : Int
  d0 : Int
  d1 : Int
  pV : Int
  pC : Int
  act : Int
  deriving DecidableEq
def Rul.enc (r : Rul) : List Value := [.int .i64 r.id, .int .u32 r.sA, .int .i64 r.sL, .int .u32 r.dA, .int .i64 r.dL, .int .u16 r.s0, .int .u16 r.s1, .int .u16 r.d0, .int .u16 r.d1, .int .u8 r.pV, .int .u8 r.pC, .int .i64 r.act]
def Rul.val (r : Rul) : Value := .agg #[.int .i64 r.id, .int .u32 r.sA, .int .i64 r.sL, .int .u32 r.dA, .int .i64 r.dL, .int .u16 r.s0, .int .u16 r.s1, .int .u16 r.d0, .int .u16 r.d1, .int .u8 r.pV, .int .u8 r.pC, .int .i64 r.act]
theorem Rul.enc_len (r : Rul) : r.enc.length = 12 := rfl
def Rul.parts (r : Rul) : List Int := [prefixCheck r.sA r.sL, prefixCheck r.dA r.dL, spanCheck r.s0 r.s1, spanCheck r.d0 r.d1, maskCheck r.pV r.pC]
def firstBad : List Int → Int → Option (Int × Int)
  | [], _ => none
  | e :: es, i => if e ≠ 0 then some (e, i + 2) else firstBad es (i + 1)
def Rul.act0 (r : Rul) : Int × Int := if r.act = 1 ∨ r.act = 2 ∨ r.act = 3 ∨ r.act = 4 then (0, 0) else (81, 7)
def Rul.check2 (r : Rul) : Int × Int := (firstBad r.parts 0).getD r.act0
def Rul.check (r : Rul) : Int × Int := if r.id < 1 ∨ r.id > 999999 then (80, 1) else r.check2
theorem check_l3 (a89 : Addr) (K0 : Int → Int → Hp → Prop) (K1 : Addr → Hp → Prop) (h : Hp) (x0 x1 x2 x3 x4 : Int) (r : Option (Int × Int))
    (H0 : ∀ e i, r = some (e, i) → K0 e i h) (H1 : r = none → K1 a89 h) : ∀ (n k : Nat), n ≤ 5 → 5 - n < k → r = firstBad ([x0, x1, x2, x3, x4].drop n) n → rule_Check_l3 a89 x0 x1 x2 x3 x4 K0 K1 k n h := by
  intro n k
  induction k generalizing n with
  | zero => intro _ h; omega
  | succ k ih =>
    intro hn hk hr
    unfold rule_Check_l3
    refine br_i (fun c => ?_) (fun c => ?_)
    · have hlt : n < 5 := by simp at c; omega
      have hget : ∃ x, [x0, x1, x2, x3, x4][n]? = some x := ⟨[x0, x1, x2, x3, x4][n]'(by simpa using hlt), by simp [hlt]⟩
      obtain ⟨x, hx⟩ := hget
      refine ⟨x, ?_, ?_⟩
      · intro w
        have : n = 0 ∨ n = 1 ∨ n = 2 ∨ n = 3 ∨ n = 4 := by omega
        rcases this with rfl | rfl | rfl | rfl | rfl <;> simp at hx <;> subst hx <;> exact pureRun_run Tryz.prog _ _ (by kernel_rfl) w
      · have hd : [x0, x1, x2, x3, x4].drop n = x :: [x0, x1, x2, x3, x4].drop (n + 1) := by
          rw [List.drop_eq_getElem_cons (by simpa using hlt)]
          congr 1
          rw [List.getElem?_eq_getElem (by simpa using hlt)] at hx
          exact Option.some.inj hx
        rw [hd] at hr
        refine br_i (fun c => ?_) (fun c => ?_)
        · rw [wrap_in (by omega) (by omega)]
          refine H0 _ _ ?_
          rw [hr, firstBad, if_pos (by simpa using c)]
        · rw [wrap_in (by omega) (by omega)]
          have : x = 0 := by simpa using c
          rw [firstBad, if_neg (by simp [this])] at hr
          exact ih (n + 1) (by omega) (by omega) (by rw [hr]; simp)
    · have hn5 : n = 5 := by simp at c; omega
      subst hn5
      exact H1 (by rw [hr]; rfl)
theorem rule_Check_s (r : Rul) {h : Hp} {K : Value → Hp → Prop} (H : ∀ e i h', Ext h h' → (e, i) = r.check → K (.tuple #[.int .i64 e, .int .i64 i]) h') : CallsH Tryz.prog 59 #[r.val] h K := by
  refine rule_Check_ok _ _ _ _ _ _ _ _ _ _ _ _ ?_
  unfold rule_Check rule_Check_j2
  repeat' (first
    | (refine prefix_Check_s _ _ (fun _ _ _ _ => ?_))
    | (refine sp_Check_s _ _ (fun _ _ _ _ => ?_))
    | (refine mask_Check_s _ _ (fun _ _ _ _ => ?_))
    | (refine H _ _ _ (by first | first | assumption | exact Ext.refl _ | exact Ext.trans2 (by assumption) (by first | first | assumption | exact Ext.refl _ | exact Ext.trans2 (by assumption) (by first | first | assumption | exact Ext.refl _ | exact Ext.trans2 (by assumption) (by first | first | assumption | exact Ext.refl _ | exact Ext.trans2 (by assumption) (by first | first | assumption | exact Ext.refl _ | exact Ext.trans2 (by assumption) (by first | first | assumption | exact Ext.refl _ | exact Ext.trans2 (by assumption) (by first | first | assumption | exact Ext.refl _ | exact Ext.trans2 (by assumption) (by first | first | assumption | exact Ext.refl _ | exact Ext.trans2 (by assumption) (by first | first | assumption | exact Ext.refl _ | exact Ext.trans2 (by assumption) (by first | assumption | exact Ext.refl _)))))))))) ?_)
    | (refine check_l3 _ _ _ _ _ _ _ _ _ (firstBad r.parts 0) ?_ ?_ 0 6 (by omega) (by omega) ?_)
    | (intro _ _ _)
    | (intro _)
    | (refine newC_i fun _ _ _ _ _ => ?_)
    | (refine br_i (fun _ => ?_) (fun _ => ?_))
    | (refine And.intro rfl ?_)
    | (refine And.intro (ld (Cl.at_ (by first | assumption | exact Cl.ext2 (by assumption) (by first | assumption | exact Cl.ext2 (by assumption) (by first | assumption | exact Cl.ext2 (by assumption) (by first | assumption | exact Cl.ext2 (by assumption) (by first | assumption | exact Cl.ext2 (by assumption) (by first | assumption | exact Cl.ext2 (by assumption) (by first | assumption | exact Cl.ext2 (by assumption) (by first | assumption | exact Cl.ext2 (by assumption) (by first | assumption | exact Cl.ext2 (by assumption) (by assumption)))))))))) _ _ rfl) (by kernel_rfl)) ?_)
    | (refine And.intro (ld (Cl.head (by first | assumption | exact Cl.ext2 (by assumption) (by first | assumption | exact Cl.ext2 (by assumption) (by first | assumption | exact Cl.ext2 (by assumption) (by first | assumption | exact Cl.ext2 (by assumption) (by first | assumption | exact Cl.ext2 (by assumption) (by first | assumption | exact Cl.ext2 (by assumption) (by first | assumption | exact Cl.ext2 (by assumption) (by first | assumption | exact Cl.ext2 (by assumption) (by first | assumption | exact Cl.ext2 (by assumption) (by assumption))))))))))) (by kernel_rfl)) ?_)
    | (refine And.intro (ldS (by first | assumption | exact Cl.ext2 (by assumption) (by first | assumption | exact Cl.ext2 (by assumption) (by first | assumption | exact Cl.ext2 (by assumption) (by first | assumption | exact Cl.ext2 (by assumption) (by first | assumption | exact Cl.ext2 (by assumption) (by first | assumption | exact Cl.ext2 (by assumption) (by first | assumption | exact Cl.ext2 (by assumption) (by first | assumption | exact Cl.ext2 (by assumption) (by first | assumption | exact Cl.ext2 (by assumption) (by assumption)))))))))) (by kernel_rfl)) ?_)
    | (refine And.intro (ldS (Cl.sl (by first | assumption | exact Cl.ext2 (by assumption) (by first | assumption | exact Cl.ext2 (by assumption) (by first | assumption | exact Cl.ext2 (by assumption) (by first | assumption | exact Cl.ext2 (by assumption) (by first | assumption | exact Cl.ext2 (by assumption) (by first | assumption | exact Cl.ext2 (by assumption) (by first | assumption | exact Cl.ext2 (by assumption) (by first | assumption | exact Cl.ext2 (by assumption) (by first | assumption | exact Cl.ext2 (by assumption) (by assumption)))))))))) rfl) (by kernel_rfl)) ?_)
    | (apply Exists.intro))
  all_goals (simp_all [Rul.check, Rul.check2, Rul.act0, Rul.parts])
  all_goals (intro hc; omega)
theorem rule_may_s (r : Rul) {h : Hp} {K : Value → Hp → Prop} (H : ∀ v h', Ext h h' → v = (r.check.1 == 0) → K (.bool v) h') : CallsH Tryz.prog 81 #[r.val] h K := by
  refine rule_may_ok _ _ _ _ _ _ _ _ _ _ _ _ ?_
  unfold rule_may
  repeat' (first
    | (refine rule_Check_s r (fun _ _ _ _ _ => ?_))
    | (refine H _ _ (by first | first | assumption | exact Ext.refl _ | exact Ext.trans2 (by assumption) (by first | first | assumption | exact Ext.refl _ | exact Ext.trans2 (by assumption) (by first | first | assumption | exact Ext.refl _ | exact Ext.trans2 (by assumption) (by first | first | assumption | exact Ext.refl _ | exact Ext.trans2 (by assumption) (by first | first | assumption | exact Ext.refl _ | exact Ext.trans2 (by assumption) (by first | first | assumption | exact Ext.refl _ | exact Ext.trans2 (by assumption) (by first | first | assumption | exact Ext.refl _ | exact Ext.trans2 (by assumption) (by first | first | assumption | exact Ext.refl _ | exact Ext.trans2 (by assumption) (by first | first | assumption | exact Ext.refl _ | exact Ext.trans2 (by assumption) (by first | assumption | exact Ext.refl _)))))))))) ?_)
    | (refine newC_i fun _ _ _ _ _ => ?_)
    | (refine br_i (fun _ => ?_) (fun _ => ?_))
    | (refine And.intro rfl ?_)
    | (refine And.intro (ld (Cl.at_ (by first | assumption | exact Cl.ext2 (by assumption) (by first | assumption | exact Cl.ext2 (by assumption) (by first | assumption | exact Cl.ext2 (by assumption) (by first | assumption | exact Cl.ext2 (by assumption) (by first | assumption | exact Cl.ext2 (by assumption) (by first | assumption | exact Cl.ext2 (by assumption) (by first | assumption | exact Cl.ext2 (by assumption) (by first | assumption | exact Cl.ext2 (by assumption) (by first | assumption | exact Cl.ext2 (by assumption) (by assumption)))))))))) _ _ rfl) (by kernel_rfl)) ?_)
    | (refine And.intro (ld (Cl.head (by first | assumption | exact Cl.ext2 (by assumption) (by first | assumption | exact Cl.ext2 (by assumption) (by first | assumption | exact Cl.ext2 (by assumption) (by first | assumption | exact Cl.ext2 (by assumption) (by first | assumption | exact Cl.ext2 (by assumption) (by first | assumption | exact Cl.ext2 (by assumption) (by first | assumption | exact Cl.ext2 (by assumption) (by first | assumption | exact Cl.ext2 (by assumption) (by first | assumption | exact Cl.ext2 (by assumption) (by assumption))))))))))) (by kernel_rfl)) ?_)
    | (refine And.intro (ldS (by first | assumption | exact Cl.ext2 (by assumption) (by first | assumption | exact Cl.ext2 (by assumption) (by first | assumption | exact Cl.ext2 (by assumption) (by first | assumption | exact Cl.ext2 (by assumption) (by first | assumption | exact Cl.ext2 (by assumption) (by first | assumption | exact Cl.ext2 (by assumption) (by first | assumption | exact Cl.ext2 (by assumption) (by first | assumption | exact Cl.ext2 (by assumption) (by first | assumption | exact Cl.ext2 (by assumption) (by assumption)))))))))) (by kernel_rfl)) ?_)
    | (refine And.intro (ldS (Cl.sl (by first | assumption | exact Cl.ext2 (by assumption) (by first | assumption | exact Cl.ext2 (by assumption) (by first | assumption | exact Cl.ext2 (by assumption) (by first | assumption | exact Cl.ext2 (by assumption) (by first | assumption | exact Cl.ext2 (by assumption) (by first | assumption | exact Cl.ext2 (by assumption) (by first | assumption | exact Cl.ext2 (by assumption) (by first | assumption | exact Cl.ext2 (by assumption) (by first | assumption | exact Cl.ext2 (by assumption) (by assumption)))))))))) rfl) (by kernel_rfl)) ?_)
    | (apply Exists.intro))
  rename_i he
  rw [← he]
/-- A header. -/
structure Hdr where
  src : Int
  dst : Int
  sp : Int
  dp : Int
  pr : Int
  deriving DecidableEq
def Hdr.val (g : Hdr) : Value := .agg #[.int .u32 g.src, .int .u32 g.dst, .int .u16 g.sp, .int .u16 g.dp, .int .u8 g.pr]
def Hdr.enc (g : Hdr) : List Value := [.int .u32 g.src, .int .u32 g.dst, .int .u16 g.sp, .int .u16 g.dp, .int .u8 g.pr]
def Rul.has (r : Rul) (g : Hdr) : Bool := (r.check.1 == 0) && prefixHas r.sA r.sL g.src && prefixHas r.dA r.dL g.dst && spanHas r.s0 r.s1 g.sp && spanHas r.d0 r.d1 g.dp && maskHas r.pV r.pC g.pr
theorem rule_Match_s (r : Rul) (g : Hdr) {h : Hp} {K : Value → Hp → Prop} (H : ∀ v h', Ext h h' → v = r.has g → K (.bool v) h') : CallsH Tryz.prog 62 #[r.val, g.val] h K := by
  refine rule_Match_ok _ _ _ _ _ _ _ _ _ _ _ _ _ _ _ _ _ ?_
  unfold rule_Match
  repeat' (first
    | (refine rule_may_s r (fun _ _ _ _ => ?_))
    | (refine prefix_Has_s _ _ _ (fun _ _ _ _ => ?_))
    | (refine sp_Has_s _ _ _ (fun _ _ _ _ => ?_))
    | (refine mask_Has_s _ _ _ (fun _ _ _ _ => ?_))
    | (refine H _ _ (by first | first | assumption | exact Ext.refl _ | exact Ext.trans2 (by assumption) (by first | first | assumption | exact Ext.refl _ | exact Ext.trans2 (by assumption) (by first | first | assumption | exact Ext.refl _ | exact Ext.trans2 (by assumption) (by first | first | assumption | exact Ext.refl _ | exact Ext.trans2 (by assumption) (by first | first | assumption | exact Ext.refl _ | exact Ext.trans2 (by assumption) (by first | first | assumption | exact Ext.refl _ | exact Ext.trans2 (by assumption) (by first | first | assumption | exact Ext.refl _ | exact Ext.trans2 (by assumption) (by first | first | assumption | exact Ext.refl _ | exact Ext.trans2 (by assumption) (by first | first | assumption | exact Ext.refl _ | exact Ext.trans2 (by assumption) (by first | assumption | exact Ext.refl _)))))))))) ?_)
    | (refine newC_i fun _ _ _ _ _ => ?_)
    | (refine br_i (fun _ => ?_) (fun _ => ?_))
    | (refine And.intro rfl ?_)
    | (refine And.intro (ld (Cl.at_ (by first | assumption | exact Cl.ext2 (by assumption) (by first | assumption | exact Cl.ext2 (by assumption) (by first | assumption | exact Cl.ext2 (by assumption) (by first | assumption | exact Cl.ext2 (by assumption) (by first | assumption | exact Cl.ext2 (by assumption) (by first | assumption | exact Cl.ext2 (by assumption) (by first | assumption | exact Cl.ext2 (by assumption) (by first | assumption | exact Cl.ext2 (by assumption) (by first | assumption | exact Cl.ext2 (by assumption) (by assumption)))))))))) _ _ rfl) (by kernel_rfl)) ?_)
    | (refine And.intro (ld (Cl.head (by first | assumption | exact Cl.ext2 (by assumption) (by first | assumption | exact Cl.ext2 (by assumption) (by first | assumption | exact Cl.ext2 (by assumption) (by first | assumption | exact Cl.ext2 (by assumption) (by first | assumption | exact Cl.ext2 (by assumption) (by first | assumption | exact Cl.ext2 (by assumption) (by first | assumption | exact Cl.ext2 (by assumption) (by first | assumption | exact Cl.ext2 (by assumption) (by first | assumption | exact Cl.ext2 (by assumption) (by assumption))))))))))) (by kernel_rfl)) ?_)
    | (refine And.intro (ldS (by first | assumption | exact Cl.ext2 (by assumption) (by first | assumption | exact Cl.ext2 (by assumption) (by first | assumption | exact Cl.ext2 (by assumption) (by first | assumption | exact Cl.ext2 (by assumption) (by first | assumption | exact Cl.ext2 (by assumption) (by first | assumption | exact Cl.ext2 (by assumption) (by first | assumption | exact Cl.ext2 (by assumption) (by first | assumption | exact Cl.ext2 (by assumption) (by first | assumption | exact Cl.ext2 (by assumption) (by assumption)))))))))) (by kernel_rfl)) ?_)
    | (refine And.intro (ldS (Cl.sl (by first | assumption | exact Cl.ext2 (by assumption) (by first | assumption | exact Cl.ext2 (by assumption) (by first | assumption | exact Cl.ext2 (by assumption) (by first | assumption | exact Cl.ext2 (by assumption) (by first | assumption | exact Cl.ext2 (by assumption) (by first | assumption | exact Cl.ext2 (by assumption) (by first | assumption | exact Cl.ext2 (by assumption) (by first | assumption | exact Cl.ext2 (by assumption) (by first | assumption | exact Cl.ext2 (by assumption) (by assumption)))))))))) rfl) (by kernel_rfl)) ?_)
    | (apply Exists.intro))
  all_goals (simp_all [Rul.has])
end Go.Proofs.YtfdpccbajaiepaaGreatDoor.Fs

/- The reader: a token is noted among the beginnings; a field is stored. -/
namespace Go.Proofs.YtfdpccbajaiepaaGreatDoor.Lx
open Go Go.RowKit Go.Proofs.YtfdpccbajaiepaaGreatDoor.Sx Go.Proofs.YtfdpccbajaiepaaGreatDoor.Sxp Go.Proofs.YtfdpccbajaiepaaGreatDoor.Sxp.Fx Go.Proofs.YtfdpccbajaiepaaGreatDoor.Fs
set_option linter.unusedVariables false
set_option linter.unusedSimpArgs false
set_option maxRecDepth 10000
theorem HU_at {P : Program} {t : TypeId} {b o : Nat} {T : TypeId} {cs us cs' : List Value} {v : Value} {h : Hp} {K : Hp → Prop} (hb : h[b]? = some (.cells cs.toArray T (0, 0))) (hv : v.cells = us.toArray) (hsz : (P.info? t).map (·.size) = some us.length)
    (hl : o + us.length ≤ cs.length) (hf : us.all flatV = true) (hcs : cs.take o ++ us ++ cs.drop (o + us.length) = cs') (H : ∀ h', h'[b]? = some (.cells cs'.toArray T (0, 0)) → Fr (fun k => k = b) h h' → h'.size = h.size → K h') :
    HU P (Instr.storeAt t (.pointer (some ⟨b, o, none⟩)) v) h K := by
  refine HU_st hb hv hsz hl hf ?_
  rw [hcs]
  exact H _ (setB_get (lt_of_get hb)) (setB_fr rfl) setB_size
theorem flat_set {α : Type} {enc : α → List Value} {sz : Nat} (he : ∀ x, (enc x).length = sz) (t : α) : ∀ (xs : List α) (i : Nat), i < xs.length →
    (xs.flatMap enc).take (i * sz) ++ enc t ++ (xs.flatMap enc).drop (i * sz + (enc t).length) = (xs.set i t).flatMap enc := by
  intro xs
  induction xs with
  | nil => intro i hi; simp at hi
  | cons x xs ih =>
    intro i hi
    cases i with
    | zero =>
      rw [List.set_cons_zero, List.flatMap_cons, List.flatMap_cons, Nat.zero_mul, Nat.zero_add, he, ← he x, List.drop_left]
      simp
    | succ i =>
      have := ih i (by simpa using hi)
      rw [List.set_cons_succ, List.flatMap_cons, List.flatMap_cons, ← this, he]
      have e1 : (i + 1) * sz = sz + i * sz := by rw [Nat.add_mul]; omega
      have e2 : (i + 1) * sz + sz = sz + (i * sz + sz) := by rw [Nat.add_mul]; omega
      rw [e2, e1, ← he x, List.take_length_add_append, List.drop_length_add_append]
      simp
def bgT (bs : List TokM) : List Value := bs.flatMap TokM.enc
def rul0 : Rul := ⟨0, 0, 0, 0, 0, 0, 0, 0, 0, 0, 0, 0⟩
def bg0 : List TokM := [tok0, tok0, tok0, tok0, tok0, tok0, tok0, tok0]
/-- In the midst of a rule: what is read so far, where its fields begin. -/
structure RuS (h0 h : Hp) (b : Nat) (A : Option Addr) (c : Nat) (ts r : List TokM) (g3 g5 g7 g9 : Nat) (x : Rul) (bs : List TokM) : Prop where
  q : RAt h b A c ts r
  fr : Fr (fun k => k = b) h0 h
  hb : b < h0.size
  hA : ∀ k, blk A k → k < h0.size
  o3 : h0.size ≤ g3
  o5 : g3 < g5
  o7 : g5 < g7
  o9 : g7 < g9
  b3 : h[g3]? = some (.cells rul0.enc.toArray 75 (0, 0))
  b5 : h[g5]? = some (.cells (bgT bg0).toArray 83 (0, 0))
  b7 : h[g7]? = some (.cells x.enc.toArray 75 (0, 0))
  b9 : h[g9]? = some (.cells (bgT bs).toArray 83 (0, 0))
  ln : bs.length = 8
section
variable {h0 h : Hp} {b : Nat} {A : Option Addr} {c : Nat} {ts r : List TokM} {g3 g5 g7 g9 : Nat} {x : Rul} {bs : List TokM}
theorem RuS.call (S : RuS h0 h b A c ts r g3 g5 g7 g9 x bs) {h' : Hp} {r' : List TokM} (q : RAt h' b A c ts r') (f : Fr (fun k => k = b) h h') : RuS h0 h' b A c ts r' g3 g5 g7 g9 x bs := by
  obtain ⟨_, fr, hb, hA, o3, o5, o7, o9, b3, b5, b7, b9, ln⟩ := S
  exact ⟨q, fr.trans f, hb, hA, o3, o5, o7, o9, f.get b3 (by omega), f.get b5 (by omega), f.get b7 (by omega), f.get b9 (by omega), ln⟩
/-- The field's cells are stored. -/
theorem RuS.field (S : RuS h0 h b A c ts r g3 g5 g7 g9 x bs) {t : TypeId} {o : Nat} {us : List Value} {v : Value} (x' : Rul) {K : Hp → Prop} (hv : v.cells = us.toArray) (hsz : (Tryz.prog.info? t).map (·.size) = some us.length)
    (hl : o + us.length ≤ 12) (hf : us.all flatV = true) (hcs : x.enc.take o ++ us ++ x.enc.drop (o + us.length) = x'.enc) (H : ∀ h', RuS h0 h' b A c ts r g3 g5 g7 g9 x' bs → K h') :
    HU Tryz.prog (Instr.storeAt t (.pointer (some ((⟨g7, 0, none⟩ : Addr).add o))) v) h K := by
  obtain ⟨q, fr, hb, hA, o3, o5, o7, o9, b3, b5, b7, b9, ln⟩ := S
  rw [add_eq0]
  refine HU_at b7 hv hsz hl hf hcs fun h' b7' f' z' => H h' ?_
  exact ⟨q.keep f' (by omega) (fun k hk he => by have := hA k hk; omega), frT fr f' (fun k hk he => by omega), hb, hA, o3, o5, o7, o9, f'.get b3 (by omega), f'.get b5 (by omega), b7', f'.get b9 (by omega), ln⟩
/-- The token at hand is noted. -/
theorem RuS.note {t : TokM} (S : RuS h0 h b A c ts (t :: r) g3 g5 g7 g9 x bs) {i : Nat} {n : Int} (hi : i < 8) (pv : PV Tryz.prog (Instr.indexAt 83 (.pointer (some ⟨g9, 0, none⟩)) (.int .i64 n)) (.pointer (some ⟨g9, i * 5, none⟩))) {K : Hp → Prop}
    (H : ∀ h', RuS h0 h' b A c ts (t :: r) g3 g5 g7 g9 x (bs.set i t) → K h') :
    drf (some ⟨b, 0, none⟩) fun a10 =>
    ∃ A11 : Option Addr, ∃ l11 : Nat, ∃ c11 : Nat, HV Tryz.prog (Instr.loadAt 46 (.pointer (some a10))) h (.slice A11 l11 c11) ∧
    drf (some ⟨b, 0, none⟩) fun a12 =>
    ∃ x13 : Int, HV Tryz.prog (Instr.loadAt 3 (.pointer (some (a12.add 1)))) h (.int .i64 x13) ∧
    ∃ a14 : Addr, PV Tryz.prog (Instr.indexAt 46 (.slice A11 l11 c11) (.int .i64 x13)) (.pointer (some a14)) ∧
    ∃ x15 : Int, ∃ s16 : ByteArray, ∃ x17 : Int, ∃ x18 : Int, ∃ x19 : Int, HV Tryz.prog (Instr.loadAt 52 (.pointer (some a14))) h (.agg #[(.int .i64 x15), (.string s16), (.int .u32 x17), (.int .i64 x18), (.int .i64 x19)]) ∧
    ∃ a20 : Addr, PV Tryz.prog (Instr.indexAt 83 (.pointer (some ⟨g9, 0, none⟩)) (.int .i64 n)) (.pointer (some a20)) ∧
    HU Tryz.prog (Instr.storeAt 52 (.pointer (some a20)) (.agg #[(.int .i64 x15), (.string s16), (.int .u32 x17), (.int .i64 x18), (.int .i64 x19)])) h K := by
  obtain ⟨q, fr, hb, hA, o3, o5, o7, o9, b3, b5, b7, b9, ln⟩ := S
  have q0 := q
  obtain ⟨m, q, ht, hd, hn, hl⟩ := q.head
  obtain ⟨a, pvl, cl⟩ := q.look ht
  refine ⟨_, _, _, ld (q.cl.at_ 0 _ rfl) (by kernel_rfl), _, ld (q.cl.at_ 1 _ rfl) (by kernel_rfl), a, pvl, _, _, _, _, _, ldS (vs := t.enc) cl (by kernel_rfl), _, pv, ?_⟩
  have hlen : (bgT bs).length = 40 := by unfold bgT; rw [flat_len (sz := 5) (fun _ => rfl), ln]
  refine HU_at (us := t.enc) (cs' := bgT (bs.set i t)) b9 rfl tokSz (by rw [hlen]; show i * 5 + 5 ≤ 40; omega) rfl (flat_set (sz := 5) (fun _ => rfl) t bs i (by omega)) fun h' b9' f' z' => H h' ?_
  exact ⟨q0.keep f' (by omega) (fun k hk he => by have := hA k hk; omega), frT fr f' (fun k hk he => by omega), hb, hA, o3, o5, o7, o9, f'.get b3 (by omega), f'.get b5 (by omega), f'.get b7 (by omega), b9', by rw [List.length_set]; exact ln⟩
end
end Go.Proofs.YtfdpccbajaiepaaGreatDoor.Lx

/- The reader: rule. -/
namespace Go.Proofs.YtfdpccbajaiepaaGreatDoor.Lx
open Go Go.RowKit Go.Proofs.YtfdpccbajaiepaaGreatDoor.Sx Go.Proofs.YtfdpccbajaiepaaGreatDoor.Sxp Go.Proofs.YtfdpccbajaiepaaGreatDoor.Sxp.Fx Go.Proofs.YtfdpccbajaiepaaGreatDoor.Fs
set_option linter.unusedVariables false
set_option linter.unusedSimpArgs false
set_option maxRecDepth 10000
def thenR {α β : Type} (R : ReR α) (f : α → List TokM → ReR β) : ReR β := match R with
  | .error e => .error e
  | .ok (v, r) => f v r
def GoodR {α : Type} (R : ReR α) : Prop := ∀ v r, R = .ok (v, r) → Good r ∧ r ≠ []
theorem good_num {mx : Int} {r : List TokM} (g : Good r) : GoodR (numR mx r) := fun _ _ h => numR_good h g
theorem good_act {r : List TokM} (g : Good r) : GoodR (actR r) := by
  intro v r' h
  cases r with
  | nil => cases h
  | cons t r =>
    unfold actR at h
    simp only at h
    have hk : t.kind = 1 → Good r ∧ r ≠ [] := fun h1 => g.tail (by omega)
    split at h
    · rename_i hw; cases h; exact hk hw.1
    · split at h
      · rename_i hw; cases h; exact hk hw.1
      · split at h
        · rename_i hw; cases h; exact hk hw.1
        · split at h
          · rename_i hw; cases h; exact hk hw.1
          · cases h
theorem good_addr {r : List TokM} (g : Good r) : GoodR (addrR r) := fun _ _ h => addrR_good h g
theorem good_pref {r : List TokM} (g : Good r) : GoodR (prefR r) := by
  intro v r' h
  cases r with
  | nil => cases h
  | cons t r =>
    unfold prefR at h
    simp only at h
    split at h
    · rename_i hs; cases h; exact g.tail (isSign_k hs)
    · split at h
      · cases h
      · cases h
      · rename_i a t2 r3 hR
        have g2 := (addrR_good hR g).1
        split at h
        · rename_i hs2
          have g3 := g2.tail (isSign_k hs2)
          split at h
          · cases h
          · rename_i l r4 hN
            cases h
            exact numR_good hN g3.1
        · cases h; exact ⟨g2, by simp⟩
theorem good_span {r : List TokM} (g : Good r) : GoodR (spanR r) := by
  intro v r' h
  cases r with
  | nil => cases h
  | cons t r =>
    unfold spanR at h
    simp only at h
    split at h
    · rename_i hs; cases h; exact g.tail (isSign_k hs)
    · split at h
      · cases h
      · cases h
      · rename_i a t2 r3 hR
        have g2 := (numR_good hR g).1
        split at h
        · rename_i hs2
          have g3 := g2.tail (isSign_k hs2)
          split at h
          · cases h
          · rename_i l r4 hN
            cases h
            exact numR_good hN g3.1
        · cases h; exact ⟨g2, by simp⟩
theorem good_mask {r : List TokM} (g : Good r) : GoodR (maskR r) := by
  intro v r' h
  cases r with
  | nil => cases h
  | cons t r =>
    unfold maskR at h
    simp only at h
    split at h
    · rename_i hs; cases h; exact g.tail (isSign_k hs)
    · split at h
      · cases h
      · cases h
      · rename_i a t2 r3 hR
        have g2 := (numR_good hR g).1
        split at h
        · rename_i hs2
          have g3 := g2.tail (isSign_k hs2)
          split at h
          · cases h
          · rename_i l r4 hN
            cases h
            exact numR_good hN g3.1
        · cases h; exact ⟨g2, by simp⟩
theorem good_then {α β : Type} {R : ReR α} {f : α → List TokM → ReR β} (hR : GoodR R) (hf : ∀ v r, Good r → GoodR (f v r)) : GoodR (thenR R f) := by
  intro v r h
  cases R with
  | error e => cases h
  | ok p => exact hf p.1 p.2 (hR _ _ rfl).1 _ _ h
def begs (r r2 r3 r4 r5 r6 : List TokM) : List TokM := [tok0, r.headD tok0, r2.headD tok0, r3.headD tok0, r4.headD tok0, r5.headD tok0, r6.headD tok0, tok0]
def ruleR (r : List TokM) : ReR (Rul × List TokM) :=
  thenR (numR 4294967295 r) fun id r1 => thenR (actR r1) fun a r2 => thenR (prefR r2) fun s r3 => thenR (prefR r3) fun d r4 => thenR (spanR r4) fun sp r5 => thenR (spanR r5) fun dp r6 => thenR (maskR r6) fun m r7 =>
  .ok ((⟨IntKind.i64.wrap id, s.1, s.2, d.1, d.2, sp.1, sp.2, dp.1, dp.2, m.1, m.2, a⟩, begs r r2 r3 r4 r5 r6), r7)
theorem good_rule {r : List TokM} (g : Good r) : GoodR (ruleR r) :=
  good_then (good_num g) fun _ _ g1 => good_then (good_act g1) fun _ _ g2 => good_then (good_pref g2) fun _ _ g3 => good_then (good_pref g3) fun _ _ g4 => good_then (good_span g4) fun _ _ g5 => good_then (good_span g5) fun _ _ g6 => by
    intro v r h
    cases hm : maskR _ with
    | error e => rw [hm] at h; cases h
    | ok p => rw [hm] at h; cases h; exact good_mask g6 _ _ hm
theorem rd_case {α β : Type} {R : ReR α} {f : α → List TokM → ReR β} {h0 h : Hp} {b : Nat} {A : Option Addr} {c : Nat} {ts r : List TokM} {g3 g5 g7 g9 : Nat} {x : Rul} {bs : List TokM} {K0 : β → Hp → Prop} {K1 : α → Hp → Prop} {KP : Kp}
    (S : RuS h0 h b A c ts r g3 g5 g7 g9 x bs) (H : RdK (thenR R f) h0 b A c ts K0 KP) (gd : GoodR R)
    (H1 : ∀ v t r' h', R = .ok (v, t :: r') → RuS h0 h' b A c ts (t :: r') g3 g5 g7 g9 x bs → Good (t :: r') → RdK (f v (t :: r')) h0 b A c ts K0 KP → K1 v h') : RdK R h b A c ts K1 KP := by
  cases R with
  | error e => exact Up.of H S.fr
  | ok p =>
    obtain ⟨v, r'⟩ := p
    obtain ⟨g, hne⟩ := gd v r' rfl
    cases r' with
    | nil => exact absurd rfl hne
    | cons t r' => exact fun h' q' f' => H1 v t r' h' rfl (S.call q' f') g H
def begsV (bs : List TokM) : Value := .agg (bgT bs).toArray
set_option maxHeartbeats 1000000 in
theorem rule_s {h : Hp} {b : Nat} {A : Option Addr} {c : Nat} {ts r : List TokM} {t : TokM} (q : RAt h b A c ts (t :: r)) (g : Good (t :: r)) {K : Value → Hp → Prop} {KP : Kp}
    (H : RdK (ruleR (t :: r)) h b A c ts (fun v h' => K (.tuple #[v.1.val, begsV v.2]) h') KP) :
    CallsP Tryz.prog 23 #[.pointer (some ⟨b, 0, none⟩)] h K KP := by
  refine syntax_reader_rule_ok _ ?_
  unfold syntax_reader_rule
  obtain ⟨hb, hA⟩ := q.lt
  refine newC_i (cs := rul0.enc) fun h1 e1 c1 b1 z1 => ?_
  refine newC_i (cs := bgT bg0) fun h2 e2 c2 b2 z2 => ?_
  refine newC_i (cs := rul0.enc) fun h3 e3 c3 b3 z3 => ?_
  refine newC_i (cs := bgT bg0) fun h4 e4 c4 b4 z4 => ?_
  have S : RuS h h4 b A c ts (t :: r) h.size h1.size h2.size h3.size rul0 bg0 :=
    ⟨(((q.ext e1).ext e2).ext e3).ext e4, (((e1.trans e2).trans e3).trans e4).fr _, hb, hA, Nat.le_refl _, by omega, by omega, by omega, by rw [e4.old _ (by omega), e3.old _ (by omega), e2.old _ (by omega)]; exact b1,
      by rw [e4.old _ (by omega), e3.old _ (by omega)]; exact b2, by rw [e4.old _ (by omega)]; exact b3, b4, rfl⟩
  refine S.note (i := 1) (by omega) (fun w => pureRun_run _ _ _ (by kernel_rfl) w) fun h5 S => ?_
  unfold ruleR at H
  refine any_r S.q (rd_case S H (good_num g) fun v1 t1 r1 h6 _ S g1 H => ⟨_, rfl, ?_⟩)
  refine S.field (o := 0) (us := [.int .i64 (IntKind.i64.wrap v1)]) ⟨IntKind.i64.wrap v1, 0, 0, 0, 0, 0, 0, 0, 0, 0, 0, 0⟩ rfl (by kernel_rfl) (by simp) rfl rfl fun h7 S => ?_
  refine act_r S.q (rd_case S H (good_act g1) fun v2 t2 r2 h8 _ S g2 H => ⟨_, rfl, ?_⟩)
  refine S.field (o := 11) (us := [.int .i64 v2]) ⟨IntKind.i64.wrap v1, 0, 0, 0, 0, 0, 0, 0, 0, 0, 0, v2⟩ rfl (by kernel_rfl) (by simp) rfl rfl fun h9 S => ?_
  refine S.note (i := 2) (by omega) (fun w => pureRun_run _ _ _ (by kernel_rfl) w) fun h10 S => ?_
  refine pref_s S.q g2 (by simp) (rd_case S H (good_pref g2) fun v3 t3 r3 h11 _ S g3 H => ⟨_, _, rfl, ?_⟩)
  refine S.field (o := 1) (us := [.int .u32 v3.1, .int .i64 v3.2]) ⟨IntKind.i64.wrap v1, v3.1, v3.2, 0, 0, 0, 0, 0, 0, 0, 0, v2⟩ rfl (by kernel_rfl) (by simp) rfl rfl fun h12 S => ?_
  refine S.note (i := 3) (by omega) (fun w => pureRun_run _ _ _ (by kernel_rfl) w) fun h13 S => ?_
  refine pref_s S.q g3 (by simp) (rd_case S H (good_pref g3) fun v4 t4 r4 h14 _ S g4 H => ⟨_, _, rfl, ?_⟩)
  refine S.field (o := 3) (us := [.int .u32 v4.1, .int .i64 v4.2]) ⟨IntKind.i64.wrap v1, v3.1, v3.2, v4.1, v4.2, 0, 0, 0, 0, 0, 0, v2⟩ rfl (by kernel_rfl) (by simp) rfl rfl fun h15 S => ?_
  refine S.note (i := 4) (by omega) (fun w => pureRun_run _ _ _ (by kernel_rfl) w) fun h16 S => ?_
  refine span_s S.q g4 (by simp) (rd_case S H (good_span g4) fun v5 t5 r5 h17 _ S g5 H => ⟨_, _, rfl, ?_⟩)
  refine S.field (o := 5) (us := [.int .u16 v5.1, .int .u16 v5.2]) ⟨IntKind.i64.wrap v1, v3.1, v3.2, v4.1, v4.2, v5.1, v5.2, 0, 0, 0, 0, v2⟩ rfl (by kernel_rfl) (by simp) rfl rfl fun h18 S => ?_
  refine S.note (i := 5) (by omega) (fun w => pureRun_run _ _ _ (by kernel_rfl) w) fun h19 S => ?_
  refine span_s S.q g5 (by simp) (rd_case S H (good_span g5) fun v6 t6 r6 h20 _ S g6 H => ⟨_, _, rfl, ?_⟩)
  refine S.field (o := 7) (us := [.int .u16 v6.1, .int .u16 v6.2]) ⟨IntKind.i64.wrap v1, v3.1, v3.2, v4.1, v4.2, v5.1, v5.2, v6.1, v6.2, 0, 0, v2⟩ rfl (by kernel_rfl) (by simp) rfl rfl fun h21 S => ?_
  refine S.note (i := 6) (by omega) (fun w => pureRun_run _ _ _ (by kernel_rfl) w) fun h22 S => ?_
  refine mask_s S.q g6 (by simp) (rd_case S H (good_mask g6) fun v7 t7 r7 h23 _ S g7 H => ⟨_, _, rfl, ?_⟩)
  refine S.field (o := 9) (us := [.int .u8 v7.1, .int .u8 v7.2]) ⟨IntKind.i64.wrap v1, v3.1, v3.2, v4.1, v4.2, v5.1, v5.2, v6.1, v6.2, v7.1, v7.2, v2⟩ rfl (by kernel_rfl) (by simp) rfl rfl fun h24 S => ?_
  obtain ⟨q, fr, hb, hA, o3, o5, o7, o9, b3, b5, b7, b9, ln⟩ := S
  have cl7 : Cl h24 ⟨h2.size, 0, none⟩ (Rul.enc ⟨IntKind.i64.wrap v1, v3.1, v3.2, v4.1, v4.2, v5.1, v5.2, v6.1, v6.2, v7.1, v7.2, v2⟩) := Cl.of_block b7 fun j v hj => by rw [Nat.zero_add]; exact hj
  have cl9 : Cl h24 ⟨h3.size, 0, none⟩ (bgT (begs (t :: r) (t2 :: r2) (t3 :: r3) (t4 :: r4) (t5 :: r5) (t6 :: r6))) := Cl.of_block b9 fun j v hj => by rw [Nat.zero_add]; exact hj
  refine ⟨_, _, _, _, _, _, _, _, _, _, _, _, ldS cl7 (by kernel_rfl), ?_⟩
  refine ⟨_, _, _, _, _, _, _, _, _, _, _, _, _, _, _, _, _, _, _, _, _, _, _, _, _, _, _, _, _, _, _, _, _, _, _, _, _, _, _, _, ldS cl9 (by kernel_rfl), ?_⟩
  refine HU_box (us := Rul.enc ⟨IntKind.i64.wrap v1, v3.1, v3.2, v4.1, v4.2, v5.1, v5.2, v6.1, v6.2, v7.1, v7.2, v2⟩) b3 rfl rfl (by kernel_rfl) rfl fun h25 c25 b25 f25 z25 => ?_
  refine ⟨ldS (f25.cl cl9 (by show ¬ h3.size = _; omega)) (by kernel_rfl), ?_⟩
  refine HU_box (us := bgT (begs (t :: r) (t2 :: r2) (t3 :: r3) (t4 :: r4) (t5 :: r5) (t6 :: r6))) (f25.get b5 (by omega)) rfl rfl (by kernel_rfl) rfl fun h26 c26 b26 f26 z26 => ?_
  refine ⟨_, _, _, _, _, _, _, _, _, _, _, _, ldS (f26.cl c25 (by show ¬ h.size = _; omega)) (by kernel_rfl), ?_⟩
  refine ⟨_, _, _, _, _, _, _, _, _, _, _, _, _, _, _, _, _, _, _, _, _, _, _, _, _, _, _, _, _, _, _, _, _, _, _, _, _, _, _, _, ldS c26 (by kernel_rfl), ?_⟩
  exact H h26 ((q.keep f25 (by omega) (fun k hk he => by have := hA k hk; omega)).keep f26 (by omega) (fun k hk he => by have := hA k hk; omega)) (frT (frT fr f25 (fun k hk he => by omega)) f26 (fun k hk he => by omega))
end Go.Proofs.YtfdpccbajaiepaaGreatDoor.Lx

/- The reader: right. -/
namespace Go.Proofs.YtfdpccbajaiepaaGreatDoor.Lx
open Go Go.RowKit Go.Proofs.YtfdpccbajaiepaaGreatDoor.Sx Go.Proofs.YtfdpccbajaiepaaGreatDoor.Sxp Go.Proofs.YtfdpccbajaiepaaGreatDoor.Sxp.Fx Go.Proofs.YtfdpccbajaiepaaGreatDoor.Fs
set_option linter.unusedVariables false
set_option linter.unusedSimpArgs false
set_option maxRecDepth 10000
theorem firstBad_ix : ∀ (l : List Int) (i : Int) (p : Int × Int), firstBad l i = some p → i + 2 ≤ p.2 ∧ p.2 < i + 2 + l.length
  | [], i, p, h => by cases h
  | x :: l, i, p, h => by
    unfold firstBad at h
    split at h
    · cases h; simp; omega
    · have := firstBad_ix l (i + 1) p h
      simp; omega
theorem check_ix (x : Rul) : 0 ≤ x.check.2 ∧ x.check.2 < 8 := by
  unfold Rul.check Rul.check2
  split
  · simp
  · cases h : firstBad x.parts 0 with
    | none =>
      simp only [Option.getD_none, Rul.act0]
      split <;> simp
    | some p =>
      have := firstBad_ix _ _ _ h
      simp only [Rul.parts, List.length_cons, List.length_nil] at this
      simp only [Option.getD_some]
      omega
theorem bgIx (g : Nat) (n : Nat) (hn : n < 8) : PV Tryz.prog (Instr.indexAt 83 (.pointer (some ⟨g, 0, none⟩)) (.int .i64 (n : Int))) (.pointer (some ⟨g, n * 5, none⟩)) := by
  match n, hn with
  | 0, _ => exact fun w => pureRun_run _ _ _ (by kernel_rfl) w
  | 1, _ => exact fun w => pureRun_run _ _ _ (by kernel_rfl) w
  | 2, _ => exact fun w => pureRun_run _ _ _ (by kernel_rfl) w
  | 3, _ => exact fun w => pureRun_run _ _ _ (by kernel_rfl) w
  | 4, _ => exact fun w => pureRun_run _ _ _ (by kernel_rfl) w
  | 5, _ => exact fun w => pureRun_run _ _ _ (by kernel_rfl) w
  | 6, _ => exact fun w => pureRun_run _ _ _ (by kernel_rfl) w
  | 7, _ => exact fun w => pureRun_run _ _ _ (by kernel_rfl) w
def rightM (x : Rul) (bs : List TokM) : Option Flt := if x.check.1 = 0 then none else some ⟨x.check.1, (bs[x.check.2.toNat]?.getD tok0).line, (bs[x.check.2.toNat]?.getD tok0).col⟩
def OptK (R : Option Flt) (h : Hp) (b : Nat) (K : Hp → Prop) (KP : Kp) : Prop := match R with
  | some f => Up h b f KP
  | none => ∀ h', Ext h h' → K h'
theorem cl_elem {h : Hp} {g : Nat} {bs : List TokM} (c : Cl h ⟨g, 0, none⟩ (bgT bs)) {n : Nat} {t : TokM} (ht : bs[n]? = some t) : Cl h ⟨g, n * 5, none⟩ t.enc := by
  have := c.sub (us := t.enc) (n * 5) fun j v hj => by
    have hjl := (List.getElem?_eq_some_iff.1 hj).1
    unfold bgT
    rw [flat_get (sz := 5) (fun _ => rfl) bs n j t ht hjl]
    exact hj
  rw [add_eq0] at this
  exact this
theorem right_s {h : Hp} {b : Nat} (x : Rul) (t0 t1 t2 t3 t4 t5 t6 t7 : TokM) {K : Value → Hp → Prop} {KP : Kp} (H : OptK (rightM x [t0, t1, t2, t3, t4, t5, t6, t7]) h b (fun h' => K (.tuple #[]) h') KP) :
    CallsP Tryz.prog 26 #[x.val, begsV [t0, t1, t2, t3, t4, t5, t6, t7]] h K KP := by
  refine syntax_right_ok _ _ _ _ _ _ _ _ _ _ _ _ _ _ _ _ _ _ _ _ _ _ _ _ _ _ _ _ _ _ _ _ _ _ _ _ _ _ _ _ _ _ _ _ _ _ _ _ _ _ _ _ ?_
  unfold syntax_right
  refine newC_i (cs := x.enc) fun h1 e1 c1 b1 z1 => ?_
  refine newC_i (cs := bgT [t0, t1, t2, t3, t4, t5, t6, t7]) fun h2 e2 c2 b2 z2 => ?_
  refine ⟨_, _, _, _, _, _, _, _, _, _, _, _, ldS (vs := x.enc) (c1.ext e2) (by kernel_rfl), ?_⟩
  refine Sx.CallsH.p (rule_Check_s x fun e i h3 e3 hei => ⟨_, _, rfl, ?_⟩)
  have E3 := (e1.trans e2).trans e3
  unfold rightM at H
  obtain ⟨i0, i8⟩ := check_ix x
  have he : e = x.check.1 := by rw [← hei]
  have hi : i = x.check.2 := by rw [← hei]
  by_cases h0 : x.check.1 = 0
  · rw [if_pos h0] at H
    exact br_f (by rw [he, h0]; rfl) (H h3 E3)
  · rw [if_neg h0] at H
    obtain ⟨n, hn⟩ : ∃ n : Nat, x.check.2 = (n : Int) := ⟨x.check.2.toNat, by omega⟩
    have hn8 : n < 8 := by omega
    rw [hn] at H
    simp only [Int.toNat_natCast] at H
    obtain ⟨t, ht⟩ : ∃ t, [t0, t1, t2, t3, t4, t5, t6, t7][n]? = some t := by
      have : n < [t0, t1, t2, t3, t4, t5, t6, t7].length := hn8
      exact ⟨_, List.getElem?_eq_getElem this⟩
    rw [ht] at H
    refine br_t (by rw [he]; simpa using h0) ⟨_, by rw [hi, hn]; exact bgIx _ n hn8, _, _, _, _, _, ldS (vs := t.enc) (cl_elem (c2.ext e3) ht) (by kernel_rfl), ?_⟩
    rw [he]
    exact fails_s t _ (Up.of H (E3.fr _))
end Go.Proofs.YtfdpccbajaiepaaGreatDoor.Lx
