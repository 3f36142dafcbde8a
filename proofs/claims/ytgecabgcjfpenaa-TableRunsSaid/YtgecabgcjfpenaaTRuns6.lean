/- TableRuns: any configuration, any calls; clones. -/
import Derived.Test.YtgecabgcjfpenaaTRuns5
import Derived.LaidEqlPtr
namespace Go.Proofs.Ytgecabgcjfpenaa.Fs
open Go Go.RowKit Go.Proofs.Ytgecabgcjfpenaa.Sx
set_option linter.unusedVariables false
set_option linter.unusedSimpArgs false
set_option maxRecDepth 10000
theorem eqPtr {h : Hp} {cf : Cfg} {x y : Nat} {S Sy : Nat → Prop} {xs ys : List Rul} (tx : TabAt h x S cf xs) (ty : TabAt h y Sy cf ys) : HV Try.prog (binOp .eql 27 (.pointer (some ⟨x, 0, none⟩)) (.pointer (some ⟨y, 0, none⟩))) h (.bool (decide (x = y))) := by
  obtain ⟨_, _, A, c, hx, _⟩ := tx
  obtain ⟨_, _, A', c', hy, _⟩ := ty
  obtain ⟨te, j, hp, hj, hz⟩ : ∃ te j, Try.prog.underlying 27 = some (.pointer te) ∧ Try.prog.info? te = some j ∧ j.size ≠ 0 := ⟨_, _, rfl, rfl, by decide⟩
  intro w hw
  by_cases e : x = y
  · subst e
    rw [run_eql_ptr_same w _ hp hj]
    simp
  · rw [run_eql_ptr_other w hp hj hz (a := ⟨x, 0, none⟩) (b := ⟨y, 0, none⟩) (by simp [e]) (by rw [hw]; exact hx) (by rw [hw]; exact hy)]
    simp [e]
theorem Opr.enc_len (o : Opr) : o.enc.length = 21 := rfl
theorem und64 : Try.prog.underlying 64 = some (.slice 66) := by kernel_rfl
theorem size66 : (Try.prog.info? 66).map (·.size) = some 21 := by kernel_rfl
/-- A call's list in memory. -/
structure OpOK (h : Hp) (o : Opr) (zs : List Rul) : Prop where
  len : zs.length = o.l
  cap : o.l ≤ o.c
  row : RSl h o.A o.l 12 (zs.flatMap Rul.enc)
  wf : ∀ x ∈ zs, x.wf
  rule : o.rule.wf
  head : o.head.wf
/-- The elder table: the table itself, or one that is apart. -/
def Elder (h0 h : Hp) (cf : Cfg) (b : Nat) (S : Nat → Prop) (be : Nat) (Ae : Option Addr) (le ce : Nat) : Prop :=
  be = b ∨ (be ≠ b ∧ ∃ Se ys, TabAt h be Se cf ys ∧ (∀ k, Se k → h0.size ≤ k) ∧ (∀ k, Se k → ¬ S k) ∧ LAt h S Ae le ce ys)
theorem runs_l7 {h0 : Hp} {cf : Cfg} (hck : cf.check = 0) {ca : Addr} (hca : Cl h0 ca cf.enc) {A : Option Addr} {l c : Nat} {ops : List Opr} (hl : ops.length = l) (hlen : l ≤ 2000) (hr : RSl h0 A l 21 (ops.flatMap Opr.enc)) (hok : ∀ o ∈ ops, ∃ zs, OpOK h0 o zs)
    {K0 : Bool → Hp → Prop} {K1 : Option Addr → Option Addr → Nat → Nat → Option Addr → Option Addr → Nat → Nat → Hp → Prop} (H0 : ∀ h, Ext h0 h → K0 true h)
    (H1 : ∀ h b S xs A2 l2 c2 be Ae le ce, Ext h0 h → TabAt h b S cf xs → LAt h S A2 l2 c2 xs → Elder h0 h cf b S be Ae le ce → K1 (some ⟨b, 0, none⟩) A2 l2 c2 (some ⟨be, 0, none⟩) Ae le ce h) :
    ∀ (d n k : Nat) (h : Hp) (b : Nat) (S : Nat → Prop) (xs : List Rul) (A2 : Option Addr) (l2 c2 : Nat) (be : Nat) (Ae : Option Addr) (le ce : Nat), n + d = l → d < k → Ext h0 h → (∀ k, S k → h0.size ≤ k) → TabAt h b S cf xs → LAt h S A2 l2 c2 xs → Elder h0 h cf b S be Ae le ce →
      quintetlaw11_TableRuns_l7 A l c ca K0 K1 k (some ⟨b, 0, none⟩) A2 l2 c2 (some ⟨be, 0, none⟩) Ae le ce n h := by
  intro d
  induction d with
  | zero =>
    intro n k h b S xs A2 l2 c2 be Ae le ce hn hk e hS t L E
    obtain ⟨k, rfl⟩ : ∃ m, k = m + 1 := ⟨k - 1, by omega⟩
    unfold quintetlaw11_TableRuns_l7
    exact br_f (by simp; omega) (H1 h b S xs A2 l2 c2 be Ae le ce e t L E)
  | succ d ih =>
    intro n k h b S xs A2 l2 c2 be Ae le ce hn hk e hS t L E
    obtain ⟨k, rfl⟩ : ∃ m, k = m + 1 := ⟨k - 1, by omega⟩
    unfold quintetlaw11_TableRuns_l7
    refine br_t (by simp; omega) ?_
    have hlt : n < ops.length := by omega
    obtain ⟨a, rfl, _⟩ := hr.some (by omega)
    have hix := ix (P := Try.prog) (T := 64) (E := 66) (a := a) (l := l) (c := c) (sz := 21) (k := .i64) (i := (n : Int)) (by omega) (by omega) und64 size66
    rw [Int.toNat_natCast] at hix
    have hcl := (hr.ext e).elem Opr.enc_len (List.getElem?_eq_getElem hlt) hl
    obtain ⟨zs, ok⟩ := hok (ops[n]) (List.getElem_mem hlt)
    revert hcl ok
    generalize ops[n] = o
    intro hcl ok
    have w : IntKind.i64.wrap ((n : Int) + 1) = ((n + 1 : Nat) : Int) := by rw [wrap_in (by omega) (by omega)]; omega
    rw [w]
    clear w
    refine ⟨_, hix, _, _, _, ld (hcl.at_ 20 _ rfl) (by kernel_rfl), br_i (fun _ => H0 h e) (fun hbig => ?_)⟩
    have hzl : o.l ≤ 2000 := by simp at hbig; omega
    refine ⟨_, hix, _, ld (hcl.at_ 0 _ rfl) (by kernel_rfl), br_i (fun h8 => ?_) (fun h8 => ?_)⟩
    · refine clone_s t (by have := L.len; have := L.small; omega) fun h' b' S' t' hS' e' => ⟨_, rfl, _, eqNil eq27, br_f rfl ?_⟩
      have hlt' := fun k (hk : S k) => t.2.1 k hk
      have es := e.size
      refine ih (n + 1) k h' b' S' xs A2 l2 c2 b A2 l2 c2 (by omega) (by omega) (e.trans e') (fun q hq => by have := hS' q hq; omega) t' (L.keep (e'.fr S) (fun k hk => .inr (hS' k hk)) |> fun L' => ⟨L'.len, L'.cap, L'.small, L'.row, L'.sep, L'.wf⟩) (.inr ⟨fun eb => ?_, S, xs, t.ext e', hS, fun q hq hq' => ?_, L.keep (e'.fr S) (fun k hk => .inr (hS' k hk))⟩)
      · have h1 := t.2.1 b t.1
        have h2 := hS' b' t'.1
        omega
      · have h1 := t.2.1 q hq
        have h2 := hS' q hq'
        omega
    · refine ⟨_, _, _, _, _, _, _, ldS (hca.ext e) (by kernel_rfl), ?_⟩
      refine ⟨_, hix, ?_⟩
      refine ⟨_, _, _, _, _, _, _, _, _, _, _, _, _, _, _, _, _, _, _, _, _, _, _, ldS hcl (by kernel_rfl), ?_⟩
      refine step_s t hck L o ok.rule ok.head ok.len hzl ok.cap (ok.row.ext e) (fun hz a' ha' hs => by have := hS _ hs; have := rsl_block ok.row hz a' ha'; omega) ok.wf fun h' S' A' l' c' xs' t' L' hS' f' hA' => ⟨_, _, _, _, rfl, br_f rfl ?_⟩
      have hin : ∀ q, S q → q < h.size := t.2.1
      have es := e.size
      have eh : Ext h0 h' := ⟨by have := f'.size; omega, fun q hq => by rw [f'.keep q (by omega) (fun hs => by have := hS q hs; omega), e.old q hq]⟩
      refine ih (n + 1) k h' b S' xs' A' l' c' be Ae le ce (by omega) (by omega) eh (fun q hq => by
        rcases hS' q hq with h | h
        · exact hS q h
        · omega) t' L' ?_
      rcases E with E | ⟨hne, Se, ys, te, hSe, hdis, Le⟩
      · exact .inl E
      · refine .inr ⟨hne, Se, ys, te.keep f' hdis, hSe, fun q hq hq' => ?_, Le.keep f' hS'⟩
        rcases hS' q hq' with h | h
        · exact hdis q hq h
        · have := te.2.1 q hq; omega
theorem TableRuns_s (cf : Cfg) (ops : List Opr) {h : Hp} {A : Option Addr} {l c : Nat} (hl : ops.length = l) (hr : RSl h A l 21 (ops.flatMap Opr.enc)) (hok : ∀ o ∈ ops, ∃ zs, OpOK h o zs) {K : Value → Hp → Prop} (H : ∀ h', Ext h h' → K (.bool true) h') : CallsH Try.prog 7 #[cf.val, .slice A l c] h K := by
  refine quintetlaw11_TableRuns_ok _ _ _ _ _ _ _ _ _ _ ?_
  unfold quintetlaw11_TableRuns
  refine newC_i fun h1 e1 c1 b1 z1 => ?_
  refine br_i (fun _ => awake_s fun h2 e2 => ⟨_, rfl, H h2 (e1.trans e2)⟩) (fun hlt => ?_)
  have hlt : l ≤ 2000 := by simp at hlt; omega
  refine ⟨_, _, _, _, _, _, _, ldS (vs := cf.enc) c1 (by kernel_rfl), ?_⟩
  refine ref_Check_s cf fun v h2 e2 hv => ⟨_, rfl, ?_⟩
  subst hv
  have e12 := e1.trans e2
  refine br_i (fun _ => awake_s fun h3 e3 => ⟨_, rfl, H h3 (e12.trans e3)⟩) (fun hck => ?_)
  have hck : cf.check = 0 := by simpa using hck
  unfold quintetlaw11_TableRuns_j4
  have cc : Cl h2 ⟨h.size, 0, none⟩ cf.enc := c1.ext e2
  refine ⟨_, _, _, _, _, _, _, ldS cc (by kernel_rfl), ?_⟩
  refine table_New_s cf (fun hc => absurd hck hc) (fun _ h3 b e3 hb t3 => ?_)
  refine ⟨_, _, rfl, _, eqNil eq27, br_f rfl (br_f rfl ?_)⟩
  unfold quintetlaw11_TableRuns_j6
  refine ⟨l + 1, ?_⟩
  refine runs_l7 (h0 := h2) hck cc hl hlt (hr.ext e12) (fun o ho => ?_) (fun h' e' => H h' (e12.trans e')) (fun h' b' S' xs A2 l2 c2 be Ae le ce e' t' L' E => ?_) l 0 (l + 1) h3 b (fun k => k = b) [] none 0 0 b none 0 0 (by omega) (by omega) e3 (fun k hk => by omega) t3 ⟨rfl, Nat.le_refl _, by omega, ⟨by simp, .inl rfl⟩, fun hz => by omega, fun x hx => by cases hx⟩ (.inl rfl)
  · obtain ⟨zs, ok⟩ := hok o ho
    exact ⟨zs, ok.len, ok.cap, ok.row.ext e12, ok.wf, ok.rule, ok.head⟩
  · have hls := L'.small
    rcases E with E | ⟨hne, Se, ys, te, hSe, hdis, Le⟩
    · subst E
      refine ⟨_, eqPtr t' t', ?_⟩
      refine br_t (by simp) (awake_s fun h4 e4 => ⟨_, rfl, br_t rfl ?_⟩)
      refine told_s (t'.ext e4) L'.len (by omega) (L'.row.ext e4) fun h5 e5 => ⟨_, rfl, ?_⟩
      exact H h5 (((e12.trans e').trans e4).trans e5)
    · refine ⟨_, eqPtr te t', ?_⟩
      refine br_f (by simp [hne]) (awake_s fun h4 e4 => ⟨_, rfl, br_t rfl ?_⟩)
      refine told_s (t'.ext e4) L'.len (by omega) (L'.row.ext e4) fun h5 e5 => ⟨_, rfl, br_t rfl ?_⟩
      have e45 := e4.trans e5
      have hle := Le.small
      refine told_s (te.ext e45) Le.len (by omega) (Le.row.ext e45) fun h6 e6 => ⟨_, rfl, ?_⟩
      exact H h6 (((e12.trans e').trans e45).trans e6)
end Go.Proofs.Ytgecabgcjfpenaa.Fs
