/- An engine's calls, told alike; two engines side by side; PruneApart. -/
import Derived.Test.YtomhkbhgpmcbiaaPnNil
namespace Go.Proofs.Ytomhkbhgpmcbiaa.Fs
open Go Go.RowKit Go.Proofs.Ytomhkbhgpmcbiaa.Sx
set_option linter.unusedVariables false
set_option linter.unusedSimpArgs false
set_option maxRecDepth 10000
/-- What a call answers, and the rules behind it. -/
def runE (cf : Cfg) (l : List Rul) (op : Int × List Rul) : Int × List Rul := if op.1 ≠ 0 then (op.1, l) else if roomB cf op.2 = true then (0, op.2) else (160, l)
theorem runE_no {cf : Cfg} {l : List Rul} {op : Int × List Rul} (h : op.1 ≠ 0) : runE cf l op = (op.1, l) := by unfold runE; rw [if_pos h]
theorem runE_full {cf : Cfg} {l : List Rul} {op : Int × List Rul} (h : op.1 = 0) (r : roomB cf op.2 = false) : runE cf l op = (160, l) := by unfold runE; rw [if_neg (by omega), r]; rfl
theorem runE_yes {cf : Cfg} {l : List Rul} {op : Int × List Rul} (h : op.1 = 0) (r : roomB cf op.2 = true) : runE cf l op = (0, op.2) := by unfold runE; rw [if_neg (by omega), r]; rfl
theorem ins_u {h : Hp} {b : Nat} {S : Nat → Prop} {cf : Cfg} {l : List Rul} (q : En h b S cf l) (hm : cf.max ≤ 64) (p : Int) (r : Rul) {K : Value → Hp → Prop}
    (H : ∀ h' S', En h' b S' cf (runE cf l (insI cf l p r)).2 → Tg S S' h h' → K (.int .i64 (runE cf l (insI cf l p r)).1) h') : CallsH Try.prog 15 #[.pointer (some ⟨b, 0, none⟩), .int .i64 p, r.val] h K :=
  eIns_s q hm p r (fun h0 h' e => by rw [runE_no h0] at H; exact H h' S (q.ext e) (Ext.tg e)) (fun h0 hr h' e => by rw [runE_full h0 hr] at H; exact H h' S (q.ext e) (Ext.tg e)) (fun h0 hr h' S' q' t => by rw [runE_yes h0 hr] at H; exact H h' S' q' t)
theorem del_u {h : Hp} {b : Nat} {S : Nat → Prop} {cf : Cfg} {l : List Rul} (q : En h b S cf l) (id : Int) {K : Value → Hp → Prop}
    (H : ∀ h' S', En h' b S' cf (runE cf l (delI l id)).2 → Tg S S' h h' → K (.int .i64 (runE cf l (delI l id)).1) h') : CallsH Try.prog 16 #[.pointer (some ⟨b, 0, none⟩), .int .i64 id] h K :=
  eDel_s q id (fun h0 h' e => by rw [runE_no h0] at H; exact H h' S (q.ext e) (Ext.tg e)) (fun h0 hr h' e => by rw [runE_full h0 hr] at H; exact H h' S (q.ext e) (Ext.tg e)) (fun h0 hr h' S' q' t => by rw [runE_yes h0 hr] at H; exact H h' S' q' t)
theorem set_u {h : Hp} {b : Nat} {S : Nat → Prop} {cf : Cfg} {l xs : List Rul} (q : En h b S cf l) (hm : cf.max ≤ 64) {A : Option Addr} {c : Nat} (hl : xs.length ≤ 1000000) (hc : xs.length ≤ c) (r : RSl h A xs.length 12 (xs.flatMap Rul.enc)) {K : Value → Hp → Prop}
    (H : ∀ h' S', En h' b S' cf (runE cf l (setO cf l xs)).2 → Tg S S' h h' → K (.int .i64 (runE cf l (setO cf l xs)).1) h') : CallsH Try.prog 13 #[.pointer (some ⟨b, 0, none⟩), .slice A xs.length c] h K :=
  eSet_s q hm hl hc r (fun h0 h' e => by rw [runE_no h0] at H; exact H h' S (q.ext e) (Ext.tg e)) (fun h0 hr h' e => by rw [runE_full h0 hr] at H; exact H h' S (q.ext e) (Ext.tg e)) (fun h0 hr h' S' q' t => by rw [runE_yes h0 hr] at H; exact H h' S' q' t)
/-- Two engines made since h0. -/
structure Two (h0 h : Hp) (cf : Cfg) (b : Nat) (S : Nat → Prop) (l : List Rul) (b' : Nat) (S' : Nat → Prop) (l' : List Rul) : Prop where
  x : EO h0 h b S cf l
  y : EO h0 h b' S' cf l'
  apart : ∀ k, S k → ¬ S' k
theorem Two.ext {h0 h h1 : Hp} {cf : Cfg} {b b' : Nat} {S S' : Nat → Prop} {l l' : List Rul} (t : Two h0 h cf b S l b' S' l') (e : Ext h h1) : Two h0 h1 cf b S l b' S' l' := ⟨t.x.ext e, t.y.ext e, t.apart⟩
theorem EO.other {h0 h h' : Hp} {cf : Cfg} {b b' : Nat} {S S' T : Nat → Prop} {l l' : List Rul} (o : EO h0 h b S cf l) (o' : EO h0 h b' S' cf l') (ap : ∀ k, S k → ¬ S' k) (t : Tg S' T h h') : EO h0 h' b S cf l := ⟨o.q.keep t.fr ap, o.hS, extOwn o.e t.fr o'.hS⟩
theorem Two.stepY {h0 h h' : Hp} {cf : Cfg} {b b' : Nat} {S S' T : Nat → Prop} {l l' m : List Rul} (t : Two h0 h cf b S l b' S' l') (q : En h' b' T cf m) (g : Tg S' T h h') : Two h0 h' cf b S l b' T m :=
  ⟨t.x.other t.y t.apart g, t.y.step q g, fun k hk hT => by
    rcases g.own k hT with h1 | h1
    · exact t.apart k hk h1
    · have := t.x.q.old k hk; omega⟩
theorem Two.stepX {h0 h h' : Hp} {cf : Cfg} {b b' : Nat} {S S' T : Nat → Prop} {l l' m : List Rul} (t : Two h0 h cf b S l b' S' l') (q : En h' b T cf m) (g : Tg S T h h') : Two h0 h' cf b T m b' S' l' :=
  ⟨t.x.step q g, t.y.other t.x (fun k hk hs => t.apart k hs hk) g, fun k hT hk => by
    rcases g.own k hT with h1 | h1
    · exact t.apart k h1 hk
    · have := t.y.q.old k hk; omega⟩
/-- An answer laid into boxes, which are new. -/
theorem ansN {h : Hp} (v : Bool × Int × Int) (n r : Nat) {K : Addr → Addr → Hp → Prop} (H : ∀ h' a1 a2, Ext h h' → Cl h' a1 (verd v) → Cl h' a2 (stp n r) → (h.size ≤ a1.block ∧ a1.block < h'.size) → (h.size ≤ a2.block ∧ a2.block < h'.size) → K a1 a2 h') :
    newC h (.cells #[(.bool false), (.int .i64 0), (.int .i64 0)] 36 (0, 0)) fun a248 h247 => 
    newC h247 (.cells #[(.int .i64 0), (.int .i64 0), (.int .i64 0), (.int .i64 0), (.int .i64 0)] 38 (0, 0)) fun a250 h249 => 
    HU Try.prog (Instr.storeAt 36 (.pointer (some a248)) (.agg #[(.bool v.1), (.int .i64 v.2.1), (.int .i64 v.2.2)])) h249 fun h251 => 
    HU Try.prog (Instr.storeAt 38 (.pointer (some a250)) (.agg #[(.int .i64 (n : Int)), (.int .i64 (r : Int)), (.int .i64 0), (.int .i64 0), (.int .i64 0)])) h251 fun h252 => K a248 a250 h252 := by
  refine newC_i (cs := verd (false, 0, 0)) fun h1 e1 c1 b1 z1 => newC_i (cs := stp 0 0) fun h2 e2 c2 b2 z2 => ?_
  refine HU_box (us := verd v) ((e2.fr (fun _ => False)).get b1 (fun h => h)) rfl rfl (by kernel_rfl) rfl fun h3 c3 b3 f3 z3 => ?_
  refine HU_box (us := stp n r) (f3.get b2 (by omega)) rfl rfl (by kernel_rfl) rfl fun h4 c4 b4 f4 z4 => ?_
  refine H h4 _ _ ⟨by omega, fun k hk => ?_⟩ (f4.cl c3 (by show ¬ h.size = _; omega)) c4 ⟨Nat.le_refl _, by show h.size < _; omega⟩ ⟨by show h.size ≤ h1.size; omega, by show h1.size < _; omega⟩
  rw [f4.keep k (by omega) (by omega), f3.keep k (by omega) (by omega), e2.old k (by omega), e1.old k hk]
def exM : Cfg := ⟨64, 1, 100, 100, 100, 4, 8⟩
theorem Pt.ext {S : Nat → Prop} {h h' : Hp} {a : Addr} {vs : List Value} (p : Pt S h a vs) (e : Ext h h') : Pt S h' a vs := p.tg (Ext.tg e)
def sta (l : List Rul) : List Value := [.int .i64 (((bld l).1.length : Int) - 1), .int .i64 ((bld l).2 : Int), .int .i64 0, .int .i64 0]
theorem Apart_j1 {h0 h : Hp} {b b' : Nat} {S S' : Nat → Prop} (t : Two h0 h exM b S [] b' S' []) {xs : List Rul} {A : Option Addr} {c : Nat} (hl : xs.length ≤ 1000000) (hc : xs.length ≤ c) (r0 : RSl h0 A xs.length 12 (xs.flatMap Rul.enc)) (id : Int) {r : Rul} {g : Hdr} {a21 a23 : Addr} (cr : Cl h0 a21 r.enc) (cg : Cl h0 a23 g.enc) {K : Bool → Hp → Prop}
    (H : ∀ h', Ext h0 h' → K true h') : quintetlaw16_PruneApart_j1 K A xs.length c id a21 a23 (some ⟨b, 0, none⟩) (some ⟨b', 0, none⟩) h := by
  unfold quintetlaw16_PruneApart_j1
  refine set_u t.x.q (by decide) hl hc (r0.ext t.x.e) fun h1 S1 q1 t1 => ⟨_, rfl, ?_⟩
  have w1 := t.stepX q1 t1
  refine set_u w1.y.q (by decide) hl hc (r0.ext w1.y.e) fun h2 S2 q2 t2 => ⟨_, rfl, ?_⟩
  have w2 := w1.stepY q2 t2
  refine ⟨_, _, _, _, _, ldS (vs := g.enc) (cg.ext w2.x.e) (by kernel_rfl), ?_⟩
  revert w2
  clear q2 t2 w1 q1 t1 t
  generalize (runE exM [] (setO exM [] xs)).2 = l1
  intro w2
  refine eAsk_s w2.x.q g fun h3 e3 => ⟨_, _, _, _, _, _, _, _, rfl, ansN _ _ _ fun h4 a200 a202 e4 c200 c202 n200 n202 => ?_⟩
  have w4 := w2.ext (e3.trans e4)
  refine eStats_s w4.x.q fun h5 e5 => ⟨_, _, _, _, rfl, ?_⟩
  refine newC_i (cs := [Value.int .i64 0, Value.int .i64 0, Value.int .i64 0, Value.int .i64 0]) fun h6 e6 c6 b6 z6 => ?_
  refine HU_box (us := sta l1) b6 rfl rfl (by kernel_rfl) rfl fun h7 c7 b7 f7 z7 => ?_
  have e57 : Ext h5 h7 := extOwn e6 f7 (fun k hk => by omega)
  have w7 := w4.ext (e5.trans e57)
  have old2 := w2.y.q.old
  have old4 := w4.y.q.old
  have s3 := e3.size
  have s5 := e5.size
  have p200 : Pt S2 h7 a200 (verd (askI l1 exM.dflt g).1) := (⟨c200, fun hs => by have := old2 _ hs; omega, n200.2⟩ : Pt S2 h4 _ _).ext (e5.trans e57)
  have p202 : Pt S2 h7 a202 (stp (askI l1 exM.dflt g).2.1 (askI l1 exM.dflt g).2.2) := (⟨c202, fun hs => by have := old2 _ hs; omega, n202.2⟩ : Pt S2 h4 _ _).ext (e5.trans e57)
  have p212 : Pt S2 h7 ⟨h5.size, 0, none⟩ (sta l1) := ⟨c7, fun hs => by have := old4 _ hs; have : h5.size < h4.size := this; omega, by show h5.size < _; omega⟩
  refine ⟨_, _, _, _, _, _, _, _, _, _, _, _, ldS (vs := r.enc) (cr.ext w7.x.e) (by kernel_rfl), ?_⟩
  refine ins_u w7.y.q (by decide) 0 r fun h8 S8 q8 t8 => ⟨_, rfl, ?_⟩
  have w8 := w7.stepY q8 t8
  refine del_u w8.y.q id fun h9 S9 q9 t9 => ⟨_, rfl, ?_⟩
  have w9 := w8.stepY q9 t9
  refine set_u (xs := []) w9.y.q (by decide) (by decide) (by decide) (A := none) (c := 0) ⟨rfl, .inl rfl⟩ fun h10 S10 q10 t10 => ⟨_, rfl, ?_⟩
  have w10 := w9.stepY q10 t10
  have p200' := ((p200.tg t8).tg t9).tg t10
  have p202' := ((p202.tg t8).tg t9).tg t10
  have p212' := ((p212.tg t8).tg t9).tg t10
  refine ⟨_, _, _, _, _, ldS (vs := g.enc) (cg.ext w10.x.e) (by kernel_rfl), ?_⟩
  refine eAsk_s w10.x.q g fun h11 e11 => ⟨_, _, _, _, _, _, _, _, rfl, ansN _ _ _ fun h12 a251 a253 e12 c251 c253 n251 n253 => ?_⟩
  refine eawake_s fun h13 e13 => ⟨_, rfl, br_t rfl (br_t (by simp) ?_)⟩
  have e103 := (e11.trans e12).trans e13
  have w13 := w10.ext e103
  refine ⟨_, _, _, ldS (vs := verd (askI l1 exM.dflt g).1) (p200'.cl.ext e103) (by kernel_rfl), _, _, _, ldS (vs := verd (askI l1 exM.dflt g).1) (c251.ext e13) (by kernel_rfl), _, eqV _ _ _ _ _ _, br_t (by simp) ?_⟩
  refine ⟨_, _, _, _, _, ldS (vs := stp (askI l1 exM.dflt g).2.1 (askI l1 exM.dflt g).2.2) (p202'.cl.ext e103) (by kernel_rfl), _, _, _, _, _, ldS (vs := stp (askI l1 exM.dflt g).2.1 (askI l1 exM.dflt g).2.2) (c253.ext e13) (by kernel_rfl), _, eqSteps _ _ _ _ _ _ _ _ _ _, br_t (by simp) ?_⟩
  refine ⟨_, _, _, _, ldS (vs := sta l1) (p212'.cl.ext e103) (by kernel_rfl), ?_⟩
  refine eStats_s w13.x.q fun h14 e14 => ⟨_, _, _, _, rfl, ldS (vs := sta l1) ((p212'.cl.ext e103).ext e14) (by kernel_rfl), _, eqStats _ _ _ _ _ _ _ _, ?_⟩
  have := H h14 (w13.x.e.trans e14)
  simpa using this
theorem Apart_s {xs : List Rul} {A : Option Addr} {c : Nat} (hc : xs.length ≤ c) (r : Rul) (id : Int) (g : Hdr) {h : Hp} (r0 : RSl h A xs.length 12 (xs.flatMap Rul.enc)) {K : Value → Hp → Prop} (H : ∀ h', Ext h h' → K (.bool true) h') :
    CallsH Try.prog 5 #[.slice A xs.length c, r.val, .int .i64 id, g.val] h K := by
  refine quintetlaw16_PruneApart_ok _ _ _ _ _ _ _ _ _ _ _ _ _ _ _ _ _ _ _ _ _ ?_
  unfold quintetlaw16_PruneApart
  refine newC_i (cs := r.enc) fun h1 e1 c1 b1 z1 => newC_i (cs := g.enc) fun h2 e2 c2 b2 z2 => ?_
  have e02 := e1.trans e2
  refine br_i (fun _ => H h2 e02) (fun p => ?_)
  have hl : xs.length ≤ 1000000 := by simp at p; omega
  refine example_s fun h3 e3 => ⟨_, _, _, _, _, _, _, rfl, ?_⟩
  refine newC_i (cs := (⟨0, 0, 0, 0, 0, 0, 0⟩ : Cfg).enc) fun h4 e4 c4 b4 z4 => ?_
  refine HU_box (us := exC.enc) b4 rfl rfl (by kernel_rfl) rfl fun h5 c5 b5 f5 z5 => ?_
  refine HU_st (us := [.int .i64 64]) b5 rfl (by kernel_rfl) (by simp [Cfg.enc]) rfl ?_
  have ec : exC.enc.take 0 ++ [.int .i64 64] ++ exC.enc.drop (0 + [Value.int .i64 64].length) = exM.enc := rfl
  rw [ec]
  have f6 : Fr (fun k => k = h3.size) h5 (setB h5 h3.size exM.enc 24) := setB_fr rfl
  have b6 := setB_get (cs := exM.enc) (T := 24) (lt_of_get b5)
  have z6 : (setB h5 h3.size exM.enc 24).size = h5.size := setB_size
  revert f6 b6 z6
  generalize setB h5 h3.size exM.enc 24 = h6
  intro f6 b6 z6
  have e36 : Ext h3 h6 := ⟨by omega, fun k hk => by rw [f6.keep k (by omega) (by omega), f5.keep k (by omega) (by omega), e4.old k hk]⟩
  have c6 : Cl h6 ⟨h3.size, 0, none⟩ exM.enc := Cl.of_block b6 fun j v hj => by rw [Nat.zero_add]; exact hj
  refine ⟨_, _, _, _, _, _, _, ldS (vs := exM.enc) c6 (by kernel_rfl), ?_⟩
  have hck : exM.check = 0 := by decide +kernel
  refine eNew_s exM (fun hc => absurd hck hc) (fun _ h7 b S e7 hS q7 => ⟨_, _, rfl, _, _, _, _, _, _, _, ldS (vs := exM.enc) (c6.ext e7) (by kernel_rfl), ?_⟩)
  refine eNew_s exM (fun hc => absurd hck hc) (fun _ h8 b' S' e8 hS' q8 => ⟨_, _, rfl, _, eqNil und_ep, br_f rfl ⟨_, eqNil und_ep, br_f rfl ?_⟩⟩)
  have s7 := e7.size
  have w : Two h6 h8 exM b S [] b' S' [] := ⟨⟨q7.ext e8, hS, e7.trans e8⟩, ⟨q8, fun k hk => by have := hS' k hk; omega, e7.trans e8⟩, fun k hk hk' => by
    have := q7.old k hk
    have := hS' k hk'
    omega⟩
  have e26 := e3.trans e36
  have e06 := e02.trans e26
  exact Apart_j1 w hl hc (r0.ext e06) id ((c1.ext e2).ext e26) (c2.ext e26) fun h' e => H h' (e06.trans e)
end Go.Proofs.Ytomhkbhgpmcbiaa.Fs
