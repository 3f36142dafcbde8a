/- The prune statements' examples. -/
import Derived.Test.YtomhkbhgpmcbiaaGreatPnEng4
import Derived.Test.YtomhkbhgpmcbiaaGreatFsD
import Derived.Test.YtomhkbhgpmcbiaaGreatFsE
namespace Go.Proofs.YtomhkbhgpmcbiaaGreat.Fs
open Go Go.RowKit Go.Proofs.YtomhkbhgpmcbiaaGreat.Sx
set_option linter.unusedVariables false
set_option linter.unusedSimpArgs false
set_option maxRecDepth 10000
def Cfg.okB (c : Cfg) (b1 b2 : Bool) : Int := if (b1 && b2 && inB c.binth 1 16 && inB c.depth 0 10) = true then 0 else 110
theorem ref_j3 (cf : Cfg) {a : Addr} {h : Hp} (hc : Cl h a cf.enc) (b1 b2 : Bool) {K0 : Int → Hp → Prop} (H : ∀ v, v = cf.okB b1 b2 → K0 v h) : quintetref11_Check_j3 K0 a b1 b2 h := by
  unfold quintetref11_Check_j3
  repeat' (first
    | (refine And.intro (ld (hc.at_ 5 _ rfl) (by kernel_rfl)) ?_)
    | (refine And.intro (ld (hc.at_ 6 _ rfl) (by kernel_rfl)) ?_)
    | (refine H _ ?_)
    | (refine newC_i fun _ _ _ _ _ => ?_)
    | (refine br_i (fun _ => ?_) (fun _ => ?_))
    | (refine And.intro rfl ?_)
    | (refine And.intro (ld (Cl.at_ (by first | assumption | exact Cl.ext2 (by assumption) (by first | assumption | exact Cl.ext2 (by assumption) (by first | assumption | exact Cl.ext2 (by assumption) (by first | assumption | exact Cl.ext2 (by assumption) (by first | assumption | exact Cl.ext2 (by assumption) (by first | assumption | exact Cl.ext2 (by assumption) (by first | assumption | exact Cl.ext2 (by assumption) (by first | assumption | exact Cl.ext2 (by assumption) (by first | assumption | exact Cl.ext2 (by assumption) (by assumption)))))))))) _ _ rfl) (by kernel_rfl)) ?_)
    | (refine And.intro (ld (Cl.head (by first | assumption | exact Cl.ext2 (by assumption) (by first | assumption | exact Cl.ext2 (by assumption) (by first | assumption | exact Cl.ext2 (by assumption) (by first | assumption | exact Cl.ext2 (by assumption) (by first | assumption | exact Cl.ext2 (by assumption) (by first | assumption | exact Cl.ext2 (by assumption) (by first | assumption | exact Cl.ext2 (by assumption) (by first | assumption | exact Cl.ext2 (by assumption) (by first | assumption | exact Cl.ext2 (by assumption) (by assumption))))))))))) (by kernel_rfl)) ?_)
    | (refine And.intro (ldS (by first | assumption | exact Cl.ext2 (by assumption) (by first | assumption | exact Cl.ext2 (by assumption) (by first | assumption | exact Cl.ext2 (by assumption) (by first | assumption | exact Cl.ext2 (by assumption) (by first | assumption | exact Cl.ext2 (by assumption) (by first | assumption | exact Cl.ext2 (by assumption) (by first | assumption | exact Cl.ext2 (by assumption) (by first | assumption | exact Cl.ext2 (by assumption) (by first | assumption | exact Cl.ext2 (by assumption) (by assumption)))))))))) (by kernel_rfl)) ?_)
    | (refine And.intro (ldS (Cl.sl (by first | assumption | exact Cl.ext2 (by assumption) (by first | assumption | exact Cl.ext2 (by assumption) (by first | assumption | exact Cl.ext2 (by assumption) (by first | assumption | exact Cl.ext2 (by assumption) (by first | assumption | exact Cl.ext2 (by assumption) (by first | assumption | exact Cl.ext2 (by assumption) (by first | assumption | exact Cl.ext2 (by assumption) (by first | assumption | exact Cl.ext2 (by assumption) (by first | assumption | exact Cl.ext2 (by assumption) (by assumption)))))))))) rfl) (by kernel_rfl)) ?_)
    | (apply Exists.intro))
  all_goals (simp_all [Cfg.okB, inB])
  all_goals (intros; omega)
theorem ref_j2 (cf : Cfg) {a : Addr} {h : Hp} (hc : Cl h a cf.enc) (b1 : Bool) {K0 : Int → Hp → Prop} (H : ∀ v, v = cf.okB b1 (inB cf.prune 0 1048576 && inB cf.grid 0 1048576 && inB cf.tuple 0 1048576) → K0 v h) : quintetref11_Check_j2 K0 a b1 h := by
  unfold quintetref11_Check_j2
  repeat' (first
    | (refine And.intro (ld (hc.at_ 2 _ rfl) (by kernel_rfl)) ?_)
    | (refine And.intro (ld (hc.at_ 3 _ rfl) (by kernel_rfl)) ?_)
    | (refine And.intro (ld (hc.at_ 4 _ rfl) (by kernel_rfl)) ?_)
    | (refine ref_j3 cf hc _ _ (fun v hv => H v ?_))
    | (refine newC_i fun _ _ _ _ _ => ?_)
    | (refine br_i (fun _ => ?_) (fun _ => ?_))
    | (refine And.intro rfl ?_)
    | (refine And.intro (ld (Cl.at_ (by first | assumption | exact Cl.ext2 (by assumption) (by first | assumption | exact Cl.ext2 (by assumption) (by first | assumption | exact Cl.ext2 (by assumption) (by first | assumption | exact Cl.ext2 (by assumption) (by first | assumption | exact Cl.ext2 (by assumption) (by first | assumption | exact Cl.ext2 (by assumption) (by first | assumption | exact Cl.ext2 (by assumption) (by first | assumption | exact Cl.ext2 (by assumption) (by first | assumption | exact Cl.ext2 (by assumption) (by assumption)))))))))) _ _ rfl) (by kernel_rfl)) ?_)
    | (refine And.intro (ld (Cl.head (by first | assumption | exact Cl.ext2 (by assumption) (by first | assumption | exact Cl.ext2 (by assumption) (by first | assumption | exact Cl.ext2 (by assumption) (by first | assumption | exact Cl.ext2 (by assumption) (by first | assumption | exact Cl.ext2 (by assumption) (by first | assumption | exact Cl.ext2 (by assumption) (by first | assumption | exact Cl.ext2 (by assumption) (by first | assumption | exact Cl.ext2 (by assumption) (by first | assumption | exact Cl.ext2 (by assumption) (by assumption))))))))))) (by kernel_rfl)) ?_)
    | (refine And.intro (ldS (by first | assumption | exact Cl.ext2 (by assumption) (by first | assumption | exact Cl.ext2 (by assumption) (by first | assumption | exact Cl.ext2 (by assumption) (by first | assumption | exact Cl.ext2 (by assumption) (by first | assumption | exact Cl.ext2 (by assumption) (by first | assumption | exact Cl.ext2 (by assumption) (by first | assumption | exact Cl.ext2 (by assumption) (by first | assumption | exact Cl.ext2 (by assumption) (by first | assumption | exact Cl.ext2 (by assumption) (by assumption)))))))))) (by kernel_rfl)) ?_)
    | (refine And.intro (ldS (Cl.sl (by first | assumption | exact Cl.ext2 (by assumption) (by first | assumption | exact Cl.ext2 (by assumption) (by first | assumption | exact Cl.ext2 (by assumption) (by first | assumption | exact Cl.ext2 (by assumption) (by first | assumption | exact Cl.ext2 (by assumption) (by first | assumption | exact Cl.ext2 (by assumption) (by first | assumption | exact Cl.ext2 (by assumption) (by first | assumption | exact Cl.ext2 (by assumption) (by first | assumption | exact Cl.ext2 (by assumption) (by assumption)))))))))) rfl) (by kernel_rfl)) ?_)
    | (apply Exists.intro))
  all_goals (rename_i hv; rw [hv]; congr 1; simp_all [inB])
  all_goals (intros; omega)
theorem ref_Check_s (cf : Cfg) {h : Hp} {K : Value → Hp → Prop} (H : ∀ v h', Ext h h' → v = cf.check → K (.int .i64 v) h') : CallsH Tryz.prog 6 #[cf.val] h K := by
  refine quintetref11_Check_ok _ _ _ _ _ _ _ ?_
  unfold quintetref11_Check
  refine newC_i fun h1 e1 c1 b1 z1 => ?_
  repeat' (first
    | (refine ref_j2 cf c1 _ (fun v hv => H v h1 e1 ?_))
    | (refine newC_i fun _ _ _ _ _ => ?_)
    | (refine br_i (fun _ => ?_) (fun _ => ?_))
    | (refine And.intro rfl ?_)
    | (refine And.intro (ld (Cl.at_ (by first | assumption | exact Cl.ext2 (by assumption) (by first | assumption | exact Cl.ext2 (by assumption) (by first | assumption | exact Cl.ext2 (by assumption) (by first | assumption | exact Cl.ext2 (by assumption) (by first | assumption | exact Cl.ext2 (by assumption) (by first | assumption | exact Cl.ext2 (by assumption) (by first | assumption | exact Cl.ext2 (by assumption) (by first | assumption | exact Cl.ext2 (by assumption) (by first | assumption | exact Cl.ext2 (by assumption) (by assumption)))))))))) _ _ rfl) (by kernel_rfl)) ?_)
    | (refine And.intro (ld (Cl.head (by first | assumption | exact Cl.ext2 (by assumption) (by first | assumption | exact Cl.ext2 (by assumption) (by first | assumption | exact Cl.ext2 (by assumption) (by first | assumption | exact Cl.ext2 (by assumption) (by first | assumption | exact Cl.ext2 (by assumption) (by first | assumption | exact Cl.ext2 (by assumption) (by first | assumption | exact Cl.ext2 (by assumption) (by first | assumption | exact Cl.ext2 (by assumption) (by first | assumption | exact Cl.ext2 (by assumption) (by assumption))))))))))) (by kernel_rfl)) ?_)
    | (refine And.intro (ldS (by first | assumption | exact Cl.ext2 (by assumption) (by first | assumption | exact Cl.ext2 (by assumption) (by first | assumption | exact Cl.ext2 (by assumption) (by first | assumption | exact Cl.ext2 (by assumption) (by first | assumption | exact Cl.ext2 (by assumption) (by first | assumption | exact Cl.ext2 (by assumption) (by first | assumption | exact Cl.ext2 (by assumption) (by first | assumption | exact Cl.ext2 (by assumption) (by first | assumption | exact Cl.ext2 (by assumption) (by assumption)))))))))) (by kernel_rfl)) ?_)
    | (refine And.intro (ldS (Cl.sl (by first | assumption | exact Cl.ext2 (by assumption) (by first | assumption | exact Cl.ext2 (by assumption) (by first | assumption | exact Cl.ext2 (by assumption) (by first | assumption | exact Cl.ext2 (by assumption) (by first | assumption | exact Cl.ext2 (by assumption) (by first | assumption | exact Cl.ext2 (by assumption) (by first | assumption | exact Cl.ext2 (by assumption) (by first | assumption | exact Cl.ext2 (by assumption) (by first | assumption | exact Cl.ext2 (by assumption) (by assumption)))))))))) rfl) (by kernel_rfl)) ?_)
    | (apply Exists.intro))
  all_goals (rename_i hv; rw [hv])
  all_goals (simp_all [Cfg.check, Cfg.ok, Cfg.okB, inB])
  all_goals (intros; omega)
def exC : Cfg := ⟨10, 1, 100, 100, 100, 4, 8⟩
theorem example_s {h : Hp} {K : Value → Hp → Prop} (H : ∀ h', Ext h h' → K exC.val h') : CallsH Tryz.prog 11 #[] h K := by
  refine quintetlaw16_example_ok ?_
  unfold quintetlaw16_example
  refine newV (us := exC.enc) rfl rfl size24 rfl fun h1 e1 c1 b1 z1 => ?_
  exact ⟨_, _, _, _, _, _, _, ldS c1 (by kernel_rfl), H h1 e1⟩
def ev (id a : Int) : Rul := ⟨id, 0, 0, 0, 0, 0, 65535, 0, 65535, 0, 0, a⟩
theorem every_s (id a : Int) {h : Hp} {K : Value → Hp → Prop} (H : ∀ h', Ext h h' → K (ev id a).val h') : CallsH Tryz.prog 12 #[.int .i64 id, .int .i64 a] h K := by
  refine quintetlaw16_every_ok _ _ ?_
  unfold quintetlaw16_every
  refine newV (us := (ev id a).enc) rfl rfl size_ru rfl fun h1 e1 c1 b1 z1 => ?_
  exact ⟨_, _, _, _, _, _, _, _, _, _, _, _, ldS c1 (by kernel_rfl), H h1 e1⟩
def rA : Rul := ⟨1, 167772160, 8, 0, 0, 0, 65535, 0, 65535, 0, 0, 2⟩
def rB : Rul := ⟨2, 0, 0, 167772160, 8, 0, 65535, 0, 65535, 0, 0, 3⟩
theorem st_src {h : Hp} {bk : Nat} {r : Rul} (hb : h[bk]? = some (.cells r.enc.toArray 52 (0, 0))) (a l : Int) {K : Hp → Prop} (H : ∀ h', h'[bk]? = some (.cells ({ r with sA := a, sL := l } : Rul).enc.toArray 52 (0, 0)) → Fr (fun k => k = bk) h h' → h'.size = h.size → K h') : HU Tryz.prog (Instr.storeAt 45 (.pointer (some ((⟨bk, 0, none⟩ : Addr).add 1))) (.agg #[.int .u32 a, .int .i64 l])) h K := by
  rw [add_eq0]
  refine HU_st (us := [.int .u32 a, .int .i64 l]) hb rfl (by kernel_rfl) (by simp [Rul.enc]) rfl ?_
  have e : r.enc.take 1 ++ [.int .u32 a, .int .i64 l] ++ r.enc.drop (1 + [Value.int .u32 a, Value.int .i64 l].length) = ({ r with sA := a, sL := l } : Rul).enc := rfl
  rw [e]
  exact H _ (setB_get (lt_of_get hb)) (setB_fr rfl) setB_size
theorem st_dst {h : Hp} {bk : Nat} {r : Rul} (hb : h[bk]? = some (.cells r.enc.toArray 52 (0, 0))) (a l : Int) {K : Hp → Prop} (H : ∀ h', h'[bk]? = some (.cells ({ r with dA := a, dL := l } : Rul).enc.toArray 52 (0, 0)) → Fr (fun k => k = bk) h h' → h'.size = h.size → K h') : HU Tryz.prog (Instr.storeAt 45 (.pointer (some ((⟨bk, 0, none⟩ : Addr).add 3))) (.agg #[.int .u32 a, .int .i64 l])) h K := by
  rw [add_eq0]
  refine HU_st (us := [.int .u32 a, .int .i64 l]) hb rfl (by kernel_rfl) (by simp [Rul.enc]) rfl ?_
  have e : r.enc.take 3 ++ [.int .u32 a, .int .i64 l] ++ r.enc.drop (3 + [Value.int .u32 a, Value.int .i64 l].length) = ({ r with dA := a, dL := l } : Rul).enc := rfl
  rw [e]
  exact H _ (setB_get (lt_of_get hb)) (setB_fr rfl) setB_size
theorem eqV (a d : Bool) (b c e f : Int) : PV Tryz.prog (binOp .eql 62 (.agg #[.bool a, .int .i64 b, .int .i64 c]) (.agg #[.bool d, .int .i64 e, .int .i64 f])) (.bool (decide (a = d ∧ b = e ∧ c = f))) := by
  intro w
  rw [run_eql_struct, run_equalIn_struct w 9999 62 _ _ (by kernel_rfl) (by kernel_rfl)]
  simp [go_sem]
  cases a <;> cases d <;> by_cases h1 : b = e <;> by_cases h2 : c = f <;> simp [h1, h2]
/-- An engine made since h0. -/
structure EO (h0 h : Hp) (b : Nat) (S : Nat → Prop) (cf : Cfg) (l : List Rul) : Prop where
  q : En h b S cf l
  hS : ∀ k, S k → h0.size ≤ k
  e : Ext h0 h
theorem EO.ext {h0 h h' : Hp} {b : Nat} {S : Nat → Prop} {cf : Cfg} {l : List Rul} (o : EO h0 h b S cf l) (e : Ext h h') : EO h0 h' b S cf l := ⟨o.q.ext e, o.hS, o.e.trans e⟩
theorem EO.step {h0 h h' : Hp} {b : Nat} {S S' : Nat → Prop} {cf : Cfg} {l l' : List Rul} (o : EO h0 h b S cf l) (q : En h' b S' cf l') (t : Tg S S' h h') : EO h0 h' b S' cf l' := ⟨q, fun k hk => by
  rcases t.own k hk with h | h
  · exact o.hS k h
  · have := o.e.size; omega, extOwn o.e t.fr o.hS⟩
theorem i1 : insI exC [] 0 rA = (0, [rA]) := by decide +kernel
theorem m1 : roomB exC [rA] = true := by decide +kernel
theorem i2 : insI exC [rA] 1 rB = (0, [rA, rB]) := by decide +kernel
theorem m2 : roomB exC [rA, rB] = true := by decide +kernel
theorem i3 : (insI exC [rA, rB] 0 rA).1 = 111 := by decide +kernel
def g1 : Hdr := ⟨167772169, 167772160, 0, 0, 0⟩
def g2 : Hdr := ⟨150994944, 167772160, 0, 0, 0⟩
def g3 : Hdr := ⟨150994944, 150994944, 0, 0, 0⟩
theorem k1 : (askI [rA, rB] 1 g1).1 = (true, 1, 2) ∧ 1 ≤ (askI [rA, rB] 1 g1).2.2 := by decide +kernel
theorem k2 : (askI [rA, rB] 1 g2).1.2.1 = 2 := by decide +kernel
theorem k3 : (askI [rA, rB] 1 g3).1 = (false, 0, 1) := by decide +kernel
/-- An answer laid into boxes. -/
theorem ans_s {h : Hp} (v : Bool × Int × Int) (n r : Nat) {K : Addr → Addr → Hp → Prop} (H : ∀ h' a1 a2, Ext h h' → Cl h' a1 (verd v) → Cl h' a2 (stp n r) → K a1 a2 h') :
    newC h (.cells #[(.bool false), (.int .i64 0), (.int .i64 0)] 62 (0, 0)) fun a248 h247 => 
    newC h247 (.cells #[(.int .i64 0), (.int .i64 0), (.int .i64 0), (.int .i64 0), (.int .i64 0)] 64 (0, 0)) fun a250 h249 => 
    HU Tryz.prog (Instr.storeAt 62 (.pointer (some a248)) (.agg #[(.bool v.1), (.int .i64 v.2.1), (.int .i64 v.2.2)])) h249 fun h251 => 
    HU Tryz.prog (Instr.storeAt 64 (.pointer (some a250)) (.agg #[(.int .i64 (n : Int)), (.int .i64 (r : Int)), (.int .i64 0), (.int .i64 0), (.int .i64 0)])) h251 fun h252 => K a248 a250 h252 := by
  refine newC_i (cs := verd (false, 0, 0)) fun h1 e1 c1 b1 z1 => newC_i (cs := stp 0 0) fun h2 e2 c2 b2 z2 => ?_
  refine HU_box (us := verd v) ((e2.fr (fun _ => False)).get b1 (fun h => h)) rfl rfl (by kernel_rfl) rfl fun h3 c3 b3 f3 z3 => ?_
  refine HU_box (us := stp n r) (f3.get b2 (by omega)) rfl rfl (by kernel_rfl) rfl fun h4 c4 b4 f4 z4 => ?_
  refine H h4 _ _ ⟨by omega, fun k hk => ?_⟩ (f4.cl c3 (by show ¬ h.size = _; omega)) c4
  rw [f4.keep k (by omega) (by omega), f3.keep k (by omega) (by omega), e2.old k (by omega), e1.old k hk]
theorem boxPt {S : Nat → Prop} {h : Hp} {bk : Nat} {vs : List Value} {T : TypeId} (hb : h[bk]? = some (.cells vs.toArray T (0, 0))) (hn : ¬ S bk) : Pt S h ⟨bk, 0, none⟩ vs :=
  ⟨Cl.of_block hb fun j v hj => by rw [Nat.zero_add]; exact hj, hn, lt_of_get hb⟩
theorem eawake_s {h : Hp} {K : Value → Hp → Prop} (H : ∀ h', Ext h h' → K (.bool true) h') : CallsH Tryz.prog 7 #[] h K := by
  refine quintetlaw16_awake_ok ?_
  unfold quintetlaw16_awake
  refine example_s fun h1 e1 => ⟨_, _, _, _, _, _, _, rfl, ?_⟩
  refine eNew_s exC (fun hc => absurd (by decide +kernel) hc) (fun _ h2 b S e2 hS q2 => ⟨_, _, rfl, _, eqNil und_ep, br_f rfl (br_f rfl ?_)⟩)
  have o2 : EO h h2 b S exC [] := ⟨q2, fun k hk => by have := hS k hk; have := e1.size; omega, e1.trans e2⟩
  unfold quintetlaw16_awake_j1
  refine every_s 1 2 fun h3 e3 => ⟨_, _, _, _, _, _, _, _, _, _, _, _, rfl, ?_⟩
  refine newV (us := (ev 1 2).enc) rfl rfl size_ru rfl fun h4 e4 c4 b4 z4 => ?_
  have s2 := e2.size
  have s3 := e3.size
  have hold : ∀ k, S k → k < h2.size := q2.old
  refine st_src b4 167772160 8 fun h5 b5 f5 z5 => ?_
  have e35 : Ext h3 h5 := extOwn e4 f5 (fun k hk => by omega)
  refine every_s 2 3 fun h6 e6 => ⟨_, _, _, _, _, _, _, _, _, _, _, _, rfl, ?_⟩
  refine newV (us := (ev 2 3).enc) rfl rfl size_ru rfl fun h7 e7 c7 b7 z7 => ?_
  have s6 := e6.size
  refine st_dst b7 167772160 8 fun h8 b8 f8 z8 => ?_
  have e68 : Ext h6 h8 := extOwn e7 f8 (fun k hk => by omega)
  have e58 := e6.trans e68
  have o8 := o2.ext ((e3.trans e35).trans e58)
  have pA : Pt S h8 ⟨h3.size, 0, none⟩ rA.enc := boxPt ((e58.fr (fun _ => False)).get b5 (fun h => h)) (fun hs => by have := hold _ hs; omega)
  have pB : Pt S h8 ⟨h6.size, 0, none⟩ rB.enc := boxPt b8 (fun hs => by have := hold _ hs; omega)
  refine ⟨_, _, _, _, _, _, _, _, _, _, _, _, ldS (vs := rA.enc) pA.cl (by kernel_rfl), ?_⟩
  refine eIns_s o8.q (by decide) 0 rA (fun hc => absurd (by rw [i1]) hc) (fun _ hc => absurd hc (by rw [i1, m1]; decide)) fun _ _ h9 S9 q9 t9 => ⟨_, rfl, ?_⟩
  rw [i1] at q9
  have o9 := o8.step q9 t9
  have pA9 := pA.tg t9
  have pB9 := pB.tg t9
  refine ⟨_, _, _, _, _, _, _, _, _, _, _, _, ldS (vs := rB.enc) pB9.cl (by kernel_rfl), ?_⟩
  refine eIns_s o9.q (by decide) 1 rB (fun hc => absurd (by rw [i2]) hc) (fun _ hc => absurd hc (by rw [i2, m2]; decide)) fun _ _ h10 S10 q10 t10 => ⟨_, rfl, ?_⟩
  rw [i2] at q10
  have o10 := o9.step q10 t10
  have pA10 := pA9.tg t10
  refine ⟨_, _, _, _, _, _, _, _, _, _, _, _, ldS (vs := rA.enc) pA10.cl (by kernel_rfl), ?_⟩
  refine eIns_s o10.q (by decide) 0 rA (fun _ h11 e11 => ⟨_, rfl, ?_⟩) (fun hc => absurd hc (by rw [i3]; decide)) (fun hc => absurd hc (by rw [i3]; decide))
  rw [i3]
  have o11 := o10.ext e11
  refine eAsk_s o11.q g1 fun h12 e12 => ⟨_, _, _, _, _, _, _, _, rfl, ans_s _ _ _ fun h13 a248 a250 e13 c248 c250 => ?_⟩
  have o13 := (o11.ext e12).ext e13
  refine eAsk_s o13.q g2 fun h14 e14 => ⟨_, _, _, _, _, _, _, _, rfl, ans_s _ _ _ fun h15 a264 a266 e15 c264 c266 => ?_⟩
  have o15 := (o13.ext e14).ext e15
  refine eAsk_s o15.q g3 fun h16 e16 => ⟨_, _, _, _, _, _, _, _, rfl, ans_s _ _ _ fun h17 a280 a282 e17 c280 c282 => ?_⟩
  have o17 := (o15.ext e16).ext e17
  have e1317 := ((e14.trans e15).trans e16).trans e17
  have e1517 := e16.trans e17
  refine br_t rfl (br_t rfl (br_t rfl ⟨_, _, _, ldS (vs := verd (askI [rA, rB] exC.dflt g1).1) (c248.ext e1317) (by kernel_rfl), _, eqV _ _ _ _ _ _, ?_⟩))
  have hk1 := k1
  have hk2 := k2
  have hk3 := k3
  refine br_t ?_ ⟨_, ld ((c250.ext e1317).at_ 1 _ rfl) (by kernel_rfl), br_t ?_ ⟨_, ld ((c264.ext e1517).at_ 1 _ rfl) (by kernel_rfl), br_t ?_ ⟨_, _, _, ldS (vs := verd (askI [rA, rB] exC.dflt g3).1) c280 (by kernel_rfl), _, eqV _ _ _ _ _ _, ?_⟩⟩⟩
  · rw [show exC.dflt = 1 from rfl, k1.1]; decide
  · have := k1.2
    rw [show exC.dflt = 1 from rfl]
    simp; omega
  · rw [show exC.dflt = 1 from rfl, k2]; decide
  · rw [show exC.dflt = 1 from rfl, k3]
    exact H h17 o17.e
end Go.Proofs.YtomhkbhgpmcbiaaGreat.Fs
