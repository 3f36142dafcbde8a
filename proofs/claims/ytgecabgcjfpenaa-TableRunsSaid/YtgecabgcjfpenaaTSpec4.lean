/- The table's Check, New, At, Move and Set. -/
import Derived.Test.YtgecabgcjfpenaaTSpec3
namespace Go.Proofs.Ytgecabgcjfpenaa.Fs
open Go Go.RowKit Go.Proofs.Ytgecabgcjfpenaa.Sx
set_option linter.unusedVariables false
set_option linter.unusedSimpArgs false
set_option maxRecDepth 10000
def inB (n a b : Int) : Bool := decide (n ≥ a) && decide (n ≤ b)
def Cfg.ok (c : Cfg) : Bool := inB c.max 1 64 && inB c.dflt 1 4 && inB c.binth 1 16 && inB c.depth 0 10 && inB c.prune 0 1048576 && inB c.grid 0 1048576 && inB c.tuple 0 1048576
def Cfg.check (c : Cfg) : Int := if c.ok then 0 else 110
theorem tcheck_l3 (x0 x1 x2 : Int) {K0 : Bool → Hp → Prop} {h : Hp} (q : Bool) : ∀ (n k : Nat) (b : Bool), n ≤ 3 → 3 - n < k → (b && ([x0, x1, x2].drop n).all (fun x => inB x 0 1048576)) = q → K0 q h → table_Check_l3 x0 x1 x2 K0 k b n h := by
  intro n k
  induction k generalizing n with
  | zero => intro b _ h; omega
  | succ k ih =>
    intro b hn hk hq HK
    unfold table_Check_l3
    refine br_i (fun c => ?_) (fun c => ?_)
    · have hlt : n < 3 := by simp at c; omega
      obtain ⟨x, hx⟩ : ∃ x, [x0, x1, x2][n]? = some x := ⟨[x0, x1, x2][n]'(by simpa using hlt), by simp [hlt]⟩
      have hd : [x0, x1, x2].drop n = x :: [x0, x1, x2].drop (n + 1) := by
        rw [List.drop_eq_getElem_cons (by simpa using hlt)]
        congr 1
        rw [List.getElem?_eq_getElem (by simpa using hlt)] at hx
        exact Option.some.inj hx
      rw [hd, List.all_cons] at hq
      refine ⟨x, ?_, ?_⟩
      · intro w
        have : n = 0 ∨ n = 1 ∨ n = 2 := by omega
        rcases this with rfl | rfl | rfl <;> simp at hx <;> subst hx <;> exact pureRun_run Try.prog _ _ (by kernel_rfl) w
      · rw [wrap_in (by omega) (by omega)]
        refine br_i (fun c => ?_) (fun c => ?_)
        · refine table_in_s _ _ _ ⟨_, rfl, ?_⟩
          exact ih (n + 1) _ (by omega) (by omega) (by subst c; rw [← hq]; simp [inB]) HK
        · exact ih (n + 1) _ (by omega) (by omega) (by subst c; rw [← hq]; simp) HK
    · have hn3 : n = 3 := by simp at c; omega
      subst hn3
      have : b = q := by simpa using hq
      rw [this]; exact HK
theorem table_Check_s (cf : Cfg) {h : Hp} {K : Value → Hp → Prop} (H : ∀ v h', Ext h h' → v = cf.check → K (.int .i64 v) h') : CallsH Try.prog 11 #[cf.val] h K := by
  refine table_Check_ok _ _ _ _ _ _ _ ?_
  unfold table_Check table_Check_j2
  repeat' (first
    | (refine table_in_s _ _ _ ?_)
    | (refine tcheck_l3 _ _ _ cf.ok 0 4 _ (by omega) (by omega) ?_ ?_)
    | (refine H _ _ (by first | first | assumption | exact Ext.refl _ | exact Ext.trans2 (by assumption) (by first | first | assumption | exact Ext.refl _ | exact Ext.trans2 (by assumption) (by first | first | assumption | exact Ext.refl _ | exact Ext.trans2 (by assumption) (by first | first | assumption | exact Ext.refl _ | exact Ext.trans2 (by assumption) (by first | first | assumption | exact Ext.refl _ | exact Ext.trans2 (by assumption) (by first | first | assumption | exact Ext.refl _ | exact Ext.trans2 (by assumption) (by first | first | assumption | exact Ext.refl _ | exact Ext.trans2 (by assumption) (by first | first | assumption | exact Ext.refl _ | exact Ext.trans2 (by assumption) (by first | first | assumption | exact Ext.refl _ | exact Ext.trans2 (by assumption) (by first | assumption | exact Ext.refl _)))))))))) ?_)
    | (refine newC_i fun _ _ _ _ _ => ?_)
    | (refine br_i (fun _ => ?_) (fun _ => ?_))
    | (refine And.intro rfl ?_)
    | (refine And.intro (ld (Cl.at_ (by first | assumption | exact Cl.ext2 (by assumption) (by first | assumption | exact Cl.ext2 (by assumption) (by first | assumption | exact Cl.ext2 (by assumption) (by first | assumption | exact Cl.ext2 (by assumption) (by first | assumption | exact Cl.ext2 (by assumption) (by first | assumption | exact Cl.ext2 (by assumption) (by first | assumption | exact Cl.ext2 (by assumption) (by first | assumption | exact Cl.ext2 (by assumption) (by first | assumption | exact Cl.ext2 (by assumption) (by assumption)))))))))) _ _ rfl) (by kernel_rfl)) ?_)
    | (refine And.intro (ld (Cl.head (by first | assumption | exact Cl.ext2 (by assumption) (by first | assumption | exact Cl.ext2 (by assumption) (by first | assumption | exact Cl.ext2 (by assumption) (by first | assumption | exact Cl.ext2 (by assumption) (by first | assumption | exact Cl.ext2 (by assumption) (by first | assumption | exact Cl.ext2 (by assumption) (by first | assumption | exact Cl.ext2 (by assumption) (by first | assumption | exact Cl.ext2 (by assumption) (by first | assumption | exact Cl.ext2 (by assumption) (by assumption))))))))))) (by kernel_rfl)) ?_)
    | (refine And.intro (ldS (by first | assumption | exact Cl.ext2 (by assumption) (by first | assumption | exact Cl.ext2 (by assumption) (by first | assumption | exact Cl.ext2 (by assumption) (by first | assumption | exact Cl.ext2 (by assumption) (by first | assumption | exact Cl.ext2 (by assumption) (by first | assumption | exact Cl.ext2 (by assumption) (by first | assumption | exact Cl.ext2 (by assumption) (by first | assumption | exact Cl.ext2 (by assumption) (by first | assumption | exact Cl.ext2 (by assumption) (by assumption)))))))))) (by kernel_rfl)) ?_)
    | (refine And.intro (ldS (Cl.sl (by first | assumption | exact Cl.ext2 (by assumption) (by first | assumption | exact Cl.ext2 (by assumption) (by first | assumption | exact Cl.ext2 (by assumption) (by first | assumption | exact Cl.ext2 (by assumption) (by first | assumption | exact Cl.ext2 (by assumption) (by first | assumption | exact Cl.ext2 (by assumption) (by first | assumption | exact Cl.ext2 (by assumption) (by first | assumption | exact Cl.ext2 (by assumption) (by first | assumption | exact Cl.ext2 (by assumption) (by assumption)))))))))) rfl) (by kernel_rfl)) ?_)
    | (apply Exists.intro))
  all_goals (simp_all [Cfg.check, Cfg.ok, inB])
  all_goals (intros; first | (simp only [Bool.and_assoc]; done) | omega | (simp_all; omega) | simp_all)
theorem size24 : (Try.prog.info? 24).map (·.size) = some 7 := by kernel_rfl
theorem table_New_s (cf : Cfg) {h : Hp} {K : Value → Hp → Prop} (H0 : cf.check ≠ 0 → ∀ h', Ext h h' → K (.tuple #[.pointer none, .int .i64 cf.check]) h')
    (H1 : cf.check = 0 → ∀ h' b, Ext h h' → h.size ≤ b → TabAt h' b (fun k => k = b) cf [] → K (.tuple #[.pointer (some ⟨b, 0, none⟩), .int .i64 0]) h') : CallsH Try.prog 10 #[cf.val] h K := by
  refine table_New_ok _ _ _ _ _ _ _ ?_
  unfold table_New
  refine newC_i fun h1 e1 c1 b1 z1 => ?_
  refine ⟨_, _, _, _, _, _, _, ldS c1 (by kernel_rfl), ?_⟩
  refine table_Check_s cf (fun v h2 e2 hv => ?_)
  refine ⟨_, rfl, ?_⟩
  subst hv
  refine br_i (fun hc => ?_) (fun hc => ?_)
  · exact H0 (by simpa using hc) h2 (e1.trans e2)
  · refine ⟨_, _, _, _, _, _, _, ldS (c1.ext e2) (by kernel_rfl), ?_⟩
    refine newC_i fun h3 e3 c3 b3 z3 => ?_
    refine H1 (by simpa using hc) h3 h2.size ((e1.trans e2).trans e3) (e1.trans e2).size ?_
    refine ⟨rfl, fun k hk => by omega, none, 0, b3, .inl ⟨rfl, rfl, rfl, rfl⟩, ?_, ?_⟩
    · rintro k ⟨a, ha, _⟩; cases ha
    · rintro ⟨a, ha, _⟩; cases ha
def atI (xs : List Rul) (p : Int) : Rul × Int := if h : 0 ≤ p ∧ p < xs.length then (xs[p.toNat]'(by omega), 0) else (zRul, 112)
theorem table_At_s {h : Hp} {b : Nat} {S : Nat → Prop} {cf : Cfg} {xs : List Rul} (t : TabAt h b S cf xs) (p : Int) (hlen : xs.length ≤ 1000000) {K : Value → Hp → Prop}
    (H : ∀ h', Ext h h' → K (.tuple #[(atI xs p).1.val, .int .i64 (atI xs p).2]) h') : CallsH Try.prog 21 #[.pointer (some ⟨b, 0, none⟩), .int .i64 p] h K := by
  refine table_Table_At_ok _ _ ?_
  unfold table_Table_At
  refine newC_i fun h1 e1 c1 b1 z1 => ?_
  refine ⟨_, eqNil eq27, br_f rfl ?_⟩
  obtain ⟨A, c, hb, hr⟩ := (t.ext e1).rules
  refine ⟨_, _, _, ld_rules hb, ?_⟩
  have w1 : IntKind.i64.wrap ((xs.length : Int) - 1) = (xs.length : Int) - 1 := wrap_in (by omega) (by omega)
  rw [w1]
  refine table_in_s _ _ _ ⟨_, rfl, ?_⟩
  refine br_i (fun hc => ?_) (fun hc => ?_)
  · have ha : atI xs p = (zRul, 112) := by rw [atI, dif_neg (by simp at hc; omega)]
    rw [ha] at H
    refine HU_box (us := zRul.enc) b1 rfl rfl size55 rfl fun h2 c2 b2 f2 z2 => ?_
    refine ⟨_, _, _, _, _, _, _, _, _, _, _, _, ldS c2 (by kernel_rfl), ?_⟩
    refine H h2 ⟨by have := e1.size; omega, fun q hq => ?_⟩
    rw [f2.keep q (by have := e1.size; omega) (by omega), e1.old q hq]
  · have hp : 0 ≤ p ∧ p < xs.length := by simp at hc; omega
    have ha : atI xs p = (xs[p.toNat]'(by omega), 0) := by rw [atI, dif_pos hp]
    rw [ha] at H
    obtain ⟨q, rfl⟩ := Int.eq_ofNat_of_zero_le hp.1
    simp only [Int.toNat_natCast] at H
    refine ⟨_, _, _, ld_rules hb, ?_⟩
    obtain ⟨a, hpv, hcl⟩ := rd_elem (c := c) hr rfl (i := q) (by omega)
    refine ⟨_, hpv, ?_⟩
    refine ⟨_, _, _, _, _, _, _, _, _, _, _, _, ldS hcl (by kernel_rfl), ?_⟩
    refine HU_box (us := (xs[q]'(by omega)).enc) b1 rfl rfl size55 rfl fun h2 c2 b2 f2 z2 => ?_
    refine ⟨_, _, _, _, _, _, _, _, _, _, _, _, ldS c2 (by kernel_rfl), ?_⟩
    refine H h2 ⟨by have := e1.size; omega, fun q hq => ?_⟩
    rw [f2.keep q (by have := e1.size; omega) (by omega), e1.old q hq]
/-- Move. -/
def movI (xs : List Rul) (id p : Int) : Int × List Rul :=
  if h : findI xs id < 0 then (114, xs) else if ¬ (0 ≤ p ∧ p ≤ xs.length - 1) then (112, xs) else
    let j := (findI xs id).toNat
    let ys := xs.take j ++ xs.drop (j + 1)
    (0, ys.take p.toNat ++ xs.getD j zRul :: ys.drop p.toNat)
theorem table_Move_s {h : Hp} {b : Nat} {S : Nat → Prop} {cf : Cfg} {xs : List Rul} (t : TabAt h b S cf xs) (id p : Int) (hlen : xs.length ≤ 1000000) {K : Value → Hp → Prop}
    (H : ∀ h' S', TabAt h' b S' cf (movI xs id p).2 → (∀ k, S' k → S k ∨ h.size ≤ k) → Fr S h h' → K (.int .i64 (movI xs id p).1) h') : CallsH Try.prog 28 #[.pointer (some ⟨b, 0, none⟩), .int .i64 id, .int .i64 p] h K := by
  refine table_Table_Move_ok _ _ _ ?_
  unfold table_Table_Move
  refine ⟨_, eqNil eq27, br_f rfl ?_⟩
  obtain ⟨A, c, hb, hr⟩ := t.rules
  refine ⟨_, _, _, ld_rules hb, ?_⟩
  refine table_find_s hr rfl id (by omega) ⟨_, rfl, ?_⟩
  refine br_i (fun hc => ?_) (fun hc => ?_)
  · have hi : movI xs id p = (114, xs) := by rw [movI, dif_pos (by simpa using hc)]
    rw [hi] at H
    exact H h S t (fun k hk => .inl hk) (Fr.refl _ _)
  · have hf : ¬ findI xs id < 0 := by simpa using hc
    refine ⟨_, _, _, ld_rules hb, ?_⟩
    have w1 : IntKind.i64.wrap ((xs.length : Int) - 1) = (xs.length : Int) - 1 := wrap_in (by omega) (by omega)
    rw [w1]
    refine table_in_s _ _ _ ⟨_, rfl, ?_⟩
    refine br_i (fun hd => ?_) (fun hd => ?_)
    · have hi : movI xs id p = (112, xs) := by rw [movI, dif_neg hf, if_pos (by simp at hd; omega)]
      rw [hi] at H
      exact H h S t (fun k hk => .inl hk) (Fr.refl _ _)
    · have hp : 0 ≤ p ∧ p ≤ xs.length - 1 := by simp at hd; omega
      have hi := movI.eq_1 xs id p
      rw [dif_neg hf, if_neg (by omega)] at hi
      obtain ⟨j, hj, hjl, _⟩ := findI_lt xs id (by omega)
      rw [hi] at H
      simp only [hj, Int.toNat_natCast] at H
      rw [hj]
      obtain ⟨q, rfl⟩ := Int.eq_ofNat_of_zero_le hp.1
      simp only [Int.toNat_natCast] at H
      refine ⟨_, _, _, ld_rules hb, ?_⟩
      obtain ⟨a, hpv, hcl⟩ := rd_elem (c := c) hr rfl (i := j) hjl
      refine ⟨_, hpv, ?_⟩
      refine ⟨_, _, _, _, _, _, _, _, _, _, _, _, ldS hcl (by kernel_rfl), ?_⟩
      refine newV (us := (xs[j]).enc) rfl rfl size55 rfl fun h1 e1 c1 b1 z1 => ?_
      refine table_lift_s (t.ext e1) j hjl hlen (fun h2 t2 f2 z2 => ⟨rfl, ?_⟩)
      have c2 : Cl h2 ⟨h.size, 0, none⟩ (xs[j]).enc := f2.cl c1 (fun hs => by have := t.2.1 _ hs; simp at this)
      refine ⟨_, _, _, _, _, _, _, _, _, _, _, _, ldS c2 (by kernel_rfl), ?_⟩
      refine table_lay_s t2 q (by simp; omega) (by simp; omega) (xs[j]) (fun h3 S3 t3 hS3 f3 => ⟨rfl, ?_⟩)
      have hgd : xs.getD j zRul = xs[j] := by simp [List.getD, hjl]
      rw [hgd] at H
      refine H h3 S3 t3 (fun k hk => (hS3 k hk).imp (fun h => h) (fun h => by have := e1.size; omega)) (((e1.fr S).trans f2).trans f3)
/-- Set: the error's number (0: the list is the table's then). -/
def setI (max : Int) : List Rul → List Rul → Nat → Int
  | _, [], _ => 0
  | seen, r :: rs, i => if takesI seen r ≠ 0 then takesI seen r else if (i : Int) ≥ max then 113 else setI max (seen ++ [r]) rs (i + 1)
theorem table_Set_l {h0 : Hp} {b : Nat} {S : Nat → Prop} {cf : Cfg} {ys : List Rul} (xs : List Rul) {A : Option Addr} {l c : Nat} (hl : xs.length = l) (hlen : l < 2 ^ 62) {K0 : Int → Hp → Prop} {K1 : Option Addr → Option Addr → Nat → Nat → Hp → Prop} (hA : l ≤ c) :
    ∀ (rs : List Rul) (n k : Nat) (h : Hp), xs.drop n = rs → n ≤ l → l - n < k → Ext h0 h → TabAt h b S cf ys → RSl h A l 12 (xs.flatMap Rul.enc) →
      (∀ v h', setI cf.max (xs.take n) rs n = v → v ≠ 0 → Ext h0 h' → K0 v h') → (∀ h', setI cf.max (xs.take n) rs n = 0 → Ext h0 h' → K1 (some ⟨b, 0, none⟩) A l c h') →
      table_Table_Set_l1 (some ⟨b, 0, none⟩) A l c A l c (l : Int) K0 K1 k n h := by
  intro rs
  induction rs with
  | nil =>
    intro n k h hd hn hk he ht hr H0 H1
    obtain ⟨k, rfl⟩ : ∃ m, k = m + 1 := ⟨k - 1, by omega⟩
    have : l ≤ n := by have := congrArg List.length hd; simp at this; omega
    unfold table_Table_Set_l1
    exact br_f (by simp; omega) (H1 h rfl he)
  | cons r rs ih =>
    intro n k h hd hn hk he ht hr H0 H1
    obtain ⟨k, rfl⟩ : ∃ m, k = m + 1 := ⟨k - 1, by omega⟩
    obtain ⟨i, z, hi, hisz, hiby, hiz, hzc⟩ := info55
    have hlt : n < l := by have := congrArg List.length hd; simp at this; omega
    have hget : xs[n]'(by omega) = r := by
      rw [List.drop_eq_getElem_cons (by omega)] at hd
      injection hd
    have hd' : xs.drop (n + 1) = rs := by
      rw [List.drop_eq_getElem_cons (by omega)] at hd
      injection hd
    have htk : xs.take (n + 1) = xs.take n ++ [r] := by rw [List.take_succ_eq_append_getElem (by omega), hget]
    unfold table_Table_Set_l1
    refine br_t (by simp; omega) ?_
    obtain ⟨a, hp, hcl⟩ := rd_elem (c := c) hr hl hlt
    rw [hget] at hcl
    refine ⟨_, hp, ?_⟩
    refine ⟨_, _, _, _, _, _, _, _, _, _, _, _, ldS hcl (by kernel_rfl), ?_⟩
    refine newV (us := r.enc) rfl rfl (by kernel_rfl) rfl fun h1 e1 c1 b1 z1 => ?_
    refine ⟨_, _, _, slHi und32 hi (by omega) (by omega), ?_⟩
    rw [Int.toNat_natCast]
    refine ⟨_, _, _, _, _, _, _, _, _, _, _, _, ldS c1 (by kernel_rfl), ?_⟩
    have hrt : RSl h1 A n 12 ((xs.take n).flatMap Rul.enc) := by
      obtain ⟨a', hA', hcl'⟩ := (hr.ext e1).some (by omega)
      refine ⟨by rw [flat_len Rul.enc_len]; simp; omega, .inr ⟨a', hA', ?_⟩⟩
      refine ⟨hcl'.spot, fun j v hj => hcl'.at_ j v ?_⟩
      rw [← flat_take Rul.enc_len, List.getElem?_take] at hj
      split at hj
      · exact hj
      · cases hj
    refine table_takes_s (xs := xs.take n) hrt (by simp; omega) (by omega) r (fun v h2 e2 hv => ?_)
    refine ⟨_, rfl, ?_⟩
    have e12 := e1.trans e2
    refine br_i (fun hc => ?_) (fun hc => ?_)
    · exact H0 v h2 (by rw [setI, if_pos (by rw [← hv]; simpa using hc)]; exact hv.symm) (by simpa using hc) (he.trans e12)
    · have hz : takesI (xs.take n) r = 0 := by rw [← hv]; simpa using hc
      obtain ⟨A', c', hb', _⟩ := (ht.ext e12).rules
      refine ⟨_, ld_max hb', ?_⟩
      refine br_i (fun hd => ?_) (fun hd => ?_)
      · exact H0 113 h2 (by rw [setI, if_neg (by simp [hz]), if_pos (by simpa using hd)]) (by simp) (he.trans e12)
      · have hno : setI cf.max (xs.take n) (r :: rs) n = setI cf.max (xs.take (n + 1)) rs (n + 1) := by rw [setI, if_neg (by simp [hz]), if_neg (by simpa using hd), htk]
        rw [hno] at H0 H1
        rw [wrap_in (by omega) (by omega)]
        exact ih (n + 1) k h2 hd' (by omega) (by omega) (he.trans e12) (ht.ext e12) (hr.ext e12) H0 H1
theorem table_Set_s {h : Hp} {b : Nat} {S : Nat → Prop} {cf : Cfg} {ys xs : List Rul} (t : TabAt h b S cf ys) {A : Option Addr} {l c : Nat} (hl : xs.length = l) (hlen : l ≤ 1000000) (hc : l ≤ c) (hr : RSl h A l 12 (xs.flatMap Rul.enc)) (hrS : 0 < l → ∀ a, A = some a → ¬ S a.block) {K : Value → Hp → Prop}
    (H : ∀ h' S', TabAt h' b S' cf (if setI cf.max [] xs 0 = 0 then xs else ys) → (∀ k, S' k → S k ∨ h.size ≤ k) → Fr S h h' → K (.int .i64 (setI cf.max [] xs 0)) h') : CallsH Try.prog 14 #[.pointer (some ⟨b, 0, none⟩), .slice A l c] h K := by
  obtain ⟨i, z, hi, hisz, hiby, hiz, hzc⟩ := info55
  refine table_Table_Set_ok _ _ _ _ ?_
  unfold table_Table_Set
  refine ⟨_, eqNil eq27, br_f rfl ?_⟩
  refine ⟨l + 1, ?_⟩
  refine table_Set_l (h0 := h) (ys := ys) (S := S) (cf := cf) xs hl (by omega) hc xs 0 (l + 1) h rfl (by omega) (by omega) (Ext.refl _) t hr ?_ ?_
  · intro v h' hv hne he
    simp only [List.take_zero] at hv
    rw [hv, if_neg hne] at H
    exact H h' S (t.ext he) (fun k hk => .inl hk) (he.fr S)
  · intro h1 hv he
    simp only [List.take_zero] at hv
    rw [hv, if_pos rfl] at H
    refine HW_makeRow (enc := Rul.enc) (zr := zRul) und32 hi hiz hisz (by omega) (by rw [hzc]; rfl) Rul.enc_len (by rw [hiby]; omega) (by omega) ?_
    intro h2 e2 r2
    refine ⟨_, _, _, rfl, ?_⟩
    obtain ⟨hSb, hSl, A0, c0, hb0, hr0, hSA, hne⟩ := t
    have e02 := he.trans e2
    have hb2 := (e02.fr (fun _ => False)).get hb0 (fun h => h)
    refine st_rules hb2 fun h3 hb3 f3 z3 => ?_
    have hbl : b < h.size := lt_of_get hb0
    have hs1 := he.size
    have r3 := r2.keep f3 (by rintro k ⟨a, ha, hk⟩ rfl; injection ha with ha; subst ha; simp at hk; omega)
    have hr3 : RSl h3 A l 12 (xs.flatMap Rul.enc) := by
      obtain ⟨q1, q2⟩ := hr.ext e02
      refine ⟨q1, ?_⟩
      rcases q2 with q2 | ⟨a, ha, hcl⟩
      · exact .inl q2
      · rcases Nat.eq_zero_or_pos l with hz | hz
        · exact .inl hz
        · exact .inr ⟨a, ha, f3.cl hcl (fun hab => hrS hz a ha (hab ▸ hSb))⟩
    refine ⟨_, _, _, ld_rules hb3, ?_⟩
    subst hl
    have hrl : (List.replicate xs.length zRul).length = xs.length := by simp
    rw [show HW Try.prog (Builtin.copy_ #[32, 32] 3 #[.slice (some ⟨h1.size, 0, none⟩) xs.length xs.length, .slice A xs.length c]) h3 = HW Try.prog (Builtin.copy_ #[32, 32] 3 #[.slice (some ⟨h1.size, 0, none⟩) (List.replicate xs.length zRul).length xs.length, .slice A xs.length c]) h3 by rw [hrl]]
    refine HW_copyFrom (enc := Rul.enc) Rul.enc_len Rul.flat und32 hi hisz r3 hrl hr3 ?_
    intro h4 r4 f4 z4
    refine ⟨_, rfl, ?_⟩
    have hb4 := f4.get hb3 (by rintro ⟨a, ha, hk⟩; injection ha with ha; subst ha; simp at hk; omega)
    have h1l : h1.size < h4.size := by
      have : h1.size < h2.size := by
        rcases r2 with ⟨h, _⟩ | ⟨g, rest, hA, hg, _⟩
        · cases h
        · injection hA with hA; injection hA with hA; rw [hA]; exact lt_of_get hg
      have := f3.size; have := f4.size; omega
    have q : Fr S h h4 := ((e02.fr S).then_ f3 (fun k hk => .inl (hk ▸ hSb))).then_ f4 (by rintro k ⟨a, ha, hk⟩; injection ha with ha; subst ha; simp at hk; exact .inr (by omega))
    refine H h4 (fun k => S k ∨ k = h1.size) ⟨.inl hSb, fun k hk => ?_, some ⟨h1.size, 0, none⟩, xs.length, hb4, r4, ?_, ?_⟩ (fun k hk => hk.imp id (fun h => by omega)) q
    · rcases hk with hk | hk
      · exact Nat.lt_of_lt_of_le (hSl k hk) q.size
      · omega
    · rintro k ⟨a, ha, hk⟩; injection ha with ha; subst ha; exact .inr hk.symm
    · rintro ⟨a, ha, hk⟩; injection ha with ha; subst ha; simp at hk; omega
end Go.Proofs.Ytgecabgcjfpenaa.Fs
