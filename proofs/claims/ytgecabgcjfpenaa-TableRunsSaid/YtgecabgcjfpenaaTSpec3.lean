/- The table's other functions. -/
import Derived.Test.YtgecabgcjfpenaaTSpec2
namespace Go.Proofs.Ytgecabgcjfpenaa.Fs
open Go Go.RowKit Go.Proofs.Ytgecabgcjfpenaa.Sx
set_option linter.unusedVariables false
set_option linter.unusedSimpArgs false
set_option maxRecDepth 10000
theorem table_Find_s {h : Hp} {b : Nat} {S : Nat → Prop} {cf : Cfg} {xs : List Rul} (t : TabAt h b S cf xs) (id : Int) (hlen : xs.length ≤ 1000000) {K : Value → Hp → Prop}
    (H : K (.int .i64 (findI xs id)) h) : CallsH Try.prog 18 #[.pointer (some ⟨b, 0, none⟩), .int .i64 id] h K := by
  refine table_Table_Find_ok _ _ ?_
  unfold table_Table_Find
  refine ⟨_, eqNil eq27, br_f rfl ?_⟩
  obtain ⟨A, c, hb, hr⟩ := t.rules
  refine ⟨_, _, _, ld_rules hb, ?_⟩
  exact table_find_s hr rfl id (by omega) ⟨_, rfl, H⟩
theorem zero55 : zRul.enc = [.int .i64 0, .int .u32 0, .int .i64 0, .int .u32 0, .int .i64 0, .int .u16 0, .int .u16 0, .int .u16 0, .int .u16 0, .int .u8 0, .int .u8 0, .int .i64 0] := rfl
/-- Rules: a copy of the rules. -/
theorem table_Rules_s {h : Hp} {b : Nat} {S : Nat → Prop} {cf : Cfg} {xs : List Rul} (t : TabAt h b S cf xs) (hlen : xs.length ≤ 1000000) {K : Value → Hp → Prop}
    (H : ∀ h', Ext h h' → RowR h' (some ⟨h.size, 0, none⟩) xs.length xs → K (.slice (some ⟨h.size, 0, none⟩) xs.length xs.length) h') : CallsH Try.prog 22 #[.pointer (some ⟨b, 0, none⟩)] h K := by
  obtain ⟨i, z, hi, hisz, hiby, hiz, hzc⟩ := info55
  refine table_Table_Rules_ok _ ?_
  unfold table_Table_Rules
  refine ⟨_, eqNil eq27, br_f rfl ?_⟩
  obtain ⟨A, c, hb, hr⟩ := t.rules
  refine ⟨_, _, _, ld_rules hb, ?_⟩
  refine HW_makeRow (enc := Rul.enc) (zr := zRul) und32 hi hiz hisz (by omega) (by rw [hzc]; rfl) Rul.enc_len (by rw [hiby]; omega) (by omega) ?_
  intro h1 e1 r1
  refine ⟨_, _, _, rfl, ?_⟩
  obtain ⟨A1, c1, hb1, hr1⟩ := (t.ext e1).rules
  refine ⟨_, _, _, ld_rules hb1, ?_⟩
  have hl : (List.replicate xs.length zRul).length = xs.length := by simp
  rw [show HW Try.prog (Builtin.copy_ #[32, 32] 3 #[.slice (some ⟨h.size, 0, none⟩) xs.length xs.length, .slice A1 xs.length c1]) h1 = HW Try.prog (Builtin.copy_ #[32, 32] 3 #[.slice (some ⟨h.size, 0, none⟩) (List.replicate xs.length zRul).length xs.length, .slice A1 xs.length c1]) h1 by rw [hl]]
  refine HW_copyFrom (enc := Rul.enc) Rul.enc_len Rul.flat und32 hi hisz r1 hl hr1 ?_
  intro h2 r2 f2 z2
  refine ⟨_, rfl, ?_⟩
  refine H h2 ⟨?_, fun k hk => ?_⟩ r2
  · have := e1.size; omega
  · rw [f2.keep k (by have := e1.size; omega) (by rintro ⟨a, ha, hk'⟩; injection ha with ha; subst ha; simp at hk'; omega), e1.old k hk]
/-- What Match answers. -/
def matchI (d : Int) (g : Hdr) : List Rul → Nat → (Bool × Int × Int) × Int
  | [], _ => ((false, 0, d), -1)
  | r :: rs, i => if r.has g then ((true, r.id, r.act), i) else matchI d g rs (i + 1)
def verd (v : Bool × Int × Int) : List Value := [.bool v.1, .int .i64 v.2.1, .int .i64 v.2.2]
theorem size40 : (Try.prog.info? 40).map (·.size) = some 3 := by kernel_rfl
theorem match_l1 {A : Option Addr} {l c : Nat} {p : Option Addr} {xs : List Rul} (hl : xs.length = l) (g : Hdr) (d : Int) (hlen : l < 2 ^ 62) (ga gb : Nat) {K0 : Addr → Int → Hp → Prop} {K1 : Option Addr → Addr → Hp → Prop} {h0 : Hp} (hgb : h0.size ≤ gb) :
    ∀ (rs : List Rul) (n k : Nat) (h : Hp), xs.drop n = rs → n ≤ l → l - n < k → Ext h0 h → RSl h A l 12 (xs.flatMap Rul.enc) → Cl h ⟨ga, 0, none⟩ g.enc → h[gb]? = some (.cells (verd (false, 0, 0)).toArray 40 (0, 0)) →
      (∀ (i : Int) (h' : Hp) (v : Bool × Int × Int), matchI d g rs n = (v, i) → v.1 = true → Ext h0 h' → Cl h' ⟨gb, 0, none⟩ (verd v) → K0 ⟨gb, 0, none⟩ i h') →
      (∀ h', matchI d g rs n = ((false, 0, d), -1) → Ext h0 h' → h'[gb]? = some (.cells (verd (false, 0, 0)).toArray 40 (0, 0)) → K1 p ⟨gb, 0, none⟩ h') →
      table_Table_Match_l1 p ⟨ga, 0, none⟩ ⟨gb, 0, none⟩ A l c (l : Int) K0 K1 k n h := by
  intro rs
  induction rs with
  | nil =>
    intro n k h hd hn hk he hr hg hb H0 H1
    obtain ⟨k, rfl⟩ : ∃ m, k = m + 1 := ⟨k - 1, by omega⟩
    have : l ≤ n := by have := congrArg List.length hd; simp at this; omega
    unfold table_Table_Match_l1
    exact br_f (by simp; omega) (H1 h rfl he hb)
  | cons r rs ih =>
    intro n k h hd hn hk he hr hg hb H0 H1
    obtain ⟨k, rfl⟩ : ∃ m, k = m + 1 := ⟨k - 1, by omega⟩
    have hlt : n < l := by have := congrArg List.length hd; simp at this; omega
    have hget : xs[n]'(by omega) = r := by
      rw [List.drop_eq_getElem_cons (by omega)] at hd
      injection hd
    have hd' : xs.drop (n + 1) = rs := by
      rw [List.drop_eq_getElem_cons (by omega)] at hd
      injection hd
    unfold table_Table_Match_l1
    refine br_t (by simp; omega) ?_
    obtain ⟨a, hp, hcl⟩ := rd_elem (c := c) hr hl hlt
    rw [hget] at hcl
    refine ⟨_, hp, ?_⟩
    refine ⟨_, _, _, _, _, _, _, _, _, _, _, _, ldS hcl (by kernel_rfl), ?_⟩
    refine newV (us := r.enc) rfl rfl (by kernel_rfl) rfl fun h1 e1 c1 b1 z1 => ?_
    refine ⟨_, _, _, _, _, _, _, _, _, _, _, _, ldS c1 (by kernel_rfl), ?_⟩
    refine ⟨_, _, _, _, _, ldS (hg.ext e1) (by kernel_rfl), ?_⟩
    refine rule_Match_s r g (fun v h2 e2 hv => ?_)
    refine ⟨_, rfl, ?_⟩
    have hgbh : gb < h.size := lt_of_get hb
    have e12 := e1.trans e2
    have hb2 := (e12.fr (fun _ => False)).get hb (fun h => h)
    refine br_i (fun hc => ?_) (fun hc => ?_)
    · refine ⟨_, ld (Cl.head (c1.ext e2)) (by kernel_rfl), ?_⟩
      refine ⟨_, ld ((c1.ext e2).at_ 11 _ rfl) (by kernel_rfl), ?_⟩
      refine HU_box (us := verd (true, r.id, r.act)) hb2 rfl rfl size40 rfl fun h3 c3 b3 f3 z3 => ?_
      refine H0 n h3 (true, r.id, r.act) (by rw [matchI, if_pos (by rw [← hv]; exact hc)]) rfl ⟨?_, fun q hq => ?_⟩ c3
      · have := he.size; have := e12.size; omega
      · rw [f3.keep q (by have := he.size; have := e12.size; omega) (by omega), e12.old q (by have := he.size; omega), he.old q hq]
    · have hno : matchI d g (r :: rs) n = matchI d g rs (n + 1) := by rw [matchI, if_neg (by rw [← hv, hc]; simp)]
      rw [wrap_in (by omega) (by omega)]
      rw [hno] at H0 H1
      exact ih (n + 1) k h2 hd' (by omega) (by omega) (he.trans e12) (hr.ext e12) (hg.ext e12) hb2 H0 H1
theorem table_Match_s {h : Hp} {b : Nat} {S : Nat → Prop} {cf : Cfg} {xs : List Rul} (t : TabAt h b S cf xs) (g : Hdr) (hlen : xs.length ≤ 1000000) {K : Value → Hp → Prop}
    (H : ∀ h' v i, Ext h h' → matchI cf.dflt g xs 0 = (v, i) → K (.tuple #[.agg (verd v).toArray, .int .i64 i]) h') : CallsH Try.prog 16 #[.pointer (some ⟨b, 0, none⟩), g.val] h K := by
  refine table_Table_Match_ok _ _ _ _ _ _ ?_
  unfold table_Table_Match
  refine newC_i fun h1 e1 c1 b1 z1 => ?_
  refine newC_i fun h2 e2 c2 b2 z2 => ?_
  refine ⟨_, eqNil eq27, br_f rfl ?_⟩
  have e12 := e1.trans e2
  obtain ⟨A, c, hb, hr⟩ := (t.ext e12).rules
  refine ⟨_, _, _, ld_rules hb, ?_⟩
  refine ⟨xs.length + 1, ?_⟩
  refine match_l1 (h0 := h) rfl g cf.dflt (by omega) h.size h1.size e1.size xs 0 (xs.length + 1) h2 rfl (by omega) (by omega) e12 hr (c1.ext e2) b2 ?_ ?_
  · intro i h' v hm hv he hcl
    refine ⟨_, _, _, ldS hcl (by kernel_rfl), ?_⟩
    exact H h' v i he hm
  · intro h' hm he hb'
    have tb := t.ext he
    obtain ⟨A', c', hbb, _⟩ := tb.rules
    refine ⟨_, ld (a := (⟨b, 0, none⟩ : Addr).add 1) (by rw [add_eq0, cell_of hbb]; rfl) (by kernel_rfl), ?_⟩
    refine HU_box (us := verd (false, 0, cf.dflt)) hb' rfl rfl size40 rfl fun h3 c3 b3 f3 z3 => ?_
    refine ⟨_, _, _, ldS c3 (by kernel_rfl), ?_⟩
    refine H h3 (false, 0, cf.dflt) (-1) ⟨?_, fun q hq => ?_⟩ hm
    · have := he.size; omega
    · rw [f3.keep q (by have := he.size; omega) (by have := e1.size; omega), he.old q hq]
end Go.Proofs.Ytgecabgcjfpenaa.Fs
