/- The table's functions, by names: what each leaves. (Began as wip/table/XTSpec2 to 4.) -/
import Derived.Test.YtomhkbhgpmcbiaaGreatRuSpec
import Derived.Test.YtomhkbhgpmcbiaaGreatFsB
import Derived.Test.YtomhkbhgpmcbiaaGreatSxRow
namespace Go.Proofs.YtomhkbhgpmcbiaaGreat.Fs
open Go Go.RowKit Go.Proofs.YtomhkbhgpmcbiaaGreat.Sx
set_option linter.unusedVariables false
set_option linter.unusedSimpArgs false
set_option maxRecDepth 10000
theorem table_in_s (n a b : Int) {h : Hp} {K : Value → Hp → Prop} (H : K (.bool (decide (n ≥ a) && decide (n ≤ b))) h) : CallsH Tryz.prog 54 #[.int .i64 n, .int .i64 a, .int .i64 b] h K := by
  refine table_in_ok n a b ?_
  unfold table_in
  refine br_i (fun e => ?_) (fun e => ?_)
  · rw [e] at H; simpa using H
  · rw [e] at H; simpa using H
def findI (xs : List Rul) (id : Int) : Int := match xs.findIdx? (fun r => r.id == id) with
  | some i => i
  | none => -1
theorem info55 : ∃ i z, Tryz.prog.info? 52 = some i ∧ i.size = 12 ∧ i.bytes = 64 ∧ i.zero = some z ∧ z.cells = #[.int .i64 0, .int .u32 0, .int .i64 0, .int .u32 0, .int .i64 0, .int .u16 0, .int .u16 0, .int .u16 0, .int .u16 0, .int .u8 0, .int .u8 0, .int .i64 0] :=
  ⟨_, _, rfl, rfl, rfl, rfl, rfl⟩
theorem size55 : (Tryz.prog.info? 52).map (·.size) = some 12 := by kernel_rfl
theorem und32 : Tryz.prog.underlying 42 = some (.slice 52) := by kernel_rfl
theorem rd_elem {h : Hp} {A : Option Addr} {l c : Nat} {xs : List Rul} (r : RSl h A l 12 (xs.flatMap Rul.enc)) (hl : xs.length = l) {i : Nat} (hi : i < l) :
    ∃ a : Addr, PV Tryz.prog (Instr.indexAt 42 (.slice A l c) (.int .i64 (i : Int))) (.pointer (some (a.add (i * 12)))) ∧ Cl h (a.add (i * 12)) (Rul.enc (xs[i]'(by omega))) := by
  obtain ⟨a, rfl, _⟩ := r.some (by omega)
  refine ⟨a, ?_, r.elem Rul.enc_len (List.getElem?_eq_getElem (by omega)) hl⟩
  exact ix (T := 42) (E := 52) (sz := 12) (k := .i64) (i := (i : Int)) (by omega) (by omega) und32 size55
theorem find_l1 {h : Hp} {A : Option Addr} {l c : Nat} {xs : List Rul} (r : RSl h A l 12 (xs.flatMap Rul.enc)) (hl : xs.length = l) (id : Int) (hlen : l < 2 ^ 62) {K0 : Int → Hp → Prop} {K1 : Hp → Prop} (H : K0 (findI xs id) h ∨ True) :
    ∀ (d n k : Nat), n + d = l → d < k → (∀ j, j < n → ∀ x, xs[j]? = some x → x.id ≠ id) →
      (∀ j : Nat, (∀ x, xs[j]? = some x → x.id = id) → j < l → (∀ m, m < j → ∀ x, xs[m]? = some x → x.id ≠ id) → K0 j h) → ((∀ x ∈ xs, x.id ≠ id) → K1 h) →
      table_find_l1 A l c id (l : Int) K0 K1 k n h := by
  intro d
  induction d with
  | zero =>
    intro n k hn hk hno hK0 hK1
    obtain ⟨k, rfl⟩ : ∃ m, k = m + 1 := ⟨k - 1, by omega⟩
    unfold table_find_l1
    refine br_f (by simp; omega) (hK1 fun x hx e => ?_)
    obtain ⟨j, hj⟩ := List.getElem?_of_mem hx
    exact hno j (by have := (List.getElem?_eq_some_iff.1 hj).1; omega) x hj e
  | succ d ih =>
    intro n k hn hk hno hK0 hK1
    obtain ⟨k, rfl⟩ : ∃ m, k = m + 1 := ⟨k - 1, by omega⟩
    unfold table_find_l1
    refine br_t (by simp; omega) ?_
    obtain ⟨a, hp, hcl⟩ := rd_elem (c := c) r hl (i := n) (by omega)
    refine ⟨_, hp, (xs[n]'(by omega)).id, ld (Cl.head hcl) (by kernel_rfl), ?_⟩
    have hx : xs[n]? = some (xs[n]'(by omega)) := List.getElem?_eq_getElem (by omega)
    refine br_i (fun e => ?_) (fun e => ?_)
    · exact hK0 n (fun x hx' => by rw [hx] at hx'; injection hx' with hx'; subst hx'; simpa using e) (by omega) hno
    · rw [wrap_in (by omega) (by omega)]
      refine ih (n + 1) k (by omega) (by omega) (fun j hj x hx' => ?_) hK0 hK1
      by_cases hjn : j = n
      · subst hjn; rw [hx] at hx'; injection hx' with hx'; subst hx'; simpa using e
      · exact hno j (by omega) x hx'
theorem findI_at {xs : List Rul} {id : Int} {j : Nat} (hj : j < xs.length) (h1 : ∀ x, xs[j]? = some x → x.id = id) (h2 : ∀ m, m < j → ∀ x, xs[m]? = some x → x.id ≠ id) : findI xs id = j := by
  unfold findI
  have : xs.findIdx? (fun r => r.id == id) = some j := by
    rw [List.findIdx?_eq_some_iff_getElem]
    refine ⟨hj, by simpa using h1 _ (List.getElem?_eq_getElem hj), fun m hm => ?_⟩
    simpa using h2 m hm _ (List.getElem?_eq_getElem (by omega))
  rw [this]
theorem findI_none {xs : List Rul} {id : Int} (h : ∀ x ∈ xs, x.id ≠ id) : findI xs id = -1 := by
  unfold findI
  have : xs.findIdx? (fun r => r.id == id) = none := by
    rw [List.findIdx?_eq_none_iff]
    intro x hx
    simpa using h x hx
  rw [this]
theorem table_find_s {h : Hp} {A : Option Addr} {l c : Nat} {xs : List Rul} (r : RSl h A l 12 (xs.flatMap Rul.enc)) (hl : xs.length = l) (id : Int) (hlen : l < 2 ^ 62) {K : Value → Hp → Prop} (H : K (.int .i64 (findI xs id)) h) : CallsH Tryz.prog 73 #[Value.slice A l c, .int .i64 id] h K := by
  refine table_find_ok _ _ _ _ ?_
  unfold table_find
  refine ⟨l + 1, ?_⟩
  refine find_l1 r hl id hlen (.inr trivial) l 0 (l + 1) (by omega) (by omega) (fun j hj => by omega) (fun j h1 hj h2 => ?_) (fun hno => ?_)
  · rw [findI_at (by omega) h1 h2] at H; exact H
  · rw [findI_none hno] at H; exact H
theorem Rul.flatT (r : Rul) : r.enc.all flatV = true := rfl
theorem Rul.cells_val (r : Rul) : r.val.cells = r.enc.toArray := rfl
/-- A configuration. -/
structure Cfg where
  max : Int
  dflt : Int
  prune : Int
  grid : Int
  tuple : Int
  binth : Int
  depth : Int
  deriving DecidableEq
def Cfg.enc (c : Cfg) : List Value := [.int .i64 c.max, .int .i64 c.dflt, .int .i64 c.prune, .int .i64 c.grid, .int .i64 c.tuple, .int .i64 c.binth, .int .i64 c.depth]
def Cfg.val (c : Cfg) : Value := .agg #[.int .i64 c.max, .int .i64 c.dflt, .int .i64 c.prune, .int .i64 c.grid, .int .i64 c.tuple, .int .i64 c.binth, .int .i64 c.depth]
abbrev RowRT (h : Hp) (A : Option Addr) (c : Nat) (xs : List Rul) : Prop := Row h 52 Rul.enc 12 A c xs
/-- A table at block b: its configuration and its rules; S: the blocks that are its own. -/
def TabAt (h : Hp) (b : Nat) (S : Nat → Prop) (cf : Cfg) (xs : List Rul) : Prop :=
  S b ∧ (∀ k, S k → k < h.size) ∧ ∃ A c, h[b]? = some (.cells (cf.enc ++ [Value.slice A xs.length c]).toArray 101 (0, 0)) ∧ RowRT h A c xs ∧ (∀ k, blk A k → S k) ∧ ¬ blk A b
theorem TabAt.keep {h h' : Hp} {b : Nat} {S S' : Nat → Prop} {cf : Cfg} {xs : List Rul} (t : TabAt h b S cf xs) (f : Fr S' h h') (hn : ∀ k, S k → ¬ S' k) : TabAt h' b S cf xs := by
  obtain ⟨h1, h2, A, c, hb, hr, hS, hne⟩ := t
  exact ⟨h1, fun k hk => Nat.lt_of_lt_of_le (h2 k hk) f.size, A, c, f.get hb (hn b h1), hr.keep f (fun k hk => hn k (hS k hk)), hS, hne⟩
theorem TabAt.ext {h h' : Hp} {b : Nat} {S : Nat → Prop} {cf : Cfg} {xs : List Rul} (t : TabAt h b S cf xs) (e : Ext h h') : TabAt h' b S cf xs := t.keep (e.fr (fun _ => False)) (fun _ _ h => h)
theorem ld_rules {h : Hp} {b : Nat} {cf : Cfg} {A : Option Addr} {n c : Nat} (hb : h[b]? = some (.cells (cf.enc ++ [Value.slice A n c]).toArray 101 (0, 0))) : HV Tryz.prog (Instr.loadAt 42 (.pointer (some ((⟨b, 0, none⟩ : Addr).add 7)))) h (.slice A n c) :=
  ld (by rw [add_eq0, cell_of hb]; rfl) (by kernel_rfl)
theorem st_rules {h : Hp} {b : Nat} {cf : Cfg} {A A' : Option Addr} {n c n' c' : Nat} {K : Hp → Prop} (hb : h[b]? = some (.cells (cf.enc ++ [Value.slice A n c]).toArray 101 (0, 0)))
    (H : ∀ h', h'[b]? = some (.cells (cf.enc ++ [Value.slice A' n' c']).toArray 101 (0, 0)) → Fr (fun k => k = b) h h' → h'.size = h.size → K h') : HU Tryz.prog (Instr.storeAt 42 (.pointer (some ((⟨b, 0, none⟩ : Addr).add 7))) (.slice A' n' c')) h K := by
  rw [add_eq0]
  refine HU_st (us := [Value.slice A' n' c']) hb rfl (by kernel_rfl) (by simp [Cfg.enc]) rfl ?_
  have e : (cf.enc ++ [Value.slice A n c]).take 7 ++ [Value.slice A' n' c'] ++ (cf.enc ++ [Value.slice A n c]).drop (7 + [Value.slice A' n' c'].length) = cf.enc ++ [Value.slice A' n' c'] := rfl
  rw [e]
  exact H _ (setB_get (lt_of_get hb)) (setB_fr rfl) setB_size
def zRul : Rul := ⟨0, 0, 0, 0, 0, 0, 0, 0, 0, 0, 0, 0⟩
theorem take_drop_set {α : Type} (xs : List α) (z r : α) (p : Nat) (hp : p ≤ xs.length) :
    ((xs ++ [z]).take (p + 1) ++ ((xs ++ [z]).drop p).take (xs.length - p) ++ (xs ++ [z]).drop (p + 1 + (xs.length - p))).set p r = xs.take p ++ r :: xs.drop p := by
  have h1 : (xs ++ [z]).drop (p + 1 + (xs.length - p)) = [] := List.drop_of_length_le (by simp; omega)
  have h2 : ((xs ++ [z]).drop p).take (xs.length - p) = xs.drop p := by
    rw [List.drop_append_of_le_length hp, List.take_append_of_le_length (by simp)]
    rw [List.take_of_length_le (by simp)]
  rw [h1, h2, List.append_nil]
  have h3 : ((xs ++ [z]).take (p + 1)).length = p + 1 := by simp; omega
  rw [List.set_append_left _ _ (by omega), List.set_eq_take_append_cons_drop, if_pos (by omega)]
  rw [List.take_take, Nat.min_eq_left (by omega), List.drop_of_length_le (l := (xs ++ [z]).take (p + 1)) (by omega), List.take_append_of_le_length hp]
  simp
theorem table_lay_s {h : Hp} {b : Nat} {S : Nat → Prop} {cf : Cfg} {xs : List Rul} (t : TabAt h b S cf xs) (p : Nat) (hp : p ≤ xs.length) (hlen : xs.length ≤ 1000000) (r : Rul) {K : Value → Hp → Prop}
    (H : ∀ h' S', TabAt h' b S' cf (xs.take p ++ r :: xs.drop p) → (∀ k, S' k → S k ∨ h.size ≤ k) → Fr S h h' → K (.tuple #[]) h') : CallsH Tryz.prog 55 #[.pointer (some ⟨b, 0, none⟩), .int .i64 (p : Int), r.val] h K := by
  obtain ⟨hSb, hSl, A, c, hb, hr, hSA, hne⟩ := t
  obtain ⟨i, z, hi, hisz, hiby, hiz, hzc⟩ := info55
  refine table_Table_lay_ok _ _ _ _ _ _ _ _ _ _ _ _ _ _ ?_
  unfold table_Table_lay
  refine newC_i fun h1 e1 c1 b1 z1 => ?_
  have hb1 := e1.fr (fun _ => False) |>.get hb (fun h => h)
  have hr1 := hr.keep (e1.fr (fun _ => False)) (fun _ _ h => h)
  refine ⟨_, _, _, ld_rules hb1, ?_⟩
  refine newC_i fun h2 e2 c2 b2 z2 => ?_
  have hb2 := e2.fr (fun _ => False) |>.get hb1 (fun h => h)
  have hr2 := hr1.keep (e2.fr (fun _ => False)) (fun _ _ h => h)
  refine HW_append1 (enc := Rul.enc) (x := zRul) Rul.enc_len Rul.flatT und32 hi hiz (by rw [hzc]; rfl) hisz (by omega) hr2 c2 (by rw [hiby]; omega) ?_
  intro h3 g c3 hr3 hg f3
  have hAlt : ∀ k, blk A k → k < h.size := fun k hk => hSl k (hSA k hk)
  have hbl : b < h.size := lt_of_get hb
  have hs1 : h.size ≤ h1.size := e1.size
  have hs2 : h1.size ≤ h2.size := e2.size
  have hgb : g ≠ b := by
    rcases hg with hg | hg
    · intro e; subst e; exact hne hg
    · omega
  have hb3 := f3.get hb2 hne
  refine ⟨_, _, _, rfl, ?_⟩
  refine st_rules hb3 fun h4 hb4 f4 z4 => ?_
  have hr4 := hr3.keep f4 (fun k hk e => by obtain ⟨a, ha, hk⟩ := hk; injection ha with ha; subst ha; exact hgb (hk.trans e))
  have hlen1 : (xs ++ [zRul]).length = xs.length + 1 := by simp
  rw [← hlen1] at hb4
  refine ⟨_, _, _, ld_rules hb4, ?_⟩
  have w1 : IntKind.i64.wrap ((p : Int) + 1) = ((p + 1 : Nat) : Int) := by rw [wrap_in (by omega) (by omega)]; omega
  rw [w1]
  refine ⟨_, _, _, slLo und32 hi (by omega) (by omega), ?_⟩
  refine ⟨_, _, _, ld_rules hb4, ?_⟩
  refine ⟨_, _, _, slLo und32 hi (by omega) (by omega), ?_⟩
  simp only [Int.toNat_natCast]
  refine HW_copyIn (E := 52) (enc := Rul.enc) (i := p + 1) (j := p) (m := xs.length - p) Rul.enc_len Rul.flatT und32 hi hisz hr4 (by rw [hlen1]; simp only [Nat.min_def]; split <;> omega) (by omega) (by omega) ?_ ?_ ?_
  · intro hm
    have hc3 : (xs ++ [zRul]).length ≤ c3 := by
      rcases hr4 with ⟨_, h0, _⟩ | ⟨_, _, _, _, _, _, hh⟩
      · simp at h0
      · exact hh
    rw [if_neg (by omega), hisz]
  · intro hm
    have hc3 : (xs ++ [zRul]).length ≤ c3 := by
      rcases hr4 with ⟨_, h0, _⟩ | ⟨_, _, _, _, _, _, hh⟩
      · simp at h0
      · exact hh
    rw [if_neg (by omega), hisz]
  intro h5 hr5 f5 z5
  have hb5 := f5.get hb4 (fun hk => by obtain ⟨a, ha, hk⟩ := hk; injection ha with ha; subst ha; exact hgb hk)
  refine ⟨_, rfl, ?_⟩
  refine ⟨_, _, _, ld_rules hb5, ?_⟩
  -- the boxed rule is still there
  have hbox : ∀ k, k = h.size → k ≠ b ∧ ¬ blk A k := fun k hk => ⟨by omega, fun hk' => by have := hAlt k hk'; omega⟩
  have hgbox : g ≠ h.size := by
    rcases hg with hg | hg
    · have := hAlt g hg; omega
    · omega
  have c3' : Cl h3 ⟨h.size, 0, none⟩ r.enc := f3.cl (c1.ext e2) (hbox _ rfl).2
  have c4' : Cl h4 ⟨h.size, 0, none⟩ r.enc := f4.cl c3' (hbox _ rfl).1
  have c5' : Cl h5 ⟨h.size, 0, none⟩ r.enc := f5.cl c4' (fun hk => by obtain ⟨a, ha, hk⟩ := hk; injection ha with ha; subst ha; exact hgbox hk)
  refine ⟨_, _, _, _, _, _, _, _, _, _, _, _, ldS c5' (by kernel_rfl), ?_⟩
  have hlen5 : ((xs ++ [zRul]).take (p + 1) ++ ((xs ++ [zRul]).drop p).take (xs.length - p) ++ (xs ++ [zRul]).drop (p + 1 + (xs.length - p))).length = xs.length + 1 := by simp; omega
  refine ⟨_, ix (sz := 12) (by omega) (by omega) und32 size55, ?_⟩
  rw [Int.toNat_natCast, add_eq0]
  refine HU_elem (enc := Rul.enc) (x := r) Rul.enc_len Rul.flatT hr5 (by omega) r.cells_val size55 ?_
  intro h6 hr6 f6 z6
  rw [take_drop_set xs zRul r p hp] at hr6
  have c6' : Cl h6 ⟨h.size, 0, none⟩ r.enc := f6.cl c5' (fun e => hgbox e.symm)
  have hb6 := f6.get hb5 (fun e => hgb e.symm)
  have hlen6 : (xs.take p ++ r :: xs.drop p).length = xs.length + 1 := by simp; omega
  have hsz3 := f3.size
  refine H h6 (fun k => S k ∨ k = g) ⟨.inl hSb, fun k hk => ?_, some ⟨g, 0, none⟩, c3, by rw [hlen6, ← hlen1]; exact hb6, hr6, fun k hk => ?_, fun hk => ?_⟩ (fun k hk => ?_) ?_
  · rcases hk with hk | hk
    · have := hSl k hk; omega
    · obtain ⟨g', rest', hA, hgg, _⟩ := hr6.open Rul.enc_len (by omega)
      injection hA with hA
      injection hA with hA
      rw [hk, hA]
      exact lt_of_get hgg
  · obtain ⟨a, ha, hk⟩ := hk; injection ha with ha; subst ha; exact .inr hk.symm
  · obtain ⟨a, ha, hk⟩ := hk; injection ha with ha; subst ha; exact hgb hk
  · rcases hk with hk | rfl
    · exact .inl hk
    · rcases hg with hg | hg
      · exact .inl (hSA _ hg)
      · exact .inr (by omega)
  · have q1 : Fr S h h2 := (e1.trans e2).fr S
    have q2 : Fr S h h3 := q1.then_ f3 (fun k hk => .inl (hSA k hk))
    have q3 : Fr S h h4 := q2.then_ f4 (fun k hk => .inl (hk ▸ hSb))
    have hgS : S g ∨ h.size ≤ g := by
      rcases hg with hg | hg
      · exact .inl (hSA _ hg)
      · exact .inr (by omega)
    have q4 : Fr S h h5 := q3.then_ f5 (fun k hk => by obtain ⟨a, ha, hk⟩ := hk; injection ha with ha; subst ha; subst hk; exact hgS)
    exact q4.then_ f6 (fun k hk => by subst hk; exact hgS)
theorem table_lift_s {h : Hp} {b : Nat} {S : Nat → Prop} {cf : Cfg} {xs : List Rul} (t : TabAt h b S cf xs) (p : Nat) (hp : p < xs.length) (hlen : xs.length ≤ 1000000) {K : Value → Hp → Prop}
    (H : ∀ h', TabAt h' b S cf (xs.take p ++ xs.drop (p + 1)) → Fr S h h' → h'.size = h.size → K (.tuple #[]) h') : CallsH Tryz.prog 138 #[.pointer (some ⟨b, 0, none⟩), .int .i64 (p : Int)] h K := by
  obtain ⟨hSb, hSl, A, c, hb, hr, hSA, hne⟩ := t
  obtain ⟨i, z, hi, hisz, hiby, hiz, hzc⟩ := info55
  refine table_Table_lift_ok _ _ ?_
  unfold table_Table_lift
  have hc : xs.length ≤ c := by
    rcases hr with ⟨_, h0, _⟩ | ⟨_, _, _, _, _, _, hh⟩
    · omega
    · exact hh
  refine ⟨_, _, _, ld_rules hb, ?_⟩
  refine ⟨_, _, _, slLo und32 hi (by omega) (by omega), ?_⟩
  refine ⟨_, _, _, ld_rules hb, ?_⟩
  have w1 : IntKind.i64.wrap ((p : Int) + 1) = ((p + 1 : Nat) : Int) := by rw [wrap_in (by omega) (by omega)]; omega
  rw [w1]
  refine ⟨_, _, _, slLo und32 hi (by omega) (by omega), ?_⟩
  simp only [Int.toNat_natCast]
  refine HW_copyIn (E := 52) (enc := Rul.enc) (i := p) (j := p + 1) (m := xs.length - (p + 1)) Rul.enc_len Rul.flatT und32 hi hisz hr (by simp only [Nat.min_def]; split <;> omega) (by omega) (by omega) ?_ ?_ ?_
  · intro hm; rw [if_neg (by omega), hisz]
  · intro hm; rw [if_neg (by omega), hisz]
  intro h5 hr5 f5 z5
  have hb5 := f5.get hb hne
  have e1 : xs.take p ++ (xs.drop (p + 1)).take (xs.length - (p + 1)) ++ xs.drop (p + (xs.length - (p + 1))) = (xs.take p ++ xs.drop (p + 1)) ++ xs.drop (p + (xs.length - (p + 1))) := by
    rw [List.take_of_length_le (l := xs.drop (p + 1)) (by simp)]
  rw [e1] at hr5
  have hlen2 : (xs.take p ++ xs.drop (p + 1)).length = xs.length - 1 := by simp; omega
  refine ⟨_, rfl, ?_⟩
  refine ⟨_, _, _, ld_rules hb5, ?_⟩
  refine ⟨_, _, _, ld_rules hb5, ?_⟩
  have w2 : IntKind.i64.wrap ((xs.length : Int) - 1) = ((xs.length - 1 : Nat) : Int) := by rw [wrap_in (by omega) (by omega)]; omega
  rw [w2]
  refine ⟨_, _, _, slHi und32 hi (by omega) (by omega), ?_⟩
  rw [Int.toNat_natCast, ← hlen2]
  refine st_rules hb5 fun h6 hb6 f6 z6 => ?_
  have hr6 := hr5.keep f6 (fun k hk e => hne (e ▸ hk))
  have hr7 : RowRT h6 A c (xs.take p ++ xs.drop (p + 1)) := by
    obtain ⟨g, rest, hA, hg, hl, hcl⟩ := hr6.open Rul.enc_len (by simp; omega)
    rw [hA]
    refine Row.shut Rul.enc_len (rest := (xs.drop (p + (xs.length - (p + 1)))).flatMap Rul.enc ++ rest) ?_ ?_ (by omega)
    · rw [hg]; simp
    · rw [← hl]; simp
  have q : Fr S h h6 := (f5.mono hSA).trans (f6.mono (fun k hk => hk ▸ hSb))
  refine H h6 ⟨hSb, fun k hk => Nat.lt_of_lt_of_le (hSl k hk) q.size, A, c, hb6, hr7, hSA, hne⟩ q (z6.trans z5)
theorem TabAt.rules {h : Hp} {b : Nat} {S : Nat → Prop} {cf : Cfg} {xs : List Rul} (t : TabAt h b S cf xs) : ∃ A c, h[b]? = some (.cells (cf.enc ++ [Value.slice A xs.length c]).toArray 101 (0, 0)) ∧ RSl h A xs.length 12 (xs.flatMap Rul.enc) := by
  obtain ⟨_, _, A, c, hb, hr, _⟩ := t
  exact ⟨A, c, hb, hr.read⟩
/-- What Insert says to a rule. -/
def takesI (xs : List Rul) (r : Rul) : Int := if r.check.1 ≠ 0 then r.check.1 else if findI xs r.id ≥ 0 then 111 else 0
theorem table_takes_s {p : Option Addr} {h : Hp} {A : Option Addr} {l c : Nat} {xs : List Rul} (rs : RSl h A l 12 (xs.flatMap Rul.enc)) (hl : xs.length = l) (hlen : l < 2 ^ 62) (r : Rul) {K : Value → Hp → Prop}
    (H : ∀ v h', Ext h h' → v = takesI xs r → K (.int .i64 v) h') : CallsH Tryz.prog 53 #[.pointer p, .slice A l c, r.val] h K := by
  refine table_Table_takes_ok _ _ _ _ _ _ _ _ _ _ _ _ _ _ _ _ ?_
  unfold table_Table_takes
  refine newC_i fun h1 e1 c1 b1 z1 => ?_
  refine ⟨_, _, _, _, _, _, _, _, _, _, _, _, ldS c1 (by kernel_rfl), ?_⟩
  refine rule_Check_s r (fun e i h2 e2 he => ?_)
  refine ⟨_, _, rfl, ?_⟩
  have he1 : e = r.check.1 := by rw [← he]
  refine br_i (fun hc => ?_) (fun hc => ?_)
  · refine H _ _ (e1.trans e2) ?_
    rw [takesI, if_pos (by rw [← he1]; simpa using hc)]; exact he1
  · have hz : r.check.1 = 0 := by rw [← he1]; simpa using hc
    refine ⟨_, ld (Cl.head (c1.ext e2)) (by kernel_rfl), ?_⟩
    refine table_find_s (rs.ext (e1.trans e2)) hl r.id hlen ?_
    refine ⟨_, rfl, ?_⟩
    refine br_i (fun hd => ?_) (fun hd => ?_)
    · refine H _ _ (e1.trans e2) ?_
      rw [takesI, if_neg (by simp [hz]), if_pos (by simpa using hd)]
    · refine H _ _ (e1.trans e2) ?_
      rw [takesI, if_neg (by simp [hz]), if_neg (by simpa using hd)]
theorem eq27 : Tryz.prog.underlying 67 = some (.pointer (Tryz.prog.pointee 67)) := by kernel_rfl
theorem ld_max {h : Hp} {b : Nat} {cf : Cfg} {v : Value} (hb : h[b]? = some (.cells (cf.enc ++ [v]).toArray 101 (0, 0))) : HV Tryz.prog (Instr.loadAt 3 (.pointer (some ⟨b, 0, none⟩))) h (.int .i64 cf.max) :=
  ld (by rw [cell_of hb]; rfl) (by kernel_rfl)
/-- Insert: the error's number, and the rules then. -/
def insI (cf : Cfg) (xs : List Rul) (p : Int) (r : Rul) : Int × List Rul :=
  if takesI xs r ≠ 0 then (takesI xs r, xs) else if ¬ (0 ≤ p ∧ p ≤ xs.length) then (112, xs) else if (xs.length : Int) ≥ cf.max then (113, xs) else (0, xs.take p.toNat ++ r :: xs.drop p.toNat)
theorem table_Insert_s {h : Hp} {b : Nat} {S : Nat → Prop} {cf : Cfg} {xs : List Rul} (t : TabAt h b S cf xs) (p : Int) (hlen : xs.length ≤ 1000000) (r : Rul) {K : Value → Hp → Prop}
    (H : ∀ h' S', TabAt h' b S' cf (insI cf xs p r).2 → (∀ k, S' k → S k ∨ h.size ≤ k) → Fr S h h' → K (.int .i64 (insI cf xs p r).1) h') : CallsH Tryz.prog 30 #[.pointer (some ⟨b, 0, none⟩), .int .i64 p, r.val] h K := by
  refine table_Table_Insert_ok _ _ _ _ _ _ _ _ _ _ _ _ _ _ ?_
  unfold table_Table_Insert
  refine newC_i fun h1 e1 c1 b1 z1 => ?_
  refine ⟨_, eqNil eq27, br_f rfl ?_⟩
  have t1 := t.ext e1
  obtain ⟨A, c, hb, hr⟩ := t1.rules
  refine ⟨_, _, _, ld_rules hb, ?_⟩
  refine ⟨_, _, _, _, _, _, _, _, _, _, _, _, ldS c1 (by kernel_rfl), ?_⟩
  refine table_takes_s hr rfl (by omega) r (fun v h2 e2 hv => ?_)
  have hb2 := (e2.fr (fun _ => False)).get hb (fun h => h)
  have t2 := t1.ext e2
  refine ⟨_, rfl, ?_⟩
  refine br_i (fun hc => ?_) (fun hc => ?_)
  · have hi : insI cf xs p r = (takesI xs r, xs) := by rw [insI, if_pos (by rw [← hv]; simpa using hc)]
    rw [hi] at H
    rw [hv]
    exact H h2 S t2 (fun k hk => .inl hk) ((e1.trans e2).fr S)
  · have hz : takesI xs r = 0 := by rw [← hv]; simpa using hc
    refine ⟨_, _, _, ld_rules hb2, ?_⟩
    refine table_in_s _ _ _ ?_
    refine ⟨_, rfl, ?_⟩
    refine br_i (fun hd => ?_) (fun hd => ?_)
    · have hi : insI cf xs p r = (112, xs) := by rw [insI, if_neg (by simp [hz]), if_pos (by simp at hd; omega)]
      rw [hi] at H
      exact H h2 S t2 (fun k hk => .inl hk) ((e1.trans e2).fr S)
    · refine ⟨_, ld_max hb2, ?_⟩
      refine br_i (fun he => ?_) (fun he => ?_)
      · have hi : insI cf xs p r = (113, xs) := by rw [insI, if_neg (by simp [hz]), if_neg (by simp at hd; omega), if_pos (by simpa using he)]
        rw [hi] at H
        exact H h2 S t2 (fun k hk => .inl hk) ((e1.trans e2).fr S)
      · have hp0 : 0 ≤ p ∧ p ≤ xs.length := by simp at hd; omega
        have hi : insI cf xs p r = (0, xs.take p.toNat ++ r :: xs.drop p.toNat) := by rw [insI, if_neg (by simp [hz]), if_neg (by omega), if_neg (by simpa using he)]
        rw [hi] at H
        refine ⟨_, _, _, _, _, _, _, _, _, _, _, _, ldS (c1.ext e2) (by kernel_rfl), ?_⟩
        obtain ⟨q, rfl⟩ := Int.eq_ofNat_of_zero_le hp0.1
        refine table_lay_s t2 q (by omega) hlen r (fun h3 S3 t3 hS3 f3 => ?_)
        refine ⟨rfl, ?_⟩
        simp only [Int.toNat_natCast] at H
        have hz1 := (e1.trans e2).size
        exact H h3 S3 t3 (fun k hk => (hS3 k hk).imp id (fun h => by omega)) (((e1.trans e2).fr S).trans f3)
/-- Delete. -/
def delI (xs : List Rul) (id : Int) : Int × List Rul := if findI xs id < 0 then (114, xs) else (0, xs.take (findI xs id).toNat ++ xs.drop ((findI xs id).toNat + 1))
theorem findI_lt (xs : List Rul) (id : Int) (h : 0 ≤ findI xs id) : ∃ j : Nat, findI xs id = j ∧ ∃ hj : j < xs.length, (xs[j]).id = id := by
  unfold findI at *
  cases hf : xs.findIdx? (fun r => r.id == id) with
  | none => rw [hf] at h; simp at h
  | some j =>
    obtain ⟨hj, h1, _⟩ := List.findIdx?_eq_some_iff_getElem.1 hf
    exact ⟨j, rfl, hj, by simpa using h1⟩
theorem table_Delete_s {h : Hp} {b : Nat} {S : Nat → Prop} {cf : Cfg} {xs : List Rul} (t : TabAt h b S cf xs) (id : Int) (hlen : xs.length ≤ 1000000) {K : Value → Hp → Prop}
    (H : ∀ h', TabAt h' b S cf (delI xs id).2 → Fr S h h' → K (.int .i64 (delI xs id).1) h') : CallsH Tryz.prog 135 #[.pointer (some ⟨b, 0, none⟩), .int .i64 id] h K := by
  refine table_Table_Delete_ok _ _ ?_
  unfold table_Table_Delete
  refine ⟨_, eqNil eq27, br_f rfl ?_⟩
  obtain ⟨A, c, hb, hr⟩ := t.rules
  refine ⟨_, _, _, ld_rules hb, ?_⟩
  refine table_find_s hr rfl id (by omega) ?_
  refine ⟨_, rfl, ?_⟩
  refine br_i (fun hc => ?_) (fun hc => ?_)
  · have hi : delI xs id = (114, xs) := by rw [delI, if_pos (by simpa using hc)]
    rw [hi] at H
    exact H h t (Fr.refl _ _)
  · have hi : delI xs id = (0, xs.take (findI xs id).toNat ++ xs.drop ((findI xs id).toNat + 1)) := by rw [delI, if_neg (by simpa using hc)]
    rw [hi] at H
    obtain ⟨j, hj, hjl, _⟩ := findI_lt xs id (by simpa using hc)
    rw [hj] at H ⊢
    refine table_lift_s t j hjl hlen (fun h' t' f' _ => ⟨rfl, ?_⟩)
    exact H h' (by simpa using t') f'
theorem zero55 : zRul.enc = [.int .i64 0, .int .u32 0, .int .i64 0, .int .u32 0, .int .i64 0, .int .u16 0, .int .u16 0, .int .u16 0, .int .u16 0, .int .u8 0, .int .u8 0, .int .i64 0] := rfl
theorem table_Rules_s {h : Hp} {b : Nat} {S : Nat → Prop} {cf : Cfg} {xs : List Rul} (t : TabAt h b S cf xs) (hlen : xs.length ≤ 1000000) {K : Value → Hp → Prop}
    (H : ∀ h', Ext h h' → RowRT h' (some ⟨h.size, 0, none⟩) xs.length xs → K (.slice (some ⟨h.size, 0, none⟩) xs.length xs.length) h') : CallsH Tryz.prog 52 #[.pointer (some ⟨b, 0, none⟩)] h K := by
  obtain ⟨i, z, hi, hisz, hiby, hiz, hzc⟩ := info55
  refine table_Table_Rules_ok _ ?_
  unfold table_Table_Rules
  refine ⟨_, eqNil eq27, br_f rfl ?_⟩
  obtain ⟨A, c, hb, hr⟩ := t.rules
  refine ⟨_, _, _, ld_rules hb, ?_⟩
  refine HW_makeRow (enc := Rul.enc) (zr := zRul) und32 hi hiz hisz (by omega) (by rw [hzc]; rfl) Rul.enc_len (by rw [hiby]; omega) (by omega) ?_
  intro h1 e1 r1
  refine ⟨_, _, _, rfl, ?_⟩
  obtain ⟨A1, c1, hb1, hr1⟩ := (t.ext e1).rules
  refine ⟨_, _, _, ld_rules hb1, ?_⟩
  have hl : (List.replicate xs.length zRul).length = xs.length := by simp
  rw [show HW Tryz.prog (Builtin.copy_ #[42, 42] 3 #[.slice (some ⟨h.size, 0, none⟩) xs.length xs.length, .slice A1 xs.length c1]) h1 = HW Tryz.prog (Builtin.copy_ #[42, 42] 3 #[.slice (some ⟨h.size, 0, none⟩) (List.replicate xs.length zRul).length xs.length, .slice A1 xs.length c1]) h1 by rw [hl]]
  refine HW_copyFrom (enc := Rul.enc) Rul.enc_len Rul.flatT und32 hi hisz r1 hl hr1 ?_
  intro h2 r2 f2 z2
  refine ⟨_, rfl, ?_⟩
  refine H h2 ⟨?_, fun k hk => ?_⟩ r2
  · have := e1.size; omega
  · rw [f2.keep k (by have := e1.size; omega) (by rintro ⟨a, ha, hk'⟩; injection ha with ha; subst ha; simp at hk'; omega), e1.old k hk]
def matchI (d : Int) (g : Hdr) : List Rul → Nat → (Bool × Int × Int) × Int
  | [], _ => ((false, 0, d), -1)
  | r :: rs, i => if r.has g then ((true, r.id, r.act), i) else matchI d g rs (i + 1)
def verd (v : Bool × Int × Int) : List Value := [.bool v.1, .int .i64 v.2.1, .int .i64 v.2.2]
def inB (n a b : Int) : Bool := decide (n ≥ a) && decide (n ≤ b)
def Cfg.ok (c : Cfg) : Bool := inB c.max 1 64 && inB c.dflt 1 4 && inB c.binth 1 16 && inB c.depth 0 10 && inB c.prune 0 1048576 && inB c.grid 0 1048576 && inB c.tuple 0 1048576
def Cfg.check (c : Cfg) : Int := if c.ok then 0 else 110
theorem tcheck_l3 (x0 x1 x2 : Int) {K0 : Bool → Hp → Prop} {h : Hp} (q : Bool) : ∀ (n k : Nat) (b : Bool), n ≤ 3 → 3 - n < k → (b && ([x0, x1, x2].drop n).all (fun x => inB x 0 1048576)) = q → K0 q h → table_Check_l3 x0 x1 x2 K0 k b n h := by
  intro n k
  induction k generalizing n with
  | zero => intro b _ h; omega
  | succ k ih =>
    intro b hn hk hq HK
    unfold table_Check_l3
    refine br_i (fun c => ?_) (fun c => ?_)
    · have hlt : n < 3 := by simp at c; omega
      obtain ⟨x, hx⟩ : ∃ x, [x0, x1, x2][n]? = some x := ⟨[x0, x1, x2][n]'(by simpa using hlt), by simp [hlt]⟩
      have hd : [x0, x1, x2].drop n = x :: [x0, x1, x2].drop (n + 1) := by
        rw [List.drop_eq_getElem_cons (by simpa using hlt)]
        congr 1
        rw [List.getElem?_eq_getElem (by simpa using hlt)] at hx
        exact Option.some.inj hx
      rw [hd, List.all_cons] at hq
      refine ⟨x, ?_, ?_⟩
      · intro w
        have : n = 0 ∨ n = 1 ∨ n = 2 := by omega
        rcases this with rfl | rfl | rfl <;> simp at hx <;> subst hx <;> exact pureRun_run Tryz.prog _ _ (by kernel_rfl) w
      · rw [wrap_in (by omega) (by omega)]
        refine br_i (fun c => ?_) (fun c => ?_)
        · refine table_in_s _ _ _ ⟨_, rfl, ?_⟩
          exact ih (n + 1) _ (by omega) (by omega) (by subst c; rw [← hq]; simp [inB]) HK
        · exact ih (n + 1) _ (by omega) (by omega) (by subst c; rw [← hq]; simp) HK
    · have hn3 : n = 3 := by simp at c; omega
      subst hn3
      have : b = q := by simpa using hq
      rw [this]; exact HK
theorem table_Check_s (cf : Cfg) {h : Hp} {K : Value → Hp → Prop} (H : ∀ v h', Ext h h' → v = cf.check → K (.int .i64 v) h') : CallsH Tryz.prog 38 #[cf.val] h K := by
  refine table_Check_ok _ _ _ _ _ _ _ ?_
  unfold table_Check table_Check_j2
  repeat' (first
    | (refine table_in_s _ _ _ ?_)
    | (refine tcheck_l3 _ _ _ cf.ok 0 4 _ (by omega) (by omega) ?_ ?_)
    | (refine H _ _ (by first | first | assumption | exact Ext.refl _ | exact Ext.trans2 (by assumption) (by first | first | assumption | exact Ext.refl _ | exact Ext.trans2 (by assumption) (by first | first | assumption | exact Ext.refl _ | exact Ext.trans2 (by assumption) (by first | first | assumption | exact Ext.refl _ | exact Ext.trans2 (by assumption) (by first | first | assumption | exact Ext.refl _ | exact Ext.trans2 (by assumption) (by first | first | assumption | exact Ext.refl _ | exact Ext.trans2 (by assumption) (by first | first | assumption | exact Ext.refl _ | exact Ext.trans2 (by assumption) (by first | first | assumption | exact Ext.refl _ | exact Ext.trans2 (by assumption) (by first | first | assumption | exact Ext.refl _ | exact Ext.trans2 (by assumption) (by first | assumption | exact Ext.refl _)))))))))) ?_)
    | (refine newC_i fun _ _ _ _ _ => ?_)
    | (refine br_i (fun _ => ?_) (fun _ => ?_))
    | (refine And.intro rfl ?_)
    | (refine And.intro (ld (Cl.at_ (by first | assumption | exact Cl.ext2 (by assumption) (by first | assumption | exact Cl.ext2 (by assumption) (by first | assumption | exact Cl.ext2 (by assumption) (by first | assumption | exact Cl.ext2 (by assumption) (by first | assumption | exact Cl.ext2 (by assumption) (by first | assumption | exact Cl.ext2 (by assumption) (by first | assumption | exact Cl.ext2 (by assumption) (by first | assumption | exact Cl.ext2 (by assumption) (by first | assumption | exact Cl.ext2 (by assumption) (by assumption)))))))))) _ _ rfl) (by kernel_rfl)) ?_)
    | (refine And.intro (ld (Cl.head (by first | assumption | exact Cl.ext2 (by assumption) (by first | assumption | exact Cl.ext2 (by assumption) (by first | assumption | exact Cl.ext2 (by assumption) (by first | assumption | exact Cl.ext2 (by assumption) (by first | assumption | exact Cl.ext2 (by assumption) (by first | assumption | exact Cl.ext2 (by assumption) (by first | assumption | exact Cl.ext2 (by assumption) (by first | assumption | exact Cl.ext2 (by assumption) (by first | assumption | exact Cl.ext2 (by assumption) (by assumption))))))))))) (by kernel_rfl)) ?_)
    | (refine And.intro (ldS (by first | assumption | exact Cl.ext2 (by assumption) (by first | assumption | exact Cl.ext2 (by assumption) (by first | assumption | exact Cl.ext2 (by assumption) (by first | assumption | exact Cl.ext2 (by assumption) (by first | assumption | exact Cl.ext2 (by assumption) (by first | assumption | exact Cl.ext2 (by assumption) (by first | assumption | exact Cl.ext2 (by assumption) (by first | assumption | exact Cl.ext2 (by assumption) (by first | assumption | exact Cl.ext2 (by assumption) (by assumption)))))))))) (by kernel_rfl)) ?_)
    | (refine And.intro (ldS (Cl.sl (by first | assumption | exact Cl.ext2 (by assumption) (by first | assumption | exact Cl.ext2 (by assumption) (by first | assumption | exact Cl.ext2 (by assumption) (by first | assumption | exact Cl.ext2 (by assumption) (by first | assumption | exact Cl.ext2 (by assumption) (by first | assumption | exact Cl.ext2 (by assumption) (by first | assumption | exact Cl.ext2 (by assumption) (by first | assumption | exact Cl.ext2 (by assumption) (by first | assumption | exact Cl.ext2 (by assumption) (by assumption)))))))))) rfl) (by kernel_rfl)) ?_)
    | (apply Exists.intro))
  all_goals (simp_all [Cfg.check, Cfg.ok, inB])
  all_goals (intros; first | (simp only [Bool.and_assoc]; done) | omega | (simp_all; omega) | simp_all)
theorem size24 : (Tryz.prog.info? 24).map (·.size) = some 7 := by kernel_rfl
theorem table_New_s (cf : Cfg) {h : Hp} {K : Value → Hp → Prop} (H0 : cf.check ≠ 0 → ∀ h', Ext h h' → K (.tuple #[.pointer none, .int .i64 cf.check]) h')
    (H1 : cf.check = 0 → ∀ h' b, Ext h h' → h.size ≤ b → TabAt h' b (fun k => k = b) cf [] → K (.tuple #[.pointer (some ⟨b, 0, none⟩), .int .i64 0]) h') : CallsH Tryz.prog 15 #[cf.val] h K := by
  refine table_New_ok _ _ _ _ _ _ _ ?_
  unfold table_New
  refine newC_i fun h1 e1 c1 b1 z1 => ?_
  refine ⟨_, _, _, _, _, _, _, ldS c1 (by kernel_rfl), ?_⟩
  refine table_Check_s cf (fun v h2 e2 hv => ?_)
  refine ⟨_, rfl, ?_⟩
  subst hv
  refine br_i (fun hc => ?_) (fun hc => ?_)
  · exact H0 (by simpa using hc) h2 (e1.trans e2)
  · refine ⟨_, _, _, _, _, _, _, ldS (c1.ext e2) (by kernel_rfl), ?_⟩
    refine newC_i fun h3 e3 c3 b3 z3 => ?_
    refine H1 (by simpa using hc) h3 h2.size ((e1.trans e2).trans e3) (e1.trans e2).size ?_
    refine ⟨rfl, fun k hk => by omega, none, 0, b3, .inl ⟨rfl, rfl, rfl, rfl⟩, ?_, ?_⟩
    · rintro k ⟨a, ha, _⟩; cases ha
    · rintro ⟨a, ha, _⟩; cases ha
def atI (xs : List Rul) (p : Int) : Rul × Int := if h : 0 ≤ p ∧ p < xs.length then (xs[p.toNat]'(by omega), 0) else (zRul, 112)
def setI (max : Int) : List Rul → List Rul → Nat → Int
  | _, [], _ => 0
  | seen, r :: rs, i => if takesI seen r ≠ 0 then takesI seen r else if (i : Int) ≥ max then 113 else setI max (seen ++ [r]) rs (i + 1)
theorem table_Set_l {h0 : Hp} {b : Nat} {S : Nat → Prop} {cf : Cfg} {ys : List Rul} (xs : List Rul) {A : Option Addr} {l c : Nat} (hl : xs.length = l) (hlen : l < 2 ^ 62) {K0 : Int → Hp → Prop} {K1 : Option Addr → Option Addr → Nat → Nat → Hp → Prop} (hA : l ≤ c) :
    ∀ (rs : List Rul) (n k : Nat) (h : Hp), xs.drop n = rs → n ≤ l → l - n < k → Ext h0 h → TabAt h b S cf ys → RSl h A l 12 (xs.flatMap Rul.enc) →
      (∀ v h', setI cf.max (xs.take n) rs n = v → v ≠ 0 → Ext h0 h' → K0 v h') → (∀ h', setI cf.max (xs.take n) rs n = 0 → Ext h0 h' → K1 (some ⟨b, 0, none⟩) A l c h') →
      table_Table_Set_l1 (some ⟨b, 0, none⟩) A l c A l c (l : Int) K0 K1 k n h := by
  intro rs
  induction rs with
  | nil =>
    intro n k h hd hn hk he ht hr H0 H1
    obtain ⟨k, rfl⟩ : ∃ m, k = m + 1 := ⟨k - 1, by omega⟩
    have : l ≤ n := by have := congrArg List.length hd; simp at this; omega
    unfold table_Table_Set_l1
    exact br_f (by simp; omega) (H1 h rfl he)
  | cons r rs ih =>
    intro n k h hd hn hk he ht hr H0 H1
    obtain ⟨k, rfl⟩ : ∃ m, k = m + 1 := ⟨k - 1, by omega⟩
    obtain ⟨i, z, hi, hisz, hiby, hiz, hzc⟩ := info55
    have hlt : n < l := by have := congrArg List.length hd; simp at this; omega
    have hget : xs[n]'(by omega) = r := by
      rw [List.drop_eq_getElem_cons (by omega)] at hd
      injection hd
    have hd' : xs.drop (n + 1) = rs := by
      rw [List.drop_eq_getElem_cons (by omega)] at hd
      injection hd
    have htk : xs.take (n + 1) = xs.take n ++ [r] := by rw [List.take_succ_eq_append_getElem (by omega), hget]
    unfold table_Table_Set_l1
    refine br_t (by simp; omega) ?_
    obtain ⟨a, hp, hcl⟩ := rd_elem (c := c) hr hl hlt
    rw [hget] at hcl
    refine ⟨_, hp, ?_⟩
    refine ⟨_, _, _, _, _, _, _, _, _, _, _, _, ldS hcl (by kernel_rfl), ?_⟩
    refine newV (us := r.enc) rfl rfl (by kernel_rfl) rfl fun h1 e1 c1 b1 z1 => ?_
    refine ⟨_, _, _, slHi und32 hi (by omega) (by omega), ?_⟩
    rw [Int.toNat_natCast]
    refine ⟨_, _, _, _, _, _, _, _, _, _, _, _, ldS c1 (by kernel_rfl), ?_⟩
    have hrt : RSl h1 A n 12 ((xs.take n).flatMap Rul.enc) := by
      obtain ⟨a', hA', hcl'⟩ := (hr.ext e1).some (by omega)
      refine ⟨by rw [flat_len Rul.enc_len]; simp; omega, .inr ⟨a', hA', ?_⟩⟩
      refine ⟨hcl'.spot, fun j v hj => hcl'.at_ j v ?_⟩
      rw [← flat_take Rul.enc_len, List.getElem?_take] at hj
      split at hj
      · exact hj
      · cases hj
    refine table_takes_s (xs := xs.take n) hrt (by simp; omega) (by omega) r (fun v h2 e2 hv => ?_)
    refine ⟨_, rfl, ?_⟩
    have e12 := e1.trans e2
    refine br_i (fun hc => ?_) (fun hc => ?_)
    · exact H0 v h2 (by rw [setI, if_pos (by rw [← hv]; simpa using hc)]; exact hv.symm) (by simpa using hc) (he.trans e12)
    · have hz : takesI (xs.take n) r = 0 := by rw [← hv]; simpa using hc
      obtain ⟨A', c', hb', _⟩ := (ht.ext e12).rules
      refine ⟨_, ld_max hb', ?_⟩
      refine br_i (fun hd => ?_) (fun hd => ?_)
      · exact H0 113 h2 (by rw [setI, if_neg (by simp [hz]), if_pos (by simpa using hd)]) (by simp) (he.trans e12)
      · have hno : setI cf.max (xs.take n) (r :: rs) n = setI cf.max (xs.take (n + 1)) rs (n + 1) := by rw [setI, if_neg (by simp [hz]), if_neg (by simpa using hd), htk]
        rw [hno] at H0 H1
        rw [wrap_in (by omega) (by omega)]
        exact ih (n + 1) k h2 hd' (by omega) (by omega) (he.trans e12) (ht.ext e12) (hr.ext e12) H0 H1
theorem table_Set_s {h : Hp} {b : Nat} {S : Nat → Prop} {cf : Cfg} {ys xs : List Rul} (t : TabAt h b S cf ys) {A : Option Addr} {l c : Nat} (hl : xs.length = l) (hlen : l ≤ 1000000) (hc : l ≤ c) (hr : RSl h A l 12 (xs.flatMap Rul.enc)) (hrS : 0 < l → ∀ a, A = some a → ¬ S a.block) {K : Value → Hp → Prop}
    (H : ∀ h' S', TabAt h' b S' cf (if setI cf.max [] xs 0 = 0 then xs else ys) → (∀ k, S' k → S k ∨ h.size ≤ k) → Fr S h h' → K (.int .i64 (setI cf.max [] xs 0)) h') : CallsH Tryz.prog 137 #[.pointer (some ⟨b, 0, none⟩), .slice A l c] h K := by
  obtain ⟨i, z, hi, hisz, hiby, hiz, hzc⟩ := info55
  refine table_Table_Set_ok _ _ _ _ ?_
  unfold table_Table_Set
  refine ⟨_, eqNil eq27, br_f rfl ?_⟩
  refine ⟨l + 1, ?_⟩
  refine table_Set_l (h0 := h) (ys := ys) (S := S) (cf := cf) xs hl (by omega) hc xs 0 (l + 1) h rfl (by omega) (by omega) (Ext.refl _) t hr ?_ ?_
  · intro v h' hv hne he
    simp only [List.take_zero] at hv
    rw [hv, if_neg hne] at H
    exact H h' S (t.ext he) (fun k hk => .inl hk) (he.fr S)
  · intro h1 hv he
    simp only [List.take_zero] at hv
    rw [hv, if_pos rfl] at H
    refine HW_makeRow (enc := Rul.enc) (zr := zRul) und32 hi hiz hisz (by omega) (by rw [hzc]; rfl) Rul.enc_len (by rw [hiby]; omega) (by omega) ?_
    intro h2 e2 r2
    refine ⟨_, _, _, rfl, ?_⟩
    obtain ⟨hSb, hSl, A0, c0, hb0, hr0, hSA, hne⟩ := t
    have e02 := he.trans e2
    have hb2 := (e02.fr (fun _ => False)).get hb0 (fun h => h)
    refine st_rules hb2 fun h3 hb3 f3 z3 => ?_
    have hbl : b < h.size := lt_of_get hb0
    have hs1 := he.size
    have r3 := r2.keep f3 (by rintro k ⟨a, ha, hk⟩ rfl; injection ha with ha; subst ha; simp at hk; omega)
    have hr3 : RSl h3 A l 12 (xs.flatMap Rul.enc) := by
      obtain ⟨q1, q2⟩ := hr.ext e02
      refine ⟨q1, ?_⟩
      rcases q2 with q2 | ⟨a, ha, hcl⟩
      · exact .inl q2
      · rcases Nat.eq_zero_or_pos l with hz | hz
        · exact .inl hz
        · exact .inr ⟨a, ha, f3.cl hcl (fun hab => hrS hz a ha (hab ▸ hSb))⟩
    refine ⟨_, _, _, ld_rules hb3, ?_⟩
    subst hl
    have hrl : (List.replicate xs.length zRul).length = xs.length := by simp
    rw [show HW Tryz.prog (Builtin.copy_ #[42, 42] 3 #[.slice (some ⟨h1.size, 0, none⟩) xs.length xs.length, .slice A xs.length c]) h3 = HW Tryz.prog (Builtin.copy_ #[42, 42] 3 #[.slice (some ⟨h1.size, 0, none⟩) (List.replicate xs.length zRul).length xs.length, .slice A xs.length c]) h3 by rw [hrl]]
    refine HW_copyFrom (enc := Rul.enc) Rul.enc_len Rul.flatT und32 hi hisz r3 hrl hr3 ?_
    intro h4 r4 f4 z4
    refine ⟨_, rfl, ?_⟩
    have hb4 := f4.get hb3 (by rintro ⟨a, ha, hk⟩; injection ha with ha; subst ha; simp at hk; omega)
    have h1l : h1.size < h4.size := by
      have : h1.size < h2.size := by
        rcases r2 with ⟨h, _⟩ | ⟨g, rest, hA, hg, _⟩
        · cases h
        · injection hA with hA; injection hA with hA; rw [hA]; exact lt_of_get hg
      have := f3.size; have := f4.size; omega
    have q : Fr S h h4 := ((e02.fr S).then_ f3 (fun k hk => .inl (hk ▸ hSb))).then_ f4 (by rintro k ⟨a, ha, hk⟩; injection ha with ha; subst ha; simp at hk; exact .inr (by omega))
    refine H h4 (fun k => S k ∨ k = h1.size) ⟨.inl hSb, fun k hk => ?_, some ⟨h1.size, 0, none⟩, xs.length, hb4, r4, ?_, ?_⟩ (fun k hk => hk.imp id (fun h => by omega)) q
    · rcases hk with hk | hk
      · exact Nat.lt_of_lt_of_le (hSl k hk) q.size
      · omega
    · rintro k ⟨a, ha, hk⟩; injection ha with ha; subst ha; exact .inr hk.symm
    · rintro ⟨a, ha, hk⟩; injection ha with ha; subst ha; simp at hk; omega
end Go.Proofs.YtomhkbhgpmcbiaaGreat.Fs
