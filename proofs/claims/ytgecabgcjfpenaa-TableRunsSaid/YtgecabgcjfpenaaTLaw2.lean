/- The table's laws without a reference: one of all headers behind all; out and in again. -/
import Derived.Test.YtgecabgcjfpenaaTLaw1
import Derived.Test.YtgecabgcjfpenaaFsC
namespace Go.Proofs.Ytgecabgcjfpenaa.Fs
open Go Go.RowKit Go.Proofs.Ytgecabgcjfpenaa.Sx
set_option linter.unusedVariables false
set_option linter.unusedSimpArgs false
set_option maxRecDepth 10000
/-! ### Plain -/
theorem pig : ∀ (n : Nat) (L : List Int), (∀ m : Nat, m < n → ((m : Int) + 1) ∈ L) → n ≤ L.length := by
  intro n
  induction n with
  | zero => intro L _; omega
  | succ n ih =>
    intro L h
    have h1 := h n (by omega)
    have := ih (L.erase ((n : Int) + 1)) (fun m hm => (List.mem_erase_of_ne (by omega)).2 (h m (by omega)))
    rw [List.length_erase_of_mem h1] at this
    have : 0 < L.length := List.length_pos_of_mem h1
    omega
theorem findI_mem {xs : List Rul} {id : Int} (h : ¬ findI xs id < 0) : id ∈ xs.map (·.id) := by
  obtain ⟨j, _, hj, he⟩ := findI_lt xs id (by omega)
  exact List.mem_map.2 ⟨xs[j], List.getElem_mem hj, he⟩
theorem free_id (xs : List Rul) : ∃ n : Nat, n ≤ xs.length ∧ findI xs (n + 1) < 0 := by
  refine Classical.byContradiction fun hc => ?_
  have := pig (xs.length + 1) (xs.map (·.id)) (fun m hm => findI_mem (fun hf => hc ⟨m, by omega, hf⟩))
  simp at this
  omega
theorem ev_check {id : Int} (h1 : 1 ≤ id) (h2 : id ≤ 999999) : (ev id 4).check = (0, 0) := by
  have e : (ev id 4).check2 = (0, 0) := by
    have hp : (ev 0 4).parts = [0, 0, 0, 0, 0] := by decide +kernel
    have hp' : (ev id 4).parts = [0, 0, 0, 0, 0] := hp
    rw [Rul.check2, hp']
    rfl
  rw [Rul.check, if_neg (by simp [ev]; omega), e]
theorem takesI_ev {xs : List Rul} {id : Int} (h1 : 1 ≤ id) (h2 : id ≤ 999999) (h : findI xs id < 0) : takesI xs (ev id 4) = 0 := by
  rw [takesI, ev_check h1 h2, if_neg (by simp), if_neg (by show ¬ findI xs id ≥ 0; omega)]
theorem matchI_app (d : Int) (g : Hdr) (r : Rul) (hr : r.has g = true) : ∀ (xs : List Rul) (i : Nat), matchI d g (xs ++ [r]) i = if (matchI d g xs i).1.1 = true then matchI d g xs i else ((true, r.id, r.act), ((i + xs.length : Nat) : Int))
  | [], i => by simp [matchI, hr]
  | x :: xs, i => by
    by_cases hx : x.has g = true
    · simp [matchI, hx]
    · rw [List.cons_append, matchI, if_neg hx, matchI_app d g r hr xs (i + 1), matchI, if_neg hx]
      congr 2
      simp; omega
theorem matchI_none (d : Int) (g : Hdr) : ∀ (xs : List Rul) (i : Nat), (matchI d g xs i).1.1 = false → matchI d g xs i = ((false, 0, d), -1)
  | [], i, _ => rfl
  | x :: xs, i, h => by
    by_cases hx : x.has g = true
    · simp [matchI, hx] at h
    · rw [matchI, if_neg hx] at h ⊢
      exact matchI_none d g xs (i + 1) h
structure Hdr.wf (g : Hdr) : Prop where
  s : 0 ≤ g.src ∧ g.src ≤ 4294967295
  d : 0 ≤ g.dst ∧ g.dst ≤ 4294967295
  sp : 0 ≤ g.sp ∧ g.sp ≤ 65535
  dp : 0 ≤ g.dp ∧ g.dp ≤ 65535
  pr : 0 ≤ g.pr ∧ g.pr ≤ 255
theorem ev_has {id : Int} (h1 : 1 ≤ id) (h2 : id ≤ 999999) {g : Hdr} (hg : g.wf) : (ev id 4).has g = true := by
  have c0 : careV 0 = 0 := by decide +kernel
  have p0 : prefixCheck 0 0 = 0 := by decide +kernel
  have b0 : ∀ x, bAnd .u32 x 0 = 0 := fun x => by simp [bAnd]; rfl
  have b1 : ∀ x, bAnd .u8 x 0 = 0 := fun x => by simp [bAnd]; rfl
  have := hg.sp
  have := hg.dp
  rw [Rul.has, ev_check h1 h2]
  simp [ev, prefixHas, spanHas, maskHas, c0, p0, b0, b1]
  exact ⟨⟨by omega, decide_eq_true (by omega)⟩, by omega, decide_eq_true (by omega)⟩
def exC (m : Int) : Cfg := ⟨m, 1, 1000, 1000, 1000, 4, 8⟩
theorem exC_ok : (exC 64).check = 0 := by decide +kernel
/-! ### TableLast -/
theorem last_l1 {h : Hp} {b : Nat} {S : Nat → Prop} {cf : Cfg} {xs : List Rul} (t : TabAt h b S cf xs) (hlen : xs.length ≤ 1000) {A : Option Addr} {l c : Nat} {a d : Addr} {x : Int} {K0 : Option Addr → Nat → Nat → Addr → Option Addr → Addr → Int → Int → Hp → Prop} {N : Nat} (hN : N ≤ xs.length) (hf : findI xs (N + 1) < 0)
    (H : ∀ id : Int, 1 ≤ id → id ≤ xs.length + 1 → findI xs id < 0 → K0 A l c a (some ⟨b, 0, none⟩) d x id h) : ∀ (e m k : Nat), m + e = N → e < k → quintetlaw11_TableLast_l1 A l c a (some ⟨b, 0, none⟩) d x K0 k ((m : Int) + 1) h := by
  intro e
  induction e with
  | zero =>
    intro m k hm hk
    obtain ⟨k, rfl⟩ : ∃ q, k = q + 1 := ⟨k - 1, by omega⟩
    unfold quintetlaw11_TableLast_l1
    refine table_Find_s t _ (by omega) ⟨_, rfl, ?_⟩
    obtain rfl : m = N := by omega
    exact br_f (by simp; omega) (H _ (by omega) (by omega) hf)
  | succ e ih =>
    intro m k hm hk
    obtain ⟨k, rfl⟩ : ∃ q, k = q + 1 := ⟨k - 1, by omega⟩
    unfold quintetlaw11_TableLast_l1
    refine table_Find_s t _ (by omega) ⟨_, rfl, ?_⟩
    refine br_i (fun hc => ?_) (fun hc => ?_)
    · rw [wrap_in (by omega) (by omega)]
      have := ih (m + 1) k (by omega) (by omega)
      simpa using this
    · exact H _ (by omega) (by omega) (by simpa using hc)
theorem rsl_block {h : Hp} {A : Option Addr} {l : Nat} {xs : List Rul} (hr : RSl h A l 12 (xs.flatMap Rul.enc)) (hl : 0 < l) : ∀ a, A = some a → a.block < h.size := by
  rintro a rfl
  obtain ⟨a', ha, hcl⟩ := hr.some hl
  injection ha with ha
  subst ha
  have h0 := hr.1
  cases hx : xs.flatMap Rul.enc with
  | nil => rw [hx] at h0; simp at h0; omega
  | cons v vs => rw [hx] at hcl; exact cell_lt hcl.head
/-- The configuration of these laws: the example's, with room for 64. -/
theorem start_s {h : Hp} {K : Addr → Hp → Prop} (H : ∀ h' a, Ext h h' → Cl h' a (exC 64).enc → K a h') : CallsH Try.prog 17 #[] h fun r10 h9 =>
  ∃ x11 : Int, ∃ x12 : Int, ∃ x13 : Int, ∃ x14 : Int, ∃ x15 : Int, ∃ x16 : Int, ∃ x17 : Int, r10 = (.agg #[(.int .i64 x11), (.int .i64 x12), (.int .i64 x13), (.int .i64 x14), (.int .i64 x15), (.int .i64 x16), (.int .i64 x17)]) ∧ 
  newC h9 (.cells #[(.int .i64 0), (.int .i64 0), (.int .i64 0), (.int .i64 0), (.int .i64 0), (.int .i64 0), (.int .i64 0)] 24 (0, 0)) fun a19 h18 => 
  HU Try.prog (Instr.storeAt 24 (.pointer (some a19)) (.agg #[(.int .i64 x11), (.int .i64 x12), (.int .i64 x13), (.int .i64 x14), (.int .i64 x15), (.int .i64 x16), (.int .i64 x17)])) h18 fun h20 => 
  HU Try.prog (Instr.storeAt 3 (.pointer (some a19)) (.int .i64 64)) h20 fun h21 => K a19 h21 := by
  refine example_s fun h1 e1 => ⟨_, _, _, _, _, _, _, rfl, ?_⟩
  refine newV (us := exCfg.enc) rfl rfl size24 rfl fun h2 e2 c2 b2 z2 => ?_
  refine HU_st (us := [.int .i64 64]) b2 rfl (by kernel_rfl) (by simp [Cfg.enc]) rfl ?_
  have e : exCfg.enc.take 0 ++ [Value.int .i64 64] ++ exCfg.enc.drop (0 + [Value.int .i64 64].length) = (exC 64).enc := rfl
  rw [e]
  have hg := setB_get (cs := (exC 64).enc) (T := 24) (lt_of_get b2)
  refine H _ _ ⟨?_, fun k hk => ?_⟩ (Cl.of_block hg fun j v hj => by rw [Nat.zero_add]; exact hj)
  · have := e1.size; have := e2.size; rw [setB_size]; omega
  · have := e1.size
    rw [setB_ne (by omega), e2.old k (by omega), e1.old k hk]
theorem TableLast_s (xs : List Rul) (g : Hdr) (hg : g.wf) {h : Hp} {A : Option Addr} {l c : Nat} (hl : xs.length = l) (hc : l ≤ c) (hr : RSl h A l 12 (xs.flatMap Rul.enc)) {K : Value → Hp → Prop} (H : ∀ h', Ext h h' → K (.bool true) h') : CallsH Try.prog 5 #[.slice A l c, g.val] h K := by
  refine quintetlaw11_TableLast_ok _ _ _ _ _ _ _ _ ?_
  unfold quintetlaw11_TableLast
  refine newC_i fun h1 e1 c1 b1 z1 => ?_
  refine br_i (fun _ => H h1 e1) (fun hlt => ?_)
  have hlt : l < 64 := by simp at hlt; omega
  refine start_s fun h2 a2 e2 c2 => ?_
  refine ⟨_, _, _, _, _, _, _, ldS c2 (by kernel_rfl), ?_⟩
  refine table_New_s (exC 64) (fun hc => absurd exC_ok hc) (fun _ h3 b e3 hb t3 => ?_)
  refine ⟨_, _, rfl, ⟨_, eqNil eq27, br_f rfl ?_⟩⟩
  have e123 := (e1.trans e2).trans e3
  have o3 : Own h1 h3 b _ (exC 64) [] := ⟨t3, fun k hk => by have := e2.size; omega, e2.trans e3⟩
  have hr1 := hr.ext e1
  refine table_Set_s o3.t hl (by omega) hc (hr.ext e123) (fun hz a ha hS => by have := o3.fresh _ hS; have := rsl_block hr1 hz a ha; omega) fun h4 S4 t4 hS4 f4 => ⟨_, rfl, ?_⟩
  have o4 := o3.step t4 hS4 f4
  refine br_i (fun hne => ?_) (fun heq => ?_)
  · exact awake_s fun h5 e5 => ⟨_, rfl, H h5 ((e1.trans o4.ext).trans e5)⟩
  have hz : setI (exC 64).max [] xs 0 = 0 := by simpa using heq
  rw [if_pos hz] at o4
  refine ⟨_, _, _, _, _, ldS (vs := g.enc) (c1.ext o4.ext) (by kernel_rfl), ?_⟩
  refine table_Match_s o4.t g (by omega) fun h5 v i e5 hm => ⟨_, _, _, _, rfl, ?_⟩
  refine newV (us := verd v) rfl rfl size40 rfl fun h6 e6 c6 b6 z6 => ?_
  have o6 := (o4.later e5).later e6
  obtain ⟨N, hN, hfree⟩ := free_id xs
  refine ⟨N + 1, ?_⟩
  refine last_l1 (x := i) o6.t (by omega) hN hfree (fun id h1' h2' hf => ?_) N 0 (N + 1) (by omega) (by omega)
  refine every_s id 4 fun h7 e7 => ⟨_, _, _, _, _, _, _, _, _, _, _, _, rfl, ?_⟩
  have o7 := o6.later e7
  have hz2 : ¬¬ (0 ≤ (l : Int) ∧ (l : Int) ≤ xs.length) := by subst hl; simp
  have hins : insI (exC 64) xs l (ev id 4) = (0, xs ++ [ev id 4]) := by
    rw [insI, if_neg (by rw [takesI_ev h1' (by omega) hf]; simp), if_neg hz2, if_neg (by show ¬ ((xs.length : Int) ≥ 64); omega)]
    subst hl
    simp
  refine table_Insert_s o7.t l (by omega) (ev id 4) fun h8 S8 t8 hS8 f8 => ⟨_, rfl, ?_⟩
  rw [hins] at t8 ⊢
  have o8 := o7.step t8 hS8 f8
  have c8 := f8.cl (c6.ext e7) (fun hs => by have := o4.t.2.1 _ hs; have := e5.size; simp at *; omega)
  refine ⟨_, _, _, _, _, ldS (vs := g.enc) (c1.ext o8.ext) (by kernel_rfl), ?_⟩
  refine table_Match_s o8.t g (by simp; omega) fun h9 w j e9 hm9 => ⟨_, _, _, _, rfl, ?_⟩
  refine newV (us := verd w) rfl rfl size40 rfl fun h10 e10 c10 b10 z10 => ?_
  have o10 := (o8.later e9).later e10
  have c10' := (c8.ext e9).ext e10
  have e10' := e1.trans o10.ext
  refine ⟨_, ld (c10'.at_ 0 _ rfl) (by kernel_rfl), ?_⟩
  have hcf : (exC 64).dflt = 1 := rfl
  rw [matchI_app _ g (ev id 4) (ev_has h1' (by omega) hg), hm] at hm9
  refine br_i (fun hv => ?_) (fun hv => ?_)
  · rw [if_pos hv] at hm9
    injection hm9 with hw hi
    subst hw hi
    refine awake_s fun h11 e11 => ⟨_, rfl, br_t rfl (br_t rfl ?_)⟩
    refine ⟨_, _, _, ldS (c10'.ext e11) (by kernel_rfl), _, _, _, ldS (c10.ext e11) (by kernel_rfl), _, eq40 _ _ _ _ _ _, br_t (by simp) ?_⟩
    have := H h11 (e10'.trans e11)
    simpa using this
  · have hv' : v.1 = false := hv
    have hn := matchI_none (exC 64).dflt g xs 0 (by rw [hm]; exact hv')
    rw [hm] at hn
    injection hn with hn1 hn2
    rw [if_neg (by rw [hv']; simp)] at hm9
    injection hm9 with hw hi
    subst hw hi
    refine awake_s fun h11 e11 => ⟨_, rfl, br_t rfl (br_t rfl (br_t (by rw [hn2]; rfl) (br_t (by subst hl; simp) ?_)))⟩
    refine ⟨_, _, _, ldS (c10.ext e11) (by kernel_rfl), _, eq40 _ _ _ _ _ _, ?_⟩
    have := H h11 (e10'.trans e11)
    simpa [ev] using this
/-! ### TableBack -/
theorem ne55 (r : Rul) : PV Try.prog (binOp .neq 55 r.val r.val) (.bool false) := by
  intro w
  rw [Rul.val]
  rw [run_neq_struct, run_equalIn_struct w 9999 55 _ _ (by kernel_rfl) (by kernel_rfl)]
  simp [go_sem]
theorem same_l1 {h : Hp} {A : Option Addr} {l c : Nat} {xs : List Rul} (r : RSl h A l 12 (xs.flatMap Rul.enc)) {A' : Option Addr} {c' : Nat} (r' : RSl h A' l 12 (xs.flatMap Rul.enc)) (hl : xs.length = l) (hlen : l ≤ 1000000) {K0 : Bool → Hp → Prop} {K1 : Hp → Prop} (H : K1 h) :
    ∀ (d n k : Nat), n + d = l → d < k → quintetkeep_Same_l1 A l c A' l c' K0 K1 k n h := by
  intro d
  induction d with
  | zero =>
    intro n k hn hk
    obtain ⟨k, rfl⟩ : ∃ m, k = m + 1 := ⟨k - 1, by omega⟩
    unfold quintetkeep_Same_l1
    exact br_f (by simp; omega) H
  | succ d ih =>
    intro n k hn hk
    obtain ⟨k, rfl⟩ : ∃ m, k = m + 1 := ⟨k - 1, by omega⟩
    unfold quintetkeep_Same_l1
    refine br_t (by simp; omega) ?_
    obtain ⟨a, hp, hcl⟩ := rd_elem (c := c) r hl (i := n) (by omega)
    obtain ⟨a', hp', hcl'⟩ := rd_elem (c := c') r' hl (i := n) (by omega)
    refine ⟨_, hp, _, _, _, _, _, _, _, _, _, _, _, _, ldS hcl (by kernel_rfl), ?_⟩
    refine ⟨_, hp', _, _, _, _, _, _, _, _, _, _, _, _, ldS hcl' (by kernel_rfl), ?_⟩
    refine ⟨_, ne55 (xs[n]'(by omega)), br_f rfl ?_⟩
    rw [wrap_in (by omega) (by omega)]
    exact ih (n + 1) k (by omega) (by omega)
theorem same_s {h : Hp} {A : Option Addr} {l c : Nat} {xs : List Rul} (r : RSl h A l 12 (xs.flatMap Rul.enc)) {A' : Option Addr} {c' : Nat} (r' : RSl h A' l 12 (xs.flatMap Rul.enc)) (hl : xs.length = l) (hlen : l ≤ 1000000) {K : Value → Hp → Prop} (H : K (.bool true) h) : CallsH Try.prog 24 #[.slice A l c, .slice A' l c'] h K := by
  refine quintetkeep_Same_ok _ _ _ _ _ _ ?_
  unfold quintetkeep_Same
  exact br_f (by simp) ⟨l + 1, same_l1 r r' hl hlen H l 0 (l + 1) (by omega) (by omega)⟩
/-- What a set that is taken knows of its rules. -/
theorem setI_zero {max : Int} : ∀ (rs seen : List Rul) (i : Nat), setI max seen rs i = 0 → ∀ (p : Nat) (hp : p < rs.length), takesI (seen ++ rs.take p) rs[p] = 0
  | [], _, _, _, p, hp => by simp at hp
  | r :: rs, seen, i, h, p, hp => by
    rw [setI] at h
    split at h
    · rename_i h1; exact absurd h h1
    · rename_i h1
      split at h
      · cases h
      · cases p with
        | zero => simp; simpa using h1
        | succ p =>
          have := setI_zero rs (seen ++ [r]) (i + 1) h p (by simpa using hp)
          simpa using this
theorem takesI_zero {xs : List Rul} {r : Rul} (h : takesI xs r = 0) : r.check.1 = 0 ∧ findI xs r.id < 0 := by
  unfold takesI at h
  split at h
  · rename_i h1; exact absurd h h1
  · rename_i h1
    split at h
    · cases h
    · exact ⟨by simpa using h1, by omega⟩
theorem findI_neg {xs : List Rul} {id : Int} : findI xs id < 0 ↔ ∀ x ∈ xs, x.id ≠ id := by
  constructor
  · intro h x hx e
    unfold findI at h
    cases hf : xs.findIdx? (fun r => r.id == id) with
    | none =>
      rw [List.findIdx?_eq_none_iff] at hf
      have := hf x hx
      simp [e] at this
    | some j => rw [hf] at h; simp at h; omega
  · intro h
    rw [findI_none h]
    omega
theorem back_plain {max : Int} {xs : List Rul} (h : setI max [] xs 0 = 0) {p : Nat} (hp : p < xs.length) :
    findI xs (xs[p]).id = p ∧ findI (xs.take p ++ xs.drop (p + 1)) (xs[p]).id = -1 ∧ takesI (xs.take p ++ xs.drop (p + 1)) xs[p] = 0 := by
  have hz := fun q hq => takesI_zero (by simpa using setI_zero xs [] 0 h q hq)
  have hno : ∀ q (hq : q < xs.length), q ≠ p → (xs[q]).id ≠ (xs[p]).id := by
    intro q hq hne e
    rcases Nat.lt_or_gt_of_ne hne with hlt | hlt
    · exact findI_neg.1 (hz p hp).2 xs[q] (List.mem_take_iff_getElem.2 ⟨q, by omega, rfl⟩) e
    · exact findI_neg.1 (hz q hq).2 xs[p] (List.mem_take_iff_getElem.2 ⟨p, by omega, rfl⟩) e.symm
  have hy : ∀ x ∈ xs.take p ++ xs.drop (p + 1), x.id ≠ (xs[p]).id := by
    intro x hx
    rcases List.mem_append.1 hx with hx | hx
    · obtain ⟨q, hq, rfl⟩ := List.mem_take_iff_getElem.1 hx
      exact hno q (by omega) (by omega)
    · obtain ⟨q, hq, rfl⟩ := List.mem_drop_iff_getElem.1 hx
      exact hno _ (by omega) (by omega)
  refine ⟨findI_at hp (fun x hx => ?_) (fun m hm x hx => ?_), findI_none hy, ?_⟩
  · rw [List.getElem?_eq_getElem hp] at hx; injection hx with hx; rw [hx]
  · rw [List.getElem?_eq_getElem (by omega)] at hx; injection hx with hx; rw [← hx]
    exact hno m (by omega) (by omega)
  · rw [takesI, if_neg (by simpa using (hz p hp).1), if_neg (by have := findI_neg.2 hy; omega)]
theorem put_back {xs : List Rul} {p : Nat} (hp : p < xs.length) : (xs.take p ++ xs.drop (p + 1)).take p ++ xs[p] :: (xs.take p ++ xs.drop (p + 1)).drop p = xs := by
  have h1 : (xs.take p).length = p := by simp; omega
  have h2 : (xs.take p ++ xs.drop (p + 1)).take p = xs.take p := by rw [List.take_append_of_le_length (by omega), List.take_take, Nat.min_self]
  have h3 : (xs.take p ++ xs.drop (p + 1)).drop p = xs.drop (p + 1) := by
    rw [List.drop_append]
    simp [h1, Nat.min_eq_left (Nat.le_of_lt hp)]
  rw [h2, h3, ← List.drop_eq_getElem_cons hp, List.take_append_drop]
theorem TableBack_s (xs : List Rul) (place : Int) (g : Hdr) {h : Hp} {A : Option Addr} {l c : Nat} (hl : xs.length = l) (hc : l ≤ c) (hr : RSl h A l 12 (xs.flatMap Rul.enc)) {K : Value → Hp → Prop} (H : ∀ h', Ext h h' → K (.bool true) h') : CallsH Try.prog 6 #[.slice A l c, .int .i64 place, g.val] h K := by
  refine quintetlaw11_TableBack_ok _ _ _ _ _ _ _ _ _ ?_
  unfold quintetlaw11_TableBack
  refine newC_i fun h1 e1 c1 b1 z1 => ?_
  refine br_i (fun _ => H h1 e1) (fun hlt => ?_)
  have hlt : l ≤ 64 := by simp at hlt; omega
  refine start_s fun h2 a2 e2 c2 => ?_
  refine ⟨_, _, _, _, _, _, _, ldS c2 (by kernel_rfl), ?_⟩
  refine table_New_s (exC 64) (fun hc => absurd exC_ok hc) (fun _ h3 b e3 hb t3 => ?_)
  refine ⟨_, _, rfl, ⟨_, eqNil eq27, br_f rfl ?_⟩⟩
  have e123 := (e1.trans e2).trans e3
  have o3 : Own h1 h3 b _ (exC 64) [] := ⟨t3, fun k hk => by have := e2.size; omega, e2.trans e3⟩
  have hr1 := hr.ext e1
  refine table_Set_s o3.t hl (by omega) hc (hr.ext e123) (fun hz a ha hS => by have := o3.fresh _ hS; have := rsl_block hr1 hz a ha; omega) fun h4 S4 t4 hS4 f4 => ⟨_, rfl, ?_⟩
  have o4 := o3.step t4 hS4 f4
  have hlen4 : (if setI (exC 64).max [] xs 0 = 0 then xs else []).length ≤ 64 := by
    split
    · omega
    · simp
  refine table_At_s o4.t place (by omega) fun h5 e5 => ?_
  refine ⟨_, _, _, _, _, _, _, _, _, _, _, _, _, rfl, ?_⟩
  refine newV (us := (atI (if setI (exC 64).max [] xs 0 = 0 then xs else []) place).1.enc) rfl rfl size55 rfl fun h6 e6 c6 b6 z6 => ?_
  have o6 := (o4.later e5).later e6
  refine br_i (fun hne => ?_) (fun heq => ?_)
  · have hz : setI (exC 64).max [] xs 0 ≠ 0 := by simpa using hne
    rw [if_neg hz] at o6
    unfold quintetlaw11_TableBack_j3
    refine br_t rfl (awake_s fun h7 e7 => ⟨_, rfl, br_t rfl ?_⟩)
    refine table_Rules_s (o6.later e7).t (by simp) fun h8 e8 r8 => ⟨_, _, _, rfl, ?_⟩
    refine br_t ?_ ?_
    · subst hl
      cases xs with
      | nil => exact absurd rfl hz
      | cons x xs => simp; omega
    · rw [show ((setI (exC 64).max [] xs 0 != 0) == true) = true by rw [hne]; rfl]
      exact H h8 (((e1.trans o6.ext).trans e7).trans e8)
  · have hz : setI (exC 64).max [] xs 0 = 0 := by simpa using heq
    rw [if_pos hz] at o6 c6
    simp only [if_pos hz]
    unfold quintetlaw11_TableBack_j3
    refine br_i (fun hf => ?_) (fun hf => ?_)
    · refine awake_s fun h7 e7 => ⟨_, rfl, br_t rfl ?_⟩
      refine table_Rules_s (o6.later e7).t (by omega) fun h8 e8 r8 => ⟨_, _, _, rfl, ?_⟩
      have hK := H h8 (((e1.trans o6.ext).trans e7).trans e8)
      refine br_f (by subst hl; simp) (br_i (fun _ => ?_) (fun _ => ?_))
      · rw [heq]; exact hK
      · rw [heq]; exact hK
    · have hp : 0 ≤ place ∧ place < xs.length := by
        refine Classical.byContradiction fun hc => ?_
        rw [atI, dif_neg hc] at hf
        simp at hf
      obtain ⟨p, rfl⟩ := Int.eq_ofNat_of_zero_le hp.1
      have hpl : p < xs.length := by omega
      have hat : atI xs (p : Int) = (xs[p], 0) := by rw [atI, dif_pos hp]; simp
      rw [hat] at c6
      obtain ⟨q1, q2, q3⟩ := back_plain hz hpl
      unfold quintetlaw11_TableBack_j2
      refine ⟨_, _, _, _, _, ldS (vs := g.enc) (c1.ext o6.ext) (by kernel_rfl), ?_⟩
      refine table_Match_s o6.t g (by omega) fun h7 v i e7 hm => ⟨_, _, _, _, rfl, ?_⟩
      refine newV (us := verd v) rfl rfl size40 rfl fun h8 e8 c8 b8 z8 => ?_
      have o8 := (o6.later e7).later e8
      have d8 := (c6.ext e7).ext e8
      refine ⟨_, ld (d8.at_ 0 _ rfl) (by kernel_rfl), ?_⟩
      have hdel : delI xs (xs[p]).id = (0, xs.take p ++ xs.drop (p + 1)) := by
        rw [delI, q1, if_neg (by omega)]
        simp
      refine table_Delete_s o8.t _ (by omega) fun h9 t9 f9 => ⟨_, rfl, ?_⟩
      rw [hdel] at t9 ⊢
      have o9 := o8.step t9 (fun k hk => .inl hk) f9
      have n6 : ∀ k, h5.size ≤ k → ¬ S4 k := fun k hk hs => by have := o4.t.2.1 _ hs; have := e5.size; omega
      have hs65 := e6.size
      have hs76 := e7.size
      have d9 := f9.cl d8 (n6 _ (Nat.le_refl _))
      have c9 := f9.cl c8 (n6 _ (by show h5.size ≤ h7.size; omega))
      refine ⟨_, ld (d9.at_ 0 _ rfl) (by kernel_rfl), ?_⟩
      refine table_Find_s o9.t _ (by simp; omega) ⟨_, rfl, ?_⟩
      refine ⟨_, _, _, _, _, _, _, _, _, _, _, _, ldS d9 (by kernel_rfl), ?_⟩
      have hyl : (xs.take p ++ xs.drop (p + 1)).length = xs.length - 1 := by simp; omega
      have hz2 : ¬¬ (0 ≤ (p : Int) ∧ (p : Int) ≤ (xs.take p ++ xs.drop (p + 1)).length) := by rw [hyl]; omega
      have hz3 : ¬ (((xs.take p ++ xs.drop (p + 1)).length : Int) ≥ (exC 64).max) := by rw [hyl]; show ¬ (_ ≥ (64 : Int)); omega
      have hins : insI (exC 64) (xs.take p ++ xs.drop (p + 1)) p xs[p] = (0, xs) := by
        rw [insI, if_neg (by rw [q3]; simp), if_neg hz2, if_neg hz3, Int.toNat_natCast, put_back hpl]
      refine table_Insert_s o9.t p (by rw [hyl]; omega) xs[p] fun h10 S10 t10 hS10 f10 => ⟨_, rfl, ?_⟩
      rw [hins] at t10 ⊢
      have o10 := o9.step t10 hS10 f10
      have c10 := f10.cl c9 (n6 _ (by show h5.size ≤ h7.size; omega))
      refine ⟨_, _, _, _, _, ldS (vs := g.enc) (c1.ext o10.ext) (by kernel_rfl), ?_⟩
      refine table_Match_s o10.t g (by show xs.length ≤ _; omega) fun h11 w j e11 hm11 => ⟨_, _, _, _, rfl, ?_⟩
      have hm' := hm.symm.trans hm11
      injection hm' with hv hi
      subst hv hi
      refine newV (us := verd v) rfl rfl size40 rfl fun h12 e12 c12 b12 z12 => ?_
      have o12 := (o10.later e11).later e12
      refine awake_s fun h13 e13 => ⟨_, rfl, br_t rfl (br_t rfl (br_t rfl (br_t (by rw [q2]; rfl) ?_)))⟩
      have o13 := o12.later e13
      refine ⟨_, _, _, ldS (vs := verd v) (((c10.ext e11).ext e12).ext e13) (by kernel_rfl), _, _, _, ldS (c12.ext e13) (by kernel_rfl), _, eq40 _ _ _ _ _ _, br_t (by simp) (br_t (by simp) ?_)⟩
      refine table_Rules_s o13.t (by show xs.length ≤ _; omega) fun h14 e14 r14 => ⟨_, _, _, rfl, ?_⟩
      subst hl
      refine same_s r14.read (hr.ext ((e1.trans o13.ext).trans e14)) rfl (by show xs.length ≤ _; omega) ⟨_, rfl, ?_⟩
      exact H h14 ((e1.trans o13.ext).trans e14)
end Go.Proofs.Ytgecabgcjfpenaa.Fs
