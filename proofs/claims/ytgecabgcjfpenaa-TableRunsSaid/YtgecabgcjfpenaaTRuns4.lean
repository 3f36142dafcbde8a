/- The document's list of rules: Copy, Delete, Insert, Move; lists lent and looked at. -/
import Derived.Test.YtgecabgcjfpenaaTRuns3
namespace Go.Proofs.Ytgecabgcjfpenaa.Fs
open Go Go.RowKit Go.Proofs.Ytgecabgcjfpenaa.Sx
set_option linter.unusedVariables false
set_option linter.unusedSimpArgs false
set_option maxRecDepth 10000
attribute [local irreducible] takesI findI insI delI movI Rul.check IntKind.wrap
theorem lo55 {A : Option Addr} {l c n : Nat} (hn : n ≤ l) : PV Try.prog (Instr.sliceAt 32 (.slice A l c) (some (.int .i64 (n : Int))) none none) (.slice (if c = n then A else A.map (·.add (n * 12))) (l - n) (c - n)) := by
  obtain ⟨i, z, hi, hisz, hiby, hiz, hzc⟩ := info55
  have := slLo (P := Try.prog) (A := A) (l := l) (c := c) (x := (n : Int)) und32 hi (by omega) (by omega)
  rw [Int.toNat_natCast, hisz] at this
  exact this
theorem hi55 {A : Option Addr} {l c n : Nat} (hn : n ≤ c) : PV Try.prog (Instr.sliceAt 32 (.slice A l c) none (some (.int .i64 (n : Int))) none) (.slice A n c) := by
  obtain ⟨i, z, hi, hisz, hiby, hiz, hzc⟩ := info55
  have := slHi (P := Try.prog) (A := A) (l := l) (c := c) (x := (n : Int)) und32 hi (by omega) (by omega)
  rw [Int.toNat_natCast] at this
  exact this
theorem rsl_lo {h : Hp} {A : Option Addr} {l c : Nat} {xs : List Rul} (hr : RSl h A l 12 (xs.flatMap Rul.enc)) (hl : xs.length = l) (hc : l ≤ c) {n : Nat} (hn : n ≤ l) : RSl h (if c = n then A else A.map (·.add (n * 12))) (l - n) 12 ((xs.drop n).flatMap Rul.enc) := by
  split
  · rename_i e
    have : l - n = 0 := by omega
    rw [List.drop_of_length_le (by omega), this]
    exact ⟨by simp, .inl rfl⟩
  · exact rsl_drop hr hl hn
theorem app2 {h g : Hp} {A sA : Option Addr} {c m cx : Nat} {zs ns : List Rul} {K : Value → Hp → Prop} (e : Ext h g) (r : RowR g A c zs) (hf : ∀ k, blk A k → h.size ≤ k) (hm : ns.length = m) (rs : RSl g sA m 12 (ns.flatMap Rul.enc)) (hb : zs.length + m ≤ 1000000)
    (H : ∀ g' A' c', RowR g' A' c' (zs ++ ns) → (∀ k, blk A' k → h.size ≤ k) → Ext h g' → K (.slice A' (zs.length + m) c') g') :
    HW Try.prog (Builtin.append_ #[32, 32] 32 #[.slice A zs.length c, .slice sA m cx]) g K := by
  refine app_s r hm rs hb fun g' A' c' r' hA' f' => H g' A' c' r' (fun k hk => ?_) ⟨Nat.le_trans e.size f'.size, fun q hq => ?_⟩
  · rcases hA' with rfl | hA'
    · exact hf k hk
    · exact Nat.le_trans e.size (hA' k hk)
  · rw [f'.keep q (Nat.lt_of_lt_of_le hq e.size) (fun hk => by have := hf q hk; omega), e.old q hq]
theorem row_nil (h : Hp) : RowR h none 0 [] := .inl ⟨rfl, rfl, rfl, rfl⟩
theorem no_blk (h : Hp) : ∀ k, blk none k → h.size ≤ k := fun k hk => by obtain ⟨a, ha, _⟩ := hk; cases ha
theorem row_cap {h : Hp} {A : Option Addr} {c : Nat} {zs : List Rul} (r : RowR h A c zs) : zs.length ≤ c := by
  rcases r with ⟨_, h1, h2, _⟩ | ⟨_, _, _, _, _, _, h3⟩ <;> omega
theorem rdel_s {h : Hp} {A : Option Addr} {l c : Nat} {xs : List Rul} (hr : RSl h A l 12 (xs.flatMap Rul.enc)) (hl : xs.length = l) (hc : l ≤ c) (hlen : l ≤ 100000) (id : Int) {K : Value → Hp → Prop}
    (H0 : findI xs id < 0 → K (.tuple #[.slice A l c, .int .i64 114]) h)
    (H1 : ¬ findI xs id < 0 → ∀ h' A' c', RowR h' A' c' (delI xs id).2 → (∀ k, blk A' k → h.size ≤ k) → Ext h h' → K (.tuple #[.slice A' (delI xs id).2.length c', .int .i64 0]) h') : CallsH Try.prog 40 #[.slice A l c, .int .i64 id] h K := by
  refine quintetref11_Delete_ok _ _ _ _ ?_
  unfold quintetref11_Delete
  refine rfind_s hr hl id (by omega) ⟨_, rfl, br_i (fun hf => H0 (by simpa using hf)) (fun hf => ?_)⟩
  have hf : ¬ findI xs id < 0 := by simpa using hf
  have H1 := H1 hf
  obtain ⟨j, hj, hjl, _⟩ := findI_lt xs id (by omega)
  have hd : delI xs id = (0, xs.take j ++ xs.drop (j + 1)) := by rw [delI, if_neg hf, hj]; simp
  rw [hd] at H1
  rw [hj]
  refine ⟨_, _, _, hi55 (by omega), ?_⟩
  refine app2 (A := none) (c := 0) (zs := []) (m := j) (ns := xs.take j) (Ext.refl h) (row_nil h) (no_blk h) (by simp; omega) (rsl_take hr hl (n := j) (by omega)) (by simp; omega) ?_
  intro g1 A1 c1 r1 b1 e1
  refine ⟨_, _, _, rfl, ?_⟩
  have w : IntKind.i64.wrap ((j : Int) + 1) = ((j + 1 : Nat) : Int) := by rw [wrap_in (by omega) (by omega)]; omega
  rw [w]
  clear w
  refine ⟨_, _, _, lo55 (by omega), ?_⟩
  simp only [List.nil_append] at r1
  have hl1 : ([] : List Rul).length + j = (xs.take j).length := by simp; omega
  rw [hl1]
  refine app2 (zs := xs.take j) (m := l - (j + 1)) (ns := xs.drop (j + 1)) e1 r1 b1 (by simp; omega) (rsl_lo (hr.ext e1) hl hc (n := j + 1) (by omega)) (by simp; omega) ?_
  intro g2 A2 c2 r2 b2 e2
  refine ⟨_, _, _, rfl, ?_⟩
  have := H1 g2 A2 c2 r2 b2 e2
  rw [List.length_append, List.length_drop, hl] at this
  exact this
theorem rinsert_s {h : Hp} {A : Option Addr} {l c : Nat} {xs : List Rul} (hr : RSl h A l 12 (xs.flatMap Rul.enc)) (hl : xs.length = l) (hc : l ≤ c) (hlen : l ≤ 100000) (cf : Cfg) (p : Int) (r : Rul) (hw : r.wf) {K : Value → Hp → Prop}
    (H0 : (insI cf xs p r).1 ≠ 0 → ∀ h', Ext h h' → K (.tuple #[.slice A l c, .int .i64 (insI cf xs p r).1]) h')
    (H1 : (insI cf xs p r).1 = 0 → ∀ h' A' c', RowR h' A' c' (insI cf xs p r).2 → (∀ k, blk A' k → h.size ≤ k) → Ext h h' → K (.tuple #[.slice A' (insI cf xs p r).2.length c', .int .i64 0]) h') : CallsH Try.prog 39 #[.slice A l c, .int .i64 cf.max, .int .i64 p, r.val] h K := by
  refine quintetref11_Insert_ok _ _ _ _ _ _ _ _ _ _ _ _ _ _ _ _ _ ?_
  unfold quintetref11_Insert
  refine newC_i fun h1 e1 c1 b1 z1 => ⟨_, _, _, _, _, _, _, _, _, _, _, _, ldS (vs := r.enc) c1 (by kernel_rfl), ?_⟩
  refine ref08_Check_s r hw fun h2 e2 => ⟨_, _, rfl, ?_⟩
  have e12 := e1.trans e2
  refine br_i (fun hck => ?_) (fun hck => ?_)
  · have hk0 : r.check.1 ≠ 0 := by simpa using hck
    have ht : takesI xs r = r.check.1 := by rw [takesI, if_pos hk0]
    have hi : insI cf xs p r = (r.check.1, xs) := by rw [insI, if_pos (by rw [ht]; exact hk0), ht]
    rw [hi] at H0
    exact H0 hk0 h2 e12
  have hk0 : r.check.1 = 0 := by simpa using hck
  refine ⟨_, ld (c1.ext e2).head (by kernel_rfl), ?_⟩
  refine rfind_s (hr.ext e12) hl r.id (by omega) ⟨_, rfl, br_i (fun hf => ?_) (fun hf => ?_)⟩
  · have ht : takesI xs r = 111 := by rw [takesI, if_neg (by simp [hk0]), if_pos (by simpa using hf)]
    have hi : insI cf xs p r = (111, xs) := by rw [insI, if_pos (by rw [ht]; simp), ht]
    rw [hi] at H0
    exact H0 (by simp) h2 e12
  have ht : takesI xs r = 0 := by rw [takesI, if_neg (by simp [hk0]), if_neg (by simpa using hf)]
  have bad : ¬ (0 ≤ p ∧ p ≤ xs.length) → K (.tuple #[.slice A l c, .int .i64 112]) h2 := fun hp => by
    have hi : insI cf xs p r = (112, xs) := by rw [insI, if_neg (by simp [ht]), if_pos hp]
    rw [hi] at H0
    exact H0 (by simp) h2 e12
  refine br_i (fun h => bad (by simp at h; omega)) (fun hp0 => br_i (fun h => bad (by simp at h; omega)) (fun hp1 => ?_))
  have hp : 0 ≤ p ∧ p ≤ xs.length := by simp at hp0 hp1; omega
  refine br_i (fun hmx => ?_) (fun hmx => ?_)
  · have hi : insI cf xs p r = (113, xs) := by rw [insI, if_neg (by simp [ht]), if_neg (by omega), if_pos (by subst hl; simpa using hmx)]
    rw [hi] at H0
    exact H0 (by simp) h2 e12
  have hi : insI cf xs p r = (0, xs.take p.toNat ++ r :: xs.drop p.toNat) := by rw [insI, if_neg (by simp [ht]), if_neg (by omega), if_neg (by subst hl; simpa using hmx)]
  rw [hi] at H1
  have H1 := H1 rfl
  obtain ⟨q, rfl⟩ := Int.eq_ofNat_of_zero_le hp.1
  simp only [Int.toNat_natCast] at H1
  have hq : q ≤ l := by omega
  unfold quintetref11_Insert_j1
  refine ⟨_, _, _, hi55 (by omega), ?_⟩
  refine app2 (A := none) (c := 0) (zs := []) (m := q) (ns := xs.take q) (Ext.refl h2) (row_nil h2) (no_blk h2) (by simp; omega) (rsl_take (hr.ext e12) hl hq) (by simp; omega) ?_
  intro g1 A1 c1' r1 b1' e1'
  refine ⟨_, _, _, rfl, ?_⟩
  simp only [List.nil_append] at r1
  have hl1 : ([] : List Rul).length + q = (xs.take q).length := by simp; omega
  rw [hl1]
  have cr : Cl g1 ⟨h.size, 0, none⟩ r.enc := (c1.ext e2).ext e1'
  refine ⟨_, _, _, _, _, _, _, _, _, _, _, _, ldS cr (by kernel_rfl), ?_⟩
  refine newC_i fun g2 f2 k2 o2 y2 => ?_
  have r2 := r1.keep (f2.fr (fun _ => False)) (fun _ _ h => h)
  refine app2 (zs := xs.take q) (m := 1) (ns := [r]) (e1'.trans f2) r2 b1' rfl ⟨rfl, .inr ⟨_, rfl, k2⟩⟩ (by simp; omega) ?_
  intro g3 A3 c3 r3 b3 e3
  refine ⟨_, _, _, rfl, ?_⟩
  refine ⟨_, _, _, lo55 hq, ?_⟩
  have hl2 : (xs.take q).length + 1 = (xs.take q ++ [r]).length := by simp
  rw [hl2]
  refine app2 (zs := xs.take q ++ [r]) (m := l - q) (ns := xs.drop q) e3 r3 b3 (by simp; omega) (rsl_lo ((hr.ext e12).ext e3) hl hc hq) (by simp; omega) ?_
  intro g4 A4 c4 r4 b4 e4
  refine ⟨_, _, _, rfl, ?_⟩
  have e : xs.take q ++ [r] ++ xs.drop q = xs.take q ++ r :: xs.drop q := by simp
  rw [e] at r4
  have := H1 g4 A4 c4 r4 (fun k hk => Nat.le_trans e12.size (b4 k hk)) (e12.trans e4)
  have hlen4 : (xs.take q ++ [r]).length + (l - q) = (xs.take q ++ r :: xs.drop q).length := by simp; omega
  rw [hlen4]
  exact this
/-- Move's list: what movI says. -/
theorem rmove_s {h : Hp} {A : Option Addr} {l c : Nat} {xs : List Rul} (hr : RSl h A l 12 (xs.flatMap Rul.enc)) (hl : xs.length = l) (hc : l ≤ c) (hlen : l ≤ 100000) (id p : Int) {K : Value → Hp → Prop}
    (H0 : (movI xs id p).1 ≠ 0 → K (.tuple #[.slice A l c, .int .i64 (movI xs id p).1]) h)
    (H1 : (movI xs id p).1 = 0 → ∀ h' A' c', RowR h' A' c' (movI xs id p).2 → (∀ k, blk A' k → h.size ≤ k) → Ext h h' → K (.tuple #[.slice A' (movI xs id p).2.length c', .int .i64 0]) h') : CallsH Try.prog 41 #[.slice A l c, .int .i64 id, .int .i64 p] h K := by
  refine quintetref11_Move_ok _ _ _ _ _ ?_
  unfold quintetref11_Move
  refine rfind_s hr hl id (by omega) ⟨_, rfl, br_i (fun hf => ?_) (fun hf => ?_)⟩
  · have hi : movI xs id p = (114, xs) := by rw [movI, dif_pos (by simpa using hf)]
    rw [hi] at H0
    exact H0 (by simp)
  have hf : ¬ findI xs id < 0 := by simpa using hf
  have bad : ¬ (0 ≤ p ∧ p ≤ xs.length - 1) → K (.tuple #[.slice A l c, .int .i64 112]) h := fun hp => by
    have hi : movI xs id p = (112, xs) := by rw [movI, dif_neg hf, if_pos hp]
    rw [hi] at H0
    exact H0 (by simp)
  refine br_i (fun h => bad (by simp at h; omega)) (fun hp0 => br_i (fun h => bad (by simp at h; omega)) (fun hp1 => ?_))
  have hp : 0 ≤ p ∧ p ≤ xs.length - 1 := by simp at hp0 hp1; omega
  obtain ⟨j, hj, hjl, _⟩ := findI_lt xs id (by omega)
  have hgd : xs.getD j zRul = xs[j] := by simp [List.getD, hjl]
  obtain ⟨q, rfl⟩ := Int.eq_ofNat_of_zero_le hp.1
  have hi : movI xs id q = (0, (xs.take j ++ xs.drop (j + 1)).take q ++ xs[j] :: (xs.take j ++ xs.drop (j + 1)).drop q) := by
    rw [movI, dif_neg hf, if_neg (by omega)]
    simp only [hj, Int.toNat_natCast, hgd]
  have hdel : delI xs id = (0, xs.take j ++ xs.drop (j + 1)) := by rw [delI, if_neg hf, hj]; simp
  have hyl : (xs.take j ++ xs.drop (j + 1)).length = l - 1 := by simp; omega
  rw [hi] at H1
  have H1 := H1 rfl
  revert hdel H1 hyl
  generalize xs.take j ++ xs.drop (j + 1) = ys
  intro hdel hyl H1
  have hq : q ≤ l - 1 := by omega
  rw [hj]
  unfold quintetref11_Move_j1
  obtain ⟨a, hpv, hcl⟩ := rd_elem (c := c) hr hl (i := j) (by omega)
  refine ⟨_, hpv, _, _, _, _, _, _, _, _, _, _, _, _, ldS hcl (by kernel_rfl), ?_⟩
  refine newV (us := (xs[j]).enc) rfl rfl size55 rfl fun h1 e1 c1 b1 z1 => ?_
  refine rdel_s (hr.ext e1) hl hc hlen id (fun hneg => absurd hneg hf) (fun _ h2 A2 c2 r2 b2 e2 => ?_)
  rw [hdel] at r2 ⊢
  dsimp only at r2 ⊢
  have hcap := row_cap r2
  refine ⟨_, _, _, _, rfl, ?_⟩
  refine ⟨_, _, _, hi55 (n := q) (by omega), ?_⟩
  refine app2 (A := none) (c := 0) (zs := []) (m := q) (ns := ys.take q) (Ext.refl h2) (row_nil h2) (no_blk h2) (by simp; omega) (rsl_take r2.read rfl (by omega)) (by simp; omega) ?_
  intro g1 A1 c1' r1 b1' e1'
  refine ⟨_, _, _, rfl, ?_⟩
  simp only [List.nil_append] at r1
  have hl1 : ([] : List Rul).length + q = (ys.take q).length := by simp; omega
  rw [hl1]
  have cr : Cl g1 ⟨h.size, 0, none⟩ (xs[j]).enc := (c1.ext e2).ext e1'
  refine ⟨_, _, _, _, _, _, _, _, _, _, _, _, ldS cr (by kernel_rfl), ?_⟩
  refine newC_i fun g2 f2 k2 o2 y2 => ?_
  have r2' := r1.keep (f2.fr (fun _ => False)) (fun _ _ h => h)
  refine app2 (zs := ys.take q) (m := 1) (ns := [xs[j]]) (e1'.trans f2) r2' b1' rfl ⟨rfl, .inr ⟨_, rfl, k2⟩⟩ (by simp; omega) ?_
  intro g3 A3 c3 r3 b3 e3
  refine ⟨_, _, _, rfl, ?_⟩
  refine ⟨_, _, _, lo55 (n := q) (by omega), ?_⟩
  have hl2 : (ys.take q).length + 1 = (ys.take q ++ [xs[j]]).length := by simp
  rw [hl2]
  refine app2 (zs := ys.take q ++ [xs[j]]) (m := ys.length - q) (ns := ys.drop q) e3 r3 b3 (by simp) (rsl_lo (r2.read.ext e3) rfl hcap (by omega)) (by simp; omega) ?_
  intro g4 A4 c4 r4 b4 e4
  refine ⟨_, _, _, rfl, ?_⟩
  have e : ys.take q ++ [xs[j]] ++ ys.drop q = ys.take q ++ xs[j] :: ys.drop q := by simp
  rw [e] at r4
  have e12 := e1.trans e2
  have := H1 g4 A4 c4 r4 (fun k hk => Nat.le_trans e12.size (b4 k hk)) (e12.trans e4)
  have hlen4 : (ys.take q ++ [xs[j]]).length + (ys.length - q) = (ys.take q ++ xs[j] :: ys.drop q).length := by simp; omega
  rw [hlen4]
  exact this
theorem rcopy_s {h : Hp} {A : Option Addr} {l c : Nat} {xs : List Rul} (hr : RSl h A l 12 (xs.flatMap Rul.enc)) (hl : xs.length = l) (hlen : l ≤ 100000) {K : Value → Hp → Prop}
    (H : ∀ h', Ext h h' → RowR h' (some ⟨h.size, 0, none⟩) l xs → K (.slice (some ⟨h.size, 0, none⟩) l l) h') : CallsH Try.prog 44 #[.slice A l c] h K := by
  obtain ⟨i, z, hi, hisz, hiby, hiz, hzc⟩ := info55
  refine quintetref11_Copy_ok _ _ _ ?_
  unfold quintetref11_Copy
  subst hl
  refine HW_makeRow (enc := Rul.enc) (zr := zRul) und32 hi hiz hisz (by omega) (by rw [hzc]; rfl) Rul.enc_len (by rw [hiby]; omega) (by omega) ?_
  intro h1 e1 r1
  refine ⟨_, _, _, rfl, ?_⟩
  have hl : (List.replicate xs.length zRul).length = xs.length := by simp
  rw [show HW Try.prog (Builtin.copy_ #[32, 32] 3 #[.slice (some ⟨h.size, 0, none⟩) xs.length xs.length, .slice A xs.length c]) h1 = HW Try.prog (Builtin.copy_ #[32, 32] 3 #[.slice (some ⟨h.size, 0, none⟩) (List.replicate xs.length zRul).length xs.length, .slice A xs.length c]) h1 by rw [hl]]
  refine HW_copyFrom (enc := Rul.enc) Rul.enc_len Rul.flat und32 hi hisz r1 hl (hr.ext e1) ?_
  intro h2 r2 f2 z2
  refine ⟨_, rfl, ?_⟩
  refine H h2 ⟨?_, fun k hk => ?_⟩ r2
  · have := e1.size; omega
  · rw [f2.keep k (by have := e1.size; omega) (by rintro ⟨a, ha, hk'⟩; injection ha with ha; subst ha; simp at hk'; omega), e1.old k hk]
theorem clone_s {h : Hp} {b : Nat} {S : Nat → Prop} {cf : Cfg} {xs : List Rul} (t : TabAt h b S cf xs) (hlen : xs.length ≤ 100000) {K : Value → Hp → Prop}
    (H : ∀ h' b' S', TabAt h' b' S' cf xs → (∀ k, S' k → h.size ≤ k) → Ext h h' → K (.pointer (some ⟨b', 0, none⟩)) h') : CallsH Try.prog 25 #[.pointer (some ⟨b, 0, none⟩)] h K := by
  refine table_Table_Clone_ok _ ?_
  unfold table_Table_Clone
  obtain ⟨A, c, hb, _⟩ := t.rules
  have cc : Cl h ⟨b, 0, none⟩ (cf.enc ++ [Value.slice A xs.length c]) := Cl.of_block hb fun j v hj => by rw [Nat.zero_add]; exact hj
  have cf0 : Cl h ⟨b, 0, none⟩ cf.enc := Cl.of_block hb fun j v hj => by
    rw [Nat.zero_add, List.getElem?_append_left (List.getElem?_eq_some_iff.1 hj).1]; exact hj
  refine ⟨_, eqNil eq27, br_f rfl ⟨_, _, _, _, _, _, _, ldS cf0 (by kernel_rfl), ?_⟩⟩
  refine table_Rules_s t (by omega) fun h1 e1 r1 => ⟨_, _, _, rfl, ldS (cf0.ext e1) (by kernel_rfl), ?_⟩
  refine newC_i fun h2 e2 c2 b2 z2 => ?_
  have hl1 : h.size < h1.size := by
    rcases r1 with ⟨h, _⟩ | ⟨g, rest, hA, hg, _⟩
    · cases h
    · injection hA with hA; injection hA with hA; rw [hA]; exact lt_of_get hg
  refine H h2 h1.size (fun k => k = h1.size ∨ k = h.size) ⟨.inl rfl, fun k hk => by rcases hk with rfl | rfl <;> omega, some ⟨h.size, 0, none⟩, xs.length, b2, r1.keep (e2.fr (fun _ => False)) (fun _ _ h => h), ?_, ?_⟩ (fun k hk => by rcases hk with rfl | rfl <;> omega) (e1.trans e2)
  · rintro k ⟨a, ha, rfl⟩; injection ha with ha; subst ha; exact .inr rfl
  · rintro ⟨a, ha, hk⟩; injection ha with ha; subst ha; simp at hk; omega
theorem HW_copyHead {h : Hp} {g c sc : Nat} {sA : Option Addr} {zs xs : List Rul} {K : Value → Hp → Prop} (r : RowR h (some ⟨g, 0, none⟩) c zs) (hl : xs.length ≤ zs.length) (rs : RSl h sA xs.length 12 (xs.flatMap Rul.enc))
    (H : ∀ h', RowR h' (some ⟨g, 0, none⟩) c (xs ++ zs.drop xs.length) → Fr (fun k => k = g) h h' → h'.size = h.size → K (.int .i64 (xs.length : Int)) h') :
    HW Try.prog (Builtin.copy_ #[32, 32] 3 #[.slice (some ⟨g, 0, none⟩) zs.length c, .slice sA xs.length sc]) h K := by
  obtain ⟨i, z, hi, hisz, hiby, hiz, hzc⟩ := info55
  rcases Nat.eq_zero_or_pos xs.length with h0 | h0
  · refine HW_copy0 und32 hi (by rw [h0]; simp) ?_
    have hx : xs = [] := List.eq_nil_of_length_eq_zero h0
    subst hx
    exact H h (by simpa using r) (Fr.refl _ _) rfl
  · obtain ⟨g', rest, hA, hb, hlen, hc⟩ := r.open Rul.enc_len (by omega)
    injection hA with hA
    injection hA with hA _ _
    subst hA
    obtain ⟨sa, rfl, hcl⟩ := rs.some h0
    have hus := flat_len Rul.enc_len xs
    have huz := flat_len Rul.enc_len zs
    have hmin : Nat.min xs.length zs.length = xs.length := Nat.min_eq_left hl
    have hmul := Nat.mul_le_mul_right 12 hl
    refine HW_copy und32 hi hb hcl (by rw [hus, hmin, hisz]) (by rw [hus, List.length_append, huz]; omega) ?_ ?_
    · rw [List.all_eq_true]
      intro u hu
      obtain ⟨y, _, hy⟩ := List.mem_flatMap.1 hu
      exact List.all_eq_true.1 (Rul.flat y) u hy
    · rw [hmin, hus]
      have e : (zs.flatMap Rul.enc ++ rest).take 0 ++ xs.flatMap Rul.enc ++ (zs.flatMap Rul.enc ++ rest).drop (0 + xs.length * 12) = (xs ++ zs.drop xs.length).flatMap Rul.enc ++ rest := by
        rw [Nat.zero_add, List.drop_append_of_le_length (by rw [huz]; omega), flat_drop Rul.enc_len]
        simp
      rw [e]
      refine H _ (Row.shut Rul.enc_len (setB_get (lt_of_get hb)) ?_ (by simp; omega)) (setB_fr rfl) setB_size
      rw [← hlen, List.length_append, List.length_append, flat_len Rul.enc_len, huz]
      simp
      omega
theorem lend_s {h : Hp} {A : Option Addr} {l c : Nat} {xs : List Rul} (hr : RSl h A l 12 (xs.flatMap Rul.enc)) (hl : xs.length = l) (hlen : l ≤ 100000) {K : Value → Hp → Prop}
    (H : ∀ h', Ext h h' → h.size < h'.size → RowR h' (some ⟨h.size, 0, none⟩) (l + 2) (xs ++ [mk 0, mk 1]) → K (.slice (some ⟨h.size, 0, none⟩) l (l + 2)) h') : CallsH Try.prog 42 #[.slice A l c] h K := by
  obtain ⟨i, z, hi, hisz, hiby, hiz, hzc⟩ := info55
  refine quintetkeep_Lend_ok _ _ _ ?_
  unfold quintetkeep_Lend
  have w : IntKind.i64.wrap ((l : Int) + 2) = ((l + 2 : Nat) : Int) := by rw [wrap_in (by omega) (by omega)]; omega
  rw [w]
  clear w
  have w : IntKind.i64.wrap ((l : Int) + 1) = ((l + 1 : Nat) : Int) := by rw [wrap_in (by omega) (by omega)]; omega
  rw [w]
  clear w
  refine HW_makeRow (enc := Rul.enc) (zr := zRul) und32 hi hiz hisz (by omega) (by rw [hzc]; rfl) Rul.enc_len (by rw [hiby]; omega) (by omega) ?_
  intro h1 e1 r1
  refine ⟨_, _, _, rfl, ?_⟩
  have hg1 : h.size < h1.size := by
    rcases r1 with ⟨h, _⟩ | ⟨g, rest, hA, hg, _⟩
    · cases h
    · injection hA with hA; injection hA with hA; rw [hA]; exact lt_of_get hg
  subst hl
  have hlr : (List.replicate (xs.length + 2) zRul).length = xs.length + 2 := by simp
  have r1' := r1
  revert r1'
  rw [show HW Try.prog (Builtin.copy_ #[32, 32] 3 #[.slice (some ⟨h.size, 0, none⟩) (xs.length + 2) (xs.length + 2), .slice A xs.length c]) h1 = HW Try.prog (Builtin.copy_ #[32, 32] 3 #[.slice (some ⟨h.size, 0, none⟩) (List.replicate (xs.length + 2) zRul).length (xs.length + 2), .slice A xs.length c]) h1 by rw [hlr]]
  intro r1'
  refine HW_copyHead r1' (by rw [hlr]; omega) (hr.ext e1) ?_
  intro h2 r2 f2 z2
  refine ⟨_, rfl, ?_⟩
  have hdr : (List.replicate (xs.length + 2) zRul).drop xs.length = [zRul, zRul] := by rw [List.drop_replicate, show xs.length + 2 - xs.length = 2 by omega]; rfl
  rw [hdr] at r2
  refine mark_s 0 (by omega) (by omega) fun h3 e3 => ⟨_, _, _, _, _, _, _, _, _, _, _, _, rfl, ?_⟩
  refine ⟨_, rowR_ix (by omega), ?_⟩
  have r3 := r2.keep (e3.fr (fun _ => False)) (fun _ _ h => h)
  refine HU_elem (enc := Rul.enc) Rul.enc_len Rul.flat r3 (j := xs.length) (by simp) (x := mk 0) rfl size55 fun h4 r4 f4 z4 => ?_
  refine mark_s 1 (by omega) (by omega) fun h5 e5 => ⟨_, _, _, _, _, _, _, _, _, _, _, _, rfl, ?_⟩
  refine ⟨_, rowR_ix (by omega), ?_⟩
  have r5 := r4.keep (e5.fr (fun _ => False)) (fun _ _ h => h)
  refine HU_elem (enc := Rul.enc) Rul.enc_len Rul.flat r5 (j := xs.length + 1) (by simp) (x := mk 1) rfl size55 fun h6 r6 f6 z6 => ?_
  refine ⟨_, _, _, hi55 (by omega), ?_⟩
  have er : ((xs ++ [zRul, zRul]).set xs.length (mk 0)).set (xs.length + 1) (mk 1) = xs ++ [mk 0, mk 1] := by
    rw [List.set_append_right _ _ (Nat.le_refl _), List.set_append_right _ _ (by omega)]
    simp
  rw [er] at r6
  have F : Fr (fun k => k = h.size) h1 h6 := ((((f2).trans (e3.fr _)).trans f4).trans (e5.fr _)).trans f6
  refine H h6 ⟨by have := F.size; have := e1.size; omega, fun q hq => by rw [F.keep q (by have := e1.size; omega) (by omega), e1.old q hq]⟩ (by have := F.size; omega) r6
theorem back_l3 {g c : Nat} {h0 : Hp} {b : Bool} {K0 : Bool → Hp → Prop} (H : ∀ h', Fr (fun k => k = g) h0 h' → K0 b h') :
    ∀ (d n k : Nat) (h : Hp) (ys : List Rul), n + d = ys.length → d < k → ys.length ≤ 1000000 → RowR h (some ⟨g, 0, none⟩) c ys → Fr (fun k => k = g) h0 h → quintetkeep_Back_l3 (some ⟨g, 0, none⟩) ys.length c b K0 k n h := by
  intro d
  induction d with
  | zero =>
    intro n k h ys hn hk hl r f
    obtain ⟨k, rfl⟩ : ∃ m, k = m + 1 := ⟨k - 1, by omega⟩
    unfold quintetkeep_Back_l3
    exact br_f (by simp; omega) (H h f)
  | succ d ih =>
    intro n k h ys hn hk hl r f
    obtain ⟨k, rfl⟩ : ∃ m, k = m + 1 := ⟨k - 1, by omega⟩
    unfold quintetkeep_Back_l3
    refine br_t (by simp; omega) ?_
    refine mark_s 5 (by omega) (by omega) fun h1 e1 => ⟨_, _, _, _, _, _, _, _, _, _, _, _, rfl, ?_⟩
    refine ⟨_, rowR_ix (by omega), ?_⟩
    have r1 := r.keep (e1.fr (fun _ => False)) (fun _ _ h => h)
    refine HU_elem (enc := Rul.enc) Rul.enc_len Rul.flat r1 (j := n) (by omega) (x := mk 5) rfl size55 fun h2 r2 f2 z2 => ?_
    rw [wrap_in (by omega) (by omega)]
    have := ih (n + 1) k h2 (ys.set n (mk 5)) (by simp; omega) (by omega) (by simpa using hl) r2 ((f.trans (e1.fr _)).trans f2)
    simpa using this
theorem back_s {h : Hp} {g : Nat} {A : Option Addr} {l c : Nat} {xs : List Rul} (r : RowR h (some ⟨g, 0, none⟩) (l + 2) (xs ++ [mk 0, mk 1])) (hr : RSl h A l 12 (xs.flatMap Rul.enc)) (hl : xs.length = l) (hlen : l ≤ 100000) (hg : g < h.size) {K : Value → Hp → Prop}
    (H : ∀ h', Fr (fun k => k = g) h h' → K (.bool true) h') : CallsH Try.prog 43 #[.slice (some ⟨g, 0, none⟩) l (l + 2), .slice A l c] h K := by
  refine quintetkeep_Back_ok _ _ _ _ _ _ ?_
  unfold quintetkeep_Back
  have w : IntKind.i64.wrap ((l : Int) + 2) = ((l + 2 : Nat) : Int) := by rw [wrap_in (by omega) (by omega)]; omega
  rw [w]
  clear w
  have w : IntKind.i64.wrap ((l : Int) + 1) = ((l + 1 : Nat) : Int) := by rw [wrap_in (by omega) (by omega)]; omega
  rw [w]
  clear w
  subst hl
  have hll : (xs ++ [mk 0, mk 1]).length = xs.length + 2 := by simp
  have rr := r.read
  rw [hll] at rr
  refine ⟨_, _, _, hi55 (by omega), ?_⟩
  obtain ⟨a0, p0, k0⟩ := rd_elem (c := xs.length + 2) rr hll (i := xs.length) (by omega)
  refine ⟨_, p0, _, _, _, _, _, _, _, _, _, _, _, _, ldS k0 (by kernel_rfl), ?_⟩
  refine mark_s 0 (by omega) (by omega) fun h1 e1 => ⟨_, _, _, _, _, _, _, _, _, _, _, _, rfl, ?_⟩
  have g0 : (xs ++ [mk 0, mk 1])[xs.length]'(by omega) = mk 0 := by simp
  rw [g0] at k0 ⊢
  refine ⟨ldS (vs := (mk 0).enc) (k0.ext e1) (by kernel_rfl), true, eq55 (mk 0), br_t rfl ?_⟩
  obtain ⟨a1, p1, k1⟩ := rd_elem (c := xs.length + 2) (rr.ext e1) hll (i := xs.length + 1) (by omega)
  refine ⟨_, p1, _, _, _, _, _, _, _, _, _, _, _, _, ldS k1 (by kernel_rfl), ?_⟩
  refine mark_s 1 (by omega) (by omega) fun h2 e2 => ⟨_, _, _, _, _, _, _, _, _, _, _, _, rfl, ?_⟩
  have g1 : (xs ++ [mk 0, mk 1])[xs.length + 1]'(by omega) = mk 1 := by simp
  rw [g1] at k1 ⊢
  refine ⟨ldS (vs := (mk 1).enc) (k1.ext e2) (by kernel_rfl), true, eq55 (mk 1), br_t rfl ?_⟩
  have e12 := e1.trans e2
  have rt := rsl_take (rr.ext e12) hll (n := xs.length) (by omega)
  rw [List.take_left' rfl] at rt
  refine same_s rt (hr.ext e12) rfl (by omega) ⟨_, rfl, ?_⟩
  unfold quintetkeep_Back_j2
  refine ⟨xs.length + 3, ?_⟩
  have := back_l3 (g := g) (c := xs.length + 2) (h0 := h) (b := true) (K0 := fun b203 h204 => K (.bool b203) h204) H (xs.length + 2) 0 (xs.length + 3) h2 (xs ++ [mk 0, mk 1]) (by simp) (by omega) (by simp; omega) (r.keep (e12.fr (fun _ => False)) (fun _ _ h => h)) (e12.fr _)
  rw [hll] at this
  exact this
end Go.Proofs.Ytgecabgcjfpenaa.Fs
