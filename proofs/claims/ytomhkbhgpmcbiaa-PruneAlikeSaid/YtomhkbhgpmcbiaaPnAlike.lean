/- PruneAlike: the walk. -/
import Derived.Test.YtomhkbhgpmcbiaaPnAlk
namespace Go.Proofs.Ytomhkbhgpmcbiaa.Fs
open Go Go.RowKit Go.Proofs.Ytomhkbhgpmcbiaa.Sx Go.Proofs.Ytomhkbhgpmcbiaa.Uq
set_option linter.unusedVariables false
set_option linter.unusedSimpArgs false
set_option maxRecDepth 10000
def encB (b : Bool) : List Value := [.bool b]
theorem encB_len (b : Bool) : (encB b).length = 1 := rfl
theorem encB_flat (b : Bool) : (encB b).all flatV = true := rfl
theorem und_bools : Try.prog.underlying 50 = some (.slice 4) := by kernel_rfl
theorem size_bool : (Try.prog.info? 4).map (·.size) = some 1 := by kernel_rfl
theorem info_bool : ∃ i z, Try.prog.info? 4 = some i ∧ i.size = 1 ∧ i.bytes = 1 ∧ i.zero = some z ∧ z.cells = (encB false).toArray := ⟨_, _, rfl, rfl, rfl, rfl, rfl⟩
abbrev RowB (h : Hp) (A : Option Addr) (c : Nat) (l : List Bool) : Prop := RowC h 4 encB 1 A c l
theorem make_b {h : Hp} {n : Nat} (hn : n ≤ 1000000000) {K : Value → Hp → Prop} (H : ∀ h', Ext h h' → RowB h' (some ⟨h.size, 0, none⟩) n (List.replicate n false) → K (.slice (some ⟨h.size, 0, none⟩) n n) h') : HW Try.prog (Instr.makeSlice 50 (.int .i64 (n : Int)) (.int .i64 (n : Int))) h K := by
  obtain ⟨i, z, hi, hs, hb, hz, hc⟩ := info_bool
  exact HW_makeRow (zr := false) und_bools hi hz hs (by decide) hc encB_len (by rw [hb]; omega) (by omega) fun h' e r => H h' e ⟨r, by omega⟩
theorem st_b {h : Hp} {g c : Nat} {xs : List Bool} {j : Nat} (x : Bool) {K : Hp → Prop} (r : RowB h (some ⟨g, 0, none⟩) c xs) (hj : j < xs.length) (H : ∀ h', RowB h' (some ⟨g, 0, none⟩) c (xs.set j x) → Fr (fun k => k = g) h h' → h'.size = h.size → K h') : HU Try.prog (Instr.storeAt 4 (.pointer (some ⟨g, j * 1, none⟩)) (.bool x)) h K :=
  HU_elem (x := x) encB_len encB_flat r.row hj rfl size_bool fun h' r' f z => H h' ⟨r', r.cap⟩ f z
theorem ixB {g l c i : Nat} (h1 : i < l) : PV Try.prog (Instr.indexAt 50 (.slice (some ⟨g, 0, none⟩) l c) (.int .i64 (i : Int))) (.pointer (some ⟨g, i * 1, none⟩)) := ix0 h1 und_bools size_bool
theorem ld_b {h : Hp} {g c : Nat} {xs : List Bool} (r : RowB h (some ⟨g, 0, none⟩) c xs) {i : Nat} {x : Bool} (hi : xs[i]? = some x) : HV Try.prog (Instr.loadAt 4 (.pointer (some ⟨g, i * 1, none⟩))) h (.bool x) := ld (r.elem0 encB_len hi).head (by kernel_rfl)
theorem neV (a d : Bool) (b c e f : Int) : PV Try.prog (binOp .neq 36 (.agg #[.bool a, .int .i64 b, .int .i64 c]) (.agg #[.bool d, .int .i64 e, .int .i64 f])) (.bool (!decide (a = d ∧ b = e ∧ c = f))) := by
  intro w
  rw [run_neq_struct, run_equalIn_struct w 9999 36 _ _ (by kernel_rfl) (by kernel_rfl)]
  simp [go_sem]
  cases a <;> cases d <;> by_cases h1 : b = e <;> by_cases h2 : c = f <;> simp [h1, h2]
theorem Hdr.len (g : Hdr) : g.enc.length = 5 := rfl
theorem und_hs : Try.prog.underlying 48 = some (.slice 28) := by kernel_rfl
theorem size_h : (Try.prog.info? 28).map (·.size) = some 5 := by kernel_rfl
def exA : Cfg := ⟨64, 4, 1048576, 1048576, 1048576, 4, 8⟩
/-! ### pick -/
theorem pick_s (c : Int) (h0 : -9223372036854775808 ≤ c) (h1 : c ≤ 9223372036854775807) {n : Nat} (hn : 0 < n) {h : Hp} {K : Value → Hp → Prop} (H : ∀ k : Nat, k < n → K (.int .i64 (k : Int)) h) : CallsH Try.prog 14 #[.int .i64 c, .int .i64 (n : Int)] h K := by
  refine quintetlaw16_pick_ok _ _ ?_
  unfold quintetlaw16_pick
  have key : ∀ x : Int, 0 ≤ x → ∃ k : Nat, k < n ∧ Int.tmod x (n : Int) = (k : Int) := fun x hx => by
    obtain ⟨m, rfl⟩ := Int.eq_ofNat_of_zero_le hx
    exact ⟨m % n, Nat.mod_lt _ hn, by rw [Int.tmod_eq_emod_of_nonneg (Int.natCast_nonneg _)]; rfl⟩
  refine br_i (fun p => ⟨_, rem64 _ _ (by omega), ?_⟩) (fun p => ⟨_, rem64 _ _ (by omega), ?_⟩)
  · have p : c < 0 := by simpa using p
    rw [wrap_in (n := c + 1) (by omega) (by omega), wrap_in (by omega) (by omega)]
    obtain ⟨k, hk, e⟩ := key (0 - (c + 1)) (by omega)
    rw [e]; exact H k hk
  · have p : ¬ c < 0 := by simpa using p
    obtain ⟨k, hk, e⟩ := key c (by omega)
    rw [e]; exact H k hk
/-! ### the state of the loop -/
structure PI (h0 h : Hp) (xs : List Rul) (b : Nat) (S : Nat → Prop) (b' : Nat) (S' : Nat → Prop) (g c : Nat) (bs : List Bool) : Prop where
  w : Two h0 h exA b S xs b' S' (subL xs bs)
  row : RowB h (some ⟨g, 0, none⟩) c bs
  nx : ¬ S g
  ny : ¬ S' g
  g0 : h0.size ≤ g
  len : bs.length = xs.length
theorem PI.gl {h0 h : Hp} {xs : List Rul} {b b' g c : Nat} {S S' : Nat → Prop} {bs : List Bool} (p : PI h0 h xs b S b' S' g c bs) : g < h.size := p.row.old g (blk_self g)
theorem PI.ext {h0 h h' : Hp} {xs : List Rul} {b b' g c : Nat} {S S' : Nat → Prop} {bs : List Bool} (p : PI h0 h xs b S b' S' g c bs) (e : Ext h h') : PI h0 h' xs b S b' S' g c bs := ⟨p.w.ext e, p.row.ext e, p.nx, p.ny, p.g0, p.len⟩
theorem PI.step {h0 h h' : Hp} {xs : List Rul} {b b' g c : Nat} {S S' T : Nat → Prop} {bs : List Bool} (p : PI h0 h xs b S b' S' g c bs) {m : List Rul} (q : En h' b' T exA m) (t : Tg S' T h h') : Two h0 h' exA b S xs b' T m ∧ RowB h' (some ⟨g, 0, none⟩) c bs ∧ ¬ T g :=
  ⟨p.w.stepY q t, p.row.keep t.fr (fun k hk hs => p.ny (by rw [← blk_one hk]; exact hs)), t.not p.gl p.ny⟩
theorem EO.put {h0 h h' : Hp} {cf : Cfg} {b g : Nat} {S : Nat → Prop} {l : List Rul} (o : EO h0 h b S cf l) (f : Fr (fun k => k = g) h h') (hn : ¬ S g) (hg : h0.size ≤ g) : EO h0 h' b S cf l := ⟨o.q.keep f (fun k hk e => hn (e ▸ hk)), o.hS, extOwn o.e f (fun k hk => hk ▸ hg)⟩
section
variable {xs : List Rul} (gd : Gd xs) (di : DI xs)
include gd di
theorem sub_gd (bs : List Bool) : Gd (subL xs bs) ∧ DI (subL xs bs) := ⟨⟨Nat.le_trans (sub_sub xs bs).length_le gd.n, fun r hr => gd.ok r ((sub_sub xs bs).subset hr)⟩, di.sublist (sub_sub xs bs)⟩
theorem run_ins {bs : List Bool} (hl : bs.length = xs.length) {k : Nat} {r : Rul} (hb : bs[k]? = some false) (hr : xs[k]? = some r) : runE exA (subL xs bs) (insI exA (subL xs bs) (cntT (bs.take k) : Nat) r) = (0, subL xs (bs.set k true)) := by
  have e := sub_ins r xs bs k hb hr
  obtain ⟨g1, d1⟩ := sub_gd gd di (bs.set k true)
  have hne : ∀ x, x ∈ subL xs bs → x.id ≠ r.id := fun x hx => by
    rw [← List.take_append_drop (cntT (bs.take k)) (subL xs bs)] at hx
    unfold DI at d1
    rw [e, List.pairwise_append, List.pairwise_cons] at d1
    rcases List.mem_append.1 hx with h | h
    · exact d1.2.2 x h r (by simp)
    · exact fun he => d1.2.1.1 x h he.symm
  have hlen : (subL xs bs).length = cntT bs := sub_len xs bs hl
  have hat : cntT (bs.take k) ≤ cntT bs := by
    have : ∀ (l : List Bool) (k : Nat), cntT (l.take k) ≤ cntT l := by
      intro l
      induction l with
      | nil => intro k; simp
      | cons b l ih => intro k; cases k with
        | zero => exact Nat.zero_le _
        | succ k => rw [List.take_succ_cons, cntT, cntT]; have := ih k; omega
    exact this bs k
  have hlt : cntT bs < xs.length := by
    have h1 := cnt_set bs k hb
    have h2 := cnt_le (bs.set k true)
    rw [List.length_set] at h2
    omega
  have ht : takesI (subL xs bs) r = 0 := by
    unfold takesI
    rw [if_neg (by have := gd.ok r (List.mem_of_getElem? hr); omega), find_no hne]
    rfl
  have hi : insI exA (subL xs bs) (cntT (bs.take k) : Nat) r = (0, subL xs (bs.set k true)) := by
    unfold insI
    rw [if_neg (by omega), if_neg (by omega), if_neg (by show ¬ _ ≥ (64 : Int); have := gd.n; omega), e, Int.toNat_natCast]
  rw [hi]
  exact runE_yes rfl (room_all rfl g1 d1)
theorem run_oth {bs : List Bool} (o : Rul) : ((runE exA (subL xs bs) (insI exA (subL xs bs) 0 o)).1 ≠ 0 ∧ (runE exA (subL xs bs) (insI exA (subL xs bs) 0 o)).2 = subL xs bs) ∨ ((runE exA (subL xs bs) (insI exA (subL xs bs) 0 o)) = (0, o :: subL xs bs) ∧ runE exA (o :: subL xs bs) (delI (o :: subL xs bs) o.id) = (0, subL xs bs)) := by
  obtain ⟨g1, d1⟩ := sub_gd gd di bs
  generalize subL xs bs = ys at g1 d1
  by_cases h0 : (insI exA ys 0 o).1 = 0
  · cases hr : roomB exA (insI exA ys 0 o).2 with
    | false => exact .inl (by rw [runE_full h0 hr]; exact ⟨by show (160 : Int) ≠ 0; decide, rfl⟩)
    | true =>
      have hi : (insI exA ys 0 o).2 = o :: ys := by
        unfold insI at h0 ⊢
        split
        · rename_i h1; rw [if_pos h1] at h0; exact absurd h0 h1
        · rename_i h1
          rw [if_neg h1] at h0
          split
          · rename_i h2; rw [if_pos h2] at h0; cases h0
          · rename_i h2
            rw [if_neg h2] at h0
            split
            · rename_i h3; rw [if_pos h3] at h0; cases h0
            · rfl
      refine .inr ⟨by rw [runE_yes h0 hr, hi], ?_⟩
      have hf : findI (o :: ys) o.id = 0 := by
        unfold findI
        rw [List.findIdx?_cons]
        simp
      have hd : delI (o :: ys) o.id = (0, ys) := by
        unfold delI
        rw [hf]
        rfl
      rw [hd]
      exact runE_yes rfl (room_all rfl g1 d1)
  · exact .inl (by rw [runE_no h0]; exact ⟨h0, rfl⟩)
end
variable {A1 A2 A3 A4 : Option Addr} {l1 c1 l2 c2 l3 c3 l4 c4 : Nat}
theorem l65_s {h : Hp} {g c : Nat} {bs : List Bool} (row : RowB h (some ⟨g, 0, none⟩) c bs) {k : Nat} (hk : k ≤ bs.length) (hb : bs.length ≤ 64) {p q : Option Addr} {i : Int} {K0 : (Option Addr) → Nat → Nat → (Option Addr) → Nat → Nat → (Option Addr) → Nat → Nat → (Option Addr) → Nat → Nat → (Option Addr) → (Option Addr) → (Option Addr) → Nat → Nat → Int → Int → Int → Hp → Prop}
    (H : K0 A1 l1 c1 A2 l2 c2 A3 l3 c3 A4 l4 c4 p q (some ⟨g, 0, none⟩) bs.length c i (k : Int) (cntT (bs.take k) : Nat) h) :
    ∀ d n, n + d = k → quintetlaw16_PruneAlike_l65 A1 l1 c1 A2 l2 c2 A3 l3 c3 A4 l4 c4 p q (some ⟨g, 0, none⟩) bs.length c i (k : Int) K0 (d + 1) (cntT (bs.take n) : Nat) (n : Int) h := by
  intro d
  induction d with
  | zero =>
    intro n hn
    unfold quintetlaw16_PruneAlike_l65
    have hn : n = k := by omega
    subst hn
    exact br_f (by simp) H
  | succ d ih =>
    intro n hn
    unfold quintetlaw16_PruneAlike_l65
    have hx : bs[n]? = some (bs[n]'(by omega)) := List.getElem?_eq_getElem (by omega)
    have hc := cnt_take bs n _ hx
    have hcl := cnt_le (bs.take n)
    rw [List.length_take] at hcl
    refine br_t (by simp; omega) ⟨_, ixB (by omega), _, ld_b row hx, ?_⟩
    have w1 : IntKind.i64.wrap ((n : Int) + 1) = ((n + 1 : Nat) : Int) := by rw [wrap_in (by omega) (by omega)]; omega
    have := ih (n + 1) (by omega)
    rw [hc] at this
    refine br_i (fun u => ?_) (fun u => ?_)
    · rw [u, if_pos rfl] at this
      rw [w1, show IntKind.i64.wrap ((cntT (bs.take n) : Int) + 1) = ((cntT (bs.take n) + 1 : Nat) : Int) by rw [wrap_in (by omega) (by omega)]; omega]
      exact this
    · rw [u] at this
      rw [w1]
      exact this
theorem l64_s {h : Hp} {g c : Nat} {bs : List Bool} (row : RowB h (some ⟨g, 0, none⟩) c bs) (hl : bs.length = l1) (hb : l1 ≤ 64) {p q : Option Addr} {i : Int} {K0 : (Option Addr) → Nat → Nat → (Option Addr) → Nat → Nat → (Option Addr) → Nat → Nat → (Option Addr) → Nat → Nat → (Option Addr) → (Option Addr) → (Option Addr) → Nat → Nat → Int → Int → Hp → Prop}
    (H : ∀ k : Nat, k < bs.length → bs[k]? = some false → K0 A1 l1 c1 A2 l2 c2 A3 l3 c3 A4 l4 c4 p q (some ⟨g, 0, none⟩) bs.length c i (k : Int) h) :
    ∀ d k : Nat, k < bs.length → bs[(k + d) % bs.length]? = some false → quintetlaw16_PruneAlike_l64 A1 l1 c1 A2 l2 c2 A3 l3 c3 A4 l4 c4 p q (some ⟨g, 0, none⟩) bs.length c i K0 (d + 1) (k : Int) h := by
  intro d
  induction d with
  | zero =>
    intro k hk hf
    unfold quintetlaw16_PruneAlike_l64
    rw [Nat.add_zero, Nat.mod_eq_of_lt hk] at hf
    exact ⟨_, ixB hk, _, ld_b row hf, br_f rfl (H k hk hf)⟩
  | succ d ih =>
    intro k hk hf
    unfold quintetlaw16_PruneAlike_l64
    have hx : bs[k]? = some (bs[k]'hk) := List.getElem?_eq_getElem hk
    refine ⟨_, ixB hk, _, ld_b row hx, br_i (fun u => ⟨_, rem64 _ _ (by omega), ?_⟩) (fun u => H k hk (by rw [hx, u]))⟩
    have w1 : IntKind.i64.wrap ((k : Int) + 1) = ((k + 1 : Nat) : Int) := by rw [wrap_in (by omega) (by omega)]; omega
    have e : Int.tmod ((k + 1 : Nat) : Int) (l1 : Int) = (((k + 1) % bs.length : Nat) : Int) := by
      rw [Int.tmod_eq_emod_of_nonneg (Int.natCast_nonneg _), hl]; rfl
    rw [w1, e]
    refine ih ((k + 1) % bs.length) (Nat.mod_lt _ (by omega)) ?_
    rw [Nat.mod_add_mod]
    rwa [show k + (d + 1) = k + 1 + d by omega] at hf
set_option linter.unusedSectionVars false
section
variable {xs os : List Rul} {ns : List Int} {gs : List Hdr} {h0 : Hp} (gd : Gd xs) (di : DI xs) (r1 : RSl h0 A1 xs.length 12 (xs.flatMap Rul.enc)) (r3 : RSl h0 A3 os.length 12 (os.flatMap Rul.enc))
  {b b' g c : Nat} {S : Nat → Prop} {l2 c2 l4 c4 : Nat}
include gd di r1 r3
theorem j66_s {S' : Nat → Prop} {bs : List Bool} {h : Hp} (P : PI h0 h xs b S b' S' g c bs) {k : Nat} (hk : bs[k]? = some false) (i : Int) {K0 : Bool → Hp → Prop} {K1 : (Option Addr) → Nat → Nat → (Option Addr) → Nat → Nat → (Option Addr) → Nat → Nat → (Option Addr) → Nat → Nat → (Option Addr) → (Option Addr) → (Option Addr) → Nat → Nat → Int → Hp → Prop}
    (H : ∀ h' T, PI h0 h' xs b S b' T g c (bs.set k true) → K1 A1 xs.length c1 A2 l2 c2 A3 os.length c3 A4 l4 c4 (some ⟨b, 0, none⟩) (some ⟨b', 0, none⟩) (some ⟨g, 0, none⟩) bs.length c i h') :
    quintetlaw16_PruneAlike_j66 K0 K1 A1 xs.length c1 A2 l2 c2 A3 os.length c3 A4 l4 c4 (some ⟨b, 0, none⟩) (some ⟨b', 0, none⟩) (some ⟨g, 0, none⟩) bs.length c i (k : Int) (cntT (bs.take k) : Nat) h := by
  unfold quintetlaw16_PruneAlike_j66
  have hkl : k < bs.length := (List.getElem?_eq_some_iff.1 hk).1
  have hx : xs[k]? = some (xs[k]'(by rw [← P.len]; exact hkl)) := List.getElem?_eq_getElem _
  obtain ⟨a, hix, hcl⟩ := ixRu (c := c1) (r1.ext P.w.x.e) hx
  refine ⟨_, hix, _, _, _, _, _, _, _, _, _, _, _, _, ldS (vs := (xs[k]'(by rw [← P.len]; exact hkl)).enc) hcl (by kernel_rfl), ?_⟩
  refine ins_u P.w.y.q (by decide) _ _ fun h1 T q1 t1 => ⟨_, rfl, ?_⟩
  rw [run_ins gd di P.len hk hx] at q1 ⊢
  obtain ⟨w1, row1, ny1⟩ := P.step q1 t1
  refine br_f rfl ⟨_, ixB hkl, st_b true row1 hkl fun h2 row2 f2 z2 => ?_⟩
  exact H h2 T ⟨⟨w1.x.put f2 P.nx P.g0, w1.y.put f2 ny1 P.g0, w1.apart⟩, row2, P.nx, ny1, P.g0, by rw [List.length_set]; exact P.len⟩
theorem j63_s {S' : Nat → Prop} {bs : List Bool} {h : Hp} (P : PI h0 h xs b S b' S' g c bs) {i k : Nat} (hi : i < xs.length) (hc : cntT bs = i) (hk : k < xs.length) {K0 : Bool → Hp → Prop} {K1 : (Option Addr) → Nat → Nat → (Option Addr) → Nat → Nat → (Option Addr) → Nat → Nat → (Option Addr) → Nat → Nat → (Option Addr) → (Option Addr) → (Option Addr) → Nat → Nat → Int → Hp → Prop}
    (H : ∀ h' T bs', cntT bs' = i + 1 → bs'.length = bs.length → PI h0 h' xs b S b' T g c bs' → K1 A1 xs.length c1 A2 l2 c2 A3 os.length c3 A4 l4 c4 (some ⟨b, 0, none⟩) (some ⟨b', 0, none⟩) (some ⟨g, 0, none⟩) bs.length c (i : Int) h') :
    quintetlaw16_PruneAlike_j63 K0 K1 A1 xs.length c1 A2 l2 c2 A3 os.length c3 A4 l4 c4 (some ⟨b, 0, none⟩) (some ⟨b', 0, none⟩) (some ⟨g, 0, none⟩) bs.length c (i : Int) (k : Int) h := by
  unfold quintetlaw16_PruneAlike_j63
  have hn := gd.n
  have hbl := P.len
  obtain ⟨j, hj, hjf⟩ := cnt_lt bs (by rw [hc, P.len]; exact hi)
  refine ⟨(j + bs.length - k) + 1, l64_s P.row P.len hn (fun k' hk' hf => ?_) (j + bs.length - k) k (by omega) (by rw [show k + (j + bs.length - k) = j + bs.length by omega, Nat.add_mod_right, Nat.mod_eq_of_lt hj]; exact hjf)⟩
  refine ⟨k' + 1, l65_s P.row (by omega) (by omega) ?_ k' 0 (by omega)⟩
  have fin : ∀ h1 T, PI h0 h1 xs b S b' T g c bs → quintetlaw16_PruneAlike_j66 K0 K1 A1 xs.length c1 A2 l2 c2 A3 os.length c3 A4 l4 c4 (some ⟨b, 0, none⟩) (some ⟨b', 0, none⟩) (some ⟨g, 0, none⟩) bs.length c (i : Int) (k' : Int) (cntT (bs.take k') : Nat) h1 := fun h1 T P1 =>
    j66_s gd di r1 r3 P1 hf (i : Int) fun h2 T2 P2 => H h2 T2 _ (by rw [cnt_set bs k' hf, hc]) (List.length_set ..) P2
  refine br_i (fun u => ?_) (fun u => fin h S' P)
  have u : i < os.length := by simp at u; omega
  have hx : os[i]? = some os[i] := List.getElem?_eq_getElem u
  obtain ⟨a, hix, hcl⟩ := ixRu (c := c3) (r3.ext P.w.x.e) hx
  refine ⟨_, hix, _, _, _, _, _, _, _, _, _, _, _, _, ldS (vs := os[i].enc) hcl (by kernel_rfl), ?_⟩
  refine ins_u P.w.y.q (by decide) _ _ fun h1 T q1 t1 => ⟨_, rfl, ?_⟩
  obtain ⟨w1, row1, ny1⟩ := P.step q1 t1
  rcases run_oth gd di (bs := bs) os[i] with ⟨n1, n2⟩ | ⟨n1, n2⟩
  · refine br_f (by simpa using n1) (fin h1 T ⟨?_, row1, P.nx, ny1, P.g0, P.len⟩)
    rw [n2] at w1
    exact w1
  · rw [n1] at q1 w1 ⊢
    refine br_t rfl ?_
    obtain ⟨a2, hix2, hcl2⟩ := ixRu (c := c3) (r3.ext w1.x.e) hx
    refine ⟨_, hix2, _, ld hcl2.head (by kernel_rfl), ?_⟩
    refine del_u w1.y.q os[i].id fun h2 T2 q2 t2 => ⟨_, rfl, ?_⟩
    rw [n2] at q2 ⊢
    have w2 := w1.stepY q2 t2
    have ny2 : ¬ T2 g := t2.not (row1.old g (blk_self g)) ny1
    exact br_f rfl (fin h2 T2 ⟨w2, row1.keep t2.fr (fun k hk hs => ny1 (by rw [← blk_one hk]; exact hs)), P.nx, ny2, P.g0, P.len⟩)
theorem l59_s (r2 : RSl h0 A2 ns.length 1 (ns.flatMap encI)) (hns : ∀ x, x ∈ ns → -9223372036854775808 ≤ x ∧ x ≤ 9223372036854775807) {K0 : Bool → Hp → Prop} {K1 : (Option Addr) → Nat → Nat → (Option Addr) → (Option Addr) → Hp → Prop}
    (H : ∀ h' T, Two h0 h' exA b S xs b' T xs → K1 A4 l4 c4 (some ⟨b, 0, none⟩) (some ⟨b', 0, none⟩) h') :
    ∀ (d i : Nat) (bs : List Bool) (h : Hp) (S' : Nat → Prop), i + d = xs.length → cntT bs = i → PI h0 h xs b S b' S' g c bs → quintetlaw16_PruneAlike_l59 A1 xs.length c1 A2 ns.length c2 A3 os.length c3 A4 l4 c4 (some ⟨b, 0, none⟩) (some ⟨b', 0, none⟩) (some ⟨g, 0, none⟩) xs.length c K0 K1 (d + 1) (i : Int) h := by
  intro d
  induction d with
  | zero =>
    intro i bs h S' hi hc P
    unfold quintetlaw16_PruneAlike_l59
    refine br_f (by simp; omega) (H h S' ?_)
    have := P.w
    rwa [sub_all xs bs P.len (by rw [hc, P.len]; omega)] at this
  | succ d ih =>
    intro i bs h S' hi hc P
    unfold quintetlaw16_PruneAlike_l59
    have hn := gd.n
    have hil : i < xs.length := by omega
    have w1 : IntKind.i64.wrap ((i : Int) + 1) = ((i + 1 : Nat) : Int) := by rw [wrap_in (by omega) (by omega)]; omega
    have step : ∀ k : Nat, k < xs.length → quintetlaw16_PruneAlike_j63 (fun b h => K0 b h) (fun _ _ _ _ _ _ _ _ _ _ _ _ _ _ _ _ _ x h => quintetlaw16_PruneAlike_l59 A1 xs.length c1 A2 ns.length c2 A3 os.length c3 A4 l4 c4 (some ⟨b, 0, none⟩) (some ⟨b', 0, none⟩) (some ⟨g, 0, none⟩) xs.length c K0 K1 (d + 1) (IntKind.i64.wrap (x + 1)) h) A1 xs.length c1 A2 ns.length c2 A3 os.length c3 A4 l4 c4 (some ⟨b, 0, none⟩) (some ⟨b', 0, none⟩) (some ⟨g, 0, none⟩) xs.length c (i : Int) (k : Int) h := fun k hk => by
      have := j63_s (A2 := A2) (A4 := A4) (c1 := c1) (c3 := c3) (l2 := ns.length) (c2 := c2) (l4 := l4) (c4 := c4) gd di r1 r3 P hil hc hk (K0 := fun b h => K0 b h) (K1 := fun _ _ _ _ _ _ _ _ _ _ _ _ _ _ _ _ _ x h => quintetlaw16_PruneAlike_l59 A1 xs.length c1 A2 ns.length c2 A3 os.length c3 A4 l4 c4 (some ⟨b, 0, none⟩) (some ⟨b', 0, none⟩) (some ⟨g, 0, none⟩) xs.length c K0 K1 (d + 1) (IntKind.i64.wrap (x + 1)) h) fun h1 T bs1 hc1 hl1 P1 => by
        show quintetlaw16_PruneAlike_l59 _ _ _ _ _ _ _ _ _ _ _ _ _ _ _ _ _ _ _ _ (IntKind.i64.wrap ((i : Int) + 1)) _
        rw [w1]
        exact ih (i + 1) bs1 h1 T (by omega) hc1 P1
      rw [P.len] at this
      exact this
    refine br_t (by simp; omega) (br_i (fun u => ?_) (fun u => step i hil))
    have u : i < ns.length := by simp at u; omega
    have hx : ns[i]? = some ns[i] := List.getElem?_eq_getElem u
    obtain ⟨a, _, _, hix, hcl⟩ := ixR (P := Try.prog) (T := 47) (E := 3) (k := .i64) (c := c2) encI_len (r2.ext P.w.x.e) rfl und_ints size_int hx
    have hb := hns _ (List.getElem_mem u)
    refine ⟨_, hix, _, ld hcl.head (by kernel_rfl), ?_⟩
    exact pick_s _ hb.1 hb.2 (by omega) fun k hk => ⟨_, rfl, step k hk⟩
end
theorem l67_s {gs : List Hdr} {h0 : Hp} (r4 : RSl h0 A4 gs.length 5 (gs.flatMap Hdr.enc)) (hgl : gs.length ≤ 2000) {b b' : Nat} {S S' : Nat → Prop} {xs : List Rul} {K0 : Bool → Hp → Prop} {K1 : Hp → Prop} (H : ∀ h', Ext h0 h' → K1 h') :
    ∀ (d n : Nat) (h : Hp), n + d = gs.length → Two h0 h exA b S xs b' S' xs → quintetlaw16_PruneAlike_l67 A4 gs.length c4 (some ⟨b, 0, none⟩) (some ⟨b', 0, none⟩) K0 K1 (d + 1) (n : Int) h := by
  intro d
  induction d with
  | zero =>
    intro n h hn w
    unfold quintetlaw16_PruneAlike_l67
    exact br_f (by simp; omega) (H h w.x.e)
  | succ d ih =>
    intro n h hn w
    unfold quintetlaw16_PruneAlike_l67
    have hx : gs[n]? = some (gs[n]'(by omega)) := List.getElem?_eq_getElem (by omega)
    generalize gs[n]'(by omega) = g at hx
    obtain ⟨a, _, _, hix, hcl⟩ := ixR (P := Try.prog) (T := 48) (E := 28) (k := .i64) (c := c4) Hdr.len (r4.ext w.x.e) rfl und_hs size_h hx
    refine br_t (by simp; omega) ⟨_, hix, _, _, _, _, _, ldS (vs := g.enc) hcl (by kernel_rfl), ?_⟩
    refine eAsk_s w.x.q g fun h1 e1 => ⟨_, _, _, _, _, _, _, _, rfl, ansN _ _ _ fun h2 a1 a2 e2 ca1 ca2 n1 n2 => ?_⟩
    have w2 := w.ext (e1.trans e2)
    refine ⟨_, hix, _, _, _, _, _, ldS (vs := g.enc) (hcl.ext (e1.trans e2)) (by kernel_rfl), ?_⟩
    refine eAsk_s w2.y.q g fun h3 e3 => ⟨_, _, _, _, _, _, _, _, rfl, ansN _ _ _ fun h4 a3 a4 e4 ca3 ca4 n3 n4 => ?_⟩
    have w4 := w2.ext (e3.trans e4)
    refine ⟨_, _, _, ldS (vs := verd (askI xs exA.dflt g).1) (ca1.ext (e3.trans e4)) (by kernel_rfl), _, _, _, ldS (vs := verd (askI xs exA.dflt g).1) ca3 (by kernel_rfl), _, neV _ _ _ _ _ _, br_f (by simp) ?_⟩
    have w1 : IntKind.i64.wrap ((n : Int) + 1) = ((n + 1 : Nat) : Int) := by rw [wrap_in (by omega) (by omega)]; omega
    rw [w1]
    exact ih (n + 1) h4 (by omega) w4
theorem Alike_s {xs os : List Rul} {ns : List Int} {gs : List Hdr} {h : Hp} (hc1 : xs.length ≤ c1) (r1 : RSl h A1 xs.length 12 (xs.flatMap Rul.enc)) (r2 : RSl h A2 ns.length 1 (ns.flatMap encI)) (hns : ∀ x, x ∈ ns → -9223372036854775808 ≤ x ∧ x ≤ 9223372036854775807) (r3 : RSl h A3 os.length 12 (os.flatMap Rul.enc)) (r4 : RSl h A4 gs.length 5 (gs.flatMap Hdr.enc)) {K : Value → Hp → Prop} (H : ∀ h', Ext h h' → K (.bool true) h') :
    CallsH Try.prog 4 #[.slice A1 xs.length c1, .slice A2 ns.length c2, .slice A3 os.length c3, .slice A4 gs.length c4] h K := by
  refine quintetlaw16_PruneAlike_ok _ _ _ _ _ _ _ _ _ _ _ _ ?_
  unfold quintetlaw16_PruneAlike
  refine br_i (fun _ => H h (Ext.refl _)) (fun p1 => br_i (fun _ => H h (Ext.refl _)) (fun p3 => br_i (fun _ => H h (Ext.refl _)) (fun p4 => ?_)))
  have p1 : xs.length ≤ 64 := by simp at p1; omega
  have p4 : gs.length ≤ 2000 := by simp at p4; omega
  unfold quintetlaw16_PruneAlike_j34
  refine newC_i (cs := (⟨0, 0, 0, 0, 0, 0, 0⟩ : Cfg).enc) fun h4 e4 c4' b4 z4 => ?_
  refine HU_box (us := exA.enc) b4 rfl rfl (by kernel_rfl) rfl fun h6 c6 b6 f6 z6 => ?_
  have e6 : Ext h h6 := extOwn e4 f6 (fun k hk => by omega)
  refine ⟨_, _, _, _, _, _, _, ldS (vs := exA.enc) c6 (by kernel_rfl), ?_⟩
  have hck : exA.check = 0 := by decide +kernel
  refine eNew_s exA (fun hc => absurd hck hc) (fun _ h7 b S e7 hS q7 => ⟨_, _, rfl, _, _, _, _, _, _, _, ldS (vs := exA.enc) (c6.ext e7) (by kernel_rfl), ?_⟩)
  refine eNew_s exA (fun hc => absurd hck hc) (fun _ h8 b' S' e8 hS' q8 => ⟨_, _, rfl, _, eqNil und_ep, br_f rfl ⟨_, eqNil und_ep, br_f rfl ?_⟩⟩)
  have s6 := e6.size
  have s7 := e7.size
  have w : Two h h8 exA b S [] b' S' [] := ⟨⟨q7.ext e8, fun k hk => by have := hS k hk; omega, (e6.trans e7).trans e8⟩, ⟨q8, fun k hk => by have := hS' k hk; omega, (e6.trans e7).trans e8⟩, fun k hk hk' => by
    have := q7.old k hk
    have := hS' k hk'
    omega⟩
  unfold quintetlaw16_PruneAlike_j51
  refine set_u w.x.q (by decide) (by omega) hc1 (r1.ext w.x.e) fun h9 S9 q9 t9 => ⟨_, rfl, ?_⟩
  have w9 := w.stepX q9 t9
  refine br_i (fun _ => eawake_s fun h10 e10 => ⟨_, rfl, H h10 (w9.x.e.trans e10)⟩) (fun u => ?_)
  have u : (runE exA [] (setO exA [] xs)).1 = 0 := by simpa using u
  have hset : setI exA.max [] xs 0 = 0 ∧ (runE exA [] (setO exA [] xs)).2 = xs := by
    by_cases h0 : (setO exA [] xs).1 = 0
    · have h0' : setI exA.max [] xs 0 = 0 := h0
      refine ⟨h0', ?_⟩
      cases hr : roomB exA (setO exA [] xs).2 with
      | false => rw [runE_full h0 hr] at u; cases u
      | true =>
        rw [runE_yes h0 hr]
        unfold setO
        rw [if_pos h0']
    · rw [runE_no h0] at u; exact absurd u h0
  rw [hset.2] at q9 w9
  have hgo := setI_ok exA.max xs [] 0 hset.1
  have gd : Gd xs := ⟨p1, hgo.1⟩
  have di : DI xs := (set_DI exA.max xs [] 0 hset.1).2
  refine make_b (by omega) fun h10 e10 r10 => ⟨_, _, _, rfl, ?_⟩
  have w10 := w9.ext e10
  have se := w9.x.e.size
  have P : PI h h10 xs b S9 b' S' h9.size xs.length (List.replicate xs.length false) := ⟨by rw [sub_zero]; exact w10, r10, fun hs => by have := w9.x.q.old _ hs; omega, fun hs => by have := w9.y.q.old _ hs; omega, se, List.length_replicate⟩
  refine ⟨xs.length + 1, l59_s gd di r1 r3 r2 hns (fun h11 T w11 => ?_) xs.length 0 _ h10 S' (by omega) (cnt_zero _) P⟩
  refine ⟨gs.length + 1, l67_s r4 p4 (fun h12 e12 => ?_) gs.length 0 h11 (by omega) w11⟩
  exact eawake_s fun h13 e13 => ⟨_, rfl, H h13 (e12.trans e13)⟩
end Go.Proofs.Ytomhkbhgpmcbiaa.Fs
