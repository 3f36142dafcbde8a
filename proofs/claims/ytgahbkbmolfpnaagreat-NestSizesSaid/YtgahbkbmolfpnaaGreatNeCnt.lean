/- expand.Of, Count. -/
import Derived.Test.YtgahbkbmolfpnaaGreatNeLib
import Derived.Test.YtgahbkbmolfpnaaGreatSpChain
namespace Go.Proofs.YtgahbkbmolfpnaaGreat.Fs
open Go Go.RowKit Go.Proofs.YtgahbkbmolfpnaaGreat.Sx Go.Proofs.YtgahbkbmolfpnaaGreat.Sp
set_option linter.unusedVariables false
set_option linter.unusedSimpArgs false
set_option maxRecDepth 10000
abbrev RowT (h : Hp) (A : Option Addr) (c : Nat) (l : List St) : Prop := RowC h 98 St.enc 2 A c l
theorem size_st : (Tryz.prog.info? 98).map (·.size) = some 2 := by kernel_rfl
theorem und_sts : Tryz.prog.underlying 74 = some (.slice 98) := by kernel_rfl
theorem info_st : ∃ i z, Tryz.prog.info? 98 = some i ∧ i.size = 2 ∧ i.bytes = 16 ∧ i.zero = some z ∧ z.cells = (St.enc ⟨0, 0⟩).toArray := ⟨_, _, rfl, rfl, rfl, rfl, rfl⟩
theorem sz_shl {n : Int} (h0 : 0 ≤ n) (h1 : n ≤ 16) : IntKind.i64.wrap (1 * 2 ^ min (16 - n).toNat 64) = sz n := by
  have e : min (16 - n).toNat 64 = (16 - n).toNat := by omega
  rw [e, Int.one_mul]
  have := sz_max h0
  have := sz_pos n
  unfold sz at *
  exact wrap_in (by omega) (by omega)
theorem size_s {n : Int} (h0 : 0 ≤ n) (h1 : n ≤ 16) {h : Hp} {K : Value → Hp → Prop} (H : K (.int .i64 (sz n)) h) : CallsH Tryz.prog 69 #[.int .i64 n] h K := by
  refine expand_size_ok _ ?_
  unfold expand_size
  rw [wrap_in (n := 16 - n) (by omega) (by omega)]
  refine ⟨_, shl64i 1 (16 - n) (by omega), ?_⟩
  rw [sz_shl h0 h1]
  exact H
theorem tmod_nn {x y : Int} (h : 0 ≤ x) : Int.tmod x y = x % y := Int.tmod_eq_emod_of_nonneg h
/-! ### Of -/
theorem app_st {h : Hp} {A : Option Addr} {c cx : Nat} {ax : Addr} {l : List St} {x : St} {K : Value → Hp → Prop} (r : RowT h A c l) (hx : Cl h ax x.enc) (hl : l.length ≤ 1000000)
    (H : ∀ h' g c', RowT h' (some ⟨g, 0, none⟩) c' (l ++ [x]) → (blk A g ∨ h.size ≤ g) → Fr (blk A) h h' → K (.slice (some ⟨g, 0, none⟩) (l.length + 1) c') h') :
    HW Tryz.prog (Builtin.append_ #[74, 74] 74 #[.slice A l.length c, .slice (some ax) 1 cx]) h K := by
  obtain ⟨i, z, hi, hs, hb, hz, hc⟩ := info_st
  exact HW_append1C (z := z) St.leng St.flat und_sts hi hz (by rw [hc]; rfl) hs (by omega) r.row hx (by rw [hb]; omega) fun h' g c' r' hg f hcc => H h' g c' ⟨r', hcc.elim (fun e => e ▸ r.cap) id⟩ hg f
/-- The box b holds the stems so far, which stand behind it. -/
def Bx (h : Hp) (b : Nat) (l : List St) : Prop := ∃ A c, h[b]? = some (.cells [Value.slice A l.length c].toArray 74 (0, 0)) ∧ RowT h A c l ∧ ∀ k, blk A k → b < k
theorem size_sl : (Tryz.prog.info? 74).map (·.size) = some 1 := by kernel_rfl
theorem Bx.cl {h : Hp} {b : Nat} {A : Option Addr} {c n : Nat} (hb : h[b]? = some (.cells [Value.slice A n c].toArray 74 (0, 0))) : Cl h ⟨b, 0, none⟩ [Value.slice A n c] := Cl.of_block hb fun j v hj => by rw [Nat.zero_add]; exact hj
theorem lay_s {h : Hp} {b : Nat} {l : List St} (q : Bx h b l) {x n : Int} (hx : 0 ≤ x ∧ x ≤ 65535) (hn : 0 ≤ n ∧ n ≤ 16) (hl : l.length ≤ 1000000) {K : Value → Hp → Prop} (H : ∀ h', Bx h' b (l ++ [⟨x, n⟩]) → Fr (fun k => b ≤ k) h h' → K (.int .i64 (x + sz n)) h') :
    CallsH Tryz.prog 68 #[.int .i64 x, .int .i64 n, .pointer (some ⟨b, 0, none⟩)] h K := by
  refine expand_Of_1_ok _ _ _ ?_
  unfold expand_Of_1
  obtain ⟨A, c, hb, r, hA⟩ := q
  refine ⟨_, _, _, ld (Bx.cl hb).head (by kernel_rfl), ?_⟩
  rw [w16 (x := x) (by omega) (by omega)]
  refine newC_i (cs := St.enc ⟨x, n⟩) fun h1 e1 c1 b1 z1 => ?_
  have hbl := lt_of_get hb
  refine app_st (r.ext e1) c1 hl fun h2 g c2 r2 hg f2 => ⟨_, _, _, rfl, ?_⟩
  have hgb : b < g := by
    rcases hg with hg | hg
    · exact hA g hg
    · have := e1.size; omega
  have hb2 := f2.get (e1.f0.get hb (fun h => h)) (fun hk => by have := hA _ hk; omega)
  refine HU_box (us := [.slice (some ⟨g, 0, none⟩) (l.length + 1) c2]) hb2 rfl rfl size_sl rfl fun h3 c3 b3 f3 z3 => ?_
  refine size_s hn.1 hn.2 ⟨_, rfl, ?_⟩
  have := sz_max hn.1
  have := sz_pos n
  rw [wrap_in (n := x + sz n) (by omega) (by omega)]
  refine H h3 ⟨some ⟨g, 0, none⟩, c2, ?_, r2.keep f3 (fun k hk => ?_), fun k hk => ?_⟩ ?_
  · rw [List.length_append]; exact b3
  · obtain ⟨a, ha, rfl⟩ := hk
    cases ha
    show g ≠ b
    omega
  · obtain ⟨a, ha, rfl⟩ := hk
    cases ha
    exact hgb
  · exact ((e1.fr _).trans (f2.mono fun k hk => by have := hA k hk; omega)).trans (f3.mono fun k hk => by omega)
theorem up_l3 {h : Hp} {a1 a2 : Addr} {v : Value} {s : Sp} (cs : Cl h a1 s.enc) (ok : Ok s) {at_ : Int} (h0 : 0 ≤ at_) (h1 : at_ ≤ s.hi) {K0 : Addr → Addr → Value → Int → Int → Hp → Prop} :
    ∀ (f : Nat) (n : Int), 0 ≤ n → n < f → n ≤ 16 → K0 a1 a2 v at_ (upI at_ s.hi f n) h → expand_Of_l3 a1 a2 v at_ K0 f n h
  | 0, n, g0, g1, _, _ => by omega
  | f + 1, n, g0, g1, g2, H => by
    unfold expand_Of_l3
    unfold upI at H
    obtain ⟨k1, k2, k3, k4⟩ := id ok
    refine br_i (fun p => ?_) (fun p => ?_)
    · rw [if_pos (by simpa using p)] at H; exact H
    · have hn : n ≠ 0 := by simpa using p
      rw [if_neg hn] at H
      rw [wrap_in (n := n - 1) (by omega) (by omega)]
      refine size_s (by omega) (by omega) ⟨_, rfl, ?_⟩
      have hp := sz_pos (n - 1)
      have hm := sz_max (show 0 ≤ n - 1 by omega)
      refine ⟨_, rem64 _ _ (by omega), ?_⟩
      rw [tmod_nn h0]
      refine br_i (fun q => ?_) (fun q => ?_)
      · rw [if_pos (.inl (by simpa using q))] at H; exact H
      · refine size_s (by omega) (by omega) ⟨_, rfl, _, ld (cs.at_ 1 _ rfl) (by kernel_rfl), ld (cs.at_ 1 _ rfl) (by kernel_rfl), ?_⟩
        rw [wrap_in (n := at_ + sz (n - 1)) (by omega) (by omega), wrap_in (n := at_ + sz (n - 1) - 1) (by omega) (by omega), wrap_in (n := s.hi) (by omega) (by omega)]
        refine br_i (fun r => ?_) (fun r => ?_)
        · rw [if_pos (.inr (by simpa using r))] at H; exact H
        · rw [if_neg (by simp at q r; omega)] at H
          exact up_l3 cs ok h0 h1 f (n - 1) (by omega) (by omega) (by omega) H
theorem of_l2 {b : Nat} {a1 : Addr} {s : Sp} (ok : Ok s) (hab : a1.block < b) {K0 : Addr → Hp → Prop} :
    ∀ (f : Nat) (at_ : Int) (h : Hp) (l : List St), Bx h b l → Cl h a1 s.enc → 0 ≤ at_ → at_ ≤ s.hi + 1 → s.hi + 1 - at_ ≤ f → l.length + f ≤ 1000000 → (∀ h', Bx h' b (l ++ ofI s.hi f at_) → Fr (fun k => b ≤ k) h h' → K0 ⟨b, 0, none⟩ h') →
      expand_Of_l2 a1 ⟨b, 0, none⟩ (.func (.func 68) #[] #[.pointer (some ⟨b, 0, none⟩)]) K0 (f + 1) at_ h
  | f, at_, h, l, q, cs, h0, h1, hf, hl, H => by
    unfold expand_Of_l2
    obtain ⟨k1, k2, k3, k4⟩ := id ok
    refine ⟨_, ld (cs.at_ 1 _ rfl) (by kernel_rfl), ?_⟩
    rw [wrap_in (n := s.hi) (by omega) (by omega)]
    refine br_i (fun p => ?_) (fun p => ?_)
    · have hle : at_ ≤ s.hi := by simpa using p
      match f, hf, hl, H with
      | 0, hf, _, _ => omega
      | f + 1, hf, hl, H =>
        unfold ofI at H
        rw [if_pos hle] at H
        refine ⟨17, up_l3 cs ok h0 hle 17 16 (by omega) (by omega) (by omega) ?_⟩
        have u := up_up hle
        revert u H
        show ∀ (H : ∀ h', Bx h' b (l ++ (⟨at_, up at_ s.hi⟩ :: ofI s.hi f (at_ + sz (up at_ s.hi)))) → _ → _) (u : Up at_ s.hi (up at_ s.hi)), HN Tryz.prog (callS (.func (.func 68) #[] #[.pointer (some ⟨b, 0, none⟩)]) #[(.int .i64 at_), (.int .i64 (up at_ s.hi))]) h _
        generalize up at_ s.hi = m
        intro H u
        have pf := u.fits
        have pm := sz_pos m
        refine callF (by kernel_rfl) ?_
        show CallsH Tryz.prog 68 #[.int .i64 at_, .int .i64 m, .pointer (some ⟨b, 0, none⟩)] h _
        refine lay_s q ⟨h0, by omega⟩ ⟨u.lo, u.hi16⟩ (by omega) fun h2 q2 f2 => ⟨_, rfl, ?_⟩
        refine of_l2 ok hab f _ h2 _ q2 (f2.cl cs (by omega)) (by omega) (by omega) (by omega) (by simp; omega) fun h3 q3 f3 => H h3 ?_ (f2.trans f3)
        rw [List.append_assoc] at q3
        exact q3
    · have hle : ¬ at_ ≤ s.hi := by simpa using p
      refine H h ?_ (Fr.refl _ _)
      rw [ofI_past _ _ _ (by omega), List.append_nil]
      exact q
theorem Of_s (s : Sp) (ok : Ok s) {h : Hp} {K : Value → Hp → Prop} (H0 : s.lo > s.hi → ∀ h', Ext h h' → K (.tuple #[.slice none 0 0, .int .i64 30]) h')
    (H1 : s.lo ≤ s.hi → ∀ h' A c, Ext h h' → RowT h' A c (ofS s) → Fresh h A → K (.tuple #[.slice A (ofS s).length c, .int .i64 0]) h') : CallsH Tryz.prog 48 #[s.val] h K := by
  refine expand_Of_ok _ _ ?_
  unfold expand_Of
  obtain ⟨k1, k2, k3, k4⟩ := id ok
  refine newC_i (cs := s.enc) fun h1 e1 c1 b1 z1 => ⟨_, _, ldS c1 (by kernel_rfl), span_Check_s s fun h2 e2 => ⟨_, rfl, ?_⟩⟩
  by_cases g : s.lo > s.hi
  · have hc : checkS s = 30 := by rw [checkS, if_pos g]
    rw [hc]
    exact br_t rfl (H0 g h2 (e1.trans e2))
  · have hc : checkS s = 0 := by rw [checkS, if_neg g]
    rw [hc]
    refine br_f rfl ?_
    refine newC_i (cs := [Value.slice none 0 0]) fun h3 e3 c3 b3 z3 => ⟨_, ld ((c1.ext e2).ext e3).head (by kernel_rfl), 65538, ?_⟩
    rw [wrap_in (n := s.lo) (by omega) (by omega)]
    have s1 := e1.size
    have s2 := e2.size
    refine of_l2 (b := h2.size) ok (by show h.size < _; omega) 65537 s.lo h3 [] ⟨none, 0, b3, RowC.nil, by rintro k ⟨a, ha, _⟩; cases ha⟩ ((c1.ext e2).ext e3) k1 (by omega) (by omega) (by simp) fun h4 q4 f4 => ?_
    rw [List.nil_append] at q4
    obtain ⟨A, c, hb, r, hA⟩ := q4
    refine ⟨_, _, _, ld (Bx.cl hb).head (by kernel_rfl), ?_⟩
    exact H1 (by omega) h4 A c (extOwn ((e1.trans e2).trans e3) f4 (fun k hk => by omega)) r (fun k hk => by have := hA k hk; omega)
def cntT (s : Sp) : Int × Int := if s.lo ≤ s.hi then ((ofS s).length, 0) else (0, 30)
theorem Count_s (s : Sp) (ok : Ok s) {h : Hp} {K : Value → Hp → Prop} (H : ∀ h', Ext h h' → K (.tuple #[.int .i64 (cntT s).1, .int .i64 (cntT s).2]) h') : CallsH Tryz.prog 29 #[s.val] h K := by
  refine expand_Count_ok _ _ ?_
  unfold expand_Count
  refine newC_i (cs := s.enc) fun h1 e1 c1 b1 z1 => ⟨_, _, ldS c1 (by kernel_rfl), Of_s s ok (fun g h2 e2 => ⟨_, _, _, _, rfl, ?_⟩) (fun g h2 A c e2 r2 F2 => ⟨_, _, _, _, rfl, ?_⟩)⟩
  · have := H h2 (e1.trans e2)
    rw [cntT, if_neg (by omega)] at this; exact this
  · have := H h2 (e1.trans e2)
    rw [cntT, if_pos g] at this; exact this
theorem ofS_len (s : Sp) (ok : Ok s) : (ofS s).length ≤ 30 := by
  obtain ⟨k1, k2, k3, k4⟩ := ok
  by_cases g : s.lo ≤ s.hi
  · exact (of_len s k1 g k4).2
  · unfold ofS
    rw [ofI_past _ _ _ (by omega)]
    simp
end Go.Proofs.YtgahbkbmolfpnaaGreat.Fs
