/- expand: size, Check, Span, Has, Of, Count, Back, Least. -/
import Derived.Test.YtaacfhekjklipaaSpUnion
import Derived.Test.YtaacfhekjklipaaSpChain
import Derived.Test.YtaacfhekjklipaaSxFunc
namespace Go.Proofs.Ytaacfhekjklipaa.Fs
open Go Go.RowKit Go.Proofs.Ytaacfhekjklipaa.Sx Go.Proofs.Ytaacfhekjklipaa.Sp
set_option linter.unusedVariables false
set_option linter.unusedSimpArgs false
set_option maxRecDepth 10000
abbrev RowT (h : Hp) (A : Option Addr) (c : Nat) (l : List St) : Prop := RowC h 49 St.enc 2 A c l
theorem size_st : (Try.prog.info? 49).map (·.size) = some 2 := by kernel_rfl
theorem und_sts : Try.prog.underlying 34 = some (.slice 49) := by kernel_rfl
theorem info_st : ∃ i z, Try.prog.info? 49 = some i ∧ i.size = 2 ∧ i.bytes = 16 ∧ i.zero = some z ∧ z.cells = (St.enc ⟨0, 0⟩).toArray := ⟨_, _, rfl, rfl, rfl, rfl, rfl⟩
/-- A stem as the machine can hold it. -/
def OkT (t : St) : Prop := 0 ≤ t.bits ∧ t.bits ≤ 65535
theorem sz_shl {n : Int} (h0 : 0 ≤ n) (h1 : n ≤ 16) : IntKind.i64.wrap (1 * 2 ^ min (16 - n).toNat 64) = sz n := by
  have e : min (16 - n).toNat 64 = (16 - n).toNat := by omega
  rw [e, Int.one_mul]
  have := sz_max h0
  have := sz_pos n
  unfold sz at *
  exact wrap_in (by omega) (by omega)
theorem size_s {n : Int} (h0 : 0 ≤ n) (h1 : n ≤ 16) {h : Hp} {K : Value → Hp → Prop} (H : K (.int .i64 (sz n)) h) : CallsH Try.prog 54 #[.int .i64 n] h K := by
  refine expand_size_ok _ ?_
  unfold expand_size
  rw [wrap_in (n := 16 - n) (by omega) (by omega)]
  refine ⟨_, shl64i 1 (16 - n) (by omega), ?_⟩
  rw [sz_shl h0 h1]
  exact H
def goodT (t : St) : Prop := 0 ≤ t.len ∧ t.len ≤ 16 ∧ t.bits % sz t.len = 0
instance (t : St) : Decidable (goodT t) := by unfold goodT; infer_instance
def chkT (t : St) : Int := if goodT t then 0 else 50
theorem tmod_nn {x y : Int} (h : 0 ≤ x) : Int.tmod x y = x % y := Int.tmod_eq_emod_of_nonneg h
theorem Check_s (t : St) (ok : OkT t) {h : Hp} {K : Value → Hp → Prop} (H : ∀ h', Ext h h' → K (.int .i64 (chkT t)) h') : CallsH Try.prog 37 #[t.val] h K := by
  refine expand_Check_ok _ _ ?_
  unfold expand_Check
  obtain ⟨k1, k2⟩ := ok
  refine newC_i (cs := t.enc) fun h1 e1 c1 b1 z1 => ⟨_, ld (c1.at_ 1 _ rfl) (by kernel_rfl), br_i (fun p => ?_) (fun p => ?_)⟩
  · have := H h1 e1
    rw [chkT, if_neg (fun g => by have := g.1; simp at p; omega)] at this; exact this
  · refine ⟨_, ld (c1.at_ 1 _ rfl) (by kernel_rfl), br_i (fun q => ?_) (fun q => ?_)⟩
    · have := H h1 e1
      rw [chkT, if_neg (fun g => by have := g.2.1; simp at q; omega)] at this; exact this
    · have hp : 0 ≤ t.len := by simpa using p
      have hq : t.len ≤ 16 := by simpa using q
      refine ⟨_, ld c1.head (by kernel_rfl), _, ld (c1.at_ 1 _ rfl) (by kernel_rfl), size_s hp hq ⟨_, rfl, ld c1.head (by kernel_rfl), ?_⟩⟩
      rw [wrap_in (n := t.bits) (by omega) (by omega)]
      have := sz_pos t.len
      refine ⟨_, rem64 _ _ (by omega), ?_⟩
      rw [tmod_nn k1]
      refine br_i (fun r => ?_) (fun r => ?_)
      · have := H h1 e1
        rw [chkT, if_neg (fun g => by have := g.2.2; simp at r; omega)] at this; exact this
      · have := H h1 e1
        rw [chkT, if_pos ⟨hp, hq, by simpa using r⟩] at this; exact this
def spT (t : St) : Sp × Int := if goodT t then (spanOf t, 0) else (⟨0, 0⟩, 50)
theorem goodT.fits {t : St} (g : goodT t) (ok : OkT t) : t.bits + sz t.len ≤ 65536 := by
  obtain ⟨g1, g2, g3⟩ := g
  have := dvle (d := sz t.len) (x := t.bits) (y := 65536) (Int.dvd_of_emod_eq_zero g3) (by rw [← sz0]; exact sz_dvd g1) (by have := ok.2; omega)
  exact this
theorem goodT.ok {t : St} (g : goodT t) (ok : OkT t) : Ok (spanOf t) := by
  have := g.fits ok
  have := sz_pos t.len
  obtain ⟨k1, k2⟩ := ok
  unfold Ok spanOf
  dsimp only
  omega
theorem Span_s (t : St) (ok : OkT t) {h : Hp} {K : Value → Hp → Prop} (H : ∀ h', Ext h h' → K (.tuple #[(spT t).1.val, .int .i64 (spT t).2]) h') : CallsH Try.prog 35 #[t.val] h K := by
  refine expand_Span_ok _ _ ?_
  unfold expand_Span
  obtain ⟨k1, k2⟩ := id ok
  refine newC_i (cs := t.enc) fun h1 e1 c1 b1 z1 => newC_i (cs := Sp.enc ⟨0, 0⟩) fun h2 e2 c2 b2 z2 => ?_
  refine ⟨_, _, ldS (c1.ext e2) (by kernel_rfl), Check_s t ok fun h3 e3 => ⟨_, rfl, ?_⟩⟩
  have fin : ∀ (s : Sp) (o : Int), spT t = (s, o) → HU Try.prog (Instr.storeAt 24 (.pointer (some ⟨h1.size, 0, none⟩)) (.agg #[.int .u16 s.lo, .int .u16 s.hi])) h3 fun hy =>
      ∃ x26 : Int, ∃ x27 : Int, HV Try.prog (Instr.loadAt 24 (.pointer (some ⟨h1.size, 0, none⟩))) hy (.agg #[(.int .u16 x26), (.int .u16 x27)]) ∧ K (.tuple #[(.agg #[(.int .u16 x26), (.int .u16 x27)]), (.int .i64 o)]) hy := by
    intro s o hm
    refine HU_box (us := s.enc) (cs := Sp.enc ⟨0, 0⟩) (e3.f0.get b2 (fun h => h)) rfl rfl size_sp rfl fun h8 c8 b8 f8 z8 => ⟨_, _, ldS c8 (by kernel_rfl), ?_⟩
    have := H h8 (extOwn ((e1.trans e2).trans e3) f8 (fun k hk => by have := e1.size; omega))
    rw [hm] at this
    exact this
  by_cases g : goodT t
  · have hc : chkT t = 0 := by rw [chkT, if_pos g]
    rw [hc]
    have hf := g.fits ok
    obtain ⟨g1, g2, g3⟩ := id g
    have hpos := sz_pos t.len
    have hmax := sz_max g1
    have c3 := (c1.ext e2).ext e3
    refine br_f rfl ⟨_, ld c3.head (by kernel_rfl), _, ld c3.head (by kernel_rfl), _, ld (c3.at_ 1 _ rfl) (by kernel_rfl), size_s g1 g2 ⟨_, rfl, ld c3.head (by kernel_rfl), ld c3.head (by kernel_rfl), ?_⟩⟩
    rw [wrap_in (n := sz t.len - 1) (by omega) (by omega), w16 (x := sz t.len - 1) (by omega) (by omega), w16 (x := t.bits + (sz t.len - 1)) (by omega) (by omega)]
    have e : t.bits + (sz t.len - 1) = (spanOf t).hi := by unfold spanOf; dsimp only; omega
    rw [e]
    exact fin (spanOf t) 0 (by rw [spT, if_pos g])
  · have hc : chkT t = 50 := by rw [chkT, if_neg g]
    rw [hc]
    exact br_t rfl (fin ⟨0, 0⟩ 50 (by rw [spT, if_neg g]))
def hasT (t : St) (p : Int) : Bool := decide (goodT t) && hasS (spanOf t) p
theorem Has_s (t : St) (ok : OkT t) (p : Int) {h : Hp} {K : Value → Hp → Prop} (H : ∀ h', Ext h h' → K (.bool (hasT t p)) h') : CallsH Try.prog 39 #[t.val, .int .u16 p] h K := by
  refine expand_Has_ok _ _ _ ?_
  unfold expand_Has
  refine newC_i (cs := t.enc) fun h1 e1 c1 b1 z1 => ?_
  refine ⟨_, _, ldS c1 (by kernel_rfl), Span_s t ok fun h2 e2 => ⟨_, _, _, rfl, ?_⟩⟩
  refine newV (us := (spT t).1.enc) rfl rfl size_sp rfl fun h3 e3 c3 b3 z3 => ?_
  have e13 := (e1.trans e2).trans e3
  by_cases g : goodT t
  · have hs : spT t = (spanOf t, 0) := by rw [spT, if_pos g]
    have hh : hasT t p = hasS (spanOf t) p := by rw [hasT, decide_eq_true g, Bool.true_and]
    rw [hs] at c3 ⊢
    refine br_t rfl ⟨_, _, ldS c3 (by kernel_rfl), span_Has_s (spanOf t) p fun h4 e4 => ⟨_, rfl, ?_⟩⟩
    have := H h4 (e13.trans e4)
    rw [hh] at this; exact this
  · have hs : spT t = (⟨0, 0⟩, 50) := by rw [spT, if_neg g]
    have hh : hasT t p = false := by rw [hasT, decide_eq_false g, Bool.false_and]
    rw [hs]
    have := H h3 e13
    rw [hh] at this
    exact br_f rfl this
/-! ### Of -/
theorem app_st {h : Hp} {A : Option Addr} {c cx : Nat} {ax : Addr} {l : List St} {x : St} {K : Value → Hp → Prop} (r : RowT h A c l) (hx : Cl h ax x.enc) (hl : l.length ≤ 1000000)
    (H : ∀ h' g c', RowT h' (some ⟨g, 0, none⟩) c' (l ++ [x]) → (blk A g ∨ h.size ≤ g) → Fr (blk A) h h' → K (.slice (some ⟨g, 0, none⟩) (l.length + 1) c') h') :
    HW Try.prog (Builtin.append_ #[34, 34] 34 #[.slice A l.length c, .slice (some ax) 1 cx]) h K := by
  obtain ⟨i, z, hi, hs, hb, hz, hc⟩ := info_st
  exact HW_append1C (z := z) St.leng St.flat und_sts hi hz (by rw [hc]; rfl) hs (by omega) r.row hx (by rw [hb]; omega) fun h' g c' r' hg f hcc => H h' g c' ⟨r', hcc.elim (fun e => e ▸ r.cap) id⟩ hg f
/-- The box b holds the stems so far, which stand behind it. -/
def Bx (h : Hp) (b : Nat) (l : List St) : Prop := ∃ A c, h[b]? = some (.cells [Value.slice A l.length c].toArray 34 (0, 0)) ∧ RowT h A c l ∧ ∀ k, blk A k → b < k
theorem size_sl : (Try.prog.info? 34).map (·.size) = some 1 := by kernel_rfl
theorem Bx.cl {h : Hp} {b : Nat} {A : Option Addr} {c n : Nat} (hb : h[b]? = some (.cells [Value.slice A n c].toArray 34 (0, 0))) : Cl h ⟨b, 0, none⟩ [Value.slice A n c] := Cl.of_block hb fun j v hj => by rw [Nat.zero_add]; exact hj
theorem lay_s {h : Hp} {b : Nat} {l : List St} (q : Bx h b l) {x n : Int} (hx : 0 ≤ x ∧ x ≤ 65535) (hn : 0 ≤ n ∧ n ≤ 16) (hl : l.length ≤ 1000000) {K : Value → Hp → Prop} (H : ∀ h', Bx h' b (l ++ [⟨x, n⟩]) → Fr (fun k => b ≤ k) h h' → K (.int .i64 (x + sz n)) h') :
    CallsH Try.prog 53 #[.int .i64 x, .int .i64 n, .pointer (some ⟨b, 0, none⟩)] h K := by
  refine expand_Of_1_ok _ _ _ ?_
  unfold expand_Of_1
  obtain ⟨A, c, hb, r, hA⟩ := q
  refine ⟨_, _, _, ld (Bx.cl hb).head (by kernel_rfl), ?_⟩
  rw [w16 (x := x) (by omega) (by omega)]
  refine newC_i (cs := St.enc ⟨x, n⟩) fun h1 e1 c1 b1 z1 => ?_
  have hbl := lt_of_get hb
  refine app_st (r.ext e1) c1 hl fun h2 g c2 r2 hg f2 => ⟨_, _, _, rfl, ?_⟩
  have hgb : b < g := by
    rcases hg with hg | hg
    · exact hA g hg
    · have := e1.size; omega
  have hb2 := f2.get (e1.f0.get hb (fun h => h)) (fun hk => by have := hA _ hk; omega)
  refine HU_box (us := [.slice (some ⟨g, 0, none⟩) (l.length + 1) c2]) hb2 rfl rfl size_sl rfl fun h3 c3 b3 f3 z3 => ?_
  refine size_s hn.1 hn.2 ⟨_, rfl, ?_⟩
  have := sz_max hn.1
  have := sz_pos n
  rw [wrap_in (n := x + sz n) (by omega) (by omega)]
  refine H h3 ⟨some ⟨g, 0, none⟩, c2, ?_, r2.keep f3 (fun k hk => ?_), fun k hk => ?_⟩ ?_
  · rw [List.length_append]; exact b3
  · obtain ⟨a, ha, rfl⟩ := hk
    cases ha
    show g ≠ b
    omega
  · obtain ⟨a, ha, rfl⟩ := hk
    cases ha
    exact hgb
  · exact ((e1.fr _).trans (f2.mono fun k hk => by have := hA k hk; omega)).trans (f3.mono fun k hk => by omega)
theorem up_l3 {h : Hp} {a1 a2 : Addr} {v : Value} {s : Sp} (cs : Cl h a1 s.enc) (ok : Ok s) {at_ : Int} (h0 : 0 ≤ at_) (h1 : at_ ≤ s.hi) {K0 : Addr → Addr → Value → Int → Int → Hp → Prop} :
    ∀ (f : Nat) (n : Int), 0 ≤ n → n < f → n ≤ 16 → K0 a1 a2 v at_ (upI at_ s.hi f n) h → expand_Of_l3 a1 a2 v at_ K0 f n h
  | 0, n, g0, g1, _, _ => by omega
  | f + 1, n, g0, g1, g2, H => by
    unfold expand_Of_l3
    unfold upI at H
    obtain ⟨k1, k2, k3, k4⟩ := id ok
    refine br_i (fun p => ?_) (fun p => ?_)
    · rw [if_pos (by simpa using p)] at H; exact H
    · have hn : n ≠ 0 := by simpa using p
      rw [if_neg hn] at H
      rw [wrap_in (n := n - 1) (by omega) (by omega)]
      refine size_s (by omega) (by omega) ⟨_, rfl, ?_⟩
      have hp := sz_pos (n - 1)
      have hm := sz_max (show 0 ≤ n - 1 by omega)
      refine ⟨_, rem64 _ _ (by omega), ?_⟩
      rw [tmod_nn h0]
      refine br_i (fun q => ?_) (fun q => ?_)
      · rw [if_pos (.inl (by simpa using q))] at H; exact H
      · refine size_s (by omega) (by omega) ⟨_, rfl, _, ld (cs.at_ 1 _ rfl) (by kernel_rfl), ld (cs.at_ 1 _ rfl) (by kernel_rfl), ?_⟩
        rw [wrap_in (n := at_ + sz (n - 1)) (by omega) (by omega), wrap_in (n := at_ + sz (n - 1) - 1) (by omega) (by omega), wrap_in (n := s.hi) (by omega) (by omega)]
        refine br_i (fun r => ?_) (fun r => ?_)
        · rw [if_pos (.inr (by simpa using r))] at H; exact H
        · rw [if_neg (by simp at q r; omega)] at H
          exact up_l3 cs ok h0 h1 f (n - 1) (by omega) (by omega) (by omega) H
theorem of_l2 {b : Nat} {a1 : Addr} {s : Sp} (ok : Ok s) (hab : a1.block < b) {K0 : Addr → Hp → Prop} :
    ∀ (f : Nat) (at_ : Int) (h : Hp) (l : List St), Bx h b l → Cl h a1 s.enc → 0 ≤ at_ → at_ ≤ s.hi + 1 → s.hi + 1 - at_ ≤ f → l.length + f ≤ 1000000 → (∀ h', Bx h' b (l ++ ofI s.hi f at_) → Fr (fun k => b ≤ k) h h' → K0 ⟨b, 0, none⟩ h') →
      expand_Of_l2 a1 ⟨b, 0, none⟩ (.func (.func 53) #[] #[.pointer (some ⟨b, 0, none⟩)]) K0 (f + 1) at_ h
  | f, at_, h, l, q, cs, h0, h1, hf, hl, H => by
    unfold expand_Of_l2
    obtain ⟨k1, k2, k3, k4⟩ := id ok
    refine ⟨_, ld (cs.at_ 1 _ rfl) (by kernel_rfl), ?_⟩
    rw [wrap_in (n := s.hi) (by omega) (by omega)]
    refine br_i (fun p => ?_) (fun p => ?_)
    · have hle : at_ ≤ s.hi := by simpa using p
      match f, hf, hl, H with
      | 0, hf, _, _ => omega
      | f + 1, hf, hl, H =>
        unfold ofI at H
        rw [if_pos hle] at H
        refine ⟨17, up_l3 cs ok h0 hle 17 16 (by omega) (by omega) (by omega) ?_⟩
        have u := up_up hle
        revert u H
        show ∀ (H : ∀ h', Bx h' b (l ++ (⟨at_, up at_ s.hi⟩ :: ofI s.hi f (at_ + sz (up at_ s.hi)))) → _ → _) (u : Up at_ s.hi (up at_ s.hi)), HN Try.prog (callS (.func (.func 53) #[] #[.pointer (some ⟨b, 0, none⟩)]) #[(.int .i64 at_), (.int .i64 (up at_ s.hi))]) h _
        generalize up at_ s.hi = m
        intro H u
        have pf := u.fits
        have pm := sz_pos m
        refine callF (by kernel_rfl) ?_
        show CallsH Try.prog 53 #[.int .i64 at_, .int .i64 m, .pointer (some ⟨b, 0, none⟩)] h _
        refine lay_s q ⟨h0, by omega⟩ ⟨u.lo, u.hi16⟩ (by omega) fun h2 q2 f2 => ⟨_, rfl, ?_⟩
        refine of_l2 ok hab f _ h2 _ q2 (f2.cl cs (by omega)) (by omega) (by omega) (by omega) (by simp; omega) fun h3 q3 f3 => H h3 ?_ (f2.trans f3)
        rw [List.append_assoc] at q3
        exact q3
    · have hle : ¬ at_ ≤ s.hi := by simpa using p
      refine H h ?_ (Fr.refl _ _)
      rw [ofI_past _ _ _ (by omega), List.append_nil]
      exact q
theorem Of_s (s : Sp) (ok : Ok s) {h : Hp} {K : Value → Hp → Prop} (H0 : s.lo > s.hi → ∀ h', Ext h h' → K (.tuple #[.slice none 0 0, .int .i64 30]) h')
    (H1 : s.lo ≤ s.hi → ∀ h' A c, Ext h h' → RowT h' A c (ofS s) → Fresh h A → K (.tuple #[.slice A (ofS s).length c, .int .i64 0]) h') : CallsH Try.prog 25 #[s.val] h K := by
  refine expand_Of_ok _ _ ?_
  unfold expand_Of
  obtain ⟨k1, k2, k3, k4⟩ := id ok
  refine newC_i (cs := s.enc) fun h1 e1 c1 b1 z1 => ⟨_, _, ldS c1 (by kernel_rfl), span_Check_s s fun h2 e2 => ⟨_, rfl, ?_⟩⟩
  by_cases g : s.lo > s.hi
  · have hc : checkS s = 30 := by rw [checkS, if_pos g]
    rw [hc]
    exact br_t rfl (H0 g h2 (e1.trans e2))
  · have hc : checkS s = 0 := by rw [checkS, if_neg g]
    rw [hc]
    refine br_f rfl ?_
    refine newC_i (cs := [Value.slice none 0 0]) fun h3 e3 c3 b3 z3 => ⟨_, ld ((c1.ext e2).ext e3).head (by kernel_rfl), 65538, ?_⟩
    rw [wrap_in (n := s.lo) (by omega) (by omega)]
    have s1 := e1.size
    have s2 := e2.size
    refine of_l2 (b := h2.size) ok (by show h.size < _; omega) 65537 s.lo h3 [] ⟨none, 0, b3, RowC.nil, by rintro k ⟨a, ha, _⟩; cases ha⟩ ((c1.ext e2).ext e3) k1 (by omega) (by omega) (by simp) fun h4 q4 f4 => ?_
    rw [List.nil_append] at q4
    obtain ⟨A, c, hb, r, hA⟩ := q4
    refine ⟨_, _, _, ld (Bx.cl hb).head (by kernel_rfl), ?_⟩
    exact H1 (by omega) h4 A c (extOwn ((e1.trans e2).trans e3) f4 (fun k hk => by omega)) r (fun k hk => by have := hA k hk; omega)
def cntT (s : Sp) : Int × Int := if s.lo ≤ s.hi then ((ofS s).length, 0) else (0, 30)
theorem Count_s (s : Sp) (ok : Ok s) {h : Hp} {K : Value → Hp → Prop} (H : ∀ h', Ext h h' → K (.tuple #[.int .i64 (cntT s).1, .int .i64 (cntT s).2]) h') : CallsH Try.prog 24 #[s.val] h K := by
  refine expand_Count_ok _ _ ?_
  unfold expand_Count
  refine newC_i (cs := s.enc) fun h1 e1 c1 b1 z1 => ⟨_, _, ldS c1 (by kernel_rfl), Of_s s ok (fun g h2 e2 => ⟨_, _, _, _, rfl, ?_⟩) (fun g h2 A c e2 r2 F2 => ⟨_, _, _, _, rfl, ?_⟩)⟩
  · have := H h2 (e1.trans e2)
    rw [cntT, if_neg (by omega)] at this; exact this
  · have := H h2 (e1.trans e2)
    rw [cntT, if_pos g] at this; exact this
/-! ### Back, Least -/
def backT (l : List St) : List Sp × Int := if (∀ t ∈ l, goodT t) then (uni (l.map spanOf), 0) else ([], 50)
theorem back_l1 {h0 : Hp} {A0 : Option Addr} {c0 : Nat} {l : List St} (r0 : RSl h0 A0 l.length 2 (l.flatMap St.enc)) (ok : ∀ t ∈ l, OkT t) (hl : l.length ≤ 10000000) {K0 : Option Addr → Nat → Nat → Int → Hp → Prop} {K1 : Option Addr → Nat → Nat → Hp → Prop}
    (H0 : (¬ ∀ t ∈ l, goodT t) → ∀ h', Ext h0 h' → K0 none 0 0 50 h') (H1 : (∀ t ∈ l, goodT t) → ∀ h' A c, Ext h0 h' → RowP h' A c (l.map spanOf) → Fresh h0 A → K1 A (l.map spanOf).length c h') :
    ∀ (k i : Nat) (A : Option Addr) (c : Nat) (h : Hp), Ext h0 h → RowP h A c ((l.take i).map spanOf) → Fresh h0 A → (∀ t ∈ l.take i, goodT t) → l.length - i < k → i ≤ l.length → expand_Back_l1 A0 l.length c0 (l.length : Int) K0 K1 k A ((l.take i).map spanOf).length c i h
  | 0, i, A, c, h, _, _, _, _, hk, _ => by omega
  | k + 1, i, A, c, h, e, r, hF, hg, hk, hi => by
    unfold expand_Back_l1
    refine br_i (fun p => ?_) (fun p => ?_)
    · have hlt : i < l.length := by simpa using p
      obtain ⟨a, _, _, hix, hcl⟩ := ixR (P := Try.prog) (T := 34) (E := 49) (c := c0) (k := .i64) St.leng (r0.ext e) rfl und_sts size_st (List.getElem?_eq_getElem hlt)
      have okt := ok _ (List.getElem_mem hlt)
      have hmem : l[i] ∈ l := List.getElem_mem hlt
      have htk : l.take (i + 1) = l.take i ++ [l[i]] := by rw [List.take_add_one, List.getElem?_eq_getElem hlt]; rfl
      revert hcl okt hmem htk
      generalize l[i] = t
      intro hcl okt hmem htk
      refine ⟨_, hix, _, _, ldS hcl (by kernel_rfl), ?_⟩
      refine newV (us := t.enc) rfl rfl size_st rfl fun h1 e1 c1 b1 z1 => ⟨_, _, ldS c1 (by kernel_rfl), Span_s t okt fun h2 e2 => ⟨_, _, _, rfl, ?_⟩⟩
      refine newV (us := (spT t).1.enc) rfl rfl size_sp rfl fun h3 e3 c3 b3 z3 => ?_
      have e03 := ((e.trans e1).trans e2).trans e3
      by_cases g : goodT t
      · have hs : spT t = (spanOf t, 0) := by rw [spT, if_pos g]
        rw [hs] at c3 ⊢
        refine br_f rfl ⟨_, _, ldS c3 (by kernel_rfl), newC_i (cs := (spanOf t).enc) fun h4 e4 c4 b4 z4 => ?_⟩
        have r4 := (((r.ext e1).ext e2).ext e3).ext e4
        refine app_spF (e03.trans e4) r4 hF c4 (by simp; omega) ?_
        intro h5 A5 c5 e5 r5 F5 f5
        refine ⟨_, _, _, rfl, ?_⟩
        have he : (l.take i).map spanOf ++ [spanOf t] = (l.take (i + 1)).map spanOf := by rw [htk]; simp
        rw [he] at r5 ⊢
        have w : IntKind.i64.wrap ((i : Int) + 1) = ((i + 1 : Nat) : Int) := by rw [wrap_in (by omega) (by omega)]; omega
        rw [w]
        refine back_l1 r0 ok hl H0 H1 k (i + 1) A5 c5 h5 e5 r5 F5 (fun u hu => ?_) (by omega) (by omega)
        rw [htk] at hu
        rcases List.mem_append.1 hu with hu | hu
        · exact hg u hu
        · simp at hu; subst hu; exact g
      · have hs : spT t = (⟨0, 0⟩, 50) := by rw [spT, if_neg g]
        rw [hs]
        exact br_t rfl (H0 (fun hh => g (hh t hmem)) h3 e03)
    · have hi' : i = l.length := by simp at p; omega
      rw [hi', List.take_length] at r hg ⊢
      exact H1 hg h A c e r hF
theorem Back_s {h : Hp} {A : Option Addr} {c : Nat} {l : List St} (rs : RSl h A l.length 2 (l.flatMap St.enc)) (ok : ∀ t ∈ l, OkT t) (hl : l.length ≤ 4194304) {K : Value → Hp → Prop}
    (H : ∀ h' A' c', Ext h h' → RowP h' A' c' (backT l).1 → Fresh h A' → K (.tuple #[.slice A' (backT l).1.length c', .int .i64 (backT l).2]) h') : CallsH Try.prog 31 #[.slice A l.length c] h K := by
  refine expand_Back_ok _ _ _ ?_
  unfold expand_Back
  obtain ⟨i, z, hi, hs, hb, hz, hc⟩ := info_sp
  refine HW_make (n := 0) (c := (l.length : Int)) und_sps hi hz (by rw [hc, hs]; rfl) (by omega) (by omega) (by omega) (by rw [hb]; omega) (by omega) fun h1 he1 hO => ⟨_, _, _, rfl, l.length + 1, ?_⟩
  have e1 : Ext h h1 := he1 ▸ Ext.push _ _
  have r1 : RowP h1 (some ⟨h.size, 0, none⟩) l.length ((l.take 0).map spanOf) := by
    refine ⟨?_, by omega⟩
    unfold Row
    rw [hs] at hO
    simpa using hO
  have gen : (¬ ∀ t ∈ l, goodT t) → ∀ h', Ext h h' → K (.tuple #[.slice none 0 0, .int .i64 50]) h' := by
    intro g h' e'
    have := H h' none 0 e'
    rw [backT, if_neg g] at this
    exact this (RowP.nil _) (Fresh.none _)
  have := back_l1 (K0 := fun A l c x h => K (.tuple #[.slice A l c, .int .i64 x]) h) (c0 := c) rs ok (by omega) gen (K1 := fun A61 l61 c61 h62 => CallsH Try.prog 19 #[(.slice A61 l61 c61)] h62 fun r64 h63 => ∃ A65 : Option Addr, ∃ l65 : Nat, ∃ c65 : Nat, r64 = (.slice A65 l65 c65) ∧ K (.tuple #[(.slice A65 l65 c65), (.int .i64 0)]) h63)
    (fun g h2 A2 c2 e2 r2 F2 => by
      refine span_Union_s r2.read (fun s hs => ?_) (by simp; omega) fun h3 A3 c3 e3 r3 F3 => ⟨_, _, _, rfl, ?_⟩
      · obtain ⟨t, ht, rfl⟩ := List.mem_map.1 hs
        exact (g t ht).ok (ok t ht)
      · have := H h3 A3 c3 (e2.trans e3)
        rw [backT, if_pos g] at this
        exact this r3 (F3.sub e2)) (l.length + 1) 0 _ _ h1 e1 r1 (Fresh.some (Nat.le_refl _)) (by simp) (by omega) (by omega)
  simpa using this
def leastT (l : List St) : List St × Int := ((backT l).1.flatMap ofS, (backT l).2)
theorem ofS_len (s : Sp) (ok : Ok s) : (ofS s).length ≤ 30 := by
  obtain ⟨k1, k2, k3, k4⟩ := ok
  by_cases g : s.lo ≤ s.hi
  · exact (of_len s k1 g k4).2
  · unfold ofS
    rw [ofI_past _ _ _ (by omega)]
    simp
theorem flat_ofS_len : ∀ (l : List Sp), (∀ s ∈ l, Ok s) → (l.flatMap ofS).length ≤ 30 * l.length
  | [], _ => by simp
  | s :: l, h => by
    have h1 := ofS_len s (h s (by simp))
    have h2 := flat_ofS_len l (fun x hx => h x (List.mem_cons_of_mem _ hx))
    simp only [List.flatMap_cons, List.length_append, List.length_cons]
    omega
theorem least_l1 {h0 : Hp} {A0 : Option Addr} {c0 : Nat} {l : List Sp} (r0 : RowP h0 A0 c0 l) (ok : ∀ s ∈ l, Ok s ∧ s.lo ≤ s.hi) (hl : l.length ≤ 10000000) (x : Int) {K0 : Int → Option Addr → Nat → Nat → Hp → Prop}
    (H : ∀ h' A c, Ext h0 h' → RowT h' A c (l.flatMap ofS) → Fresh h0 A → K0 x A (l.flatMap ofS).length c h') :
    ∀ (k i : Nat) (A : Option Addr) (c : Nat) (h : Hp), Ext h0 h → RowT h A c ((l.take i).flatMap ofS) → Fresh h0 A → l.length - i < k → i ≤ l.length → expand_Least_l1 x A0 l.length c0 (l.length : Int) K0 k A ((l.take i).flatMap ofS).length c i h
  | 0, i, A, c, h, _, _, _, hk, _ => by omega
  | k + 1, i, A, c, h, e, r, hF, hk, hi => by
    unfold expand_Least_l1
    refine br_i (fun p => ?_) (fun p => ?_)
    · have hlt : i < l.length := by simpa using p
      obtain ⟨a, _, _, hix, hcl⟩ := ixR (P := Try.prog) (T := 25) (E := 24) (c := c0) (k := .i64) Sp.len (r0.read.ext e) rfl und_sps size_sp (List.getElem?_eq_getElem hlt)
      have okt := ok _ (List.getElem_mem hlt)
      have htk : l.take (i + 1) = l.take i ++ [l[i]] := by rw [List.take_add_one, List.getElem?_eq_getElem hlt]; rfl
      have hfl := flat_ofS_len (l.take i) (fun s hs => (ok s (List.mem_of_mem_take hs)).1)
      have htl : (l.take i).length = i := by simp; omega
      revert hcl okt htk
      generalize l[i] = s
      intro hcl okt htk
      have hsl := ofS_len s okt.1
      refine ⟨_, hix, _, _, ldS hcl (by kernel_rfl), ?_⟩
      refine newV (us := s.enc) rfl rfl size_sp rfl fun h1 e1 c1 b1 z1 => ⟨_, _, ldS c1 (by kernel_rfl), Of_s s okt.1 (fun g => by have := okt.2; omega) fun g h2 A2 c2 e2 r2 F2 => ⟨_, _, _, _, rfl, ?_⟩⟩
      obtain ⟨ti, z, hti, hs, hb, hz, hc⟩ := info_st
      have r2' := (r.ext e1).ext e2
      refine appRow St.leng St.flat und_sts hti hz (by rw [hc]; rfl) hs (by omega) (by omega) ((e.trans e1).trans e2) r2' hF r2 (by omega) ?_
      intro h3 A3 c3 e3 r3 F3 f3
      refine ⟨_, _, _, rfl, ?_⟩
      have he : (l.take i).flatMap ofS ++ ofS s = (l.take (i + 1)).flatMap ofS := by rw [htk]; simp
      rw [he] at r3 ⊢
      have w : IntKind.i64.wrap ((i : Int) + 1) = ((i + 1 : Nat) : Int) := by rw [wrap_in (by omega) (by omega)]; omega
      rw [w]
      exact least_l1 r0 ok hl x H k (i + 1) A3 c3 h3 e3 r3 F3 (by omega) (by omega)
    · have hi' : i = l.length := by simp at p; omega
      rw [hi', List.take_length] at r ⊢
      exact H h A c e r hF
theorem back_ok {l : List St} (ok : ∀ t ∈ l, OkT t) : Nm 0 (backT l).1 := by
  unfold backT
  split
  · rename_i g
    refine uni_nm _ fun s hs => ?_
    obtain ⟨t, ht, rfl⟩ := List.mem_map.1 hs
    exact (g t ht).ok (ok t ht)
  · trivial
theorem back_len (l : List St) : (backT l).1.length ≤ l.length := by
  unfold backT
  split
  · have := uni_len (l.map spanOf); simpa using this
  · simp
theorem Least_s {h : Hp} {A : Option Addr} {c : Nat} {l : List St} (rs : RSl h A l.length 2 (l.flatMap St.enc)) (ok : ∀ t ∈ l, OkT t) (hl : l.length ≤ 4194304) {K : Value → Hp → Prop}
    (H : ∀ h' A' c', Ext h h' → RowT h' A' c' (leastT l).1 → Fresh h A' → K (.tuple #[.slice A' (leastT l).1.length c', .int .i64 (leastT l).2]) h') : CallsH Try.prog 34 #[.slice A l.length c] h K := by
  refine expand_Least_ok _ _ _ ?_
  unfold expand_Least
  have bn := back_ok ok
  have bl := back_len l
  refine Back_s rs ok hl fun h1 A1 c1 e1 r1 F1 => ⟨_, _, _, _, rfl, (backT l).1.length + 1, ?_⟩
  exact least_l1 r1 (fun s hs => ⟨Nm.ok (Int.le_refl 0) bn s hs, nm_mem bn s hs⟩) (by omega) _ (K0 := fun x A l c h => K (.tuple #[.slice A l c, .int .i64 x]) h) (fun h2 A2 c2 e2 r2 F2 => H h2 A2 c2 (e1.trans e2) r2 (F2.sub e1)) _ 0 none 0 h1 (Ext.refl _) RowC.nil (Fresh.none _) (by omega) (by omega)
end Go.Proofs.Ytaacfhekjklipaa.Fs
