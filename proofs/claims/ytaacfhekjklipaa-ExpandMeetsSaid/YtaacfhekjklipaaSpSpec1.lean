/- The small functions of span. -/
import Derived.Test.YtaacfhekjklipaaFsA
import Derived.Test.YtaacfhekjklipaaSpPure
import Derived.Test.YtaacfhekjklipaaSxPart
namespace Go.Proofs.Ytaacfhekjklipaa.Fs
open Go Go.RowKit Go.Proofs.Ytaacfhekjklipaa.Sx Go.Proofs.Ytaacfhekjklipaa.Sp
set_option linter.unusedVariables false
set_option linter.unusedSimpArgs false
set_option maxRecDepth 10000
def mn (a b : Int) : Int := if b < a then b else a
theorem max16 (x y : Int) : PV Try.prog (Builtin.max_ #[22, 22] 22 #[.int .u16 x, .int .u16 y]) (.int .u16 (mx x y)) := by
  intro w
  simp [Builtin.max_, Builtin.max2, go_sem, mx]
theorem min16 (x y : Int) : PV Try.prog (Builtin.min_ #[22, 22] 22 #[.int .u16 x, .int .u16 y]) (.int .u16 (mn x y)) := by
  intro w
  simp [Builtin.min_, Builtin.min2, go_sem, mn]
theorem max64 (x y : Int) : PV Try.prog (Builtin.max_ #[3, 3] 3 #[.int .i64 x, .int .i64 y]) (.int .i64 (mx x y)) := by
  intro w
  simp [Builtin.max_, Builtin.max2, go_sem, mx]
abbrev RowP (h : Hp) (A : Option Addr) (c : Nat) (l : List Sp) : Prop := RowC h 24 Sp.enc 2 A c l
theorem RowP.nil (h : Hp) : RowP h none 0 [] := RowC.nil
theorem size_sp : (Try.prog.info? 24).map (·.size) = some 2 := by kernel_rfl
theorem und_sps : Try.prog.underlying 25 = some (.slice 24) := by kernel_rfl
theorem info_sp : ∃ i z, Try.prog.info? 24 = some i ∧ i.size = 2 ∧ i.bytes = 4 ∧ i.zero = some z ∧ z.cells = (Sp.enc ⟨0, 0⟩).toArray := ⟨_, _, rfl, rfl, rfl, rfl, rfl⟩
theorem app_spF {h0 h : Hp} {A : Option Addr} {c cx : Nat} {ax : Addr} {l : List Sp} {x : Sp} {K : Value → Hp → Prop} (e : Ext h0 h) (r : RowP h A c l) (hF : Fresh h0 A) (hx : Cl h ax x.enc) (hl : l.length ≤ 1000000000)
    (H : ∀ h' A' c', Ext h0 h' → RowP h' A' c' (l ++ [x]) → Fresh h0 A' → Fr (blk A) h h' → K (.slice A' (l ++ [x]).length c') h') :
    HW Try.prog (Builtin.append_ #[25, 25] 25 #[.slice A l.length c, .slice (some ax) 1 cx]) h K := by
  obtain ⟨i, z, hi, hs, hb, hz, hc⟩ := info_sp
  exact appF (z := z) Sp.len Sp.flat und_sps hi hz (by rw [hc]; rfl) hs (by omega) (by omega) e r hF hx hl H
theorem span_may_s (s : Sp) {h : Hp} {K : Value → Hp → Prop} (H : ∀ h', Ext h h' → K (.bool (decide (s.lo ≤ s.hi))) h') : CallsH Try.prog 45 #[s.val] h K := by
  refine span_may_ok _ _ ?_
  unfold span_may
  refine newC_i fun h1 e1 c1 b1 z1 => ?_
  exact ⟨_, ld c1.head (by kernel_rfl), _, ld (c1.at_ 1 _ rfl) (by kernel_rfl), H _ e1⟩
def hasS (s : Sp) (p : Int) : Bool := decide (s.lo ≤ p) && decide (p ≤ s.hi)
theorem span_Has_s (s : Sp) (p : Int) {h : Hp} {K : Value → Hp → Prop} (H : ∀ h', Ext h h' → K (.bool (hasS s p)) h') : CallsH Try.prog 43 #[s.val, .int .u16 p] h K := by
  refine span_Has_ok _ _ _ ?_
  unfold span_Has
  refine newC_i fun h1 e1 c1 b1 z1 => ?_
  refine ⟨_, ld c1.head (by kernel_rfl), br_i (fun c => ⟨_, ld (c1.at_ 1 _ rfl) (by kernel_rfl), ?_⟩) (fun c => ?_)⟩
  · have e : hasS s p = decide (p ≤ s.hi) := by unfold hasS; rw [show decide (s.lo ≤ p) = true from c]; rfl
    have := H _ e1; rw [e] at this; exact this
  · have e : hasS s p = false := by unfold hasS; rw [show decide (s.lo ≤ p) = false from c]; rfl
    have := H _ e1; rw [e] at this; exact this
def cntS (s : Sp) : Int := mx 0 (s.hi - s.lo + 1)
theorem span_Count_s (s : Sp) (ok : Ok s) {h : Hp} {K : Value → Hp → Prop} (H : ∀ h', Ext h h' → K (.int .i64 (cntS s)) h') : CallsH Try.prog 41 #[s.val] h K := by
  refine span_Count_ok _ _ ?_
  unfold span_Count
  obtain ⟨k1, k2, k3, k4⟩ := ok
  refine newC_i fun h1 e1 c1 b1 z1 => ?_
  refine ⟨_, ld (c1.at_ 1 _ rfl) (by kernel_rfl), _, ld c1.head (by kernel_rfl), ?_⟩
  rw [wrap_in (n := s.hi) (by omega) (by omega), wrap_in (n := s.lo) (by omega) (by omega), wrap_in (n := s.hi - s.lo) (by omega) (by omega), wrap_in (by omega) (by omega)]
  exact ⟨_, max64 _ _, H _ e1⟩
def withinS (a b : Sp) : Bool := decide (a.lo ≤ a.hi) && decide (b.lo ≤ b.hi) && hasS b a.lo && hasS b a.hi
theorem span_Within_s (a b : Sp) {h : Hp} {K : Value → Hp → Prop} (H : ∀ h', Ext h h' → K (.bool (withinS a b)) h') : CallsH Try.prog 42 #[a.val, b.val] h K := by
  refine span_Within_ok _ _ _ _ ?_
  unfold span_Within
  refine newC_i (cs := a.enc) fun h1 e1 c1 b1 z1 => newC_i (cs := b.enc) fun h2 e2 c2 b2 z2 => ?_
  refine ⟨_, _, ldS (c1.ext e2) (by kernel_rfl), span_may_s a fun h3 e3 => ⟨_, rfl, br_i (fun p1 => ?_) (fun p1 => ?_)⟩⟩
  · refine ⟨_, _, ldS (c2.ext e3) (by kernel_rfl), span_may_s b fun h4 e4 => ⟨_, rfl, br_i (fun p2 => ?_) (fun p2 => ?_)⟩⟩
    · refine ⟨_, _, ldS ((c2.ext e3).ext e4) (by kernel_rfl), _, ld (((c1.ext e2).ext e3).ext e4).head (by kernel_rfl), span_Has_s b a.lo fun h5 e5 => ⟨_, rfl, br_i (fun p3 => ?_) (fun p3 => ?_)⟩⟩
      · refine ⟨_, _, ldS (((c2.ext e3).ext e4).ext e5) (by kernel_rfl), _, ld ((((c1.ext e2).ext e3).ext e4).ext e5 |>.at_ 1 _ rfl) (by kernel_rfl), span_Has_s b a.hi fun h6 e6 => ⟨_, rfl, ?_⟩⟩
        have := H h6 (((((e1.trans e2).trans e3).trans e4).trans e5).trans e6)
        unfold withinS at this; rw [p1, p2, p3] at this; simpa using this
      · have := H h5 ((((e1.trans e2).trans e3).trans e4).trans e5)
        unfold withinS at this; rw [p1, p2, p3] at this; simpa using this
    · have := H h4 (((e1.trans e2).trans e3).trans e4)
      unfold withinS at this; rw [p1, p2] at this; simpa using this
  · have := H h3 ((e1.trans e2).trans e3)
    unfold withinS at this; rw [p1] at this; simpa using this
def meetS (a b : Sp) : Sp × Bool := if a.lo ≤ a.hi ∧ b.lo ≤ b.hi ∧ mx a.lo b.lo ≤ mn a.hi b.hi then (⟨mx a.lo b.lo, mn a.hi b.hi⟩, true) else (⟨0, 0⟩, false)
theorem span_Meet_s (a b : Sp) {h : Hp} {K : Value → Hp → Prop} (H : ∀ h', Ext h h' → K (.tuple #[(meetS a b).1.val, .bool (meetS a b).2]) h') : CallsH Try.prog 44 #[a.val, b.val] h K := by
  refine span_Meet_ok _ _ _ _ ?_
  unfold span_Meet
  refine newC_i (cs := a.enc) fun h1 e1 c1 b1 z1 => newC_i (cs := b.enc) fun h2 e2 c2 b2 z2 => newC_i (cs := Sp.enc ⟨0, 0⟩) fun h3 e3 c3 b3 z3 => ?_
  have A3 := (c1.ext e2).ext e3
  have B3 := c2.ext e3
  refine ⟨_, ld A3.head (by kernel_rfl), _, ld B3.head (by kernel_rfl), _, max16 _ _, _, ld (A3.at_ 1 _ rfl) (by kernel_rfl), _, ld (B3.at_ 1 _ rfl) (by kernel_rfl), _, min16 _ _, ?_⟩
  refine newV (us := Sp.enc ⟨mx a.lo b.lo, mn a.hi b.hi⟩) rfl rfl size_sp rfl fun h4 e4 c4 b4 z4 => ?_
  refine ⟨_, _, ldS (A3.ext e4) (by kernel_rfl), span_may_s a fun h5 e5 => ⟨_, rfl, ?_⟩⟩
  have e03 := (e1.trans e2).trans e3
  have fN := fun (x y : Hp) (e : Ext x y) => e.fr (fun _ => False)
  have fin : ∀ (hx : Hp) (ex : Ext h3 hx) (s : Sp) (o : Bool), meetS a b = (s, o) → HU Try.prog (Instr.storeAt 24 (.pointer (some ⟨h2.size, 0, none⟩)) (.agg #[.int .u16 s.lo, .int .u16 s.hi])) hx fun hy =>
      ∃ x26 : Int, ∃ x27 : Int, HV Try.prog (Instr.loadAt 24 (.pointer (some ⟨h2.size, 0, none⟩))) hy (.agg #[(.int .u16 x26), (.int .u16 x27)]) ∧ K (.tuple #[(.agg #[(.int .u16 x26), (.int .u16 x27)]), (.bool o)]) hy := by
    intro hx ex s o hm
    refine HU_box (us := s.enc) (cs := Sp.enc ⟨0, 0⟩) ((fN _ _ ex).get b3 (fun h => h)) rfl rfl size_sp rfl fun h8 c8 b8 f8 z8 => ⟨_, _, ldS c8 (by kernel_rfl), ?_⟩
    have := H h8 (extOwn (e03.trans ex) f8 (fun k hk => by have := (e1.trans e2).size; omega))
    rw [hm] at this
    exact this
  refine br_i (fun p1 => ?_) (fun p1 => ?_)
  · exact fin h5 (e4.trans e5) ⟨0, 0⟩ false (by unfold meetS; rw [if_neg]; simp at p1; omega)
  · refine ⟨_, _, ldS ((B3.ext e4).ext e5) (by kernel_rfl), span_may_s b fun h6 e6 => ⟨_, rfl, br_i (fun p2 => ?_) (fun p2 => ?_)⟩⟩
    · exact fin h6 ((e4.trans e5).trans e6) ⟨0, 0⟩ false (by unfold meetS; rw [if_neg]; simp at p2; omega)
    · refine ⟨_, _, ldS ((c4.ext e5).ext e6) (by kernel_rfl), span_may_s ⟨mx a.lo b.lo, mn a.hi b.hi⟩ fun h7 e7 => ⟨_, rfl, br_i (fun p3 => ?_) (fun p3 => ?_)⟩⟩
      · exact fin h7 (((e4.trans e5).trans e6).trans e7) ⟨0, 0⟩ false (by unfold meetS; rw [if_neg]; simp at p3; omega)
      · refine ⟨_, _, ldS (((c4.ext e5).ext e6).ext e7) (by kernel_rfl), ?_⟩
        exact fin h7 (((e4.trans e5).trans e6).trans e7) ⟨mx a.lo b.lo, mn a.hi b.hi⟩ true (by unfold meetS; rw [if_pos]; simp at p1 p2 p3; omega)
def checkS (s : Sp) : Int := if s.lo > s.hi then 30 else 0
theorem span_Check_s (s : Sp) {h : Hp} {K : Value → Hp → Prop} (H : ∀ h', Ext h h' → K (.int .i64 (checkS s)) h') : CallsH Try.prog 50 #[s.val] h K := by
  refine span_Check_ok _ _ ?_
  unfold span_Check
  refine newC_i fun h1 e1 c1 b1 z1 => ?_
  have := H _ e1
  unfold checkS at this
  refine ⟨_, ld c1.head (by kernel_rfl), _, ld (c1.at_ 1 _ rfl) (by kernel_rfl), br_i (fun p => ?_) (fun p => ?_)⟩
  · rw [if_pos (by simpa using p)] at this; exact this
  · rw [if_neg (by simpa using p)] at this; exact this
theorem eq_sp (a b : Sp) : PV Try.prog (binOp .eql 24 (.agg #[.int .u16 a.lo, .int .u16 a.hi]) (.agg #[.int .u16 b.lo, .int .u16 b.hi])) (.bool (decide (a = b))) := by
  intro w
  rw [run_eql_struct, run_equalIn_struct w 9999 24 _ _ (by kernel_rfl) (by kernel_rfl)]
  obtain ⟨p, q⟩ := a
  obtain ⟨r, s⟩ := b
  simp [go_sem]
  by_cases h0 : p = r <;> by_cases h1 : q = s <;> simp [h0, h1]
theorem ne_sp (a b : Sp) : PV Try.prog (binOp .neq 24 (.agg #[.int .u16 a.lo, .int .u16 a.hi]) (.agg #[.int .u16 b.lo, .int .u16 b.hi])) (.bool (!decide (a = b))) := by
  intro w
  rw [run_neq_struct, run_equalIn_struct w 9999 24 _ _ (by kernel_rfl) (by kernel_rfl)]
  obtain ⟨p, q⟩ := a
  obtain ⟨r, s⟩ := b
  simp [go_sem]
  by_cases h0 : p = r <;> by_cases h1 : q = s <;> simp [h0, h1]
theorem span_Compare_s (a b : Sp) {h : Hp} {K : Value → Hp → Prop} (H : ∀ h', Ext h h' → K (.int .i64 (cmpS a b)) h') : CallsH Try.prog 49 #[a.val, b.val] h K := by
  refine span_Compare_ok _ _ _ _ ?_
  unfold span_Compare
  refine newC_i (cs := a.enc) fun h1 e1 c1 b1 z1 => newC_i (cs := b.enc) fun h2 e2 c2 b2 z2 => ?_
  have A2 := c1.ext e2
  have HH := H h2 (e1.trans e2)
  refine ⟨_, _, ldS A2 (by kernel_rfl), _, _, ldS c2 (by kernel_rfl), _, eq_sp a b, br_i (fun p => ?_) (fun p => ?_)⟩
  · rw [show cmpS a b = 0 by unfold cmpS; rw [if_pos (by simpa using p)]] at HH; exact HH
  · have hne : ¬ a = b := by simpa using p
    refine ⟨_, ld A2.head (by kernel_rfl), _, ld c2.head (by kernel_rfl), br_i (fun p1 => ?_) (fun p1 => ?_)⟩
    · rw [show cmpS a b = -1 by unfold cmpS lt; rw [if_neg hne, if_pos]; simp at p1 ⊢; omega] at HH; exact HH
    · refine ⟨_, ld A2.head (by kernel_rfl), _, ld c2.head (by kernel_rfl), br_i (fun p2 => ?_) (fun p2 => ?_)⟩
      · refine ⟨_, ld (A2.at_ 1 _ rfl) (by kernel_rfl), _, ld (c2.at_ 1 _ rfl) (by kernel_rfl), br_i (fun p3 => ?_) (fun p3 => ?_)⟩
        · rw [show cmpS a b = -1 by unfold cmpS lt; rw [if_neg hne, if_pos]; simp at p1 p2 p3 ⊢; omega] at HH; exact HH
        · rw [show cmpS a b = 1 by unfold cmpS lt; rw [if_neg hne, if_neg]; simp at p1 p2 p3 ⊢; omega] at HH; exact HH
      · rw [show cmpS a b = 1 by unfold cmpS lt; rw [if_neg hne, if_neg]; simp at p1 p2 ⊢; omega] at HH; exact HH
def lessS (a b : Sp) : List Sp := if a.lo ≤ a.hi then (if (meetS a b).2 = true then (if a.lo < (meetS a b).1.lo then [⟨a.lo, (meetS a b).1.lo - 1⟩] else []) ++ (if (meetS a b).1.hi < a.hi then [⟨(meetS a b).1.hi + 1, a.hi⟩] else []) else [a]) else []
theorem w16 {x : Int} (h : 0 ≤ x) (h' : x ≤ 65535) : IntKind.u16.wrap x = x := by simp [IntKind.wrap, IntKind.bits, IntKind.signed]; omega
theorem less_j1 {h0 h : Hp} {a1 a2 : Addr} {a m : Sp} (e : Ext h0 h) (ca : Cl h a1 a.enc) (cm : Cl h a2 m.enc) (ha : a1.block < h0.size) (hm : a2.block < h0.size) {A : Option Addr} {c : Nat} {l : List Sp} (r : RowP h A c l) (hF : Fresh h0 A) (hl : l.length ≤ 2) (oka : Ok a) (okm : Ok m) {K0 : Option Addr → Nat → Nat → Hp → Prop}
    (H : ∀ h' A' c', Ext h0 h' → RowP h' A' c' (l ++ (if m.hi < a.hi then ([⟨m.hi + 1, a.hi⟩] : List Sp) else [])) → Fresh h0 A' → K0 A' (l ++ (if m.hi < a.hi then ([⟨m.hi + 1, a.hi⟩] : List Sp) else [])).length c' h') : span_Less_j1 K0 a1 a2 A l.length c h := by
  unfold span_Less_j1
  obtain ⟨k1, k2, k3, k4⟩ := oka
  obtain ⟨j1, j2, j3, j4⟩ := okm
  refine ⟨_, ld (cm.at_ 1 _ rfl) (by kernel_rfl), _, ld (ca.at_ 1 _ rfl) (by kernel_rfl), br_i (fun p => ?_) (fun p => ?_)⟩
  · have p' : m.hi < a.hi := by simpa using p
    rw [if_pos p'] at H
    refine ⟨_, ld (cm.at_ 1 _ rfl) (by kernel_rfl), _, ld (ca.at_ 1 _ rfl) (by kernel_rfl), ?_⟩
    rw [w16 (x := m.hi + 1) (by omega) (by omega)]
    refine newC_i (cs := Sp.enc ⟨m.hi + 1, a.hi⟩) fun h1 e1 c1 b1 z1 => ?_
    have r1 : RowP h1 A c l := r.ext e1
    refine app_spF (e.trans e1) r1 hF c1 (by omega) ?_
    intro h2 A2 c2 e2 r2 F2 f2
    exact ⟨_, _, _, rfl, H h2 A2 c2 e2 r2 F2⟩
  · rw [if_neg (by simpa using p), List.append_nil] at H
    exact H h A c e r hF
theorem meet_ok {a b : Sp} (oka : Ok a) (okb : Ok b) : Ok (meetS a b).1 := by
  obtain ⟨k1, k2, k3, k4⟩ := oka
  obtain ⟨j1, j2, j3, j4⟩ := okb
  unfold meetS
  split
  · unfold Ok mx mn; dsimp only; (repeat' split) <;> omega
  · exact ⟨by decide, by decide, by decide, by decide⟩
theorem span_Less_s (a b : Sp) (oka : Ok a) (okb : Ok b) {h : Hp} {K : Value → Hp → Prop} (H : ∀ h' A c, Ext h h' → RowP h' A c (lessS a b) → Fresh h A → K (.slice A (lessS a b).length c) h') : CallsH Try.prog 12 #[a.val, b.val] h K := by
  refine span_Less_ok _ _ _ _ ?_
  unfold span_Less
  refine newC_i (cs := a.enc) fun h1 e1 c1 b1 z1 => newC_i (cs := b.enc) fun h2 e2 c2 b2 z2 => ?_
  have A2 := c1.ext e2
  refine ⟨_, _, ldS A2 (by kernel_rfl), span_may_s a fun h3 e3 => ⟨_, rfl, br_i (fun p => ?_) (fun p => ?_)⟩⟩
  · have e : lessS a b = [] := by unfold lessS; rw [if_neg (by simpa using p)]
    rw [e] at H
    exact H h3 none 0 ((e1.trans e2).trans e3) (RowP.nil _) (Fresh.none _)
  · have p' : a.lo ≤ a.hi := by simpa using p
    refine ⟨_, _, ldS (A2.ext e3) (by kernel_rfl), _, _, ldS (c2.ext e3) (by kernel_rfl), ?_⟩
    refine span_Meet_s a b fun h4 e4 => ⟨_, _, _, rfl, ?_⟩
    refine newV (us := (meetS a b).1.enc) rfl rfl size_sp rfl fun h5 e5 c5 b5 z5 => ?_
    have A5 := ((A2.ext e3).ext e4).ext e5
    have E5 := (((e1.trans e2).trans e3).trans e4).trans e5
    have s1 := e1.size; have s2 := e2.size; have s3 := e3.size; have s4 := e4.size; have s5 := e5.size
    refine br_i (fun q => ?_) (fun q => ?_)
    · have e : lessS a b = [a] := by unfold lessS; rw [if_pos p', if_neg (by simpa using q)]
      rw [e] at H
      refine ⟨_, _, ldS A5 (by kernel_rfl), newC_i (cs := a.enc) fun h6 e6 c6 b6 z6 => ?_⟩
      exact H h6 _ 1 (E5.trans e6) ⟨.inr ⟨h5.size, [], rfl, by simpa using b6, rfl, rfl, Nat.le_refl _⟩, by decide⟩ (Fresh.some (by omega))
    · have q' : (meetS a b).2 = true := by simpa using q
      have e : lessS a b = (if a.lo < (meetS a b).1.lo then [⟨a.lo, (meetS a b).1.lo - 1⟩] else []) ++ (if (meetS a b).1.hi < a.hi then [⟨(meetS a b).1.hi + 1, a.hi⟩] else []) := by unfold lessS; rw [if_pos p', if_pos q']
      rw [e] at H
      have okm := meet_ok oka okb
      have b1' : (⟨h.size, 0, none⟩ : Addr).block < h5.size := by show h.size < _; omega
      have b5' : (⟨h4.size, 0, none⟩ : Addr).block < h5.size := by show h4.size < _; omega
      have sub : ∀ {A : Option Addr}, Fresh h5 A → Fresh h A := fun hF k hk => by have := hF k hk; omega
      refine ⟨_, ld A5.head (by kernel_rfl), _, ld c5.head (by kernel_rfl), br_i (fun t => ?_) (fun t => ?_)⟩
      · rw [if_pos (show a.lo < (meetS a b).1.lo by simpa using t)] at H
        have t' : a.lo < (meetS a b).1.lo := by simpa using t
        obtain ⟨k1, k2, k3, k4⟩ := oka
        obtain ⟨j1, j2, j3, j4⟩ := id okm
        refine ⟨_, ld A5.head (by kernel_rfl), _, ld c5.head (by kernel_rfl), ?_⟩
        rw [w16 (x := (meetS a b).1.lo - 1) (by omega) (by omega)]
        refine newC_i (cs := Sp.enc ⟨a.lo, (meetS a b).1.lo - 1⟩) fun h6 e6 c6 b6 z6 => ?_
        refine app_spF (h0 := h5) (l := []) e6 (RowP.nil _) (Fresh.none _) c6 (by simp) fun h7 A7 c7 e7 r7 F7 f7 => ⟨_, _, _, rfl, ?_⟩
        exact less_j1 (h0 := h5) e7 (A5.ext e7) (c5.ext e7) b1' b5' r7 F7 (by simp) ⟨k1, k2, k3, k4⟩ okm fun h8 A8 c8 e8 r8 F8 => H h8 A8 c8 (E5.trans e8) r8 (sub F8)
      · rw [if_neg (show ¬ a.lo < (meetS a b).1.lo by simpa using t)] at H
        exact less_j1 (h0 := h5) (l := []) (Ext.refl _) A5 c5 b1' b5' (RowP.nil _) (Fresh.none _) (by simp) oka okm fun h8 A8 c8 e8 r8 F8 => H h8 A8 c8 (E5.trans e8) r8 (sub F8)
end Go.Proofs.Ytaacfhekjklipaa.Fs
