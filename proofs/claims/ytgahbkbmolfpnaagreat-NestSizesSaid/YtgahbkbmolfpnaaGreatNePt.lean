/- The document's count of a span's stems (a cut of wip/sp: XSpPorts, XSpHelp, XExRef). -/
import Derived.Test.YtgahbkbmolfpnaaGreatNeSz
import Derived.Test.YtgahbkbmolfpnaaGreatFsD
namespace Go.Proofs.YtgahbkbmolfpnaaGreat.Fs
open Go Go.RowKit Go.Proofs.YtgahbkbmolfpnaaGreat.Sx Go.Proofs.YtgahbkbmolfpnaaGreat.Sp
set_option linter.unusedVariables false
set_option linter.unusedSimpArgs false
set_option maxRecDepth 10000
/-- A set of ports at block b. -/
def PtAt (h : Hp) (b : Nat) (p : Nat → Bool) : Prop := ∃ cs : List Value, h[b]? = some (.cells cs.toArray 102 (0, 0)) ∧ cs.length = 65536 ∧ ∀ j, j < 65536 → cs[j]? = some (.bool (p j))
theorem PtAt.congr {h : Hp} {b : Nat} {p q : Nat → Bool} (hp : PtAt h b p) (e : ∀ j, j < 65536 → p j = q j) : PtAt h b q := by
  obtain ⟨cs, h1, h2, h3⟩ := hp
  exact ⟨cs, h1, h2, fun j hj => by rw [h3 j hj, e j hj]⟩
theorem PtAt.keep {h h' : Hp} {b : Nat} {p : Nat → Bool} {S : Nat → Prop} (q : PtAt h b p) (f : Fr S h h') (hn : ¬ S b) : PtAt h' b p := by
  obtain ⟨cs, h1, h2, h3⟩ := q
  exact ⟨cs, f.get h1 hn, h2, h3⟩
theorem PtAt.ext {h h' : Hp} {b : Nat} {p : Nat → Bool} (q : PtAt h b p) (e : Ext h h') : PtAt h' b p := q.keep e.f0 (fun h => h)
theorem PtAt.lt {h : Hp} {b : Nat} {p : Nat → Bool} (q : PtAt h b p) : b < h.size := by
  obtain ⟨cs, h1, _⟩ := q
  exact lt_of_get h1
theorem zc_ports : zcOf Tryz.prog 102 = Tryz.zeroCells102 := by kernel_rfl
def isF : Value → Bool
  | .bool false => true
  | _ => false
def allF : List Value → Bool
  | [] => true
  | v :: l => match isF v with
    | true => allF l
    | false => false
theorem allF_get : ∀ (l : List Value) (j : Nat), allF l = true → j < l.length → l[j]? = some (.bool false)
  | v :: l, 0, h, _ => by
    unfold allF at h
    cases hv : isF v with
    | false => rw [hv] at h; cases h
    | true =>
      unfold isF at hv
      split at hv
      · rfl
      · cases hv
  | v :: l, j + 1, h, hj => by
    unfold allF at h
    cases hv : isF v with
    | false => rw [hv] at h; cases h
    | true =>
      rw [hv] at h
      rw [List.getElem?_cons_succ]
      exact allF_get l j h (by simpa using hj)
set_option maxRecDepth 1000000 in
theorem zc_all : allF Tryz.zeroCells102.toList = true := by kernel_rfl
theorem newPorts {h : Hp} {K : Addr → Hp → Prop} (H : ∀ h', Ext h h' → PtAt h' h.size (fun _ => false) → h'.size = h.size + 1 → K ⟨h.size, 0, none⟩ h') : newC h (.cells (zcOf Tryz.prog 102) 102 (0, 0)) K := by
  rw [zc_ports]
  have hl : Tryz.zeroCells102.toList.length = 65536 := by rw [Array.length_toList]; exact Tryz.zeroCells102_size
  have ha : ∀ j, j < Tryz.zeroCells102.toList.length → Tryz.zeroCells102.toList[j]? = some (.bool false) := fun j hj => allF_get _ j zc_all hj
  have e : Tryz.zeroCells102 = (Tryz.zeroCells102.toList).toArray := by rw [Array.toArray_toList]
  rw [e]
  revert hl ha
  generalize Tryz.zeroCells102.toList = cs
  intro hl ha
  exact newC_i fun h' e c b z => H h' e ⟨cs, b, hl, fun j hj => ha j (by omega)⟩ z
theorem und_ports : Tryz.prog.underlying 102 = some (.array 65536 4) := by kernel_rfl
theorem ixP {b : Nat} {x : Int} (h0 : 0 ≤ x) (h1 : x < 65536) : PV Tryz.prog (Instr.indexAt 102 (.pointer (some ⟨b, 0, none⟩)) (.int .i64 x)) (.pointer (some ⟨b, x.toNat, none⟩)) := by
  intro w
  obtain ⟨j, hj, hjs⟩ : ∃ j, Tryz.prog.info? 4 = some j ∧ j.size = 1 := ⟨_, rfl, rfl⟩
  have := add_eq0 b x.toNat
  simp [Instr.indexAt, asIntOf, run_underlying und_ports, Instr.sureAddr, h0, h1, sizeOf, typeInfo, hj, hjs, this]
theorem PtAt.cell {h : Hp} {b : Nat} {p : Nat → Bool} (q : PtAt h b p) {j : Nat} (hj : j < 65536) : Sx.cell h ⟨b, j, none⟩ = some (.bool (p j)) := by
  obtain ⟨cs, h1, h2, h3⟩ := q
  rw [cell_of h1]; exact h3 j hj
theorem HU_port {h : Hp} {b : Nat} {p : Nat → Bool} (q : PtAt h b p) {j : Nat} (hj : j < 65536) (v : Bool) {K : Hp → Prop} (H : ∀ h', PtAt h' b (fun k => if k = j then v else p k) → Fr (fun k => k = b) h h' → h'.size = h.size → K h') : HU Tryz.prog (Instr.storeAt 4 (.pointer (some ⟨b, j, none⟩)) (.bool v)) h K := by
  obtain ⟨cs, h1, h2, h3⟩ := q
  refine HU_st (us := [.bool v]) h1 rfl (by kernel_rfl) (by simp; omega) rfl ?_
  refine H _ ⟨_, setB_get (lt_of_get h1), by simp; omega, fun k hk => ?_⟩ (setB_fr rfl) setB_size
  show _ = some (Value.bool (if k = j then v else p k))
  by_cases c : k < j
  · rw [List.append_assoc, List.getElem?_append_left (by simp; omega), List.getElem?_take, if_pos c, if_neg (by omega)]; exact h3 k hk
  · by_cases d : k = j
    · subst d
      have hl : (List.take k cs).length = k := by simp; omega
      rw [List.append_assoc, List.getElem?_append_right (by omega), if_pos rfl, hl, Nat.sub_self]
      rfl
    · have hl : (List.take j cs ++ [Value.bool v]).length = j + 1 := by simp; omega
      rw [List.getElem?_append_right (by omega), List.getElem?_drop, if_neg d, hl]
      have : j + [Value.bool v].length + (k - (j + 1)) = k := by simp; omega
      rw [this]; exact h3 k hk
def inI (a b : Int) (j : Nat) : Bool := decide (a ≤ (j : Int) ∧ (j : Int) ≤ b)
theorem add_l1 {b : Nat} {a : Addr} {s : Sp} (ok : Ok s) (hab : a.block ≠ b) {K0 : Hp → Prop} : ∀ (k : Nat) (x : Int) (p : Nat → Bool) (h : Hp), PtAt h b p → Cl h a s.enc → 0 ≤ x → x ≤ 65536 → (s.hi + 1 - x < k ∧ 0 < k) →
    (∀ h', PtAt h' b (fun j => p j || inI x s.hi j) → Fr (fun k => k = b) h h' → K0 h') → quintetref03_Ports_Add_l1 (some ⟨b, 0, none⟩) a K0 k x h
  | 0, x, p, h, q, cs, x0, x1, hk, H => by
    exfalso; omega
  | k + 1, x, p, h, q, cs, x0, x1, hk, H => by
    obtain ⟨k1, k2, k3, k4⟩ := id ok
    unfold quintetref03_Ports_Add_l1
    refine ⟨_, ld (cs.at_ 1 _ rfl) (by kernel_rfl), ?_⟩
    rw [wrap_in (n := s.hi) (by omega) (by omega)]
    refine br_i (fun c => ?_) (fun c => ?_)
    · have hx : x ≤ s.hi := by simpa using c
      refine ⟨_, ixP x0 (by omega), ?_⟩
      refine HU_port q (by omega) true fun h1 q1 f1 z1 => ?_
      rw [wrap_in (by omega) (by omega)]
      refine add_l1 ok hab k (x + 1) _ h1 q1 (f1.cl cs hab) (by omega) (by omega) (by omega) fun h2 q2 f2 => ?_
      refine H h2 (q2.congr fun j hj => ?_) (f1.trans f2)
      unfold inI
      by_cases d : j = x.toNat
      · subst d
        have : x ≤ ((x.toNat : Nat) : Int) ∧ ((x.toNat : Nat) : Int) ≤ s.hi := by omega
        rw [if_pos rfl, Bool.true_or, decide_eq_true this, Bool.or_true]
      · rw [if_neg d]
        congr 1
        rw [decide_eq_decide]
        omega
    · have hx : ¬ x ≤ s.hi := by simpa using c
      refine H h (q.congr fun j hj => ?_) (Fr.refl _ _)
      have : inI x s.hi j = false := by unfold inI; rw [decide_eq_false_iff_not]; omega
      rw [this, Bool.or_false]
theorem add_s {b : Nat} {p : Nat → Bool} {h : Hp} (q : PtAt h b p) (s : Sp) (ok : Ok s) {K : Value → Hp → Prop} (H : ∀ h', PtAt h' b (fun j => p j || inI s.lo s.hi j) → Fr (fun k => k = b) h h' → K (.tuple #[]) h') : CallsH Tryz.prog 70 #[.pointer (some ⟨b, 0, none⟩), s.val] h K := by
  refine quintetref03_Ports_Add_ok _ _ _ ?_
  unfold quintetref03_Ports_Add
  obtain ⟨k1, k2, k3, k4⟩ := id ok
  refine newC_i (cs := s.enc) fun h1 e1 c1 b1 z1 => ⟨_, ld c1.head (by kernel_rfl), 65538, ?_⟩
  rw [wrap_in (n := s.lo) (by omega) (by omega)]
  have := q.lt
  exact add_l1 ok (by show h.size ≠ b; omega) 65538 s.lo p h1 (q.ext e1) c1 k1 (by omega) (by omega) fun h2 q2 f2 => H h2 q2 ((e1.fr _).trans f2)
/-! ### the runs of a set -/
def anyP (l : List Sp) (j : Nat) : Bool := l.any fun s => inI s.lo s.hi j
theorem inI_iff {a b : Int} {j : Nat} : inI a b j = true ↔ a ≤ (j : Int) ∧ (j : Int) ≤ b := by simp [inI]
theorem anyP_iff (l : List Sp) (j : Nat) : anyP l j = true ↔ inn l j := by
  rw [inn_iff, anyP, List.any_eq_true]
  simp only [inI_iff]
/-! ### counts -/
def cn (p : Nat → Bool) : Nat → Int
  | 0 => 0
  | n + 1 => cn p n + (if p n = true then 1 else 0)
theorem cn_all (p : Nat → Bool) (a : Nat) : ∀ d : Nat, 0 ≤ cn p (a + d) - cn p a ∧ cn p (a + d) - cn p a ≤ d ∧ (cn p (a + d) - cn p a = d ↔ ∀ j, a ≤ j → j < a + d → p j = true) ∧ (cn p (a + d) - cn p a = 0 ↔ ∀ j, a ≤ j → j < a + d → p j = false)
  | 0 => ⟨by simp, by simp, by simp; intro j h1 h2; omega, by simp; intro j h1 h2; omega⟩
  | d + 1 => by
    obtain ⟨h1, h2, h3, h4⟩ := cn_all p a d
    have e : cn p (a + (d + 1)) = cn p (a + d) + (if p (a + d) = true then 1 else 0) := rfl
    rw [e]
    by_cases c : p (a + d) = true
    · rw [if_pos c]
      refine ⟨by omega, by omega, ⟨fun h j j1 j2 => ?_, fun h => ?_⟩, ⟨fun h => by omega, fun h => ?_⟩⟩
      · by_cases cj : j = a + d
        · rw [cj]; exact c
        · exact h3.1 (by omega) j j1 (by omega)
      · have := h3.2 (fun j j1 j2 => h j j1 (by omega)); omega
      · have := h (a + d) (by omega) (by omega); rw [c] at this; cases this
    · rw [if_neg c]
      refine ⟨by omega, by omega, ⟨fun h => by omega, fun h => absurd (h (a + d) (by omega) (by omega)) c⟩, ⟨fun h j j1 j2 => ?_, fun h => ?_⟩⟩
      · by_cases cj : j = a + d
        · rw [cj]; simpa using c
        · exact h4.1 (by omega) j j1 (by omega)
      · have := h4.2 (fun j j1 j2 => h j j1 (by omega)); omega
/-- A set as a predicate. -/
def PP (p : Nat → Bool) (N : Nat) (x : Int) : Prop := ∃ m : Nat, m < N ∧ p m = true ∧ x = m
/-- The counts ahead, up to i. -/
def Ah (h : Hp) (g c : Nat) (p : Nat → Bool) (N i : Nat) : Prop := ∃ xs : List Int, xs.length = N + 1 ∧ RowC h 3 encI 1 (some ⟨g, 0, none⟩) c xs ∧ ∀ j, j ≤ i → xs[j]? = some (cn p j)
theorem Ah.ext {h h' : Hp} {g c : Nat} {p : Nat → Bool} {N i : Nat} (q : Ah h g c p N i) (e : Ext h h') : Ah h' g c p N i := by
  obtain ⟨xs, h1, h2, h3⟩ := q
  exact ⟨xs, h1, h2.ext e, h3⟩
theorem pp_iff {p : Nat → Bool} {N j : Nat} (hj : j < N) : PP p N (j : Int) ↔ p j = true := by
  constructor
  · rintro ⟨m, _, h, e⟩
    have : m = j := by omega
    rwa [this] at h
  · exact fun h => ⟨j, hj, h, rfl⟩
theorem tiled_step {p : Nat → Bool} {N g c : Nat} (hN : N = 65536) (at_ len : Int) (h : Hp) (K : Value → Hp → Prop) (q : Ah h g c p N N) (l0 : 0 ≤ len) (l16 : len ≤ 16) (a0 : 0 ≤ at_) (a1 : at_ + sz len ≤ N) (hd : sz len ∣ at_)
    (hpar : len = 0 ∨ ∃ x, fl at_ (sz (len - 1)) ≤ x ∧ x < fl at_ (sz (len - 1)) + sz (len - 1) ∧ ¬ PP p N x)
    (IH : len < 16 → ∀ (at2 : Int) (h : Hp) (K : Value → Hp → Prop), Ah h g c p N N → 0 ≤ at2 → at2 + sz (len + 1) ≤ N → sz (len + 1) ∣ at2 → (∃ x, fl at2 (sz len) ≤ x ∧ x < fl at2 (sz len) + sz len ∧ ¬ PP p N x) →
      (∀ h' A' c' L, Ext h h' → RowT h' A' c' L → Fresh h A' → Tl (PP p N) at2 (at2 + sz (len + 1)) L → L.length ≤ sz (len + 1) → K (.slice A' L.length c') h') → CallsH Tryz.prog 89 #[.slice (some ⟨g, 0, none⟩) (N + 1) c, .int .i64 at2, .int .i64 (len + 1)] h K)
    (H : ∀ h' A' c' L, Ext h h' → RowT h' A' c' L → Fresh h A' → Tl (PP p N) at_ (at_ + sz len) L → L.length ≤ sz len → K (.slice A' L.length c') h') :
    CallsH Tryz.prog 89 #[.slice (some ⟨g, 0, none⟩) (N + 1) c, .int .i64 at_, .int .i64 len] h K := by
  refine quintetref05_tiled_ok _ _ _ _ _ ?_
  unfold quintetref05_tiled
  rw [wrap_in (n := 16 - len) (by omega) (by omega)]
  refine ⟨_, shl64i 1 (16 - len) (by omega), ?_⟩
  rw [sz_shl l0 l16]
  have hp := sz_pos len
  have hm := sz_max l0
  obtain ⟨a, rfl⟩ := Int.eq_ofNat_of_zero_le a0
  obtain ⟨s, hs⟩ := Int.eq_ofNat_of_zero_le (show 0 ≤ sz len by omega)
  have q0 := q
  obtain ⟨xs, hxl, hr, hx⟩ := q
  have e1 : IntKind.i64.wrap ((a : Int) + sz len) = ((a + s : Nat) : Int) := by rw [wrap_in (by omega) (by omega)]; omega
  rw [e1]
  have c1 := hr.elem0 encI_len (hx (a + s) (by omega))
  have c2 := hr.elem0 encI_len (hx a (by omega))
  refine ⟨_, ixI (by omega), _, ld c1.head (by kernel_rfl), _, ixI (by omega), _, ld c2.head (by kernel_rfl), ?_⟩
  obtain ⟨n1, n2, n3, n4⟩ := cn_all p a s
  rw [wrap_in (n := cn p (a + s) - cn p a) (by omega) (by omega)]
  refine br_i (fun t => ?_) (fun t => ?_)
  · have t' : cn p (a + s) - cn p a = s := by rw [hs] at t; simpa using t
    rw [w16 (x := (a : Int)) (by omega) (by omega)]
    refine newC_i (cs := St.enc ⟨a, len⟩) fun h1 e1 c1 b1 z1 => ?_
    refine H h1 _ 1 [⟨a, len⟩] e1 ⟨.inr ⟨h.size, [], rfl, by simpa using b1, rfl, rfl, Nat.le_refl _⟩, by decide⟩ (Fresh.some (Nat.le_refl _)) ⟨Int.le_refl _, Int.le_refl _, l0, l16, hd, fun x x1 x2 => by dsimp only at x2; omega, fun x x1 x2 => ?_, hpar, fun x x1 x2 => by dsimp only at x1; omega⟩ (by simp; omega)
    dsimp only at x1 x2
    obtain ⟨m, rfl⟩ := Int.eq_ofNat_of_zero_le (show 0 ≤ x by omega)
    exact (pp_iff (by omega)).2 (n3.1 t' m (by omega) (by omega))
  · have t' : cn p (a + s) - cn p a ≠ s := by rw [hs] at t; simpa using t
    refine br_i (fun u => ?_) (fun u => ?_)
    · have u' : cn p (a + s) - cn p a = 0 := by simpa using u
      refine H h none 0 [] (Ext.refl _) RowC.nil (Fresh.none _) (fun x x1 x2 hx => ?_) (by simp; omega)
      obtain ⟨m, rfl⟩ := Int.eq_ofNat_of_zero_le (show 0 ≤ x by omega)
      have h1 := (pp_iff (by omega)).1 hx
      rw [n4.1 u' m (by omega) (by omega)] at h1
      cases h1
    · have u' : cn p (a + s) - cn p a ≠ 0 := by simpa using u
      have h16 : len < 16 := Int.not_le.1 fun hh => by
        have : len = 16 := by omega
        rw [this, sz16] at hs
        omega
      have hh := sz_half (n := len + 1) (by omega) (by omega)
      rw [show len + 1 - 1 = len by omega] at hh
      have hp2 := sz_pos (len + 1)
      have hd2 : sz (len + 1) ∣ sz len := sz_dvd (by omega)
      have hbad : ∃ x, (a : Int) ≤ x ∧ x < (a : Int) + sz len ∧ ¬ PP p N x := by
        refine Classical.byContradiction fun hn => t' (n3.2 fun j j1 j2 => ?_)
        cases hb : p j
        · exfalso
          refine hn ⟨j, by omega, by omega, fun hpp => ?_⟩
          have := (pp_iff (by omega)).1 hpp
          rw [hb] at this
          cases this
        · rfl
      have htd : Int.tdiv (sz len) 2 = sz (len + 1) := by
        rw [Int.tdiv_eq_ediv_of_nonneg (by omega)]; omega
      rw [htd, wrap_in (n := len + 1) (by omega) (by omega), wrap_in (n := sz (len + 1)) (by omega) (by omega), wrap_in (n := (a : Int) + sz (len + 1)) (by omega) (by omega)]
      have f1 : fl (a : Int) (sz len) = a := fl_self hd
      have f2 : fl ((a : Int) + sz (len + 1)) (sz len) = a := fl_uniq hp hd (by omega) (by omega)
      refine IH h16 a h _ q0 (by omega) (by omega) (Int.dvd_trans hd2 hd) (by rw [f1]; exact hbad) fun h1 A1 k1 L1 e1 r1 F1 T1 B1 => ⟨_, _, _, rfl, ?_⟩
      refine IH h16 ((a : Int) + sz (len + 1)) h1 _ (q0.ext e1) (by omega) (by omega) (Int.dvd_add (Int.dvd_trans hd2 hd) (Int.dvd_refl _)) (by rw [f2]; exact hbad) fun h2 A2 k2 L2 e2 r2 F2 T2 B2 => ⟨_, _, _, rfl, ?_⟩
      obtain ⟨ti, z, hti, hts, hb, hz, hc⟩ := info_st
      have r1' := r1.ext e2
      refine appRow St.leng St.flat und_sts hti hz (by rw [hc]; rfl) hts (by omega) (by omega) (e1.trans e2) r1' F1 r2 (by omega) ?_
      intro h3 A3 k3 e3 r3 F3 f3
      have T2' : Tl (PP p N) ((a : Int) + sz (len + 1)) ((a : Int) + sz len) L2 := by rw [show (a : Int) + sz len = (a : Int) + sz (len + 1) + sz (len + 1) by omega]; exact T2
      exact ⟨_, _, _, rfl, H h3 A3 k3 (L1 ++ L2) e3 r3 F3 (tl_app L1 L2 _ _ _ (by omega) (by omega) T1 T2') (by simp; omega)⟩
theorem tiled_s {p : Nat → Bool} {N g c : Nat} (hN : N = 65536) : ∀ (f : Nat) (at_ len : Int) (h : Hp) (K : Value → Hp → Prop), Ah h g c p N N → len = 16 - (f : Int) → 0 ≤ len → 0 ≤ at_ → at_ + sz len ≤ N → sz len ∣ at_ →
    (len = 0 ∨ ∃ x, fl at_ (sz (len - 1)) ≤ x ∧ x < fl at_ (sz (len - 1)) + sz (len - 1) ∧ ¬ PP p N x) →
    (∀ h' A' c' L, Ext h h' → RowT h' A' c' L → Fresh h A' → Tl (PP p N) at_ (at_ + sz len) L → L.length ≤ sz len → K (.slice A' L.length c') h') →
    CallsH Tryz.prog 89 #[.slice (some ⟨g, 0, none⟩) (N + 1) c, .int .i64 at_, .int .i64 len] h K := by
  intro f
  induction f with
  | zero =>
    intro at_ len h K q hlen l0 a0 a1 hd hpar H
    exact tiled_step hN at_ len h K q l0 (by omega) a0 a1 hd hpar (fun hh => by omega) H
  | succ f ih =>
    intro at_ len h K q hlen l0 a0 a1 hd hpar H
    refine tiled_step hN at_ len h K q l0 (by omega) a0 a1 hd hpar (fun hh at2 h2 K2 q2 b0 b1 hd2 hbad H2 => ?_) H
    exact ih at2 (len + 1) h2 K2 q2 (by omega) (by omega) b0 b1 hd2 (.inr (by rw [show len + 1 - 1 = len by omega]; exact hbad)) H2
set_option maxRecDepth 1000000 in
theorem ahead_l1 {N b g c : Nat} (hN : N = 65536) {p : Nat → Bool} {h0 : Hp} (hgb : h0.size ≤ g) (q0 : PtAt h0 b p) {K0 : Option Addr → Nat → Nat → Hp → Prop} (H : ∀ h', Ext h0 h' → Ah h' g c p N N → K0 (some ⟨g, 0, none⟩) (N + 1) c h') :
    ∀ (k i : Nat) (h : Hp), Ext h0 h → Ah h g c p N i → N - i < k → i ≤ N → quintetref05_Tiled_l1 (some ⟨b, 0, none⟩) (some ⟨g, 0, none⟩) (N + 1) c K0 k i h := by
  intro k
  induction k with
  | zero => intro i h _ _ hk _; omega
  | succ k ih =>
    intro i h e q hk hi
    unfold quintetref05_Tiled_l1
    rcases Nat.lt_or_ge i N with hlt | hge
    · have hltz : (i : Int) < 65536 := by omega
      refine br_t (decide_eq_true hltz) ?_
      obtain ⟨xs, hxl, hr, hx⟩ := q
      have wi : IntKind.i64.wrap ((i : Int) + 1) = ((i + 1 : Nat) : Int) := by rw [wrap_in (by omega) (by omega)]; omega
      have c1 := hr.elem0 encI_len (hx i (Nat.le_refl _))
      rw [wi]
      refine ⟨_, ixI (by omega), _, ld c1.head (by kernel_rfl), _, ixI (by omega), ?_⟩
      refine HU_elem (x := cn p i) encI_len encI_flat hr.row (by omega) rfl size_int fun h1 r1 f1 z1 => ?_
      have hb := q0.lt
      have q1 := (q0.ext e).keep f1 (by omega)
      have hxi := ixP (b := b) (x := (i : Int)) (by omega) (by omega)
      rw [Int.toNat_natCast] at hxi
      have E1 := extOwn e f1 (fun k hk => by omega)
      refine ⟨_, hxi, _, ld (q1.cell (j := i) (by omega)) (by kernel_rfl), br_i (fun hp => ?_) (fun hp => ?_)⟩
      · have g1 : (xs.set (i + 1) (cn p i))[i + 1]? = some (cn p i) := by rw [List.getElem?_set_self (by omega)]
        have c2 := (RowC.mk r1 hr.cap).elem0 encI_len g1
        have bnd : 0 ≤ cn p i ∧ cn p i ≤ i := by
          have := cn_all p 0 i
          have e0 : cn p 0 = 0 := rfl
          rw [Nat.zero_add, e0] at this
          omega
        refine ⟨_, ixI (by omega), _, ld c2.head (by kernel_rfl), _, ixI (by omega), ?_⟩
        rw [wrap_in (n := cn p i + 1) (by omega) (by omega)]
        refine HU_elem (x := cn p i + 1) encI_len encI_flat r1 (by simp; omega) rfl size_int fun h2 r2 f2 z2 => ?_
        refine ih (i + 1) h2 (extOwn E1 f2 (fun k hk => by omega)) ⟨_, by simp; omega, ⟨r2, hr.cap⟩, fun j hj => ?_⟩ (by omega) (by omega)
        by_cases cj : j = i + 1
        · rw [cj, List.getElem?_set_self (by simp; omega)]
          have : cn p (i + 1) = cn p i + 1 := by rw [cn, if_pos hp]
          rw [this]
        · rw [List.getElem?_set_ne (by omega), List.getElem?_set_ne (by omega)]
          exact hx j (by omega)
      · refine ih (i + 1) h1 E1 ⟨_, by simp; omega, ⟨r1, hr.cap⟩, fun j hj => ?_⟩ (by omega) (by omega)
        by_cases cj : j = i + 1
        · rw [cj, List.getElem?_set_self (by omega)]
          have : cn p (i + 1) = cn p i := by rw [cn, if_neg (by rw [hp]; decide)]; omega
          rw [this]
        · rw [List.getElem?_set_ne (by omega)]
          exact hx j (by omega)
    · have hltz : ¬ (i : Int) < 65536 := by omega
      refine br_f (decide_eq_false hltz) ?_
      have hi' : i = N := by omega
      rw [hi'] at q
      exact H h e q
theorem Tiled_s {N b : Nat} (hN : N = 65536) {p : Nat → Bool} {h : Hp} (q : PtAt h b p) {L : List St} (hL : Tl (PP p N) 0 N L) {K : Value → Hp → Prop} (H : ∀ h' A' c', Ext h h' → RowT h' A' c' L → Fresh h A' → K (.slice A' L.length c') h') : CallsH Tryz.prog 71 #[.pointer (some ⟨b, 0, none⟩)] h K := by
  refine quintetref05_Tiled_ok _ ?_
  unfold quintetref05_Tiled
  obtain ⟨ti, z, hti, hts, hb, hz, hc⟩ := info_int
  have e65 : (65537 : Int) = ((N + 1 : Nat) : Int) := by omega
  rw [e65]
  refine HW_makeRow (enc := encI) (zr := (0 : Int)) und_ints hti hz hts (by decide) hc encI_len (by rw [hb]; omega) (by omega) fun h1 e1 r1 => ⟨_, _, _, rfl, N + 1, ?_⟩
  refine ahead_l1 hN (Nat.le_refl _) q (fun h2 e2 q2 => ?_) _ 0 h1 e1 ⟨_, by simp, ⟨r1, by omega⟩, fun j hj => ?_⟩ (by omega) (by omega)
  · refine tiled_s hN 16 0 0 h2 _ q2 (by omega) (by omega) (by omega) (by rw [sz0]; omega) ⟨0, by simp⟩ (.inl rfl) fun h3 A3 c3 M e3 r3 F3 T3 B3 => ⟨_, _, _, rfl, ?_⟩
    rw [sz0] at T3
    have : M = L := tl_uniq M L 0 N (by rw [show ((0 : Int) + 65536) = N by omega] at T3; exact T3) hL
    subst this
    exact H h3 A3 c3 (e2.trans e3) r3 (F3.sub e2)
  · have : j = 0 := by omega
    rw [this, List.getElem?_replicate, if_pos (by omega)]
    rfl
theorem pp_any {N : Nat} (hN : N = 65536) {l : List Sp} (ok : ∀ s ∈ l, Ok s) (x : Int) (hx : 0 ≤ x) : PP (anyP l) N x ↔ inn (uni l) x := by
  rw [uni_in]
  constructor
  · rintro ⟨m, _, h, rfl⟩
    exact (anyP_iff l m).1 h
  · intro h
    obtain ⟨m, rfl⟩ := Int.eq_ofNat_of_zero_le hx
    refine ⟨m, ?_, (anyP_iff l m).2 h, rfl⟩
    obtain ⟨s, hs, h1, h2⟩ := inn_iff.1 h
    have := (ok s hs).2.2.2
    omega
theorem tile_uni {N : Nat} (hN : N = 65536) {l : List Sp} (ok : ∀ s ∈ l, Ok s) : Tl (PP (anyP l) N) 0 N ((uni l).flatMap ofS) := by
  have := ofs_tl (p := PP (anyP l) N) (uni l) 0 (Int.le_refl _) (uni_nm l ok) (fun x hx => pp_any hN ok x hx) (by rintro ⟨m, _, _, e⟩; omega)
  rw [show (65536 : Int) = N by omega] at this
  exact this
theorem uni_one {s : Sp} (h : s.lo ≤ s.hi) : uni [s] = [s] := by
  unfold uni sort sort ins un0
  rw [if_pos h]
  rfl
theorem rOf_s (s : Sp) (ok : Ok s) {h : Hp} {K : Value → Hp → Prop} (H0 : s.lo > s.hi → ∀ h', Ext h h' → K (.tuple #[.slice none 0 0, .int .i64 30]) h')
    (H1 : s.lo ≤ s.hi → ∀ h' A c, Ext h h' → RowT h' A c (ofS s) → Fresh h A → K (.tuple #[.slice A (ofS s).length c, .int .i64 0]) h') : CallsH Tryz.prog 49 #[s.val] h K := by
  refine quintetref05_Of_ok _ _ ?_
  unfold quintetref05_Of
  refine newC_i (cs := s.enc) fun h1 e1 c1 b1 z1 => ⟨_, ld c1.head (by kernel_rfl), _, ld (c1.at_ 1 _ rfl) (by kernel_rfl), br_i (fun p => ?_) (fun p => ?_)⟩
  · exact H0 (by simpa using p) h1 e1
  · have hle : s.lo ≤ s.hi := by simpa using p
    refine newPorts fun h2 e2 q2 z2 => ⟨_, _, ldS (c1.ext e2) (by kernel_rfl), add_s q2 s ok fun h3 q3 f3 => ⟨rfl, ?_⟩⟩
    have okl : ∀ x ∈ [s], Ok x := fun x hx => by simp at hx; subst hx; exact ok
    have ht := tile_uni (N := 65536) rfl okl
    rw [uni_one hle] at ht
    have E3 := extOwn (e1.trans e2) f3 (fun k hk => by have := e1.size; omega)
    refine Tiled_s rfl (q3.congr (q := anyP [s]) fun j hj => by simp [anyP]) ht fun h4 A4 c4 e4 r4 F4 => ⟨_, _, _, rfl, ?_⟩
    have e : [s].flatMap ofS = ofS s := by simp
    rw [e] at r4 ⊢
    exact H1 hle h4 A4 c4 (E3.trans e4) r4 (F4.sub E3)
theorem rCount_s (s : Sp) (ok : Ok s) {h : Hp} {K : Value → Hp → Prop} (H : ∀ h', Ext h h' → K (.tuple #[.int .i64 (cntT s).1, .int .i64 (cntT s).2]) h') : CallsH Tryz.prog 30 #[s.val] h K := by
  refine quintetref05_Count_ok _ _ ?_
  unfold quintetref05_Count
  refine newC_i (cs := s.enc) fun h1 e1 c1 b1 z1 => ⟨_, _, ldS c1 (by kernel_rfl), rOf_s s ok (fun g h2 e2 => ⟨_, _, _, _, rfl, ?_⟩) (fun g h2 A c e2 r2 F2 => ⟨_, _, _, _, rfl, ?_⟩)⟩
  · have := H h2 (e1.trans e2)
    rw [cntT, if_neg (by omega)] at this
    exact this
  · have := H h2 (e1.trans e2)
    rw [cntT, if_pos g] at this
    exact this
end Go.Proofs.YtgahbkbmolfpnaaGreat.Fs
