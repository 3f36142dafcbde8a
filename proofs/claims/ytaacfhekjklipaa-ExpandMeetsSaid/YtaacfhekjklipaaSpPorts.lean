/- The document's sets of ports. -/
import Derived.Test.YtaacfhekjklipaaFsB
import Derived.Test.YtaacfhekjklipaaSpUnion
namespace Go.Proofs.Ytaacfhekjklipaa.Fs
open Go Go.RowKit Go.Proofs.Ytaacfhekjklipaa.Sx Go.Proofs.Ytaacfhekjklipaa.Sp
set_option linter.unusedVariables false
set_option linter.unusedSimpArgs false
set_option maxRecDepth 10000
/-- A set of ports at block b. -/
def PtAt (h : Hp) (b : Nat) (p : Nat → Bool) : Prop := ∃ cs : List Value, h[b]? = some (.cells cs.toArray 61 (0, 0)) ∧ cs.length = 65536 ∧ ∀ j, j < 65536 → cs[j]? = some (.bool (p j))
theorem PtAt.congr {h : Hp} {b : Nat} {p q : Nat → Bool} (hp : PtAt h b p) (e : ∀ j, j < 65536 → p j = q j) : PtAt h b q := by
  obtain ⟨cs, h1, h2, h3⟩ := hp
  exact ⟨cs, h1, h2, fun j hj => by rw [h3 j hj, e j hj]⟩
theorem PtAt.keep {h h' : Hp} {b : Nat} {p : Nat → Bool} {S : Nat → Prop} (q : PtAt h b p) (f : Fr S h h') (hn : ¬ S b) : PtAt h' b p := by
  obtain ⟨cs, h1, h2, h3⟩ := q
  exact ⟨cs, f.get h1 hn, h2, h3⟩
theorem PtAt.ext {h h' : Hp} {b : Nat} {p : Nat → Bool} (q : PtAt h b p) (e : Ext h h') : PtAt h' b p := q.keep e.f0 (fun h => h)
theorem PtAt.lt {h : Hp} {b : Nat} {p : Nat → Bool} (q : PtAt h b p) : b < h.size := by
  obtain ⟨cs, h1, _⟩ := q
  exact lt_of_get h1
theorem zc_ports : zcOf Try.prog 61 = Try.zeroCells61 := by kernel_rfl
def isF : Value → Bool
  | .bool false => true
  | _ => false
def allF : List Value → Bool
  | [] => true
  | v :: l => match isF v with
    | true => allF l
    | false => false
theorem allF_get : ∀ (l : List Value) (j : Nat), allF l = true → j < l.length → l[j]? = some (.bool false)
  | v :: l, 0, h, _ => by
    unfold allF at h
    cases hv : isF v with
    | false => rw [hv] at h; cases h
    | true =>
      unfold isF at hv
      split at hv
      · rfl
      · cases hv
  | v :: l, j + 1, h, hj => by
    unfold allF at h
    cases hv : isF v with
    | false => rw [hv] at h; cases h
    | true =>
      rw [hv] at h
      rw [List.getElem?_cons_succ]
      exact allF_get l j h (by simpa using hj)
set_option maxRecDepth 1000000 in
theorem zc_all : allF Try.zeroCells61.toList = true := by kernel_rfl
theorem newPorts {h : Hp} {K : Addr → Hp → Prop} (H : ∀ h', Ext h h' → PtAt h' h.size (fun _ => false) → h'.size = h.size + 1 → K ⟨h.size, 0, none⟩ h') : newC h (.cells (zcOf Try.prog 61) 61 (0, 0)) K := by
  rw [zc_ports]
  have hl : Try.zeroCells61.toList.length = 65536 := by rw [Array.length_toList]; exact Try.zeroCells61_size
  have ha : ∀ j, j < Try.zeroCells61.toList.length → Try.zeroCells61.toList[j]? = some (.bool false) := fun j hj => allF_get _ j zc_all hj
  have e : Try.zeroCells61 = (Try.zeroCells61.toList).toArray := by rw [Array.toArray_toList]
  rw [e]
  revert hl ha
  generalize Try.zeroCells61.toList = cs
  intro hl ha
  exact newC_i fun h' e c b z => H h' e ⟨cs, b, hl, fun j hj => ha j (by omega)⟩ z
theorem und_ports : Try.prog.underlying 61 = some (.array 65536 4) := by kernel_rfl
theorem ixP {b : Nat} {x : Int} (h0 : 0 ≤ x) (h1 : x < 65536) : PV Try.prog (Instr.indexAt 61 (.pointer (some ⟨b, 0, none⟩)) (.int .i64 x)) (.pointer (some ⟨b, x.toNat, none⟩)) := by
  intro w
  obtain ⟨j, hj, hjs⟩ : ∃ j, Try.prog.info? 4 = some j ∧ j.size = 1 := ⟨_, rfl, rfl⟩
  have := add_eq0 b x.toNat
  simp [Instr.indexAt, asIntOf, run_underlying und_ports, Instr.sureAddr, h0, h1, sizeOf, typeInfo, hj, hjs, this]
theorem PtAt.cell {h : Hp} {b : Nat} {p : Nat → Bool} (q : PtAt h b p) {j : Nat} (hj : j < 65536) : Sx.cell h ⟨b, j, none⟩ = some (.bool (p j)) := by
  obtain ⟨cs, h1, h2, h3⟩ := q
  rw [cell_of h1]; exact h3 j hj
theorem HU_port {h : Hp} {b : Nat} {p : Nat → Bool} (q : PtAt h b p) {j : Nat} (hj : j < 65536) (v : Bool) {K : Hp → Prop} (H : ∀ h', PtAt h' b (fun k => if k = j then v else p k) → Fr (fun k => k = b) h h' → h'.size = h.size → K h') : HU Try.prog (Instr.storeAt 4 (.pointer (some ⟨b, j, none⟩)) (.bool v)) h K := by
  obtain ⟨cs, h1, h2, h3⟩ := q
  refine HU_st (us := [.bool v]) h1 rfl (by kernel_rfl) (by simp; omega) rfl ?_
  refine H _ ⟨_, setB_get (lt_of_get h1), by simp; omega, fun k hk => ?_⟩ (setB_fr rfl) setB_size
  show _ = some (Value.bool (if k = j then v else p k))
  by_cases c : k < j
  · rw [List.append_assoc, List.getElem?_append_left (by simp; omega), List.getElem?_take, if_pos c, if_neg (by omega)]; exact h3 k hk
  · by_cases d : k = j
    · subst d
      have hl : (List.take k cs).length = k := by simp; omega
      rw [List.append_assoc, List.getElem?_append_right (by omega), if_pos rfl, hl, Nat.sub_self]
      rfl
    · have hl : (List.take j cs ++ [Value.bool v]).length = j + 1 := by simp; omega
      rw [List.getElem?_append_right (by omega), List.getElem?_drop, if_neg d, hl]
      have : j + [Value.bool v].length + (k - (j + 1)) = k := by simp; omega
      rw [this]; exact h3 k hk
def inI (a b : Int) (j : Nat) : Bool := decide (a ≤ (j : Int) ∧ (j : Int) ≤ b)
theorem add_l1 {b : Nat} {a : Addr} {s : Sp} (ok : Ok s) (hab : a.block ≠ b) {K0 : Hp → Prop} : ∀ (k : Nat) (x : Int) (p : Nat → Bool) (h : Hp), PtAt h b p → Cl h a s.enc → 0 ≤ x → x ≤ 65536 → (s.hi + 1 - x < k ∧ 0 < k) →
    (∀ h', PtAt h' b (fun j => p j || inI x s.hi j) → Fr (fun k => k = b) h h' → K0 h') → quintetref03_Ports_Add_l1 (some ⟨b, 0, none⟩) a K0 k x h
  | 0, x, p, h, q, cs, x0, x1, hk, H => by
    exfalso; omega
  | k + 1, x, p, h, q, cs, x0, x1, hk, H => by
    obtain ⟨k1, k2, k3, k4⟩ := id ok
    unfold quintetref03_Ports_Add_l1
    refine ⟨_, ld (cs.at_ 1 _ rfl) (by kernel_rfl), ?_⟩
    rw [wrap_in (n := s.hi) (by omega) (by omega)]
    refine br_i (fun c => ?_) (fun c => ?_)
    · have hx : x ≤ s.hi := by simpa using c
      refine ⟨_, ixP x0 (by omega), ?_⟩
      refine HU_port q (by omega) true fun h1 q1 f1 z1 => ?_
      rw [wrap_in (by omega) (by omega)]
      refine add_l1 ok hab k (x + 1) _ h1 q1 (f1.cl cs hab) (by omega) (by omega) (by omega) fun h2 q2 f2 => ?_
      refine H h2 (q2.congr fun j hj => ?_) (f1.trans f2)
      unfold inI
      by_cases d : j = x.toNat
      · subst d
        have : x ≤ ((x.toNat : Nat) : Int) ∧ ((x.toNat : Nat) : Int) ≤ s.hi := by omega
        rw [if_pos rfl, Bool.true_or, decide_eq_true this, Bool.or_true]
      · rw [if_neg d]
        congr 1
        rw [decide_eq_decide]
        omega
    · have hx : ¬ x ≤ s.hi := by simpa using c
      refine H h (q.congr fun j hj => ?_) (Fr.refl _ _)
      have : inI x s.hi j = false := by unfold inI; rw [decide_eq_false_iff_not]; omega
      rw [this, Bool.or_false]
theorem add_s {b : Nat} {p : Nat → Bool} {h : Hp} (q : PtAt h b p) (s : Sp) (ok : Ok s) {K : Value → Hp → Prop} (H : ∀ h', PtAt h' b (fun j => p j || inI s.lo s.hi j) → Fr (fun k => k = b) h h' → K (.tuple #[]) h') : CallsH Try.prog 46 #[.pointer (some ⟨b, 0, none⟩), s.val] h K := by
  refine quintetref03_Ports_Add_ok _ _ _ ?_
  unfold quintetref03_Ports_Add
  obtain ⟨k1, k2, k3, k4⟩ := id ok
  refine newC_i (cs := s.enc) fun h1 e1 c1 b1 z1 => ⟨_, ld c1.head (by kernel_rfl), 65538, ?_⟩
  rw [wrap_in (n := s.lo) (by omega) (by omega)]
  have := q.lt
  exact add_l1 ok (by show h.size ≠ b; omega) 65538 s.lo p h1 (q.ext e1) c1 k1 (by omega) (by omega) fun h2 q2 f2 => H h2 q2 ((e1.fr _).trans f2)
/-! ### the runs of a set -/
theorem spans_j3 {b : Nat} {A : Option Addr} {c : Nat} {l : List Sp} {h h0 : Hp} {K0 : Option Addr → Option Addr → Nat → Nat → Int → Hp → Prop} {P0 : Option Addr} (e : Ext h0 h) (r : RowP h A c l) (hF : Fresh h0 A) (hl : l.length ≤ 100000) (i : Nat) (hi : i < 65536) (bb : Bool) (hb : bb = true → ∃ ini t, l = ini ++ [t])
    (H : ∀ h' A' c', Ext h0 h' → RowP h' A' c' (if bb = true then addE l i else l ++ [⟨i, i⟩]) → Fresh h0 A' → K0 P0 A' (if bb = true then addE l i else l ++ [⟨i, i⟩]).length c' i h') : quintetref03_Ports_Spans_j3 K0 P0 A l.length c (i : Int) bb h := by
  unfold quintetref03_Ports_Spans_j3
  rw [w16 (x := (i : Int)) (by omega) (by omega)]
  refine br_i (fun hbt => ?_) (fun hbf => ?_)
  · obtain ⟨ini, t, rfl⟩ := hb hbt
    simp only [hbt, if_true, addE_snoc] at H
    have hlen : (ini ++ [t]).length = ini.length + 1 := by simp
    obtain ⟨g, rfl⟩ := r.blk0 Sp.len (by simp)
    have hi' : (ini ++ [t])[ini.length]? = some t := by simp
    have w1 : IntKind.i64.wrap (((ini ++ [t]).length : Int) - 1) = (ini.length : Int) := by rw [hlen, wrap_in (by omega) (by omega)]; omega
    rw [w1]
    refine ⟨_, ix0 (by rw [hlen]; omega) und_sps size_sp, ?_⟩
    rw [add_off rfl]
    refine HU_part (us := [.int .u16 i]) (x' := ⟨t.lo, i⟩) (o := 1) Sp.len r.row hi' rfl size_u16 rfl (by simp) rfl fun h' r' f z => ?_
    have e1 : (ini ++ [t]).set ini.length ⟨t.lo, i⟩ = ini ++ [⟨t.lo, i⟩] := by simp
    rw [e1] at r'
    have := H h' _ c (extOwn e f (fun k hk => hF k ⟨_, rfl, hk.symm⟩)) ⟨r', r.cap⟩ hF
    have e2 : (ini ++ [(⟨t.lo, i⟩ : Sp)]).length = (ini ++ [t]).length := by simp
    rw [e2] at this
    exact this
  · simp only [hbf] at H
    refine newC_i (cs := Sp.enc ⟨i, i⟩) fun h1 e1 c1 b1 z1 => ?_
    have r1 := r.ext e1
    refine app_spF (e.trans e1) r1 hF c1 (by omega) ?_
    intro h2 A2 c2 e2 r2 F2 f2
    exact ⟨_, _, _, rfl, H h2 A2 c2 e2 r2 F2⟩
set_option maxRecDepth 1000000 in
theorem spans_l2 {N : Nat} (hN : N = 65536) {b : Nat} {p : Nat → Bool} {h0 : Hp} (q0 : PtAt h0 b p) {K0 : Option Addr → Nat → Nat → Hp → Prop} (H : ∀ h' A' c', Ext h0 h' → RowP h' A' c' (runs p N) → Fresh h0 A' → K0 A' (runs p N).length c' h') :
    ∀ (k i : Nat) (A : Option Addr) (c : Nat) (h : Hp), Ext h0 h → RowP h A c (runs p i) → Fresh h0 A → N - i < k → i ≤ N → quintetref03_Ports_Spans_l2 (some ⟨b, 0, none⟩) K0 k A (runs p i).length c i h := by
  intro k
  induction k with
  | zero => intro i A c h _ _ _ hk _; omega
  | succ k ih =>
    intro i A c h e r hF hk hi
    unfold quintetref03_Ports_Spans_l2
    have wi : ∀ i : Nat, i ≤ 65536 → IntKind.i64.wrap ((i : Int) + 1) = ((i + 1 : Nat) : Int) := fun i hi => by rw [wrap_in (by omega) (by omega)]; omega
    have hlen := runs_len p i
    rcases Nat.lt_or_ge i N with hltN | hge
    · have hlt : i < 65536 := Nat.lt_of_lt_of_eq hltN hN
      have hltz : (i : Int) < 65536 := by omega
      refine br_t (decide_eq_true hltz) ?_
      have q := q0.ext e
      have rn := runs_rn p i (by omega)
      have hx := ixP (b := b) (x := (i : Int)) (by omega) (by omega)
      rw [Int.toNat_natCast] at hx
      refine ⟨_, hx, _, ld (q.cell hlt) (by kernel_rfl), br_i (fun hp => ?_) (fun hp => ?_)⟩
      · have hp' : p i = false := by simpa using hp
        have e1 : runs p (i + 1) = runs p i := by rw [runs, if_neg (by rw [hp']; decide)]
        rw [wi i (by omega)]
        rw [← e1] at r ⊢
        exact ih (i + 1) A c h e r hF (by omega) (by omega)
      · have hp' : p i = true := by simpa using hp
        have step : ∀ bb : Bool, bb = decide (0 < i ∧ p (i - 1) = true) → quintetref03_Ports_Spans_j3 (fun (p74 : Option Addr) (A75 : Option Addr) (l75 : Nat) (c75 : Nat) (x76 : Int) (h77 : Hp) => quintetref03_Ports_Spans_l2 (some ⟨b, 0, none⟩) K0 k A75 l75 c75 (IntKind.i64.wrap (x76 + 1)) h77) (some ⟨b, 0, none⟩) A (runs p i).length c (i : Int) bb h := by
          intro bb hbb
          refine spans_j3 (h0 := h0) (b := b) e r hF (by omega) i hlt bb (fun hb => ?_) fun h1 A1 c1 e1 r1 F1 => ?_
          · rw [hbb, decide_eq_true_eq] at hb
            obtain ⟨ini, t, hl, _⟩ := rn.last hb.1 hb.2
            exact ⟨ini, t, hl⟩
          · have e2 : (if bb = true then addE (runs p i) i else runs p i ++ [⟨i, i⟩]) = runs p (i + 1) := by
              rw [runs, if_pos hp', hbb]
              simp only [decide_eq_true_eq]
            rw [e2] at r1 ⊢
            rw [wi i (by omega)]
            exact ih (i + 1) A1 c1 h1 e1 r1 F1 (by omega) (by omega)
        refine br_i (fun h0' => ?_) (fun h0' => ?_)
        · have hi0 : 0 < i := by simp at h0'; omega
          have hx1 := ixP (b := b) (x := ((i - 1 : Nat) : Int)) (by omega) (by omega)
          rw [Int.toNat_natCast] at hx1
          have w1 : IntKind.i64.wrap ((i : Int) - 1) = ((i - 1 : Nat) : Int) := by rw [wrap_in (by omega) (by omega)]; omega
          rw [w1]
          refine ⟨_, hx1, _, ld (q.cell (j := i - 1) (by omega)) (by kernel_rfl), step _ ?_⟩
          simp [hi0]
        · exact step false (by simp at h0' ⊢; omega)
    · have hltz : ¬ (i : Int) < 65536 := by omega
      refine br_f (decide_eq_false hltz) ?_
      have hi' : i = N := by omega
      rw [hi'] at r ⊢
      exact H h A c e r hF
theorem spans_s {N : Nat} (hN : N = 65536) {b : Nat} {p : Nat → Bool} {h : Hp} (q : PtAt h b p) {l : List Sp} (hl : runs p N = l) {K : Value → Hp → Prop} (H : ∀ h' A' c', Ext h h' → RowP h' A' c' l → Fresh h A' → K (.slice A' l.length c') h') : CallsH Try.prog 47 #[.pointer (some ⟨b, 0, none⟩)] h K := by
  refine quintetref03_Ports_Spans_ok _ ?_
  unfold quintetref03_Ports_Spans
  subst hl
  exact ⟨65538, spans_l2 hN q (K0 := fun A l c h => K (.slice A l c) h) H 65538 0 none 0 h (Ext.refl _) (RowP.nil _) (Fresh.none _) (by omega) (by omega)⟩
end Go.Proofs.Ytaacfhekjklipaa.Fs
