/- The document's answers of stems: bits, tilings. -/
import Derived.Test.YtaacfhekjklipaaExHelp
import Derived.Test.YtaacfhekjklipaaFsD
namespace Go.Proofs.Ytaacfhekjklipaa.Fs
open Go Go.RowKit Go.Proofs.Ytaacfhekjklipaa.Sx Go.Proofs.Ytaacfhekjklipaa.Sp
set_option linter.unusedVariables false
set_option linter.unusedSimpArgs false
set_option maxRecDepth 10000
/-! ### bits -/
theorem bv16 {n : Int} (h0 : 0 ≤ n) (h1 : n < 65536) : (BitVec.ofInt 16 n).toNat = n.toNat := by
  rw [BitVec.toNat_ofInt]
  have : n % ((2 ^ 16 : Nat) : Int) = n := Int.emod_eq_of_lt h0 (by simpa using h1)
  rw [this]
theorem and1 {n : Int} (h0 : 0 ≤ n) (h1 : n < 65536) : bAnd .u16 n 1 = n % 2 := by
  unfold bAnd
  have e : ((BitVec.ofInt (IntKind.bits .u16) n &&& BitVec.ofInt (IntKind.bits .u16) 1).toNat : Nat) = n.toNat % 2 := by
    show (BitVec.ofInt 16 n &&& BitVec.ofInt 16 1).toNat = _
    rw [BitVec.toNat_and, bv16 h0 h1, bv16 (by decide) (by decide)]
    exact Nat.and_one_is_mod _
  rw [e, w16 (by omega) (by omega)]
  omega
theorem sz_shr {i : Int} (h0 : 0 ≤ i) (h1 : i < 16) : (2 : Int) ^ min (15 - i).toNat 16 = sz (i + 1) := by
  unfold sz
  congr 1
  omega
theorem div_sz {n : Int} {d : Int} (h0 : 0 ≤ n) (h1 : n < 65536) (hd : 1 ≤ d) : 0 ≤ n / d ∧ n / d < 65536 := by
  constructor
  · exact Int.ediv_nonneg h0 (by omega)
  · exact Int.lt_of_le_of_lt (Int.ediv_le_self _ h0) h1
theorem half_div {n i : Int} (h0 : 0 ≤ i) (h1 : i < 16) : n / sz i = n / sz (i + 1) / 2 := by
  have e := sz_half (n := i + 1) (by omega) (by omega)
  rw [show i + 1 - 1 = i by omega] at e
  rw [e, Int.mul_comm, Int.ediv_ediv_of_nonneg (by have := sz_pos (i + 1); omega)]
theorem half_mod {n i : Int} (h0 : 0 ≤ i) (h1 : i < 16) : n % sz i = 0 ↔ n % sz (i + 1) = 0 ∧ n / sz (i + 1) % 2 = 0 := by
  have e := sz_half (n := i + 1) (by omega) (by omega)
  rw [show i + 1 - 1 = i by omega] at e
  have a := Int.emod_add_mul_ediv n (sz i)
  have b := Int.emod_add_mul_ediv n (sz (i + 1))
  have c := half_div (n := n) h0 h1
  have p := sz_pos (i + 1)
  have d := Int.emod_nonneg n (show sz i ≠ 0 by omega)
  have d2 := Int.emod_lt_of_pos n (show 0 < sz i by omega)
  have f := Int.emod_nonneg n (show sz (i + 1) ≠ 0 by omega)
  have f2 := Int.emod_lt_of_pos n p
  have g := Int.emod_two_eq (n / sz (i + 1))
  have k : n / sz (i + 1) = 2 * (n / sz (i + 1) / 2) + n / sz (i + 1) % 2 := by omega
  rw [c, e] at a
  have m1 : 2 * sz (i + 1) * (n / sz (i + 1) / 2) = sz (i + 1) * (2 * (n / sz (i + 1) / 2)) := by rw [Int.mul_comm 2, Int.mul_assoc]
  have m2 : sz (i + 1) * (n / sz (i + 1)) = sz (i + 1) * (2 * (n / sz (i + 1) / 2)) + sz (i + 1) * (n / sz (i + 1) % 2) := by
    conv => lhs; rw [k]
    rw [Int.mul_add]
  rw [m1] at a
  rw [m2] at b
  rw [e]
  rw [e] at d d2
  constructor
  · intro h
    rw [h] at a
    rcases g with g | g
    · rw [g, Int.mul_zero] at b
      exact ⟨by omega, g⟩
    · rw [g, Int.mul_one] at b
      omega
  · rintro ⟨h2, h3⟩
    rw [h2, h3, Int.mul_zero] at b
    omega
theorem may_l3 {h : Hp} {a : Addr} {t : St} (ct : Cl h a t.enc) (ok : OkT t) {K0 : Bool → Hp → Prop} {K1 : Hp → Prop} :
    ∀ (k : Nat) (i : Int), 0 ≤ i → i ≤ 16 → (16 - i < k ∧ 0 < k) → (t.bits % sz i ≠ 0 → K0 false h) → (t.bits % sz i = 0 → K1 h) → quintetref05_May_l3 a K0 K1 k i h
  | 0, i, _, _, hk, _, _ => by omega
  | k + 1, i, g0, g1, hk, H0, H1 => by
    unfold quintetref05_May_l3
    obtain ⟨k1, k2⟩ := id ok
    refine br_i (fun p => ?_) (fun p => ?_)
    · have hi : i < 16 := by simpa using p
      refine ⟨_, ld ct.head (by kernel_rfl), ?_⟩
      rw [wrap_in (n := 15 - i) (by omega) (by omega)]
      refine ⟨_, shr16 _ _ (by omega), ?_⟩
      rw [sz_shr g0 hi, Int.fdiv_eq_ediv_of_nonneg _ (by have := sz_pos (i + 1); omega)]
      have hd := div_sz (d := sz (i + 1)) k1 (by omega) (sz_ge1 _)
      rw [and1 hd.1 hd.2, wrap_in (n := i + 1) (by omega) (by omega)]
      have hm := half_mod (n := t.bits) g0 hi
      refine br_i (fun q => H0 fun e => ?_) (fun q => ?_)
      · have := (hm.1 e).2; simp at q; omega
      · have hb : t.bits / sz (i + 1) % 2 = 0 := by
          have := Int.emod_two_eq (t.bits / sz (i + 1)); simp at q; omega
        exact may_l3 ct ok k (i + 1) (by omega) (by omega) (by omega) (fun e => H0 fun e2 => e (hm.1 e2).1) (fun e => H1 (hm.2 ⟨e, hb⟩))
    · have hi : i = 16 := by simp at p; omega
      exact H1 (by rw [hi, sz16]; omega)
theorem May_s (t : St) (ok : OkT t) {h : Hp} {K : Value → Hp → Prop} (H : ∀ h', Ext h h' → K (.bool (decide (goodT t))) h') : CallsH Try.prog 57 #[t.val] h K := by
  refine quintetref05_May_ok _ _ ?_
  unfold quintetref05_May quintetref05_May_j2
  refine newC_i (cs := t.enc) fun h1 e1 c1 b1 z1 => ⟨_, ld (c1.at_ 1 _ rfl) (by kernel_rfl), br_i (fun p => ?_) (fun p => ?_)⟩
  · have := H h1 e1
    rw [decide_eq_false (fun g => by have := g.1; simp at p; omega)] at this; exact this
  · refine ⟨_, ld (c1.at_ 1 _ rfl) (by kernel_rfl), br_i (fun q => ?_) (fun q => ?_)⟩
    · have := H h1 e1
      rw [decide_eq_false (fun g => by have := g.2.1; simp at q; omega)] at this; exact this
    · have hp : 0 ≤ t.len := by simpa using p
      have hq : t.len ≤ 16 := by simpa using q
      refine ⟨_, ld (c1.at_ 1 _ rfl) (by kernel_rfl), 18, may_l3 c1 ok 18 t.len hp hq (by omega) (fun e => ?_) (fun e => ?_)⟩
      · have := H h1 e1
        rw [decide_eq_false (fun g => e g.2.2)] at this; exact this
      · have := H h1 e1
        rw [decide_eq_true ⟨hp, hq, e⟩] at this; exact this
theorem rCheck_s (t : St) (ok : OkT t) {h : Hp} {K : Value → Hp → Prop} (H : ∀ h', Ext h h' → K (.int .i64 (chkT t)) h') : CallsH Try.prog 38 #[t.val] h K := by
  refine quintetref05_Check_ok _ _ ?_
  unfold quintetref05_Check
  refine newC_i (cs := t.enc) fun h1 e1 c1 b1 z1 => ⟨_, _, ldS c1 (by kernel_rfl), May_s t ok fun h2 e2 => ⟨_, rfl, br_i (fun p => ?_) (fun p => ?_)⟩⟩
  · have := H h2 (e1.trans e2)
    rw [chkT, if_neg (by simpa using p)] at this; exact this
  · have := H h2 (e1.trans e2)
    rw [chkT, if_pos (by simpa using p)] at this; exact this
theorem pref {n m : Int} : ∀ (d : Nat) (i : Int), 0 ≤ i → i + d ≤ 16 → n / sz (i + d) = m / sz (i + d) → n / sz i = m / sz i
  | 0, i, _, _, h => by simpa using h
  | d + 1, i, h0, h1, h => by
    rw [half_div h0 (by omega), half_div h0 (by omega)]
    congr 1
    exact pref d (i + 1) (by omega) (by omega) (by rw [show i + 1 + (d : Int) = i + ((d + 1 : Nat) : Int) by omega]; exact h)
theorem has_l1 {h : Hp} {a : Addr} {t : St} (ct : Cl h a t.enc) (ok : OkT t) (g2 : t.len ≤ 16) {p : Int} (hp : 0 ≤ p ∧ p ≤ 65535) {K0 : Bool → Hp → Prop} {K1 : Hp → Prop} (H0 : t.bits / sz t.len ≠ p / sz t.len → K0 false h) (H1 : t.bits / sz t.len = p / sz t.len → K1 h) :
    ∀ (k : Nat) (i : Int), 0 ≤ i → i ≤ t.len → (t.len - i < k ∧ 0 < k) → t.bits / sz i = p / sz i → quintetref05_Has_l1 p a K0 K1 k i h
  | 0, i, _, _, hk, _ => by omega
  | k + 1, i, q0, q1, hk, he => by
    unfold quintetref05_Has_l1
    obtain ⟨k1, k2⟩ := id ok
    refine ⟨_, ld (ct.at_ 1 _ rfl) (by kernel_rfl), br_i (fun c => ?_) (fun c => ?_)⟩
    · have hi : i < t.len := by simpa using c
      refine ⟨_, ld ct.head (by kernel_rfl), ?_⟩
      rw [wrap_in (n := 15 - i) (by omega) (by omega)]
      refine ⟨_, shr16 _ _ (by omega), _, shr16 _ _ (by omega), ?_⟩
      rw [sz_shr q0 (by omega), Int.fdiv_eq_ediv_of_nonneg _ (by have := sz_pos (i + 1); omega), Int.fdiv_eq_ediv_of_nonneg _ (by have := sz_pos (i + 1); omega)]
      have hd := div_sz (d := sz (i + 1)) k1 (by omega) (sz_ge1 _)
      have hd2 := div_sz (n := p) (d := sz (i + 1)) hp.1 (by omega) (sz_ge1 _)
      rw [and1 hd.1 hd.2, and1 hd2.1 hd2.2, wrap_in (n := i + 1) (by omega) (by omega)]
      rw [half_div q0 (by omega), half_div q0 (by omega)] at he
      refine br_i (fun r => H0 fun e => ?_) (fun r => ?_)
      · have := pref (n := t.bits) (m := p) (t.len - (i + 1)).toNat (i + 1) (by omega) (by omega) (by rw [show i + 1 + ((t.len - (i + 1)).toNat : Int) = t.len by omega]; exact e)
        rw [this] at r
        simp at r
      · have hb : t.bits / sz (i + 1) % 2 = p / sz (i + 1) % 2 := by simpa using r
        exact has_l1 ct ok g2 hp H0 H1 k (i + 1) (by omega) (by omega) (by omega) (by omega)
    · have hi : i = t.len := by simp at c; omega
      rw [hi] at he
      exact H1 he
theorem has_iff {t : St} (g : goodT t) {p : Int} : (t.bits / sz t.len = p / sz t.len) ↔ hasS (spanOf t) p = true := by
  obtain ⟨g1, g2, g3⟩ := g
  have hp := sz_pos t.len
  have a := Int.emod_add_mul_ediv t.bits (sz t.len)
  have b := Int.emod_add_mul_ediv p (sz t.len)
  have d := Int.emod_nonneg p (show sz t.len ≠ 0 by omega)
  have d2 := Int.emod_lt_of_pos p hp
  unfold hasS spanOf
  simp only [Bool.and_eq_true, decide_eq_true_eq]
  constructor
  · intro e
    rw [← e] at b
    omega
  · rintro ⟨h1, h2⟩
    rcases Int.lt_trichotomy (t.bits / sz t.len) (p / sz t.len) with c | c | c
    · exfalso
      have := Int.mul_le_mul_of_nonneg_left (show t.bits / sz t.len + 1 ≤ p / sz t.len by omega) (show 0 ≤ sz t.len by omega)
      rw [Int.mul_add, Int.mul_one] at this
      omega
    · exact c
    · exfalso
      have := Int.mul_le_mul_of_nonneg_left (show p / sz t.len + 1 ≤ t.bits / sz t.len by omega) (show 0 ≤ sz t.len by omega)
      rw [Int.mul_add, Int.mul_one] at this
      omega
theorem rHas_s (t : St) (ok : OkT t) {p : Int} (hp : 0 ≤ p ∧ p ≤ 65535) {h : Hp} {K : Value → Hp → Prop} (H : ∀ h', Ext h h' → K (.bool (hasT t p)) h') : CallsH Try.prog 40 #[t.val, .int .u16 p] h K := by
  refine quintetref05_Has_ok _ _ _ ?_
  unfold quintetref05_Has
  refine newC_i (cs := t.enc) fun h1 e1 c1 b1 z1 => ⟨_, _, ldS c1 (by kernel_rfl), May_s t ok fun h2 e2 => ⟨_, rfl, br_i (fun q => ?_) (fun q => ?_)⟩⟩
  · have := H h2 (e1.trans e2)
    have e : hasT t p = false := by rw [hasT, decide_eq_false (by simpa using q), Bool.false_and]
    rw [e] at this; exact this
  · have g : goodT t := by simpa using q
    have e : hasT t p = hasS (spanOf t) p := by rw [hasT, decide_eq_true g, Bool.true_and]
    have HH := H h2 (e1.trans e2)
    rw [e] at HH
    obtain ⟨k1, k2⟩ := id ok
    refine ⟨18, has_l1 (c1.ext e2) ok g.2.1 hp (fun e2 => ?_) (fun e2 => ?_) 18 0 (by omega) g.1 (by have := g.2.1; omega) ?_⟩
    · have : hasS (spanOf t) p = false := by
        cases hb : hasS (spanOf t) p
        · rfl
        · exact absurd ((has_iff g).2 hb) e2
      rw [this] at HH; exact HH
    · rw [(has_iff g).1 e2] at HH; exact HH
    · rw [sz0, Int.ediv_eq_zero_of_lt k1 (by omega), Int.ediv_eq_zero_of_lt hp.1 (by omega)]
theorem rSpan_s (t : St) (ok : OkT t) {h : Hp} {K : Value → Hp → Prop} (H : ∀ h', Ext h h' → K (.tuple #[(spT t).1.val, .int .i64 (spT t).2]) h') : CallsH Try.prog 36 #[t.val] h K := by
  refine quintetref05_Span_ok _ _ ?_
  unfold quintetref05_Span
  obtain ⟨k1, k2⟩ := id ok
  refine newC_i (cs := t.enc) fun h1 e1 c1 b1 z1 => newC_i (cs := Sp.enc ⟨0, 0⟩) fun h2 e2 c2 b2 z2 => ?_
  refine ⟨_, _, ldS (c1.ext e2) (by kernel_rfl), May_s t ok fun h3 e3 => ⟨_, rfl, ?_⟩⟩
  have fin : ∀ (s : Sp) (o : Int), spT t = (s, o) → HU Try.prog (Instr.storeAt 24 (.pointer (some ⟨h1.size, 0, none⟩)) (.agg #[.int .u16 s.lo, .int .u16 s.hi])) h3 fun hy =>
      ∃ x26 : Int, ∃ x27 : Int, HV Try.prog (Instr.loadAt 24 (.pointer (some ⟨h1.size, 0, none⟩))) hy (.agg #[(.int .u16 x26), (.int .u16 x27)]) ∧ K (.tuple #[(.agg #[(.int .u16 x26), (.int .u16 x27)]), (.int .i64 o)]) hy := by
    intro s o hm
    refine HU_box (us := s.enc) (cs := Sp.enc ⟨0, 0⟩) (e3.f0.get b2 (fun h => h)) rfl rfl size_sp rfl fun h8 c8 b8 f8 z8 => ⟨_, _, ldS c8 (by kernel_rfl), ?_⟩
    have := H h8 (extOwn ((e1.trans e2).trans e3) f8 (fun k hk => by have := e1.size; omega))
    rw [hm] at this
    exact this
  by_cases g : goodT t
  · rw [decide_eq_true g]
    have hf := g.fits ok
    obtain ⟨g1, g2, g3⟩ := id g
    have hpos := sz_pos t.len
    have hmax := sz_max g1
    have c3 := (c1.ext e2).ext e3
    refine br_f rfl ⟨_, ld (c3.at_ 1 _ rfl) (by kernel_rfl), ?_⟩
    rw [wrap_in (n := 16 - t.len) (by omega) (by omega)]
    refine ⟨_, shl64i 1 (16 - t.len) (by omega), _, ld c3.head (by kernel_rfl), _, ld c3.head (by kernel_rfl), ?_⟩
    rw [sz_shl g1 g2, wrap_in (n := t.bits) (by omega) (by omega), wrap_in (n := t.bits + sz t.len) (by omega) (by omega), wrap_in (n := t.bits + sz t.len - 1) (by omega) (by omega), w16 (x := t.bits + sz t.len - 1) (by omega) (by omega)]
    exact fin (spanOf t) 0 (by rw [spT, if_pos g])
  · rw [decide_eq_false g]
    exact br_t rfl (fin ⟨0, 0⟩ 50 (by rw [spT, if_neg g]))
theorem ports_l1 {h0 : Hp} {A : Option Addr} {c b : Nat} {l : List St} (rs : RSl h0 A l.length 2 (l.flatMap St.enc)) (hb : h0.size ≤ b) (ok : ∀ t ∈ l, OkT t) (hl : l.length ≤ 100000000) {K0 : Option Addr → Bool → Hp → Prop} {K1 : Addr → Hp → Prop}
    (H0 : (¬ ∀ t ∈ l, goodT t) → ∀ h', Ext h0 h' → K0 none false h') (H1 : (∀ t ∈ l, goodT t) → ∀ h', Ext h0 h' → PtAt h' b (anyP (l.map spanOf)) → K1 ⟨b, 0, none⟩ h') :
    ∀ (k i : Nat) (h : Hp), Ext h0 h → PtAt h b (anyP ((l.take i).map spanOf)) → (∀ t ∈ l.take i, goodT t) → l.length - i < k → i ≤ l.length → quintetref05_ports_l1 A l.length c ⟨b, 0, none⟩ K0 K1 k i h
  | 0, i, h, _, _, _, hk, _ => by omega
  | k + 1, i, h, e, q, hg, hk, hi => by
    unfold quintetref05_ports_l1
    refine br_i (fun p => ?_) (fun p => ?_)
    · have hlt : i < l.length := by simpa using p
      obtain ⟨a, _, _, hix, hcl⟩ := ixR (P := Try.prog) (T := 34) (E := 49) (c := c) (k := .i64) St.leng (rs.ext e) rfl und_sts size_st (List.getElem?_eq_getElem hlt)
      have okt := ok _ (List.getElem_mem hlt)
      have hmem : l[i] ∈ l := List.getElem_mem hlt
      have htk : l.take (i + 1) = l.take i ++ [l[i]] := by rw [List.take_add_one, List.getElem?_eq_getElem hlt]; rfl
      revert hcl okt hmem htk
      generalize l[i] = t
      intro hcl okt hmem htk
      refine ⟨_, hix, _, _, ldS hcl (by kernel_rfl), rSpan_s t okt fun h1 e1 => ⟨_, _, _, rfl, ?_⟩⟩
      refine newV (us := (spT t).1.enc) rfl rfl size_sp rfl fun h2 e2 c2 b2 z2 => ?_
      by_cases g : goodT t
      · have hs : spT t = (spanOf t, 0) := by rw [spT, if_pos g]
        rw [hs] at c2 ⊢
        refine br_f rfl ⟨_, _, ldS c2 (by kernel_rfl), add_s ((q.ext e1).ext e2) (spanOf t) (g.ok okt) fun h3 q3 f3 => ⟨rfl, ?_⟩⟩
        rw [wrapN (by omega)]
        refine ports_l1 rs hb ok hl H0 H1 k (i + 1) h3 (extOwn ((e.trans e1).trans e2) f3 (fun k hk => by omega)) (q3.congr fun j hj => ?_) (fun u hu => ?_) (by omega) (by omega)
        · rw [anyP, anyP, htk, List.map_append, List.any_append]
          simp
        · rw [htk] at hu
          rcases List.mem_append.1 hu with hu | hu
          · exact hg u hu
          · simp at hu; subst hu; exact g
      · have hs : spT t = (⟨0, 0⟩, 50) := by rw [spT, if_neg g]
        rw [hs]
        exact br_t rfl (H0 (fun hh => g (hh t hmem)) h2 ((e.trans e1).trans e2))
    · have hi' : i = l.length := by simp at p; omega
      rw [hi', List.take_length] at q hg
      exact H1 hg h e q
theorem ports_s {h : Hp} {A : Option Addr} {c : Nat} {l : List St} (rs : RSl h A l.length 2 (l.flatMap St.enc)) (ok : ∀ t ∈ l, OkT t) (hl : l.length ≤ 100000000) {K : Value → Hp → Prop} (H0 : (¬ ∀ t ∈ l, goodT t) → ∀ h', Ext h h' → K (.tuple #[.pointer none, .bool false]) h')
    (H1 : (∀ t ∈ l, goodT t) → ∀ h' b, Ext h h' → h.size ≤ b → PtAt h' b (anyP (l.map spanOf)) → K (.tuple #[.pointer (some ⟨b, 0, none⟩), .bool true]) h') : CallsH Try.prog 56 #[.slice A l.length c] h K := by
  refine quintetref05_ports_ok _ _ _ ?_
  unfold quintetref05_ports
  refine newPorts fun h1 e1 q1 z1 => ⟨l.length + 1, ?_⟩
  exact ports_l1 (K0 := fun p b h => K (.tuple #[.pointer p, .bool b]) h) (K1 := fun a h => K (.tuple #[.pointer (some a), .bool true]) h) rs (Nat.le_refl _) ok hl H0 (fun g h2 e2 q2 => H1 g h2 _ e2 (Nat.le_refl _) q2) _ 0 h1 e1 (q1.congr fun j hj => rfl) (by simp) (by omega) (by omega)
theorem rBack_s {h : Hp} {A : Option Addr} {c : Nat} {l : List St} (rs : RSl h A l.length 2 (l.flatMap St.enc)) (ok : ∀ t ∈ l, OkT t) (hl : l.length ≤ 100000000) {K : Value → Hp → Prop}
    (H : ∀ h' A' c', Ext h h' → RowP h' A' c' (backT l).1 → Fresh h A' → K (.tuple #[.slice A' (backT l).1.length c', .int .i64 (backT l).2]) h') : CallsH Try.prog 29 #[.slice A l.length c] h K := by
  refine quintetref05_Back_ok _ _ _ ?_
  unfold quintetref05_Back
  refine ports_s rs ok hl (fun g h1 e1 => ⟨_, _, rfl, br_t rfl ?_⟩) (fun g h1 b e1 hb q1 => ⟨_, _, rfl, br_f rfl ?_⟩)
  · have := H h1 none 0 e1
    rw [backT, if_neg g] at this
    exact this (RowP.nil _) (Fresh.none _)
  · refine spans_s rfl q1 (union_runs rfl (fun s hs => ?_)) fun h2 A2 c2 e2 r2 F2 => ⟨_, _, _, rfl, ?_⟩
    · obtain ⟨t, ht, rfl⟩ := List.mem_map.1 hs
      exact (g t ht).ok (ok t ht)
    · have := H h2 A2 c2 (e1.trans e2)
      rw [backT, if_pos g] at this
      exact this r2 (F2.sub e1)
/-! ### counts -/
def cn (p : Nat → Bool) : Nat → Int
  | 0 => 0
  | n + 1 => cn p n + (if p n = true then 1 else 0)
theorem cn_all (p : Nat → Bool) (a : Nat) : ∀ d : Nat, 0 ≤ cn p (a + d) - cn p a ∧ cn p (a + d) - cn p a ≤ d ∧ (cn p (a + d) - cn p a = d ↔ ∀ j, a ≤ j → j < a + d → p j = true) ∧ (cn p (a + d) - cn p a = 0 ↔ ∀ j, a ≤ j → j < a + d → p j = false)
  | 0 => ⟨by simp, by simp, by simp; intro j h1 h2; omega, by simp; intro j h1 h2; omega⟩
  | d + 1 => by
    obtain ⟨h1, h2, h3, h4⟩ := cn_all p a d
    have e : cn p (a + (d + 1)) = cn p (a + d) + (if p (a + d) = true then 1 else 0) := rfl
    rw [e]
    by_cases c : p (a + d) = true
    · rw [if_pos c]
      refine ⟨by omega, by omega, ⟨fun h j j1 j2 => ?_, fun h => ?_⟩, ⟨fun h => by omega, fun h => ?_⟩⟩
      · by_cases cj : j = a + d
        · rw [cj]; exact c
        · exact h3.1 (by omega) j j1 (by omega)
      · have := h3.2 (fun j j1 j2 => h j j1 (by omega)); omega
      · have := h (a + d) (by omega) (by omega); rw [c] at this; cases this
    · rw [if_neg c]
      refine ⟨by omega, by omega, ⟨fun h => by omega, fun h => absurd (h (a + d) (by omega) (by omega)) c⟩, ⟨fun h j j1 j2 => ?_, fun h => ?_⟩⟩
      · by_cases cj : j = a + d
        · rw [cj]; simpa using c
        · exact h4.1 (by omega) j j1 (by omega)
      · have := h4.2 (fun j j1 j2 => h j j1 (by omega)); omega
/-- A set as a predicate. -/
def PP (p : Nat → Bool) (N : Nat) (x : Int) : Prop := ∃ m : Nat, m < N ∧ p m = true ∧ x = m
def encI (x : Int) : List Value := [.int .i64 x]
theorem encI_len (x : Int) : (encI x).length = 1 := rfl
theorem encI_flat (x : Int) : (encI x).all flatV = true := rfl
theorem und_ints : Try.prog.underlying 78 = some (.slice 3) := by kernel_rfl
theorem size_int : (Try.prog.info? 3).map (·.size) = some 1 := by kernel_rfl
theorem info_int : ∃ i z, Try.prog.info? 3 = some i ∧ i.size = 1 ∧ i.bytes = 8 ∧ i.zero = some z ∧ z.cells = (encI 0).toArray := ⟨_, _, rfl, rfl, rfl, rfl, rfl⟩
/-- The counts ahead, up to i. -/
def Ah (h : Hp) (g c : Nat) (p : Nat → Bool) (N i : Nat) : Prop := ∃ xs : List Int, xs.length = N + 1 ∧ RowC h 3 encI 1 (some ⟨g, 0, none⟩) c xs ∧ ∀ j, j ≤ i → xs[j]? = some (cn p j)
theorem Ah.ext {h h' : Hp} {g c : Nat} {p : Nat → Bool} {N i : Nat} (q : Ah h g c p N i) (e : Ext h h') : Ah h' g c p N i := by
  obtain ⟨xs, h1, h2, h3⟩ := q
  exact ⟨xs, h1, h2.ext e, h3⟩
theorem ixI {g l c i : Nat} (h1 : i < l) : PV Try.prog (Instr.indexAt 78 (.slice (some ⟨g, 0, none⟩) l c) (.int .i64 (i : Int))) (.pointer (some ⟨g, i * 1, none⟩)) := ix0 h1 und_ints size_int
theorem pp_iff {p : Nat → Bool} {N j : Nat} (hj : j < N) : PP p N (j : Int) ↔ p j = true := by
  constructor
  · rintro ⟨m, _, h, e⟩
    have : m = j := by omega
    rwa [this] at h
  · exact fun h => ⟨j, hj, h, rfl⟩
theorem tiled_step {p : Nat → Bool} {N g c : Nat} (hN : N = 65536) (at_ len : Int) (h : Hp) (K : Value → Hp → Prop) (q : Ah h g c p N N) (l0 : 0 ≤ len) (l16 : len ≤ 16) (a0 : 0 ≤ at_) (a1 : at_ + sz len ≤ N) (hd : sz len ∣ at_)
    (hpar : len = 0 ∨ ∃ x, fl at_ (sz (len - 1)) ≤ x ∧ x < fl at_ (sz (len - 1)) + sz (len - 1) ∧ ¬ PP p N x)
    (IH : len < 16 → ∀ (at2 : Int) (h : Hp) (K : Value → Hp → Prop), Ah h g c p N N → 0 ≤ at2 → at2 + sz (len + 1) ≤ N → sz (len + 1) ∣ at2 → (∃ x, fl at2 (sz len) ≤ x ∧ x < fl at2 (sz len) + sz len ∧ ¬ PP p N x) →
      (∀ h' A' c' L, Ext h h' → RowT h' A' c' L → Fresh h A' → Tl (PP p N) at2 (at2 + sz (len + 1)) L → L.length ≤ sz (len + 1) → K (.slice A' L.length c') h') → CallsH Try.prog 60 #[.slice (some ⟨g, 0, none⟩) (N + 1) c, .int .i64 at2, .int .i64 (len + 1)] h K)
    (H : ∀ h' A' c' L, Ext h h' → RowT h' A' c' L → Fresh h A' → Tl (PP p N) at_ (at_ + sz len) L → L.length ≤ sz len → K (.slice A' L.length c') h') :
    CallsH Try.prog 60 #[.slice (some ⟨g, 0, none⟩) (N + 1) c, .int .i64 at_, .int .i64 len] h K := by
  refine quintetref05_tiled_ok _ _ _ _ _ ?_
  unfold quintetref05_tiled
  rw [wrap_in (n := 16 - len) (by omega) (by omega)]
  refine ⟨_, shl64i 1 (16 - len) (by omega), ?_⟩
  rw [sz_shl l0 l16]
  have hp := sz_pos len
  have hm := sz_max l0
  obtain ⟨a, rfl⟩ := Int.eq_ofNat_of_zero_le a0
  obtain ⟨s, hs⟩ := Int.eq_ofNat_of_zero_le (show 0 ≤ sz len by omega)
  have q0 := q
  obtain ⟨xs, hxl, hr, hx⟩ := q
  have e1 : IntKind.i64.wrap ((a : Int) + sz len) = ((a + s : Nat) : Int) := by rw [wrap_in (by omega) (by omega)]; omega
  rw [e1]
  have c1 := hr.elem0 encI_len (hx (a + s) (by omega))
  have c2 := hr.elem0 encI_len (hx a (by omega))
  refine ⟨_, ixI (by omega), _, ld c1.head (by kernel_rfl), _, ixI (by omega), _, ld c2.head (by kernel_rfl), ?_⟩
  obtain ⟨n1, n2, n3, n4⟩ := cn_all p a s
  rw [wrap_in (n := cn p (a + s) - cn p a) (by omega) (by omega)]
  refine br_i (fun t => ?_) (fun t => ?_)
  · have t' : cn p (a + s) - cn p a = s := by rw [hs] at t; simpa using t
    rw [w16 (x := (a : Int)) (by omega) (by omega)]
    refine newC_i (cs := St.enc ⟨a, len⟩) fun h1 e1 c1 b1 z1 => ?_
    refine H h1 _ 1 [⟨a, len⟩] e1 ⟨.inr ⟨h.size, [], rfl, by simpa using b1, rfl, rfl, Nat.le_refl _⟩, by decide⟩ (Fresh.some (Nat.le_refl _)) ⟨Int.le_refl _, Int.le_refl _, l0, l16, hd, fun x x1 x2 => by dsimp only at x2; omega, fun x x1 x2 => ?_, hpar, fun x x1 x2 => by dsimp only at x1; omega⟩ (by simp; omega)
    dsimp only at x1 x2
    obtain ⟨m, rfl⟩ := Int.eq_ofNat_of_zero_le (show 0 ≤ x by omega)
    exact (pp_iff (by omega)).2 (n3.1 t' m (by omega) (by omega))
  · have t' : cn p (a + s) - cn p a ≠ s := by rw [hs] at t; simpa using t
    refine br_i (fun u => ?_) (fun u => ?_)
    · have u' : cn p (a + s) - cn p a = 0 := by simpa using u
      refine H h none 0 [] (Ext.refl _) RowC.nil (Fresh.none _) (fun x x1 x2 hx => ?_) (by simp; omega)
      obtain ⟨m, rfl⟩ := Int.eq_ofNat_of_zero_le (show 0 ≤ x by omega)
      have h1 := (pp_iff (by omega)).1 hx
      rw [n4.1 u' m (by omega) (by omega)] at h1
      cases h1
    · have u' : cn p (a + s) - cn p a ≠ 0 := by simpa using u
      have h16 : len < 16 := Int.not_le.1 fun hh => by
        have : len = 16 := by omega
        rw [this, sz16] at hs
        omega
      have hh := sz_half (n := len + 1) (by omega) (by omega)
      rw [show len + 1 - 1 = len by omega] at hh
      have hp2 := sz_pos (len + 1)
      have hd2 : sz (len + 1) ∣ sz len := sz_dvd (by omega)
      have hbad : ∃ x, (a : Int) ≤ x ∧ x < (a : Int) + sz len ∧ ¬ PP p N x := by
        refine Classical.byContradiction fun hn => t' (n3.2 fun j j1 j2 => ?_)
        cases hb : p j
        · exfalso
          refine hn ⟨j, by omega, by omega, fun hpp => ?_⟩
          have := (pp_iff (by omega)).1 hpp
          rw [hb] at this
          cases this
        · rfl
      have htd : Int.tdiv (sz len) 2 = sz (len + 1) := by
        rw [Int.tdiv_eq_ediv_of_nonneg (by omega)]; omega
      rw [htd, wrap_in (n := len + 1) (by omega) (by omega), wrap_in (n := sz (len + 1)) (by omega) (by omega), wrap_in (n := (a : Int) + sz (len + 1)) (by omega) (by omega)]
      have f1 : fl (a : Int) (sz len) = a := fl_self hd
      have f2 : fl ((a : Int) + sz (len + 1)) (sz len) = a := fl_uniq hp hd (by omega) (by omega)
      refine IH h16 a h _ q0 (by omega) (by omega) (Int.dvd_trans hd2 hd) (by rw [f1]; exact hbad) fun h1 A1 k1 L1 e1 r1 F1 T1 B1 => ⟨_, _, _, rfl, ?_⟩
      refine IH h16 ((a : Int) + sz (len + 1)) h1 _ (q0.ext e1) (by omega) (by omega) (Int.dvd_add (Int.dvd_trans hd2 hd) (Int.dvd_refl _)) (by rw [f2]; exact hbad) fun h2 A2 k2 L2 e2 r2 F2 T2 B2 => ⟨_, _, _, rfl, ?_⟩
      obtain ⟨ti, z, hti, hts, hb, hz, hc⟩ := info_st
      have r1' := r1.ext e2
      refine appRow St.leng St.flat und_sts hti hz (by rw [hc]; rfl) hts (by omega) (by omega) (e1.trans e2) r1' F1 r2 (by omega) ?_
      intro h3 A3 k3 e3 r3 F3 f3
      have T2' : Tl (PP p N) ((a : Int) + sz (len + 1)) ((a : Int) + sz len) L2 := by rw [show (a : Int) + sz len = (a : Int) + sz (len + 1) + sz (len + 1) by omega]; exact T2
      exact ⟨_, _, _, rfl, H h3 A3 k3 (L1 ++ L2) e3 r3 F3 (tl_app L1 L2 _ _ _ (by omega) (by omega) T1 T2') (by simp; omega)⟩
theorem tiled_s {p : Nat → Bool} {N g c : Nat} (hN : N = 65536) : ∀ (f : Nat) (at_ len : Int) (h : Hp) (K : Value → Hp → Prop), Ah h g c p N N → len = 16 - (f : Int) → 0 ≤ len → 0 ≤ at_ → at_ + sz len ≤ N → sz len ∣ at_ →
    (len = 0 ∨ ∃ x, fl at_ (sz (len - 1)) ≤ x ∧ x < fl at_ (sz (len - 1)) + sz (len - 1) ∧ ¬ PP p N x) →
    (∀ h' A' c' L, Ext h h' → RowT h' A' c' L → Fresh h A' → Tl (PP p N) at_ (at_ + sz len) L → L.length ≤ sz len → K (.slice A' L.length c') h') →
    CallsH Try.prog 60 #[.slice (some ⟨g, 0, none⟩) (N + 1) c, .int .i64 at_, .int .i64 len] h K := by
  intro f
  induction f with
  | zero =>
    intro at_ len h K q hlen l0 a0 a1 hd hpar H
    exact tiled_step hN at_ len h K q l0 (by omega) a0 a1 hd hpar (fun hh => by omega) H
  | succ f ih =>
    intro at_ len h K q hlen l0 a0 a1 hd hpar H
    refine tiled_step hN at_ len h K q l0 (by omega) a0 a1 hd hpar (fun hh at2 h2 K2 q2 b0 b1 hd2 hbad H2 => ?_) H
    exact ih at2 (len + 1) h2 K2 q2 (by omega) (by omega) b0 b1 hd2 (.inr (by rw [show len + 1 - 1 = len by omega]; exact hbad)) H2
set_option maxRecDepth 1000000 in
theorem ahead_l1 {N b g c : Nat} (hN : N = 65536) {p : Nat → Bool} {h0 : Hp} (hgb : h0.size ≤ g) (q0 : PtAt h0 b p) {K0 : Option Addr → Nat → Nat → Hp → Prop} (H : ∀ h', Ext h0 h' → Ah h' g c p N N → K0 (some ⟨g, 0, none⟩) (N + 1) c h') :
    ∀ (k i : Nat) (h : Hp), Ext h0 h → Ah h g c p N i → N - i < k → i ≤ N → quintetref05_Tiled_l1 (some ⟨b, 0, none⟩) (some ⟨g, 0, none⟩) (N + 1) c K0 k i h := by
  intro k
  induction k with
  | zero => intro i h _ _ hk _; omega
  | succ k ih =>
    intro i h e q hk hi
    unfold quintetref05_Tiled_l1
    rcases Nat.lt_or_ge i N with hlt | hge
    · have hltz : (i : Int) < 65536 := by omega
      refine br_t (decide_eq_true hltz) ?_
      obtain ⟨xs, hxl, hr, hx⟩ := q
      have wi : IntKind.i64.wrap ((i : Int) + 1) = ((i + 1 : Nat) : Int) := by rw [wrap_in (by omega) (by omega)]; omega
      have c1 := hr.elem0 encI_len (hx i (Nat.le_refl _))
      rw [wi]
      refine ⟨_, ixI (by omega), _, ld c1.head (by kernel_rfl), _, ixI (by omega), ?_⟩
      refine HU_elem (x := cn p i) encI_len encI_flat hr.row (by omega) rfl size_int fun h1 r1 f1 z1 => ?_
      have hb := q0.lt
      have q1 := (q0.ext e).keep f1 (by omega)
      have hxi := ixP (b := b) (x := (i : Int)) (by omega) (by omega)
      rw [Int.toNat_natCast] at hxi
      have E1 := extOwn e f1 (fun k hk => by omega)
      refine ⟨_, hxi, _, ld (q1.cell (j := i) (by omega)) (by kernel_rfl), br_i (fun hp => ?_) (fun hp => ?_)⟩
      · have g1 : (xs.set (i + 1) (cn p i))[i + 1]? = some (cn p i) := by rw [List.getElem?_set_self (by omega)]
        have c2 := (RowC.mk r1 hr.cap).elem0 encI_len g1
        have bnd : 0 ≤ cn p i ∧ cn p i ≤ i := by
          have := cn_all p 0 i
          have e0 : cn p 0 = 0 := rfl
          rw [Nat.zero_add, e0] at this
          omega
        refine ⟨_, ixI (by omega), _, ld c2.head (by kernel_rfl), _, ixI (by omega), ?_⟩
        rw [wrap_in (n := cn p i + 1) (by omega) (by omega)]
        refine HU_elem (x := cn p i + 1) encI_len encI_flat r1 (by simp; omega) rfl size_int fun h2 r2 f2 z2 => ?_
        refine ih (i + 1) h2 (extOwn E1 f2 (fun k hk => by omega)) ⟨_, by simp; omega, ⟨r2, hr.cap⟩, fun j hj => ?_⟩ (by omega) (by omega)
        by_cases cj : j = i + 1
        · rw [cj, List.getElem?_set_self (by simp; omega)]
          have : cn p (i + 1) = cn p i + 1 := by rw [cn, if_pos hp]
          rw [this]
        · rw [List.getElem?_set_ne (by omega), List.getElem?_set_ne (by omega)]
          exact hx j (by omega)
      · refine ih (i + 1) h1 E1 ⟨_, by simp; omega, ⟨r1, hr.cap⟩, fun j hj => ?_⟩ (by omega) (by omega)
        by_cases cj : j = i + 1
        · rw [cj, List.getElem?_set_self (by omega)]
          have : cn p (i + 1) = cn p i := by rw [cn, if_neg (by rw [hp]; decide)]; omega
          rw [this]
        · rw [List.getElem?_set_ne (by omega)]
          exact hx j (by omega)
    · have hltz : ¬ (i : Int) < 65536 := by omega
      refine br_f (decide_eq_false hltz) ?_
      have hi' : i = N := by omega
      rw [hi'] at q
      exact H h e q
theorem Tiled_s {N b : Nat} (hN : N = 65536) {p : Nat → Bool} {h : Hp} (q : PtAt h b p) {L : List St} (hL : Tl (PP p N) 0 N L) {K : Value → Hp → Prop} (H : ∀ h' A' c', Ext h h' → RowT h' A' c' L → Fresh h A' → K (.slice A' L.length c') h') : CallsH Try.prog 52 #[.pointer (some ⟨b, 0, none⟩)] h K := by
  refine quintetref05_Tiled_ok _ ?_
  unfold quintetref05_Tiled
  obtain ⟨ti, z, hti, hts, hb, hz, hc⟩ := info_int
  have e65 : (65537 : Int) = ((N + 1 : Nat) : Int) := by omega
  rw [e65]
  refine HW_makeRow (enc := encI) (zr := (0 : Int)) und_ints hti hz hts (by decide) hc encI_len (by rw [hb]; omega) (by omega) fun h1 e1 r1 => ⟨_, _, _, rfl, N + 1, ?_⟩
  refine ahead_l1 hN (Nat.le_refl _) q (fun h2 e2 q2 => ?_) _ 0 h1 e1 ⟨_, by simp, ⟨r1, by omega⟩, fun j hj => ?_⟩ (by omega) (by omega)
  · refine tiled_s hN 16 0 0 h2 _ q2 (by omega) (by omega) (by omega) (by rw [sz0]; omega) ⟨0, by simp⟩ (.inl rfl) fun h3 A3 c3 M e3 r3 F3 T3 B3 => ⟨_, _, _, rfl, ?_⟩
    rw [sz0] at T3
    have : M = L := tl_uniq M L 0 N (by rw [show ((0 : Int) + 65536) = N by omega] at T3; exact T3) hL
    subst this
    exact H h3 A3 c3 (e2.trans e3) r3 (F3.sub e2)
  · have : j = 0 := by omega
    rw [this, List.getElem?_replicate, if_pos (by omega)]
    rfl
theorem pp_any {N : Nat} (hN : N = 65536) {l : List Sp} (ok : ∀ s ∈ l, Ok s) (x : Int) (hx : 0 ≤ x) : PP (anyP l) N x ↔ inn (uni l) x := by
  rw [uni_in]
  constructor
  · rintro ⟨m, _, h, rfl⟩
    exact (anyP_iff l m).1 h
  · intro h
    obtain ⟨m, rfl⟩ := Int.eq_ofNat_of_zero_le hx
    refine ⟨m, ?_, (anyP_iff l m).2 h, rfl⟩
    obtain ⟨s, hs, h1, h2⟩ := inn_iff.1 h
    have := (ok s hs).2.2.2
    omega
theorem tile_uni {N : Nat} (hN : N = 65536) {l : List Sp} (ok : ∀ s ∈ l, Ok s) : Tl (PP (anyP l) N) 0 N ((uni l).flatMap ofS) := by
  have := ofs_tl (p := PP (anyP l) N) (uni l) 0 (Int.le_refl _) (uni_nm l ok) (fun x hx => pp_any hN ok x hx) (by rintro ⟨m, _, _, e⟩; omega)
  rw [show (65536 : Int) = N by omega] at this
  exact this
theorem rLeast_s {h : Hp} {A : Option Addr} {c : Nat} {l : List St} (rs : RSl h A l.length 2 (l.flatMap St.enc)) (ok : ∀ t ∈ l, OkT t) (hl : l.length ≤ 100000000) {K : Value → Hp → Prop}
    (H : ∀ h' A' c', Ext h h' → RowT h' A' c' (leastT l).1 → Fresh h A' → K (.tuple #[.slice A' (leastT l).1.length c', .int .i64 (leastT l).2]) h') : CallsH Try.prog 33 #[.slice A l.length c] h K := by
  refine quintetref05_Least_ok _ _ _ ?_
  unfold quintetref05_Least
  refine ports_s rs ok hl (fun g h1 e1 => ⟨_, _, rfl, br_t rfl ?_⟩) (fun g h1 b e1 hb q1 => ⟨_, _, rfl, br_f rfl ?_⟩)
  · have := H h1 none 0 e1
    rw [leastT, backT, if_neg g] at this
    exact this RowC.nil (Fresh.none _)
  · refine Tiled_s rfl q1 (tile_uni rfl (fun s hs => ?_)) fun h2 A2 c2 e2 r2 F2 => ⟨_, _, _, rfl, ?_⟩
    · obtain ⟨t, ht, rfl⟩ := List.mem_map.1 hs
      exact (g t ht).ok (ok t ht)
    · have := H h2 A2 c2 (e1.trans e2)
      rw [leastT, backT, if_pos g] at this
      exact this r2 (F2.sub e1)
theorem uni_one {s : Sp} (h : s.lo ≤ s.hi) : uni [s] = [s] := by
  unfold uni sort sort ins un0
  rw [if_pos h]
  rfl
theorem rOf_s (s : Sp) (ok : Ok s) {h : Hp} {K : Value → Hp → Prop} (H0 : s.lo > s.hi → ∀ h', Ext h h' → K (.tuple #[.slice none 0 0, .int .i64 30]) h')
    (H1 : s.lo ≤ s.hi → ∀ h' A c, Ext h h' → RowT h' A c (ofS s) → Fresh h A → K (.tuple #[.slice A (ofS s).length c, .int .i64 0]) h') : CallsH Try.prog 23 #[s.val] h K := by
  refine quintetref05_Of_ok _ _ ?_
  unfold quintetref05_Of
  refine newC_i (cs := s.enc) fun h1 e1 c1 b1 z1 => ⟨_, ld c1.head (by kernel_rfl), _, ld (c1.at_ 1 _ rfl) (by kernel_rfl), br_i (fun p => ?_) (fun p => ?_)⟩
  · exact H0 (by simpa using p) h1 e1
  · have hle : s.lo ≤ s.hi := by simpa using p
    refine newPorts fun h2 e2 q2 z2 => ⟨_, _, ldS (c1.ext e2) (by kernel_rfl), add_s q2 s ok fun h3 q3 f3 => ⟨rfl, ?_⟩⟩
    have okl : ∀ x ∈ [s], Ok x := fun x hx => by simp at hx; subst hx; exact ok
    have ht := tile_uni (N := 65536) rfl okl
    rw [uni_one hle] at ht
    have E3 := extOwn (e1.trans e2) f3 (fun k hk => by have := e1.size; omega)
    refine Tiled_s rfl (q3.congr (q := anyP [s]) fun j hj => by simp [anyP]) ht fun h4 A4 c4 e4 r4 F4 => ⟨_, _, _, rfl, ?_⟩
    have e : [s].flatMap ofS = ofS s := by simp
    rw [e] at r4 ⊢
    exact H1 hle h4 A4 c4 (E3.trans e4) r4 (F4.sub E3)
end Go.Proofs.Ytaacfhekjklipaa.Fs
