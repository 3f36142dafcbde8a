/- TrieRuns, the law. -/
import Derived.Test.YtofjbbfnkefoaaaTrRuns
namespace Go.Proofs.Ytofjbbfnkefoaaa.Fs
open Go Go.RowKit Go.Proofs.Ytofjbbfnkefoaaa.Sx Go.Proofs.Ytofjbbfnkefoaaa.Tp
set_option linter.unusedVariables false
set_option linter.unusedSimpArgs false
set_option maxRecDepth 10000
/-- Two tries, each with the document's beside it, and all their blocks apart. -/
structure Two (h0 h : Hp) (b1 m1 b2 m2 w : Nat) (most : Int) (s1 s2 : Ab) : Prop where
  ext : Ext h0 h
  ex : ∃ S1 M1 S2 M2 : Nat → Prop, Both h b1 S1 m1 M1 w most s1 ∧ Both h b2 S2 m2 M2 w most s2 ∧ (∀ k, S1 k ∨ M1 k → ¬ (S2 k ∨ M2 k)) ∧ (∀ k, S1 k ∨ M1 k → h0.size ≤ k) ∧ (∀ k, S2 k ∨ M2 k → h0.size ≤ k)
theorem Both.lt {h : Hp} {b : Nat} {S : Nat → Prop} {m : Nat} {M : Nat → Prop} {w : Nat} {most : Int} {s : Ab} (q : Both h b S m M w most s) : ∀ k, S k ∨ M k → k < h.size := by
  rintro k (hk | hk)
  · exact q.t.rok.2 k hk
  · exact q.r.2.1 k hk
theorem Two.step1 {h0 h : Hp} {b1 m1 b2 m2 w : Nat} {most : Int} {s1 s2 : Ab} (T : Two h0 h b1 m1 b2 m2 w most s1 s2) (o : OpR) (hk : o.key < 4294967296) (hv0 : -9223372036854775808 ≤ o.v) (hv1 : o.v ≤ 9223372036854775807) {K : Value → Hp → Prop} (H : ∀ h', Two h0 h' b1 m1 b2 m2 w most (stepA w most s1 o) s2 → K (.bool true) h') :
    CallsH Try.prog 39 #[.pointer (some ⟨b1, 0, none⟩), .pointer (some ⟨m1, 0, none⟩), .agg #[.int .i64 o.kind, .bool o.second, .int .u32 (o.key : Int), .int .i64 o.n, .int .i64 o.v]] h K := by
  obtain ⟨e, S1, M1, S2, M2, q1, q2, hd, h1, h2⟩ := T
  refine step_s q1 o hk hv0 hv1 fun h' S' M' q' s' m' f => H h' ⟨?_, S', M', S2, M2, q', ?_, ?_, ?_, h2⟩
  · exact ⟨Nat.le_trans e.size f.size, fun k hk => by rw [f.keep k (Nat.lt_of_lt_of_le hk e.size) (fun hs => by have := h1 k hs; omega), e.old k hk]⟩
  · exact q2.keep f (fun k hk hs => hd k hs (.inl hk)) (fun k hk hs => hd k hs (.inr hk))
  · intro k hk hk2
    have hlt := q2.lt k hk2
    rcases hk with hk | hk
    · rcases s' k hk with h | h
      · exact hd k (.inl h) hk2
      · omega
    · rcases m' k hk with h | h
      · exact hd k (.inr h) hk2
      · omega
  · have := e.size
    rintro k (hk | hk)
    · rcases s' k hk with h | h
      · exact h1 k (.inl h)
      · omega
    · rcases m' k hk with h | h
      · exact h1 k (.inr h)
      · omega
theorem Two.swap {h0 h : Hp} {b1 m1 b2 m2 w : Nat} {most : Int} {s1 s2 : Ab} (T : Two h0 h b1 m1 b2 m2 w most s1 s2) : Two h0 h b2 m2 b1 m1 w most s2 s1 := by
  obtain ⟨e, S1, M1, S2, M2, q1, q2, hd, h1, h2⟩ := T
  exact ⟨e, S2, M2, S1, M1, q2, q1, fun k h h' => hd k h' h, h2, h1⟩
theorem Two.more {h0 h h' : Hp} {b1 m1 b2 m2 w : Nat} {most : Int} {s1 s2 : Ab} (T : Two h0 h b1 m1 b2 m2 w most s1 s2) (e' : Ext h h') : Two h0 h' b1 m1 b2 m2 w most s1 s2 := by
  obtain ⟨e, S1, M1, S2, M2, q1, q2, hd, h1, h2⟩ := T
  exact ⟨e.trans e', S1, M1, S2, M2, q1.ext e', q2.ext e', hd, h1, h2⟩
theorem runs_l7 {h0 : Hp} {b1 m1 b2 m2 w : Nat} {most : Int} {A : Option Addr} {c : Nat} {os : List OpR} (r : RSl h0 A os.length 5 (os.flatMap OpR.enc)) (hlen : os.length ≤ 16777216) (hk : ∀ o, o ∈ os → o.key < 4294967296 ∧ -9223372036854775808 ≤ o.v ∧ o.v ≤ 9223372036854775807) {K0 : Bool → Hp → Prop} {K1 : Option Addr → Option Addr → Addr → Addr → Hp → Prop} (H : ∀ h' s1 s2, Two h0 h' b1 m1 b2 m2 w most s1 s2 → K1 (some ⟨b1, 0, none⟩) (some ⟨b2, 0, none⟩) ⟨m1, 0, none⟩ ⟨m2, 0, none⟩ h') :
    ∀ (d i f : Nat) (h : Hp) (s1 s2 : Ab), i + d = os.length → d < f → Two h0 h b1 m1 b2 m2 w most s1 s2 → quintetlaw12_TrieRuns_l7 A os.length c (some ⟨b1, 0, none⟩) (some ⟨b2, 0, none⟩) ⟨m1, 0, none⟩ ⟨m2, 0, none⟩ K0 K1 f i h := by
  intro d
  induction d with
  | zero =>
    intro i f h s1 s2 hi hf T
    obtain ⟨f, rfl⟩ : ∃ f', f = f' + 1 := ⟨f - 1, by omega⟩
    unfold quintetlaw12_TrieRuns_l7
    exact br_f (by simp; omega) (H h s1 s2 T)
  | succ d ih =>
    intro i f h s1 s2 hi hf T
    obtain ⟨f, rfl⟩ : ∃ f', f = f' + 1 := ⟨f - 1, by omega⟩
    unfold quintetlaw12_TrieRuns_l7
    have hlt : i < os.length := by omega
    have ho : os[i]? = some os[i] := List.getElem?_eq_getElem hlt
    obtain ⟨hko, hv0, hv1⟩ := hk os[i] (List.getElem_mem hlt)
    obtain ⟨a, hp, hcl⟩ := rd_op (c := c) (r.ext T.ext) rfl ho
    have hcast : (i : Int) + 1 = ((i + 1 : Nat) : Int) := by omega
    refine br_t (by simp; omega) ⟨_, hp, _, ld (hcl.at_ 1 _ rfl) (by kernel_rfl), br_i (fun hs => ?_) (fun hs => ?_)⟩
    · refine ⟨_, hp, _, _, _, _, _, ldS hcl (by kernel_rfl), ?_⟩
      refine T.swap.step1 os[i] hko hv0 hv1 fun h' T' => ⟨_, rfl, br_f rfl ?_⟩
      rw [wrap_in (by omega) (by omega), hcast]
      exact ih (i + 1) f h' _ _ (by omega) (by omega) T'.swap
    · refine ⟨_, hp, _, _, _, _, _, ldS hcl (by kernel_rfl), ?_⟩
      refine T.step1 os[i] hko hv0 hv1 fun h' T' => ⟨_, rfl, br_f rfl ?_⟩
      rw [wrap_in (by omega) (by omega), hcast]
      exact ih (i + 1) f h' _ _ (by omega) (by omega) T'
theorem rf_new {h0 h h' : Hp} {w : Nat} {most : Int} (hb : h'[h.size]? = some (.cells (rfC w most ⟨.nil, 0⟩ none 0).toArray 81 (0, 0))) : RfAt h' h.size (fun k => k = h.size) w most ⟨.nil, 0⟩ :=
  ⟨rfl, fun k hk => by have : k = h.size := hk; rw [this]; exact lt_of_get hb, none, 0, hb, .inl ⟨rfl, rfl, rfl, rfl⟩, (by rintro k ⟨a, ha, _⟩; cases ha), (by rintro ⟨a, ha, _⟩; cases ha)⟩
theorem runs_j6 {w : Nat} {most : Int} {h0 h : Hp} {b1 b2 : Nat} {S1 S2 : Nat → Prop} (e0 : Ext h0 h) (q1 : TrG h b1 S1 w most ⟨.nil, 0⟩) (q2 : TrG h b2 S2 w most ⟨.nil, 0⟩) (hd : ∀ k, S1 k → ¬ S2 k) (h1 : ∀ k, S1 k → h0.size ≤ k) (h2 : ∀ k, S2 k → h0.size ≤ k) {A : Option Addr} {c : Nat} {os : List OpR} (r : RSl h0 A os.length 5 (os.flatMap OpR.enc)) (hlen : os.length ≤ 16777216) (hk : ∀ o, o ∈ os → o.key < 4294967296 ∧ -9223372036854775808 ≤ o.v ∧ o.v ≤ 9223372036854775807) {K0 : Bool → Hp → Prop} (H : ∀ h', Ext h0 h' → K0 true h') :
    quintetlaw12_TrieRuns_j6 K0 w most A os.length c (some ⟨b1, 0, none⟩) (some ⟨b2, 0, none⟩) h := by
  unfold quintetlaw12_TrieRuns_j6
  refine newC_i (cs := rfC w most ⟨.nil, 0⟩ none 0) fun g1 e1 k1 bb1 z1 => newC_i (cs := rfC w most ⟨.nil, 0⟩ none 0) fun g2 e2 k2 bb2 z2 => ⟨os.length + 1, ?_⟩
  have s0 := e0.size
  have s1 := e1.size
  have l1 := q1.rok.2
  have l2 := q2.rok.2
  have T : Two h0 g2 b1 h.size b2 g1.size w most ⟨.nil, 0⟩ ⟨.nil, 0⟩ := by
    refine ⟨(e0.trans e1).trans e2, S1, fun k => k = h.size, S2, fun k => k = g1.size, ⟨(q1.ext e1).ext e2, (rf_new (h0 := h0) bb1).ext e2, fun k hk e => ?_⟩, ⟨(q2.ext e1).ext e2, rf_new (h0 := h0) bb2, fun k hk e => ?_⟩, ?_, ?_, ?_⟩
    · have := l1 k hk; have : k = h.size := e; omega
    · have := l2 k hk; have : k = g1.size := e; omega
    · rintro k (hk | hk) (hk2 | hk2)
      · exact hd k hk hk2
      · have := l1 k hk; have : k = g1.size := hk2; omega
      · have := l2 k hk2; have : k = h.size := hk; omega
      · have : k = g1.size := hk2; have : k = h.size := hk; omega
    · rintro k (hk | hk)
      · exact h1 k hk
      · have : k = h.size := hk; omega
    · rintro k (hk | hk)
      · exact h2 k hk
      · have : k = g1.size := hk; omega
  refine runs_l7 r hlen hk (fun g3 s3 s4 T3 => ?_) os.length 0 _ g2 _ _ (by omega) (by omega) T
  refine awake_s fun g4 e4 => ⟨_, rfl, br_t rfl ?_⟩
  have T4 := T3.more e4
  refine T4.step1 ⟨5, false, 0, 0, 0⟩ (by decide) (by decide) (by decide) fun g5 T5 => ⟨_, rfl, br_t rfl ?_⟩
  refine T5.swap.step1 ⟨5, false, 0, 0, 0⟩ (by decide) (by decide) (by decide) fun g6 T6 => ⟨_, rfl, br_t rfl ?_⟩
  refine T6.swap.step1 ⟨6, false, 0, 0, 0⟩ (by decide) (by decide) (by decide) fun g7 T7 => ⟨_, rfl, br_t rfl ?_⟩
  refine T7.swap.step1 ⟨6, false, 0, 0, 0⟩ (by decide) (by decide) (by decide) fun g8 T8 => ⟨_, rfl, H g8 T8.ext⟩
theorem TrieRuns_s (w most : Int) (A : Option Addr) (c : Nat) (os : List OpR) (hk : ∀ o, o ∈ os → o.key < 4294967296 ∧ -9223372036854775808 ≤ o.v ∧ o.v ≤ 9223372036854775807) {h : Hp} (r : RSl h A os.length 5 (os.flatMap OpR.enc)) {K : Value → Hp → Prop} (H : ∀ h', Ext h h' → K (.bool true) h') :
    CallsH Try.prog 8 #[.int .i64 w, .int .i64 most, .slice A os.length c] h K := by
  refine quintetlaw12_TrieRuns_ok _ _ _ _ _ ?_
  unfold quintetlaw12_TrieRuns
  by_cases hn : (w = 8 ∨ w = 16 ∨ w = 32) ∧ 0 ≤ most ∧ most ≤ 1048576
  · refine tnew_s w most (fun hh => absurd hn hh) fun _ h1 b1 e1 hb1 q1 => ⟨_, _, rfl, ?_⟩
    refine tnew_s w most (fun hh => absurd hn hh) fun _ h2 b2 e2 hb2 q2 => ⟨_, _, rfl, ?_⟩
    refine right_s w most ⟨_, rfl, ?_⟩
    rw [decide_eq_true hn]
    refine br_f rfl (br_i (fun _ => ?_) (fun hlen => ?_))
    · exact awake_s fun h3 e3 => ⟨_, rfl, br_t rfl (H h3 ((e1.trans e2).trans e3))⟩
    · have hlen' : os.length ≤ 16777216 := by simp at hlen; omega
      obtain ⟨hw3, hm⟩ := hn
      obtain ⟨w, rfl⟩ := Int.eq_ofNat_of_zero_le (a := w) (by omega)
      have hw : W3 w := by unfold W3; omega
      unfold quintetlaw12_TrieRuns_j4
      refine br_f rfl (br_f rfl ⟨_, eqNil eq32, br_f rfl ⟨_, eqNil eq32, br_f rfl ?_⟩⟩)
      have q1l := q1.2.1
      have s1 := e1.size
      refine runs_j6 (h0 := h) (e1.trans e2) ⟨_, q1.ext e2, TGd.new hw hm⟩ ⟨_, q2, TGd.new hw hm⟩ (fun k hk hk2 => ?_) (fun k hk => ?_) (fun k hk => ?_) r hlen' hk fun h3 e3 => H h3 e3
      · have := q1l k hk
        have : k = b2 := hk2
        omega
      · have : k = b1 := hk
        omega
      · have : k = b2 := hk
        omega
  · refine tnew_s w most (fun _ => ⟨_, _, rfl, ?_⟩) (fun hh => absurd hh hn)
    refine tnew_s w most (fun _ => ⟨_, _, rfl, ?_⟩) (fun hh => absurd hh hn)
    refine right_s w most ⟨_, rfl, ?_⟩
    rw [decide_eq_false hn]
    exact br_t rfl (awake_s fun h1 e1 => ⟨_, rfl, br_t rfl (H h1 e1)⟩)
end Go.Proofs.Ytofjbbfnkefoaaa.Fs
