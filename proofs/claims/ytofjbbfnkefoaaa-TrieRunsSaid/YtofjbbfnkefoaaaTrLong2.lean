/- TrieLongest. -/
import Derived.Test.YtofjbbfnkefoaaaTrLong
namespace Go.Proofs.Ytofjbbfnkefoaaa.Fs
open Go Go.RowKit Go.Proofs.Ytofjbbfnkefoaaa.Sx Go.Proofs.Ytofjbbfnkefoaaa.Tp
set_option linter.unusedVariables false
set_option linter.unusedSimpArgs false
set_option maxRecDepth 10000
theorem shr64u {t : TypeId} (x y : Int) (hy : 0 ≤ y) : PV Try.prog (binOp .shr t (.int .u64 x) (.int .u64 y)) (.int .u64 (x.fdiv (2 ^ min y.toNat 64))) := by
  intro w
  have hn : ¬ (y < 0) := by omega
  simp only [binOp, Op.shift, hn, if_false]
  rfl
theorem neE (a b c a' b' c' : Int) : PV Try.prog (binOp .neq 66 (.agg #[.int .u32 a, .int .i64 b, .int .i64 c]) (.agg #[.int .u32 a', .int .i64 b', .int .i64 c'])) (.bool (!decide (a = a' ∧ b = b' ∧ c = c'))) := by
  intro w
  rw [run_neq_struct, run_equalIn_struct w 9999 66 _ _ (by kernel_rfl) (by kernel_rfl)]
  simp [go_sem]
  by_cases h0 : a = a' <;> by_cases h1 : b = b' <;> by_cases h2 : c = c' <;> simp [h0, h1, h2]
theorem sizeE : (Try.prog.info? 66).map (·.size) = some 3 := by kernel_rfl
theorem rd_e {h : Hp} {A : Option Addr} {l c : Nat} {es : List En} (r : RSl h A l 3 (es.flatMap En.enc)) (hl : es.length = l) {i : Nat} {e : En} (hi : es[i]? = some e) :
    ∃ a : Addr, PV Try.prog (Instr.indexAt 79 (.slice A l c) (.int .i64 (i : Int))) (.pointer (some (a.add (i * 3)))) ∧ Cl h (a.add (i * 3)) e.enc := by
  have hlt := (List.getElem?_eq_some_iff.1 hi).1
  obtain ⟨a, rfl, hcl⟩ := r.some (by omega)
  refine ⟨a, ?_, r.elem En.len hi hl⟩
  have := ix (P := Try.prog) (T := 79) (E := 66) (a := a) (l := l) (c := c) (sz := 3) (k := .i64) (i := (i : Int)) (by omega) (by omega) undE sizeE
  rw [Int.toNat_natCast] at this
  exact this
/-- Does an entry begin a word? -/
def cE (w k : Nat) (e : List Bool × Int) : Bool := decide (k < 2 ^ w) && e.1.isPrefixOf (pa w k w)
theorem abovL_filter {w : Nat} (hw : W3 w) {k : Nat} (hk : k < 4294967296) (T : Tr) : abovL T w k w = ((T.ents []).filter (cE w k)).map (enW w) := by
  unfold abovL
  have hm := may_iff hw hk w
  rw [Nat.sub_self, Nat.pow_zero, Nat.mod_one] at hm
  by_cases hkw : k < 2 ^ w
  · rw [if_pos (hm.2 ⟨Nat.le_refl _, hkw, rfl⟩), Int.toNat_natCast, Tr.above_ents]
    congr 2
    funext e
    simp [cE, hkw]
  · rw [if_neg (fun h => hkw (hm.1 h).2.1)]
    have : (T.ents []).filter (cE w k) = [] := by
      rw [List.filter_eq_nil_iff]
      intro e _
      simp [cE, hkw]
    rw [this]
    rfl
theorem u64k {w : Nat} (k n : Nat) (hk : k < 4294967296) (hn : n ≤ 64) : (IntKind.u64.wrap (k : Int)).fdiv (2 ^ min (IntKind.u64.wrap (n : Int)).toNat 64) = ((k / 2 ^ n : Nat) : Int) := by
  rw [u64_in k (by omega), u64_in n (by omega), Int.toNat_natCast, Nat.min_eq_left hn, show (2 : Int) ^ n = ((2 ^ n : Nat) : Int) by simp, fdiv_nat]
theorem cE_iff {w : Nat} (hw : W3 w) {k : Nat} {e : List Bool × Int} (he : e.1.length ≤ w) : cE w k e = (decide (k / 2 ^ w = 0) && decide (k / 2 ^ (w - e.1.length) = kv w e.1 / 2 ^ (w - e.1.length))) := by
  have hpos := Nat.two_pow_pos w
  have h0 : (k / 2 ^ w = 0) ↔ k < 2 ^ w := by rw [Nat.div_eq_zero_iff]; omega
  unfold cE
  by_cases hkw : k < 2 ^ w
  · have := pre_pa he hkw
    have h1 : decide (k / 2 ^ w = 0) = true := by simp [h0, hkw]
    have h2 : decide (k < 2 ^ w) = true := by simp [hkw]
    rw [h1, h2, Bool.true_and, Bool.true_and]
    by_cases hp : e.1.isPrefixOf (pa w k w) = true
    · rw [hp]; symm; rw [decide_eq_true_eq]; exact this.1 hp
    · have hp' : e.1.isPrefixOf (pa w k w) = false := Bool.eq_false_iff.2 hp
      rw [hp']; symm; rw [decide_eq_false_iff_not]; exact fun h => hp (this.2 h)
  · have h1 : decide (k / 2 ^ w = 0) = false := by simp only [decide_eq_false_iff_not, h0]; exact hkw
    have h2 : decide (k < 2 ^ w) = false := by simpa using hkw
    rw [h1, h2]; rfl
theorem ent_in {w : Nat} {T : Tr} (hD : T.Dp w) {e : List Bool × Int} (he : e ∈ T.ents []) : e.1.length ≤ w ∧ T.get e.1 = some e.2 := by
  obtain ⟨p, v⟩ := e
  obtain ⟨s, rfl, hs⟩ := (Tr.mem_ents T [] p v).1 he
  exact ⟨hD.get w T p (by rw [hs]; simp), hs⟩
theorem get_ent {w : Nat} (hw : W3 w) {s : Ab} (hD : s.T.Dp w) {e : List Bool × Int} (he : e ∈ s.T.ents []) : getA w s (kv w e.1) (e.1.length : Nat) = (e.2, true) := by
  obtain ⟨h1, h2⟩ := ent_in hD he
  unfold getA
  rw [if_pos (may_kv hw h1), Int.toNat_natCast, pa_kv _ _ h1, h2]
  rfl
theorem sorted_get {w : Nat} {T : Tr} (hD : T.Dp w) {i : Nat} {a b : List Bool × Int} (ha : (T.ents [])[i]? = some a) (hb : (T.ents [])[i + 1]? = some b) : Bf w a b := by
  have hs := ents_sorted (w := w) T w [] hD (by simp)
  obtain ⟨h1, e1⟩ := List.getElem?_eq_some_iff.1 ha
  obtain ⟨h2, e2⟩ := List.getElem?_eq_some_iff.1 hb
  have := List.pairwise_iff_getElem.1 hs i (i + 1) h1 h2 (by omega)
  rw [e1, e2] at this
  exact this
theorem longJ {w k : Nat} (hw : W3 w) (hk : k < 4294967296) {e : List Bool × Int} (he : e.1.length ≤ w) {g0 h : Hp} {A A' : Option Addr} {l c c' i : Nat} {ents : List (List Bool × Int)} {p : Option Addr} {A2 : Option Addr} {l2 c2 : Nat} {ab : Addr} {ob : Bool} (r : RSl h A l 3 ((ents.map (enW w)).flatMap En.enc)) (hl : ents.length = l) (hi : ents[i]? = some e) (hbd : l ≤ 1048576)
    {want : List En} (hwl : want.length ≤ 1048576) (rw_ : RowE h A' c' want) (e0 : Ext g0 h) (hbl : ∀ k, blk A' k → g0.size ≤ k) {K0 : Int → Int → (Option Addr) → (Option Addr) → Nat → Nat → (Option Addr) → Nat → Nat → Addr → Bool → (Option Addr) → Nat → Nat → Int → Hp → Prop}
    (H : ∀ h' A' c', Ext g0 h' → RowE h' A' c' (want ++ if cE w k e = true then [enW w e] else []) → (∀ k, blk A' k → g0.size ≤ k) → K0 w k p A l c A2 l2 c2 ab ob A' (want ++ if cE w k e = true then [enW w e] else []).length c' i h') :
    quintetlaw12_TrieLongest_j12 K0 w k p A l c A2 l2 c2 ab ob A' want.length c' i h := by
  have hwl' := hw.le
  unfold quintetlaw12_TrieLongest_j12
  have hc := cE_iff hw (k := k) he
  have hkv := kv_lt w e.1 he
  have hpw := pow_lt32 hwl'.2
  have hin : (ents.map (enW w))[i]? = some (enW w e) := by rw [List.getElem?_map, hi]; rfl
  obtain ⟨a, hp, hcl⟩ := rd_e (c := c) r (by rw [List.length_map, hl]) hin
  refine ⟨_, shr64u _ _ (by rw [u64_in w (by omega)]; omega), ?_⟩
  rw [u64k (w := w) k w hk (by omega)]
  refine br_i (fun h0 => ?_) (fun h0 => ?_)
  · have h0' : k / 2 ^ w = 0 := by simp at h0; exact_mod_cast h0
    rw [h0', decide_eq_true rfl, Bool.true_and] at hc
    refine ⟨_, hp, _, ld (hcl.at_ 1 _ rfl) (by kernel_rfl), ?_⟩
    have hsub : IntKind.i64.wrap ((w : Int) - (enW w e).2.1) = ((w - e.1.length : Nat) : Int) := by
      show IntKind.i64.wrap ((w : Int) - (e.1.length : Nat)) = _
      rw [wrap_in (by omega) (by omega)]; omega
    refine ⟨_, shr64u _ _ (by rw [hsub, u64_in _ (by omega)]; omega), ?_⟩
    rw [hsub, u64k (w := w) k _ hk (by omega)]
    refine ⟨_, hp, _, ld (hcl.at_ 0 _ rfl) (by kernel_rfl), _, hp, _, ld (hcl.at_ 1 _ rfl) (by kernel_rfl), ?_⟩
    refine ⟨_, shr64u _ _ (by rw [hsub, u64_in _ (by omega)]; omega), ?_⟩
    rw [hsub]
    have hk2 := u64k (w := w) (kv w e.1) (w - e.1.length) (by omega) (by omega)
    show br ((((k / 2 ^ (w - e.1.length) : Nat) : Int)) == (IntKind.u64.wrap ((kv w e.1 : Nat) : Int)).fdiv (2 ^ min (IntKind.u64.wrap ((w - e.1.length : Nat) : Int)).toNat 64)) _ _
    rw [hk2]
    refine br_i (fun h1 => ?_) (fun h1 => ?_)
    · have h1' : k / 2 ^ (w - e.1.length) = kv w e.1 / 2 ^ (w - e.1.length) := by simp at h1; exact_mod_cast h1
      rw [h1', decide_eq_true rfl] at hc
      rw [if_pos hc] at H
      refine ⟨_, hp, _, _, _, ldS hcl (by kernel_rfl), ?_⟩
      refine newC_i (cs := En.enc (enW w e)) fun g4 e4 c4 b4 z4 => ?_
      obtain ⟨i', z, hi', hisz, hiby, hiby0, hiz, hzc⟩ := infoE
      have hrow4 := rw_.keep (e4.fr (fun _ => False)) (fun _ _ h => h)
      refine HW_append1 (enc := En.enc) (xs := want) (x := enW w e) En.len En.flat undE hi' hiz (by rw [hzc]; rfl) hisz hiby0 hrow4 c4 ?_ ?_
      · have : (2 * (want.length + 1) + 768) * i'.bytes ≤ (2 * (want.length + 1) + 768) * 100 := Nat.mul_le_mul_left _ hiby
        omega
      intro g5 g c5 hr5 hg f5
      refine ⟨_, _, _, rfl, ?_⟩
      have hbg : ∀ k, blk (some ⟨g, 0, none⟩ : Option Addr) k → k = g := by rintro k ⟨a', ha', rfl⟩; injection ha' with ha'; subst ha'; rfl
      have := H g5 (some ⟨g, 0, none⟩) c5 ⟨by have := e0.size; have := e4.size; have := f5.size; omega, fun k hk => by
        rw [f5.keep k (by have := e0.size; have := e4.size; omega) (fun hb => by have := hbl k hb; omega), e4.old k (by have := e0.size; omega), e0.old k hk]⟩ hr5 (fun k hk => by
          have := hbg k hk
          rcases hg with hg | hg
          · rw [this]; exact hbl g hg
          · have := e0.size; have := e4.size; omega)
      simpa using this
    · have h1' : ¬ k / 2 ^ (w - e.1.length) = kv w e.1 / 2 ^ (w - e.1.length) := by
        intro hh; rw [hh] at h1; simp at h1
      rw [decide_eq_false h1'] at hc
      rw [if_neg (by rw [hc]; decide)] at H
      have := H h A' c' e0 (by simpa using rw_) hbl
      simpa using this
  · have h0' : ¬ k / 2 ^ w = 0 := by
      intro hh; rw [hh] at h0; simp at h0
    rw [decide_eq_false h0', Bool.false_and] at hc
    rw [if_neg (by rw [hc]; decide)] at H
    have := H h A' c' e0 (by simpa using rw_) hbl
    simpa using this
end Go.Proofs.Ytofjbbfnkefoaaa.Fs
