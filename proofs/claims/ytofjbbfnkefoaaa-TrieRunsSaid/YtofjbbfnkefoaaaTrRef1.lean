/- The document's trie: first, May, at, nodes. -/
import Derived.Test.YtofjbbfnkefoaaaTrTurn2
import Derived.Test.YtofjbbfnkefoaaaTrPure8
namespace Go.Proofs.Ytofjbbfnkefoaaa.Fs
open Go Go.RowKit Go.Proofs.Ytofjbbfnkefoaaa.Sx Go.Proofs.Ytofjbbfnkefoaaa.Tp
set_option linter.unusedVariables false
set_option linter.unusedSimpArgs false
set_option maxRecDepth 10000
theorem pa_succ (m k n : Nat) : pa m k (n + 1) = pa m k n ++ [decide (k / 2 ^ (m - 1 - n) % 2 = 1)] := by
  refine List.ext_getElem? fun j => ?_
  by_cases h : j < n
  · rw [pa_bits (n + 1) m k j (by omega), List.getElem?_append_left (by rw [pa_len]; exact h), pa_bits n m k j h]
  · rw [List.getElem?_append_right (by rw [pa_len]; omega), pa_len]
    by_cases h2 : j = n
    · subst h2
      rw [pa_bits (j + 1) m k j (by omega), Nat.sub_self]
      rfl
    · rw [List.getElem?_eq_none (by rw [pa_len]; omega), List.getElem?_eq_none (by simp; omega)]
theorem shr32u {t : TypeId} (x y : Int) (hy : 0 ≤ y) : PV Try.prog (binOp .shr t (.int .u32 x) (.int .u64 y)) (.int .u32 (x.fdiv (2 ^ min y.toNat 32))) := by
  intro w
  have hn : ¬ (y < 0) := by omega
  simp only [binOp, Op.shift, hn, if_false]
  rfl
theorem shl32u {t : TypeId} (x y : Int) (hy : 0 ≤ y) : PV Try.prog (binOp .shl t (.int .u32 x) (.int .u64 y)) (.int .u32 (IntKind.u32.wrap (x * 2 ^ min y.toNat 32))) := by
  intro w
  have hn : ¬ (y < 0) := by omega
  simp only [binOp, Op.shift, hn, if_false]
  rfl
theorem first_s {w k n : Nat} (hw : w ≤ 32) (hk : k < 4294967296) (hn : n ≤ w) {h : Hp} {K : Value → Hp → Prop} (H : K (.int .u32 (kv w (pa w k n) : Nat)) h) : CallsH Try.prog 77 #[.int .i64 (w : Int), .int .u32 (k : Int), .int .i64 (n : Int)] h K := by
  refine quintetref12_first_ok _ _ _ ?_
  unfold quintetref12_first
  refine ⟨n + 1, ?_⟩
  have key : ∀ (d i f : Nat), i + d = n → d < f → quintetref12_first_l1 w k n (fun (x14 : Int) (h15 : Hp) => K (.int .u32 x14) h15) f (kv w (pa w k i) : Nat) i h := by
    intro d
    induction d with
    | zero =>
      intro i f hi hf
      obtain ⟨f, rfl⟩ : ∃ f', f = f' + 1 := ⟨f - 1, by omega⟩
      unfold quintetref12_first_l1
      have : i = n := by omega
      subst this
      exact br_f (by simp) H
    | succ d ih =>
      intro i f hi hf
      obtain ⟨f, rfl⟩ : ∃ f', f = f' + 1 := ⟨f - 1, by omega⟩
      unfold quintetref12_first_l1
      have hsh : IntKind.u64.wrap (IntKind.i64.wrap (IntKind.i64.wrap ((w : Int) - 1) - (i : Int))) = ((w - 1 - i : Nat) : Int) := by
        rw [wrap_in (n := (w : Int) - 1) (by omega) (by omega), wrap_in (n := (w : Int) - 1 - (i : Int)) (by omega) (by omega), show (w : Int) - 1 - (i : Int) = ((w - 1 - i : Nat) : Int) by omega, u64_in _ (by omega)]
      rw [hsh]
      refine br_t (by simp; omega) ⟨_, shr32u _ _ (by omega), _, shl32u _ _ (by omega), ?_⟩
      have hm : min (((w - 1 - i : Nat) : Int)).toNat 32 = w - 1 - i := by rw [Int.toNat_natCast]; omega
      have e2 : (2 : Int) ^ (w - 1 - i) = ((2 ^ (w - 1 - i) : Nat) : Int) := by simp
      have hlt : 2 ^ (w - 1 - i) < 4294967296 := Nat.pow_lt_pow_right (by decide : 1 < 2) (by omega : w - 1 - i < 32)
      rw [hm, e2, fdiv_nat]
      have hmod : Int.tmod ((k / 2 ^ (w - 1 - i) : Nat) : Int) 2 = ((k / 2 ^ (w - 1 - i) % 2 : Nat) : Int) := by
        rw [show (2 : Int) = ((2 : Nat) : Int) from rfl, ← Int.ofNat_tmod]
      have h2 : k / 2 ^ (w - 1 - i) % 2 < 2 := Nat.mod_lt _ (by omega)
      have hprod : k / 2 ^ (w - 1 - i) % 2 * 2 ^ (w - 1 - i) < 4294967296 := by
        have : k / 2 ^ (w - 1 - i) % 2 * 2 ^ (w - 1 - i) ≤ 1 * 2 ^ (w - 1 - i) := Nat.mul_le_mul_right _ (by omega)
        omega
      rw [hmod, ← Int.natCast_mul, u32_in _ hprod]
      have hnext : kv w (pa w k (i + 1)) = kv w (pa w k i) + k / 2 ^ (w - 1 - i) % 2 * 2 ^ (w - 1 - i) := by
        rw [pa_succ, kv_app, pa_len]
        congr 1
        rw [kv, show w - i - 1 = w - 1 - i by omega]
        by_cases c : k / 2 ^ (w - 1 - i) % 2 = 1
        · rw [c]; simp [kv]
        · rw [show k / 2 ^ (w - 1 - i) % 2 = 0 by omega]; simp [kv]
      have hb := kv_lt w (pa w k (i + 1)) (by rw [pa_len]; omega)
      have hpw := pow_lt32 hw
      rw [← Int.natCast_add, ← hnext, u32_in _ (by omega), wrap_in (by omega) (by omega)]
      have hcast : (i : Int) + 1 = ((i + 1 : Nat) : Int) := by omega
      rw [hcast]
      exact ih (i + 1) f (by omega) (by omega)
  have := key n 0 (n + 1) (by omega) (by omega)
  simpa [pa, kv] using this
/-- The document's trie, as it is read. -/
def RfV (h : Hp) (m w : Nat) (most : Int) (ar : Nat) (A : Option Addr) (c : Nat) (L : List Ent) : Prop :=
  Cl h ⟨m, 0, none⟩ [.int .i64 (w : Int), .int .i64 most, .int .i64 (ar : Int), .slice A L.length c] ∧ RSl h A L.length 3 ((L.map (enW w)).flatMap En.enc)
theorem RfV.ext {h h' : Hp} {m w : Nat} {most : Int} {ar : Nat} {A : Option Addr} {c : Nat} {L : List Ent} (q : RfV h m w most ar A c L) (e : Ext h h') : RfV h' m w most ar A c L := ⟨q.1.ext e, q.2.ext e⟩
theorem RfV.rd {h : Hp} {m w : Nat} {most : Int} {ar : Nat} {A : Option Addr} {c : Nat} {L : List Ent} (q : RfV h m w most ar A c L) {i : Nat} {e : Ent} (hi : L[i]? = some e) : ∃ a : Addr, PV Try.prog (Instr.indexAt 79 (.slice A L.length c) (.int .i64 (i : Int))) (.pointer (some (a.add (i * 3)))) ∧ Cl h (a.add (i * 3)) (enW w e).enc :=
  rd_e q.2 (by rw [List.length_map]) (by rw [List.getElem?_map, hi]; rfl)
theorem rmay_s {h : Hp} {m w : Nat} {most : Int} {ar : Nat} {A : Option Addr} {c : Nat} {L : List Ent} (q : RfV h m w most ar A c L) (hw : W3 w) {k : Nat} (hk : k < 4294967296) (n : Int) {K : Value → Hp → Prop} (H : K (.bool (mayT w k n)) h) : CallsH Try.prog 73 #[.pointer (some ⟨m, 0, none⟩), .int .u32 (k : Int), .int .i64 n] h K := by
  refine quintetref12_Trie_May_ok _ _ _ ?_
  unfold quintetref12_Trie_May
  have hwl := hw.le
  have hpw := pow_lt32 hwl.2
  have hpos := Nat.two_pow_pos w
  have hno : mayT w k n = false → K (.bool false) h := fun e => e ▸ H
  refine br_i (fun h0 => ?_) (fun h0 => hno (may_neg (by simp at h0; omega)))
  have hn0 : 0 ≤ n := by simpa using h0
  obtain ⟨n, rfl⟩ := Int.eq_ofNat_of_zero_le hn0
  have hiff := may_iff hw hk n
  refine ⟨_, ld (q.1.at_ 0 _ rfl) (by kernel_rfl), br_i (fun h1 => ?_) (fun h1 => hno ?_)⟩
  · have hnw : n ≤ w := by simp at h1; omega
    refine ⟨_, ld (q.1.at_ 0 _ rfl) (by kernel_rfl), _, shr64u _ _ (by rw [u64_in w (by omega)]; omega), ?_⟩
    rw [u64k (w := w) k w hk (by omega)]
    have hdz : k / 2 ^ w = 0 ↔ k < 2 ^ w := by rw [Nat.div_eq_zero_iff]; omega
    refine br_i (fun h2 => ?_) (fun h2 => hno ?_)
    · have hkw : k < 2 ^ w := hdz.1 (by simp at h2; exact_mod_cast h2)
      refine ⟨_, ld (q.1.at_ 0 _ rfl) (by kernel_rfl), ?_⟩
      refine first_s hwl.2 hk hnw ⟨_, rfl, ?_⟩
      have h1 := kv_pa n w k hnw
      rw [Nat.mod_eq_of_lt hkw] at h1
      have : (((kv w (pa w k n) : Nat) : Int) == (k : Int)) = mayT w k n := by
        by_cases hm : mayT w k n = true
        · rw [hm, beq_iff_eq]
          have := (hiff.1 hm).2.2
          omega
        · have hm' := Bool.eq_false_iff.2 hm
          rw [hm', beq_eq_false_iff_ne]
          intro he
          exact hm (hiff.2 ⟨hnw, hkw, by omega⟩)
      rw [this]
      exact H
    · refine Bool.eq_false_iff.2 fun hm => ?_
      have := hdz.2 (hiff.1 hm).2.1
      rw [this] at h2
      simp at h2
  · refine Bool.eq_false_iff.2 fun hm => ?_
    have := (hiff.1 hm).1
    simp at h1
    omega
theorem at_s {h : Hp} {m w : Nat} {most : Int} {ar : Nat} {A : Option Addr} {c : Nat} {L : List Ent} (q : RfV h m w most ar A c L) (hbd : L.length ≤ 1100000) (k n : Int) {K : Value → Hp → Prop} (H1 : ∀ (i : Nat) (e : Ent), L[i]? = some e → ((kv w e.1 : Nat) : Int) = k ∧ ((e.1.length : Nat) : Int) = n → K (.int .i64 (i : Int)) h) (H0 : (∀ e : Ent, e ∈ L → ¬ (((kv w e.1 : Nat) : Int) = k ∧ ((e.1.length : Nat) : Int) = n)) → K (.int .i64 (-1)) h) :
    CallsH Try.prog 74 #[.pointer (some ⟨m, 0, none⟩), .int .u32 k, .int .i64 n] h K := by
  refine quintetref12_Trie_at_ok _ _ _ ?_
  unfold quintetref12_Trie_at
  refine ⟨L.length + 1, ?_⟩
  have key : ∀ (d i f : Nat), i + d = L.length → d < f → (∀ j e, j < i → L[j]? = some e → ¬ (((kv w e.1 : Nat) : Int) = k ∧ ((e.1.length : Nat) : Int) = n)) → quintetref12_Trie_at_l1 (some ⟨m, 0, none⟩) k n (fun (x29 : Int) (h30 : Hp) => K (.int .i64 x29) h30) (fun (h31 : Hp) => K (.int .i64 (-1)) h31) f i h := by
    intro d
    induction d with
    | zero =>
      intro i f hi hf hno
      obtain ⟨f, rfl⟩ : ∃ f', f = f' + 1 := ⟨f - 1, by omega⟩
      unfold quintetref12_Trie_at_l1
      refine ⟨_, _, _, ld (q.1.at_ 3 _ rfl) (by kernel_rfl), br_f (by simp; omega) (H0 fun e he => ?_)⟩
      obtain ⟨j, hj, rfl⟩ := List.mem_iff_getElem.1 he
      exact hno j _ (by omega) (List.getElem?_eq_getElem hj)
    | succ d ih =>
      intro i f hi hf hno
      obtain ⟨f, rfl⟩ : ∃ f', f = f' + 1 := ⟨f - 1, by omega⟩
      unfold quintetref12_Trie_at_l1
      have hlt : i < L.length := by omega
      have ho : L[i]? = some L[i] := List.getElem?_eq_getElem hlt
      obtain ⟨a, hp, hcl⟩ := q.rd ho
      have go : ¬ (((kv w (L[i]).1 : Nat) : Int) = k ∧ (((L[i]).1.length : Nat) : Int) = n) → quintetref12_Trie_at_l1 (some ⟨m, 0, none⟩) k n (fun (x29 : Int) (h30 : Hp) => K (.int .i64 x29) h30) (fun (h31 : Hp) => K (.int .i64 (-1)) h31) f (IntKind.i64.wrap ((i : Int) + 1)) h := by
        intro hn
        rw [wrap_in (by omega) (by omega)]
        have hcast : (i : Int) + 1 = ((i + 1 : Nat) : Int) := by omega
        rw [hcast]
        refine ih (i + 1) f (by omega) (by omega) fun j e hj hje => ?_
        by_cases he : j = i
        · subst he
          rw [ho] at hje
          injection hje with hje
          rw [← hje]; exact hn
        · exact hno j e (by omega) hje
      refine ⟨_, _, _, ld (q.1.at_ 3 _ rfl) (by kernel_rfl), br_t (by simp; omega) ?_⟩
      refine ⟨_, _, _, ld (q.1.at_ 3 _ rfl) (by kernel_rfl), _, hp, _, ld (hcl.at_ 0 _ rfl) (by kernel_rfl), br_i (fun h1 => ?_) (fun h1 => go fun hh => ?_)⟩
      · refine ⟨_, _, _, ld (q.1.at_ 3 _ rfl) (by kernel_rfl), _, hp, _, ld (hcl.at_ 1 _ rfl) (by kernel_rfl), br_i (fun h2 => ?_) (fun h2 => go fun hh => ?_)⟩
        · exact H1 i _ ho ⟨beq_iff_eq.1 h1, beq_iff_eq.1 h2⟩
        · exact beq_eq_false_iff_ne.1 h2 hh.2
      · exact beq_eq_false_iff_ne.1 h1 hh.1
  exact key L.length 0 _ (by omega) (by omega) (fun j e hj => absurd hj (by omega))
end Go.Proofs.Ytofjbbfnkefoaaa.Fs
