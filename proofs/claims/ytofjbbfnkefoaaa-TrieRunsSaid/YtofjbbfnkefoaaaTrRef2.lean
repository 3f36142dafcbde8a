/- The document's trie: nodes, with. -/
import Derived.Test.YtofjbbfnkefoaaaTrRef1
namespace Go.Proofs.Ytofjbbfnkefoaaa.Fs
open Go Go.RowKit Go.Proofs.Ytofjbbfnkefoaaa.Sx Go.Proofs.Ytofjbbfnkefoaaa.Tp
set_option linter.unusedVariables false
set_option linter.unusedSimpArgs false
set_option maxRecDepth 10000
theorem lcp_iff : ∀ (a p : List Bool) (k : Nat), k ≤ p.length → ((k ≤ a.length ∧ a.take k = p.take k) ↔ k ≤ lcp a p)
  | a, p, 0, _ => by simp
  | [], p, k + 1, h => by simp [lcp]
  | x :: a, [], k + 1, h => by simp at h
  | x :: a, y :: p, k + 1, h => by
    have ih := lcp_iff a p k (by simpa using h)
    rw [lcp, List.take_succ_cons, List.take_succ_cons, List.length_cons]
    by_cases e : x = y
    · rw [if_pos e, e]
      constructor
      · rintro ⟨h1, h2⟩
        have := ih.1 ⟨by omega, by injection h2⟩
        omega
      · intro h1
        have := ih.2 (by omega)
        exact ⟨by omega, by rw [this.2]⟩
    · rw [if_neg e]
      constructor
      · rintro ⟨_, h2⟩
        injection h2 with h2 _
        exact absurd h2 e
      · intro h1; omega
theorem lastO_snoc : ∀ (l : List (List Bool)) (o : Option (List Bool)) (p : List Bool), lastO o (l ++ [p]) = some p
  | [], o, p => rfl
  | q :: l, o, p => lastO_snoc l (some q) p
theorem c1_le (o : Option (List Bool)) (p : List Bool) : c1 o p ≤ p.length + 1 := by
  cases o with
  | none => simp [c1]
  | some a => have := lcp_le a p; simp [c1]; exact this
theorem first_key {w k : Nat} (hw : W3 w) {p : List Bool} (hp : p.length ≤ w) (hk : k ≤ p.length) : kv w (pa w (kv w p) k) = kv w (p.take k) ∧ kv w p < 4294967296 := by
  have h1 := pa_take p.length k w (kv w p) hk
  rw [pa_kv p w hp] at h1
  have := kv_lt w p hp
  have := pow_lt32 hw.le.2
  exact ⟨by rw [← h1], by omega⟩
abbrev pthsL (L : List Ent) : List (List Bool) := L.map (·.1)
theorem cnt_bound : ∀ (l : List (List Bool)) (o : Option (List Bool)) (w : Nat), (∀ p, p ∈ l → p.length ≤ w) → cnt o l ≤ (w + 1) * l.length
  | [], _, _, _ => by simp [cnt]
  | p :: l, o, w, h => by
    have ih := cnt_bound l (some p) w fun q hq => h q (by simp [hq])
    have := h p (by simp)
    rw [cnt, List.length_cons, Nat.mul_succ]
    omega
theorem nodes_l7' {h : Hp} {m w : Nat} {most : Int} {ar : Nat} {A0 A' : Option Addr} {c0 c' : Nat} {L0 L : List Ent} (q : RfV h m w most ar A0 c0 L0) (r' : RSl h A' L.length 3 ((L.map (enW w)).flatMap En.enc)) (hw : W3 w) (hbd : L.length ≤ 1100000) (hL : ∀ e, e ∈ L → e.1.length ≤ w) {mm : Int} {i n0 : Nat} (hn0 : n0 ≤ 100000000) {e : Ent} (hi : L[i]? = some e) {K0 : Option Addr → Option Addr → Nat → Nat → Int → Int → Int → Hp → Prop} (H : K0 (some ⟨m, 0, none⟩) A' L.length c' mm ((n0 + (e.1.length + 1 - c1 (lastO none ((pthsL L).take i)) e.1) : Nat) : Int) i h) :
    ∀ (d k f : Nat), k + d = e.1.length + 1 → d < f → quintetref12_Trie_nodes_l7 (some ⟨m, 0, none⟩) A' L.length c' mm i K0 f ((n0 + (k - c1 (lastO none ((pthsL L).take i)) e.1) : Nat) : Int) k h := by
  have hwl := hw.le
  have hlt := (List.getElem?_eq_some_iff.1 hi).1
  have hem := hL e (List.mem_of_getElem? hi)
  have hc1 := c1_le (lastO none ((pthsL L).take i)) e.1
  obtain ⟨a, hp, hcl⟩ := rd_e (c := c') r' (by rw [List.length_map]) (show (L.map (enW w))[i]? = some (enW w e) by rw [List.getElem?_map, hi]; rfl)
  intro d
  induction d with
  | zero =>
    intro k f hk hf
    obtain ⟨f, rfl⟩ : ∃ f', f = f' + 1 := ⟨f - 1, by omega⟩
    unfold quintetref12_Trie_nodes_l7
    have : k = e.1.length + 1 := by omega
    subst this
    refine ⟨_, hp, _, ld (hcl.at_ 1 _ rfl) (by kernel_rfl), br_f ?_ H⟩
    show decide (((e.1.length + 1 : Nat) : Int) ≤ ((e.1.length : Nat) : Int)) = false
    rw [decide_eq_false_iff_not]; omega
  | succ d ih =>
    intro k f hk hf
    obtain ⟨f, rfl⟩ : ∃ f', f = f' + 1 := ⟨f - 1, by omega⟩
    unfold quintetref12_Trie_nodes_l7
    have hkl : k ≤ e.1.length := by omega
    have hcast : (k : Int) + 1 = ((k + 1 : Nat) : Int) := by omega
    have inc : c1 (lastO none ((pthsL L).take i)) e.1 ≤ k → quintetref12_Trie_nodes_l7 (some ⟨m, 0, none⟩) A' L.length c' mm i K0 f (IntKind.i64.wrap (((n0 + (k - c1 (lastO none ((pthsL L).take i)) e.1) : Nat) : Int) + 1)) (IntKind.i64.wrap ((k : Int) + 1)) h := by
      intro hc
      rw [wrap_in (n := (k : Int) + 1) (by omega) (by omega), wrap_in (by omega) (by omega), hcast]
      have : ((n0 + (k - c1 (lastO none ((pthsL L).take i)) e.1) : Nat) : Int) + 1 = ((n0 + (k + 1 - c1 (lastO none ((pthsL L).take i)) e.1) : Nat) : Int) := by omega
      rw [this]
      exact ih (k + 1) f (by omega) (by omega)
    have keep : k < c1 (lastO none ((pthsL L).take i)) e.1 → quintetref12_Trie_nodes_l7 (some ⟨m, 0, none⟩) A' L.length c' mm i K0 f ((n0 + (k - c1 (lastO none ((pthsL L).take i)) e.1) : Nat) : Int) (IntKind.i64.wrap ((k : Int) + 1)) h := by
      intro hc
      rw [wrap_in (n := (k : Int) + 1) (by omega) (by omega), hcast]
      have : ((n0 + (k - c1 (lastO none ((pthsL L).take i)) e.1) : Nat) : Int) = ((n0 + (k + 1 - c1 (lastO none ((pthsL L).take i)) e.1) : Nat) : Int) := by omega
      rw [this]
      exact ih (k + 1) f (by omega) (by omega)
    refine ⟨_, hp, _, ld (hcl.at_ 1 _ rfl) (by kernel_rfl), br_t ?_ ?_⟩
    · show decide (((k : Nat) : Int) ≤ ((e.1.length : Nat) : Int)) = true
      rw [decide_eq_true_eq]; omega
    refine br_i (fun h0 => ?_) (fun h0 => ?_)
    · obtain ⟨i', rfl⟩ : ∃ i', i = i' + 1 := ⟨i - 1, by simp at h0; omega⟩
      have hi' : L[i']? = some L[i'] := List.getElem?_eq_getElem (by omega)
      have hlast : lastO none ((pthsL L).take (i' + 1)) = some (L[i']).1 := by
        have : (pthsL L).take (i' + 1) = (pthsL L).take i' ++ [(L[i']).1] := by
          rw [List.take_add_one, List.getElem?_map, hi']; rfl
        rw [this, lastO_snoc]
      revert hi' hlast
      generalize L[i'] = ep
      intro hi' hlast
      have hpm := hL ep (List.mem_of_getElem? hi')
      obtain ⟨a', hp', hcl'⟩ := rd_e (c := c') r' (by rw [List.length_map]) (show (L.map (enW w))[i']? = some (enW w ep) by rw [List.getElem?_map, hi']; rfl)
      have hsub : IntKind.i64.wrap (((i' + 1 : Nat) : Int) - 1) = (i' : Int) := by rw [wrap_in (by omega) (by omega)]; omega
      rw [hsub]
      have hiff := lcp_iff ep.1 e.1 k hkl
      have hcc : c1 (lastO none ((pthsL L).take (i' + 1))) e.1 = lcp ep.1 e.1 + 1 := by rw [hlast]; rfl
      refine ⟨_, hp', _, ld (hcl'.at_ 1 _ rfl) (by kernel_rfl), br_i (fun h1 => ?_) (fun h1 => inc ?_)⟩
      · have hkp : k ≤ ep.1.length := by
          have : decide (((ep.1.length : Nat) : Int) ≥ ((k : Nat) : Int)) = true := h1
          simp at this; omega
        obtain ⟨f1, f1'⟩ := first_key hw hpm hkp
        obtain ⟨f2, f2'⟩ := first_key hw hem hkl
        refine ⟨_, ld (q.1.at_ 0 _ rfl) (by kernel_rfl), _, hp', _, ld (hcl'.at_ 0 _ rfl) (by kernel_rfl), ?_⟩
        refine first_s hwl.2 f1' (by omega) ⟨_, rfl, ?_⟩
        refine ⟨_, ld (q.1.at_ 0 _ rfl) (by kernel_rfl), ld (q.1.at_ 0 _ rfl) (by kernel_rfl), _, hp, _, ld (hcl.at_ 0 _ rfl) (by kernel_rfl), ld (hcl.at_ 0 _ rfl) (by kernel_rfl), ?_⟩
        refine first_s hwl.2 f2' (by omega) ⟨_, rfl, ?_⟩
        rw [f1, f2]
        have hlen : (ep.1.take k).length = (e.1.take k).length := by rw [List.length_take, List.length_take]; omega
        refine br_i (fun h2 => inc ?_) (fun h2 => keep ?_)
        · rw [hcc]
          have hne : ¬ k ≤ lcp ep.1 e.1 := fun hh => by
            rw [(hiff.2 hh).2] at h2
            simp at h2
          omega
        · rw [hcc]
          have heq : kv w (ep.1.take k) = kv w (e.1.take k) := by simp at h2; exact_mod_cast h2
          have := hiff.1 ⟨hkp, kv_inj (by rw [List.length_take]; omega) (by rw [List.length_take]; omega) hlen heq⟩
          omega
      · rw [hcc]
        have hkp : ¬ k ≤ ep.1.length := by
          have : decide (((ep.1.length : Nat) : Int) ≥ ((k : Nat) : Int)) = false := h1
          simp at this; omega
        have hne : ¬ k ≤ lcp ep.1 e.1 := fun hh => hkp (hiff.2 hh).1
        omega
    · have hi0 : i = 0 := by simp at h0; omega
      subst hi0
      exact inc (Nat.zero_le _)
theorem nodes_s {h : Hp} {m w : Nat} {most : Int} {ar : Nat} {A A' : Option Addr} {c c' : Nat} {L L' : List Ent} (q : RfV h m w most ar A c L) (r' : RSl h A' L'.length 3 ((L'.map (enW w)).flatMap En.enc)) (hw : W3 w) (hbd : L'.length ≤ 1100000) (hL : ∀ e, e ∈ L' → e.1.length ≤ w) (mm : Int) {K : Value → Hp → Prop}
    (H : ∀ n : Nat, n ≤ 100000000 → (((cnt none (pthsL L') : Nat) : Int) ≤ mm → n = cnt none (pthsL L')) → (mm < ((cnt none (pthsL L') : Nat) : Int) → mm < (n : Int)) → K (.int .i64 (n : Int)) h) :
    CallsH Try.prog 76 #[.pointer (some ⟨m, 0, none⟩), .slice A' L'.length c', .int .i64 mm] h K := by
  have hwl := hw.le
  refine quintetref12_Trie_nodes_ok _ _ _ _ _ ?_
  unfold quintetref12_Trie_nodes
  refine ⟨L'.length + 1, ?_⟩
  have hbnd : ∀ i, cnt none ((pthsL L').take i) ≤ 36300000 := fun i => by
    have h1 := cnt_bound ((pthsL L').take i) none w (fun p hp => by
      obtain ⟨e, he, rfl⟩ := List.mem_map.1 (List.mem_of_mem_take hp)
      exact hL e he)
    have h2 : ((pthsL L').take i).length ≤ 1100000 := by rw [List.length_take, List.length_map]; omega
    have h3 : (w + 1) * ((pthsL L').take i).length ≤ 33 * 1100000 := Nat.mul_le_mul (by omega) h2
    omega
  have hsplit : ∀ i, cnt none (pthsL L') = cnt none ((pthsL L').take i) + cnt (lastO none ((pthsL L').take i)) ((pthsL L').drop i) := fun i => by
    rw [← cnt_app, List.take_append_drop]
  -- the view of L' beside the trie
  have q' : RSl h A' L'.length 3 ((L'.map (enW w)).flatMap En.enc) := r'
  have key : ∀ (d i f : Nat), i + d = L'.length → d < f → quintetref12_Trie_nodes_l4 (some ⟨m, 0, none⟩) A' L'.length c' mm (fun (x258 : Int) (h259 : Hp) => K (.int .i64 x258) h259) f (cnt none ((pthsL L').take i) : Nat) i h := by
    intro d
    induction d with
    | zero =>
      intro i f hi hf
      obtain ⟨f, rfl⟩ : ∃ f', f = f' + 1 := ⟨f - 1, by omega⟩
      unfold quintetref12_Trie_nodes_l4
      have hb := hbnd i
      rw [List.take_of_length_le (by rw [List.length_map]; omega)] at hb ⊢
      exact br_f (by simp; omega) (H (cnt none (pthsL L')) (by omega) (fun _ => rfl) (fun h => h))
    | succ d ih =>
      intro i f hi hf
      obtain ⟨f, rfl⟩ : ∃ f', f = f' + 1 := ⟨f - 1, by omega⟩
      unfold quintetref12_Trie_nodes_l4
      have hb := hbnd i
      refine br_t (by simp; omega) (br_i (fun h1 => ?_) (fun h1 => ?_))
      · unfold quintetref12_Trie_nodes_j6
        have hlt : i < L'.length := by omega
        have ho : L'[i]? = some L'[i] := List.getElem?_eq_getElem hlt
        refine ⟨(L'[i]).1.length + 2, ?_⟩
        have qv : RfV h m w most ar A c L := q
        have := nodes_l7' (h := h) (m := m) (w := w) (A' := A') (c' := c') q r' hw hbd hL (mm := mm) (i := i) (n0 := cnt none ((pthsL L').take i)) (by omega) ho
          (K0 := fun (p245 : Option Addr) (A246 : Option Addr) (l246 : Nat) (c246 : Nat) (x247 : Int) (x248 : Int) (x249 : Int) (h250 : Hp) => quintetref12_Trie_nodes_l4 (some ⟨m, 0, none⟩) A' L'.length c' mm (fun (x258 : Int) (h259 : Hp) => K (.int .i64 x258) h259) f x248 (IntKind.i64.wrap (x249 + 1)) h250) ?_ ((L'[i]).1.length + 1) 0 ((L'[i]).1.length + 2) (by omega) (by omega)
        · rw [Nat.zero_sub, Nat.add_zero] at this
          exact this
        · show quintetref12_Trie_nodes_l4 _ _ _ _ _ _ f _ (IntKind.i64.wrap ((i : Int) + 1)) h
          rw [wrap_in (by omega) (by omega)]
          have hcast : (i : Int) + 1 = ((i + 1 : Nat) : Int) := by omega
          rw [hcast]
          have hnext : cnt none ((pthsL L').take (i + 1)) = cnt none ((pthsL L').take i) + ((L'[i]).1.length + 1 - c1 (lastO none ((pthsL L').take i)) (L'[i]).1) := by
            have : (pthsL L').take (i + 1) = (pthsL L').take i ++ [(L'[i]).1] := by
              rw [List.take_add_one, List.getElem?_map, ho]; rfl
            rw [this, cnt_app]
            simp [cnt]
          rw [← hnext]
          exact ih (i + 1) f (by omega) (by omega)
      · have hgt : mm < ((cnt none ((pthsL L').take i) : Nat) : Int) := by simp at h1; omega
        have := hsplit i
        exact H (cnt none ((pthsL L').take i)) (by omega) (fun hh => by omega) (fun _ => hgt)
  have := key L'.length 0 (L'.length + 1) (by omega) (by omega)
  simpa [cnt] using this
end Go.Proofs.Ytofjbbfnkefoaaa.Fs
