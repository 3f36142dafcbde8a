/- The document's trie: with, Above, Longest, Get. -/
import Derived.Test.YtofjbbfnkefoaaaTrRef3
namespace Go.Proofs.Ytofjbbfnkefoaaa.Fs
open Go Go.RowKit Go.Proofs.Ytofjbbfnkefoaaa.Sx Go.Proofs.Ytofjbbfnkefoaaa.Tp
set_option linter.unusedVariables false
set_option linter.unusedSimpArgs false
set_option maxRecDepth 10000
theorem ins_len {w : Nat} {e : Ent} : ∀ (l : List Ent), (insE w e l).length = l.length + 1
  | [] => rfl
  | x :: l => by
    rw [insE]
    split
    · simp
    · simp [ins_len l]
theorem with_s {w : Nat} {h : Hp} {A : Option Addr} {c : Nat} {L : List Ent} (r : RSl h A L.length 3 ((L.map (enW w)).flatMap En.enc)) (hbd : L.length ≤ 1048576) (e : Ent) {K : Value → Hp → Prop}
    (H : ∀ h' A' c', Ext h h' → RowE h' A' c' ((insE w e L).map (enW w)) → (∀ k, blk A' k → h.size ≤ k) → K (.slice A' (insE w e L).length c') h') :
    CallsH Try.prog 75 #[.slice A L.length c, En.val (enW w e)] h K := by
  refine quintetref12_with_ok _ _ _ _ _ _ ?_
  unfold quintetref12_with
  refine newC_i (cs := En.enc (enW w e)) fun h1 e1 c1 b1 z1 => ⟨L.length + 1, ?_⟩
  refine with_l1 (r.ext e1) hbd (e := e) c1 (fun h2 A2 c2 b acc e2 r2 hb2 hl2 hacc => ?_) L.length 0 (L.length + 1) h1 none 0 false [] (by omega) (by omega) (Ext.refl _) (.inl ⟨rfl, rfl, rfl, rfl⟩) (by rintro k ⟨a, ha, _⟩; cases ha) (by simp) (by simp)
  have E := e1.trans e2
  have s1 := e1.size
  cases b with
  | true =>
    rw [if_pos rfl] at hacc
    refine br_f rfl ?_
    rw [hacc] at r2 ⊢
    rw [List.length_map]
    exact H h2 A2 c2 E r2 (fun k hk => by have := hb2 k hk; omega)
  | false =>
    rw [if_neg (by decide)] at hacc
    refine br_t rfl ⟨_, _, _, ldS (c1.ext e2) (by kernel_rfl), ?_⟩
    refine app_e (e := enW w e) r2 hb2 e2 (by rw [List.length_map]; exact hl2) fun h3 A3 c3 e3 r3 hb3 => ?_
    have hm : acc.map (enW w) ++ [enW w e] = (insE w e L).map (enW w) := by rw [← hacc]; simp
    rw [hm] at r3 ⊢
    rw [List.length_map]
    exact H h3 A3 c3 (e1.trans e3) r3 (fun k hk => by have := hb3 k hk; omega)
/-- What stands at a word's beginnings, one after the other. -/
def upto (T : Tr) (p : List Bool) (i : Nat) : List Ent := (List.range i).filterMap fun j => (T.get (p.take j)).map fun v => (p.take j, v)
theorem upto_succ (T : Tr) (p : List Bool) (i : Nat) : upto T p (i + 1) = upto T p i ++ ((T.get (p.take i)).map fun v => (p.take i, v)).toList := by
  unfold upto
  rw [List.range_succ, List.filterMap_append]
  congr 1
theorem above_upto : ∀ (p : List Bool) (T : Tr) (q : List Bool), Tr.above p T q = (List.range (p.length + 1)).filterMap fun j => (T.get (p.take j)).map fun v => (q ++ p.take j, v)
  | [], T, q => by
    rw [Tr.above]
    show _ = (List.range 1).filterMap _
    rw [show List.range 1 = [0] from rfl]
    simp only [List.take_nil, List.append_nil, Tr.get]
    cases T.h <;> rfl
  | b :: p, T, q => by
    rw [Tr.above, above_upto p (T.sub b) (q ++ [b]), List.length_cons, List.range_succ_eq_map (n := p.length + 1), List.filterMap_cons, List.filterMap_map]
    have e0 : (T.get ((b :: p).take 0)) = T.h := rfl
    have e1 : ((fun j => (T.get ((b :: p).take j)).map fun v => (q ++ (b :: p).take j, v)) ∘ Nat.succ) = fun j => (Tr.get (p.take j) (T.sub b)).map fun v => (q ++ [b] ++ p.take j, v) := by
      funext j
      show (T.get ((b :: p).take (j + 1))).map _ = _
      rw [List.take_succ_cons, Tr.get]
      congr 1
      funext v
      simp
    rw [e1, e0, List.take_zero, List.append_nil]
    cases T.h <;> rfl
theorem upto_len (T : Tr) (p : List Bool) : ∀ i, (upto T p i).length ≤ i
  | 0 => by simp [upto]
  | i + 1 => by
    rw [upto_succ, List.length_append]
    have := upto_len T p i
    cases T.get (p.take i) <;> simp <;> omega
/-- An entry with a key and a length is the path's. -/
theorem ent_is {w : Nat} {e : Ent} (he : e.1.length ≤ w) {p : List Bool} (hp : p.length ≤ w) (h1 : ((kv w e.1 : Nat) : Int) = ((kv w p : Nat) : Int)) (h2 : ((e.1.length : Nat) : Int) = ((p.length : Nat) : Int)) : e.1 = p :=
  kv_inj he hp (by omega) (by omega)
theorem rabove_s {h : Hp} {m w : Nat} {most : Int} {ar : Nat} {A : Option Addr} {c : Nat} {T : Tr} (q : RfV h m w most ar A c (T.ents [])) (hD : T.Dp w) (hw : W3 w) (hbd : (T.ents []).length ≤ 1048576) {k : Nat} (hk : k < 4294967296) (n : Int) {K : Value → Hp → Prop} (H : ∀ h' A' c', Ext h h' → RowE h' A' c' (abovL T w k n) → K (.slice A' (abovL T w k n).length c') h') :
    CallsH Try.prog 62 #[.pointer (some ⟨m, 0, none⟩), .int .u32 (k : Int), .int .i64 n] h K := by
  refine quintetref12_Trie_Above_ok _ _ _ ?_
  unfold quintetref12_Trie_Above
  have hwl := hw.le
  refine rmay_s q hw hk n ⟨_, rfl, ?_⟩
  unfold abovL at H
  by_cases hm : mayT w k n = true
  · rw [if_pos hm] at H
    obtain ⟨n, rfl, hnw⟩ := mayT_nat hm
    rw [Int.toNat_natCast] at H
    obtain ⟨_, hpk⟩ := may_path hw hk hm
    refine br_f (by rw [hm]; rfl) ⟨n + 2, ?_⟩
    have hpl : (pa w k n).length = n := pa_len _ _ _
    have hab : Tr.above (pa w k n) T [] = upto T (pa w k n) (n + 1) := by
      rw [above_upto, hpl]
      unfold upto
      simp
    rw [hab] at H
    have key : ∀ (d i f : Nat) (h1 : Hp) (A1 : Option Addr) (c1 : Nat), i + d = n + 1 → d < f → Ext h h1 → RowE h1 A1 c1 ((upto T (pa w k n) i).map (enW w)) → (∀ j, blk A1 j → h.size ≤ j) →
        quintetref12_Trie_Above_l1 (some ⟨m, 0, none⟩) k n (fun (A51 : Option Addr) (l51 : Nat) (c51 : Nat) (h52 : Hp) => K (.slice A51 l51 c51) h52) f A1 ((upto T (pa w k n) i).map (enW w)).length c1 i h1 := by
      intro d
      induction d with
      | zero =>
        intro i f h1 A1 c1 hi hf e1 r1 hb1
        obtain ⟨f, rfl⟩ : ∃ f', f = f' + 1 := ⟨f - 1, by omega⟩
        unfold quintetref12_Trie_Above_l1
        have : i = n + 1 := by omega
        subst this
        refine br_f ?_ ?_
        · rw [decide_eq_false_iff_not]; omega
        · exact H h1 A1 c1 e1 r1
      | succ d ih =>
        intro i f h1 A1 c1 hi hf e1 r1 hb1
        obtain ⟨f, rfl⟩ : ∃ f', f = f' + 1 := ⟨f - 1, by omega⟩
        unfold quintetref12_Trie_Above_l1
        have hin : i ≤ n := by omega
        have hcast : (i : Int) + 1 = ((i + 1 : Nat) : Int) := by omega
        have q1 := q.ext e1
        have htk : pa w k i = (pa w k n).take i := (pa_take n i w k hin).symm
        have hil : (pa w k i).length = i := pa_len _ _ _
        refine br_t (by rw [decide_eq_true_eq]; omega) ⟨_, ld (q1.1.at_ 0 _ rfl) (by kernel_rfl), ?_⟩
        refine first_s hwl.2 hk (by omega) ⟨_, rfl, ?_⟩
        have hul := upto_len T (pa w k n) i
        refine at_s q1 (by omega) _ _ (fun j e hj hje => ⟨_, rfl, ?_⟩) (fun hno => ⟨_, rfl, ?_⟩)
        · have hem := List.mem_of_getElem? hj
          obtain ⟨hel, heg⟩ := ent_in hD hem
          have hep : e.1 = pa w k i := ent_is hel (by omega) hje.1 (by rw [hil]; exact hje.2)
          have hget : T.get ((pa w k n).take i) = some e.2 := by rw [← htk, ← hep]; exact heg
          obtain ⟨a, hp, hcl⟩ := q1.rd hj
          refine br_t (by rw [decide_eq_true_eq]; omega) ⟨_, _, _, ld (q1.1.at_ 3 _ rfl) (by kernel_rfl), _, hp, _, _, _, ldS hcl (by kernel_rfl), ?_⟩
          refine app_e (e := enW w e) r1 hb1 e1 (by rw [List.length_map]; omega) fun h2 A2 c2 e2 r2 hb2 => ?_
          have hm2 : (upto T (pa w k n) i).map (enW w) ++ [enW w e] = (upto T (pa w k n) (i + 1)).map (enW w) := by
            rw [upto_succ, hget, List.map_append]
            have : e = ((pa w k n).take i, e.2) := by rw [← htk, ← hep]
            rw [this]; rfl
          rw [hm2] at r2 ⊢
          rw [wrap_in (by omega) (by omega), hcast]
          exact ih (i + 1) f h2 A2 c2 (by omega) (by omega) e2 r2 hb2
        · have hget : T.get ((pa w k n).take i) = none := by
            cases hg : T.get ((pa w k n).take i) with
            | none => rfl
            | some v =>
              have hmem : ((pa w k n).take i, v) ∈ T.ents [] := mem0.2 hg
              refine absurd ?_ (hno _ hmem)
              rw [← htk]
              exact ⟨rfl, by rw [hil]⟩
          refine br_f rfl ?_
          have hm2 : (upto T (pa w k n) i).map (enW w) = (upto T (pa w k n) (i + 1)).map (enW w) := by
            rw [upto_succ, hget]; simp
          rw [hm2] at r1 ⊢
          rw [wrap_in (by omega) (by omega), hcast]
          exact ih (i + 1) f h1 A1 c1 (by omega) (by omega) e1 r1 hb1
    have := key (n + 1) 0 (n + 2) h none 0 (by omega) (by omega) (Ext.refl _) (.inl ⟨rfl, rfl, rfl, rfl⟩) (by rintro k ⟨a, ha, _⟩; cases ha)
    exact this
  · rw [if_neg hm] at H
    exact br_t (by simpa using hm) (H h none 0 (Ext.refl _) (.inl ⟨rfl, rfl, rfl, rfl⟩))
theorem rlongest_s {h : Hp} {m w : Nat} {most : Int} {ar : Nat} {A : Option Addr} {c : Nat} {T : Tr} (q : RfV h m w most ar A c (T.ents [])) (hD : T.Dp w) (hw : W3 w) (hbd : (T.ents []).length ≤ 1048576) {k : Nat} (hab : (abovL T w k w).length ≤ 1048576) (hk : k < 4294967296) {K : Value → Hp → Prop} (H : ∀ h', Ext h h' → K (.tuple #[En.val (lastE (abovL T w k w)), .bool (!(abovL T w k w).isEmpty)]) h') :
    CallsH Try.prog 61 #[.pointer (some ⟨m, 0, none⟩), .int .u32 (k : Int)] h K := by
  refine quintetref12_Trie_Longest_ok _ _ ?_
  unfold quintetref12_Trie_Longest
  refine newC_i (cs := (lastE []).enc) fun h1 e1 c1 b1 z1 => ?_
  have q1 := q.ext e1
  refine ⟨_, ld (q1.1.at_ 0 _ rfl) (by kernel_rfl), ?_⟩
  refine rabove_s q1 hD hw hbd hk w fun h2 A2 c2 e2 r2 => ⟨_, _, _, rfl, ?_⟩
  have b12 := (e2.fr (fun _ => False)).get b1 (fun h => h)
  have s1 := e1.size
  have s2 := e2.size
  refine br_i (fun hz => ?_) (fun hz => ?_)
  · have hnil : abovL T w k w = [] := by
      have : ((abovL T w k w).length : Int) = 0 := by simpa using hz
      exact List.eq_nil_of_length_eq_zero (by omega)
    refine HU_box (us := (lastE []).enc) (cs := (lastE []).enc) b12 rfl rfl size39 rfl fun h3 c3 b3 f3 z3 => ?_
    refine ⟨_, _, _, ldS c3 (by kernel_rfl), ?_⟩
    have := H h3 ⟨by omega, fun j hj => by rw [f3.keep j (by omega) (by omega), e2.old j (by omega), e1.old j hj]⟩
    rw [hnil] at this
    exact this
  · have hne : abovL T w k w ≠ [] := by
      intro h; rw [h] at hz; simp at hz
    have hpos := List.length_pos_iff.2 hne
    have hsub : IntKind.i64.wrap (((abovL T w k w).length : Int) - 1) = (((abovL T w k w).length - 1 : Nat) : Int) := by rw [wrap_in (by omega) (by omega)]; omega
    rw [hsub]
    obtain ⟨a, hp, hcl⟩ := rd_e (c := c2) r2.read rfl (getLast_ix hne)
    refine ⟨_, hp, _, _, _, ldS hcl (by kernel_rfl), ?_⟩
    refine HU_box (us := (lastE (abovL T w k w)).enc) (cs := (lastE []).enc) b12 rfl rfl size39 rfl fun h3 c3 b3 f3 z3 => ?_
    refine ⟨_, _, _, ldS c3 (by kernel_rfl), ?_⟩
    have := H h3 ⟨by omega, fun j hj => by rw [f3.keep j (by omega) (by omega), e2.old j (by omega), e1.old j hj]⟩
    have hb : (!(abovL T w k w).isEmpty) = true := by
      cases hx : abovL T w k w with
      | nil => exact absurd hx hne
      | cons x xs => rfl
    rw [hb] at this
    exact this
theorem rget_s {h : Hp} {m w : Nat} {most : Int} {s : Ab} {A : Option Addr} {c : Nat} (q : RfV h m w most s.ar A c (s.T.ents [])) (hD : s.T.Dp w) (hw : W3 w) (hbd : (s.T.ents []).length ≤ 1048576) {k : Nat} (hk : k < 4294967296) (n : Int) {K : Value → Hp → Prop} (H : K (.tuple #[.int .i64 (getA w s k n).1, .bool (getA w s k n).2]) h) :
    CallsH Try.prog 60 #[.pointer (some ⟨m, 0, none⟩), .int .u32 (k : Int), .int .i64 n] h K := by
  refine quintetref12_Trie_Get_ok _ _ _ ?_
  unfold quintetref12_Trie_Get
  refine at_s q (by omega) _ _ (fun j e hj hje => ⟨_, rfl, ?_⟩) (fun hno => ⟨_, rfl, ?_⟩)
  · have hem := List.mem_of_getElem? hj
    obtain ⟨hel, heg⟩ := ent_in hD hem
    obtain ⟨a, hp, hcl⟩ := q.rd hj
    have hge := get_ent hw hD hem
    rw [show kv w e.1 = k by omega, hje.2] at hge
    rw [hge] at H
    exact br_f (by rw [decide_eq_false_iff_not]; omega) ⟨_, _, _, ld (q.1.at_ 3 _ rfl) (by kernel_rfl), _, hp, _, ld (hcl.at_ 2 _ rfl) (by kernel_rfl), H⟩
  · have hge : getA w s k n = (0, false) := by
      unfold getA
      by_cases hm : mayT w k n = true
      · rw [if_pos hm]
        obtain ⟨n, rfl, hnw⟩ := mayT_nat hm
        rw [Int.toNat_natCast]
        obtain ⟨_, hpk⟩ := may_path hw hk hm
        cases hg : s.T.get (pa w k n) with
        | none => rfl
        | some v =>
          have hmem : (pa w k n, v) ∈ s.T.ents [] := mem0.2 hg
          refine absurd ?_ (hno _ hmem)
          exact ⟨by show ((kv w (pa w k n) : Nat) : Int) = k; omega, by show (((pa w k n).length : Nat) : Int) = n; rw [pa_len]⟩
      · rw [if_neg hm]
    rw [hge] at H
    exact br_t rfl H
end Go.Proofs.Ytofjbbfnkefoaaa.Fs
