/- The hash's slots laid anew, mend in full. -/
import Derived.Test.YtoheablfncdibaaDoorHSpec2S
import Derived.Test.YtoheablfncdibaaDoorHaPure2S
import Derived.Test.YtoheablfncdibaaDoorSxPart
namespace Go.Proofs.YtoheablfncdibaaDoor.FsS
open Go Go.RowKit Go.Proofs.YtoheablfncdibaaDoor.Sx Go.Proofs.YtoheablfncdibaaDoor.Fs
set_option linter.unusedVariables false
set_option linter.unusedSimpArgs false
set_option maxRecDepth 10000
/-- A step: what it may change, what it owns then. -/
structure Tg (S S' : Nat → Prop) (h h' : Hp) : Prop where
  fr : Fr S h h'
  own : ∀ k, S' k → S k ∨ h.size ≤ k
theorem Tg.refl (S : Nat → Prop) (h : Hp) : Tg S S h h := ⟨Fr.refl _ _, fun _ h => .inl h⟩
theorem Tg.trans {S S1 S2 : Nat → Prop} {a b c : Hp} (f : Tg S S1 a b) (g : Tg S1 S2 b c) : Tg S S2 a c :=
  ⟨f.fr.then_ g.fr f.own, fun k hk => by
    rcases g.own k hk with h | h
    · exact f.own k h
    · exact .inr (Nat.le_trans f.fr.size h)⟩
theorem Fr.tg {S : Nat → Prop} {h h' : Hp} (f : Fr S h h') : Tg S S h h' := ⟨f, fun _ h => .inl h⟩
theorem Ext.tg {S : Nat → Prop} {h h' : Hp} (e : Ext h h') : Tg S S h h' := Fr.tg (e.fr S)
theorem Tg.ext {S S' : Nat → Prop} {h0 h h' : Hp} (f : Tg S S' h h') (e : Ext h0 h) (hS : ∀ k, S k → h0.size ≤ k) : Ext h0 h' := extOwn e f.fr hS
theorem u64_ge (x : Int) : 0 ≤ IntKind.u64.wrap x := by
  unfold IntKind.wrap
  simp only [IntKind.bits, IntKind.signed, Bool.false_and, Bool.false_eq_true, if_false]
  exact Int.emod_nonneg _ (by decide)
theorem scat_ge (k : Hdr) : 0 ≤ scat k := u64_ge _
theorem HAg.st_ss {h : Hp} {b : Nat} {S : Nat → Prop} {t : HT} {g c g' c' : Nat} {ss' : List Slot} (q : HAg h b S t g c) (r : RowS h g' c' ss') (hg : g' ≠ b) (hgl : g' < h.size) {K : Hp → Prop} (H : ∀ h', HAg h' b (fun k => k = b ∨ k = g') { t with ss := ss' } g' c' → Fr (fun k => k = b) h h' → h'.size = h.size → K h') : HU Tryd.prog (Instr.storeAt 41 (.pointer (some ((⟨b, 0, none⟩ : Addr).add 1))) (.slice (some ⟨g', 0, none⟩) ss'.length c')) h K := by
  rw [add_eq0]
  refine HU_st (us := [.slice (some ⟨g', 0, none⟩) ss'.length c']) q.2.2.1 rfl (by kernel_rfl) (by simp [HT.enc]) rfl ?_
  have e : (t.enc g c).take 1 ++ [.slice (some ⟨g', 0, none⟩) ss'.length c'] ++ (t.enc g c).drop (1 + [Value.slice (some ⟨g', 0, none⟩) ss'.length c'].length) = ({ t with ss := ss' } : HT).enc g' c' := rfl
  rw [e]
  have hb := lt_of_get q.2.2.1
  have f : Fr (fun k => k = b) h (setB h b (({ t with ss := ss' } : HT).enc g' c') 43) := setB_fr rfl
  refine H _ ⟨.inl rfl, fun k hk => ?_, setB_get hb, r.keep f ?_, .inr rfl, hg⟩ f setB_size
  · rw [setB_size]
    rcases hk with rfl | rfl
    · exact hb
    · exact hgl
  · rintro k ⟨a, ha, rfl⟩ e
    injection ha with ha
    subst ha
    exact hg e
theorem lay_l1 {b : Nat} {S : Nat → Prop} {g0 c0 g c : Nat} {el : List Slot} (hne : ¬ S g0) (hel : el.length < 2 ^ 60) {m n : Int} {ss' : List Slot} {K0 : Hp → Prop} :
    ∀ (rest done : List Slot) (ss : List Slot) (h : Hp), el = done ++ rest → ss.length < 2 ^ 60 → HAg h b S ⟨m, ss, n, 0⟩ g c → RowS h g0 c0 el → layI rest ss = some ss' → 0 < ss.length →
      (∀ h', HAg h' b S ⟨m, ss', n, 0⟩ g c → Fr S h h' → K0 h') → hash_TableS_lay_l1 (some ⟨b, 0, none⟩) (some ⟨g0, 0, none⟩) el.length c0 (el.length : Int) K0 (rest.length + 1) (done.length : Int) h := by
  intro rest
  induction rest with
  | nil =>
    intro done ss h he hss q r hl h0s H
    unfold hash_TableS_lay_l1
    have : el.length = done.length := by rw [he]; simp
    refine br_f (by simp; omega) ?_
    rw [layI] at hl
    injection hl with hl
    subst hl
    exact H h q (Fr.refl _ _)
  | cons s rest ih =>
    intro done ss h he hss q r hl h0s H
    have hlen : el.length = done.length + (rest.length + 1) := by rw [he]; simp
    have hs : el[done.length]? = some s := by rw [he]; simp
    unfold hash_TableS_lay_l1
    refine br_t (by simp; omega) ?_
    obtain ⟨hix, hcl⟩ := rd_slot (c := c0) r.read rfl hs
    refine ⟨_, hix, _, _, _, _, _, _, _, ldS (vs := s.enc) hcl (by kernel_rfl), ?_⟩
    refine newV (us := s.enc) rfl rfl (by kernel_rfl) s.flat fun h1 e1 c1 b1 z1 => ?_
    refine ⟨_, ld c1.head (by kernel_rfl), ?_⟩
    have hidx : IntKind.i64.wrap ((done.length : Int) + 1) = ((done ++ [s]).length : Int) := by
      rw [wrap_in (by omega) (by omega)]; simp
    rw [hidx]
    have he' : el = (done ++ [s]) ++ rest := by rw [he]; simp
    have q1 : HAg h1 b S ⟨m, ss, n, 0⟩ g c := by
      obtain ⟨a1, a2, a3, a4, a5, a6⟩ := q
      exact ⟨a1, fun k hk => Nat.lt_of_lt_of_le (a2 k hk) e1.size, (e1.fr (fun _ => False)).get a3 (fun h => h), a4.ext e1, a5, a6⟩
    rw [layI] at hl
    refine br_i (fun h1' => ?_) (fun h1' => ?_)
    · have his : s.is = 1 := by simpa using h1'
      rw [if_pos his] at hl
      cases hsk : seekT ss s.k with
      | none => rw [hsk] at hl; cases hl
      | some z =>
        obtain ⟨a, fr, p⟩ := z
        rw [hsk] at hl
        simp only at hl
        split at hl
        · rename_i hfr
          refine ⟨_, _, _, _, _, ldS (Cl.sl c1 (n := 1) (us := s.k.enc) rfl) (by kernel_rfl), ?_⟩
          refine seek_s (t := ⟨m, ss, n, 0⟩) q1.at_ s.k hss h0s (scat_ge _) hsk fun h2 e2 => ⟨_, _, _, rfl, ?_⟩
          have q2 : HAg h2 b S ⟨m, ss, n, 0⟩ g c := by
            obtain ⟨a1, a2, a3, a4, a5, a6⟩ := q1
            exact ⟨a1, fun k hk => Nat.lt_of_lt_of_le (a2 k hk) e2.size, (e2.fr (fun _ => False)).get a3 (fun h => h), a4.ext e2, a5, a6⟩
          obtain ⟨i, hi⟩ := Int.eq_ofNat_of_zero_le hfr.1
          subst hi
          have hil : i < ss.length := by omega
          obtain ⟨hix2, _⟩ := rd_slot (c := c) q2.row rfl (List.getElem?_eq_getElem hil)
          refine ⟨_, _, _, ld (q2.cl.at_ 1 _ rfl) (by kernel_rfl), _, _, _, _, _, _, _, ldS (vs := s.enc) (c1.ext e2) (by kernel_rfl), _, hix2, ?_⟩
          refine q2.st_slot hil s fun h3 q3 f3 z3 => ?_
          rw [Int.toNat_natCast] at hl
          have f13 : Fr S h h3 := ((e1.trans e2).fr S).trans f3
          exact ih (done ++ [s]) (ss.set i s) h3 he' (by rw [List.length_set]; exact hss) q3 (r.keep f13 (by rintro k ⟨a, ha, rfl⟩; injection ha with ha; subst ha; exact hne)) hl (by rw [List.length_set]; exact h0s) fun h4 q4 f4 => H h4 q4 (f13.trans f4)
        · cases hl
    · have his : ¬ s.is = 1 := by simpa using h1'
      rw [if_neg his] at hl
      exact ih (done ++ [s]) ss h1 he' hss q1 (r.ext e1) hl h0s fun h4 q4 f4 => H h4 q4 ((e1.fr S).trans f4)
theorem lay_s {h : Hp} {b : Nat} {S : Nat → Prop} {t : HT} {g c : Nat} (q : HAg h b S t g c) {n : Nat} (hn : n < 2 ^ 30) (hl : t.ss.length < 2 ^ 30) {ss' : List Slot} (hm : layI t.ss (List.replicate n zSl) = some ss') (h0 : 0 < n) {K : Value → Hp → Prop}
    (H : ∀ h' S', HAt h' b S' ⟨t.most, ss', t.n, 0⟩ → Tg S S' h h' → K (.tuple #[]) h') : CallsH Tryd.prog 22 #[.pointer (some ⟨b, 0, none⟩), .int .i64 (n : Int)] h K := by
  refine hash_TableS_lay_ok _ _ ?_
  unfold hash_TableS_lay
  have hc := q.cl
  refine ⟨_, _, _, ld (hc.at_ 1 _ rfl) (by kernel_rfl), ?_⟩
  obtain ⟨i, z, hi, hisz, hiby, hiz, hzc⟩ := info120
  have h8 := HW_makeRow (n := n) (K := fun r6 h5 => ∃ A7 : Option Addr, ∃ l7 : Nat, ∃ c7 : Nat, r6 = (.slice A7 l7 c7) ∧ 
    drf (some ⟨b, 0, none⟩) fun a8 =>
    HU Tryd.prog (Instr.storeAt 41 (.pointer (some (a8.add 1))) (.slice A7 l7 c7)) h5 fun h9 => 
    drf (some ⟨b, 0, none⟩) fun a10 =>
    HU Tryd.prog (Instr.storeAt 3 (.pointer (some (a10.add 3))) (.int .i64 0)) h9 fun h11 => 
    ∃ k83, hash_TableS_lay_l1 (some ⟨b, 0, none⟩) (some ⟨g, 0, none⟩) t.ss.length c (t.ss.length : Int)
    (fun  (h82 : Hp) =>
    K (.tuple #[]) h82)
    k83 0 h11) (h := h) (enc := Slot.enc) (zr := zS) und93 hi hiz hisz (by omega) hzc Slot.len (by have : (i.bytes : Int) * n ≤ 100 * n := Int.mul_le_mul_of_nonneg_right (by omega) (by omega); omega) (by omega) (fun h1 e1 r1 => ?_)
  · exact h8
  · refine ⟨_, _, _, rfl, ?_⟩
    have hbl := lt_of_get q.2.2.1
    have hgl := q.2.1 _ q.2.2.2.2.1
    have hsz : h.size < h1.size := by
      rcases r1 with ⟨h, _⟩ | ⟨g, rest, hA, hg, _⟩
      · cases h
      · injection hA with hA; injection hA with hA; rw [hA]; exact lt_of_get hg
    have q1 : HAg h1 b S t g c := by
      obtain ⟨a1, a2, a3, a4, a5, a6⟩ := q
      exact ⟨a1, fun k hk => Nat.lt_of_lt_of_le (a2 k hk) e1.size, (e1.fr (fun _ => False)).get a3 (fun h => h), a4.ext e1, a5, a6⟩
    have hgb := q.2.2.2.2.2
    have := q1.st_ss (g' := h.size) (c' := n) (ss' := List.replicate n zSl) r1 (by omega) hsz (K := fun h9 => HU Tryd.prog (Instr.storeAt 3 (.pointer (some ((⟨b, 0, none⟩ : Addr).add 3))) (.int .i64 0)) h9 fun h11 => 
      ∃ k83, hash_TableS_lay_l1 (some ⟨b, 0, none⟩) (some ⟨g, 0, none⟩) t.ss.length c (t.ss.length : Int)
      (fun  (h82 : Hp) => K (.tuple #[]) h82) k83 0 h11) (fun h2 q2 f2 z2 => ?_)
    · rw [List.length_replicate] at this
      exact this
    · refine q2.st_marks 0 fun h3 q3 f3 z3 => ⟨t.ss.length + 1, ?_⟩
      have hng : ¬ (g = b ∨ g = h.size) := by omega
      have r3 : RowS h3 g c t.ss := (q1.2.2.2.1.keep f2 (by rintro k ⟨a, ha, rfl⟩; injection ha with ha; subst ha; exact hgb)).keep f3 (by rintro k ⟨a, ha, rfl⟩; injection ha with ha; subst ha; exact hng)
      refine lay_l1 (done := []) hng (by omega) t.ss _ h3 rfl (by simp; omega) q3 r3 hm (by simp; omega) fun h4 q4 f4 => H h4 _ q4.at_ ?_
      have t1 : Tg S (fun k => k = b ∨ k = h.size) h h4 := by
        refine ⟨?_, fun k hk => ?_⟩
        · refine ⟨Nat.le_trans e1.size (Nat.le_trans f2.size (Nat.le_trans f3.size f4.size)), fun k hk hS => ?_⟩
          have hkb : k ≠ b := fun e => hS (e ▸ q.1)
          have hkn : ¬ (k = b ∨ k = h.size) := by omega
          rw [f4.keep k (by have := f3.size; have := f2.size; omega) hkn, f3.keep k (by have := f2.size; omega) hkn, f2.keep k (by omega) hkb, e1.old k hk]
        · rcases hk with rfl | rfl
          · exact .inl q.1
          · exact .inr (Nat.le_refl _)
      exact t1
end Go.Proofs.YtoheablfncdibaaDoor.FsS
