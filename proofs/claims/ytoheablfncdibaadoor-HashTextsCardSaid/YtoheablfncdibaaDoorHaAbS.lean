/- The hash told by what it holds. -/
import Derived.Test.YtoheablfncdibaaDoorHaLayS
namespace Go.Proofs.YtoheablfncdibaaDoor.FsS
open Go Go.RowKit Go.Proofs.YtoheablfncdibaaDoor.Sx Go.Proofs.YtoheablfncdibaaDoor.Fs
set_option linter.unusedVariables false
set_option linter.unusedSimpArgs false
set_option maxRecDepth 10000
/-- Slots as they should be, but for the half that is to be empty. -/
structure St0 (t : HT) (m : Int) (M : Hdr → Option ByteArray) (n l : Nat) : Prop where
  most : t.most = m
  m0 : 1 ≤ m
  m1 : m ≤ 65536
  hi : HI t.ss
  tn : t.n = n
  nf : fulls t.ss = n
  marks : t.marks = lefts t.ss
  len : t.ss.length = l
  l8 : 8 ≤ l
  lt : l ≤ 262144
  nm : (n : Int) ≤ m
  mem : ∀ k v, (⟨1, k, v⟩ : Slot) ∈ t.ss ↔ M k = some v
structure St (t : HT) (m : Int) (M : Hdr → Option ByteArray) (n l : Nat) : Prop extends St0 t m M n l where
  half : 2 * (fulls t.ss + lefts t.ss) ≤ l
def HB (h : Hp) (b : Nat) (S : Nat → Prop) (m : Int) (M : Hdr → Option ByteArray) (n l : Nat) : Prop := ∃ t : HT, HAt h b S t ∧ St t m M n l
theorem HB.keep {h h' : Hp} {b : Nat} {S S' : Nat → Prop} {m : Int} {M : Hdr → Option ByteArray} {n l : Nat} (q : HB h b S m M n l) (f : Fr S' h h') (hn : ∀ k, S k → ¬ S' k) : HB h' b S m M n l := by
  obtain ⟨t, q, s⟩ := q
  exact ⟨t, q.keep f hn, s⟩
theorem HB.ext {h h' : Hp} {b : Nat} {S : Nat → Prop} {m : Int} {M : Hdr → Option ByteArray} {n l : Nat} (q : HB h b S m M n l) (e : Ext h h') : HB h' b S m M n l := q.keep (e.fr (fun _ => False)) (fun _ _ h => h)
def upd (M : Hdr → Option ByteArray) (k : Hdr) (v : Option ByteArray) : Hdr → Option ByteArray := fun k' => if k' = k then v else M k'
theorem St0.held {t : HT} {m : Int} {M : Hdr → Option ByteArray} {n l : Nat} (s : St0 t m M n l) {k : Hdr} {v : ByteArray} (h : M k = some v) : ∃ (i : Nat) (fr p : Int), t.ss[i]? = some (⟨1, k, v⟩ : Slot) ∧ seekT t.ss k = some ((i : Int), fr, p) ∧ 1 ≤ p ∧ p ≤ fulls t.ss + lefts t.ss + 1 := by
  obtain ⟨i, hi⟩ := held_get ((s.mem k v).2 h)
  obtain ⟨fr, p, e, p1, p2⟩ := seek_hit s.hi hi rfl
  exact ⟨i, fr, p, hi, e, p1, p2⟩
theorem St.miss {t : HT} {m : Int} {M : Hdr → Option ByteArray} {n l : Nat} (s : St t m M n l) {k : Hdr} (h : M k = none) : ∃ (d : Nat) (x : Slot) (p : Int), d < t.ss.length ∧ seekT t.ss k = some (-1, ((pos t.ss.length (stOf t.ss k) d : Nat) : Int), p) ∧ 1 ≤ p ∧ p ≤ fulls t.ss + lefts t.ss + 1 ∧ t.ss[pos t.ss.length (stOf t.ss k) d]? = some x ∧ (x.is = 2 ∨ x.is = 0) ∧ ∀ (j : Nat), j < d → ∀ (s' : Slot), t.ss[pos t.ss.length (stOf t.ss k) j]? = some s' → s'.is ≠ 0 := by
  refine seek_miss s.hi (by have := s.half; have := s.len; have := s.l8; omega) fun i x hx hh => ?_
  have h2 := slot_eta hh.1
  rw [hh.2] at h2
  have h3 := List.mem_of_getElem? hx
  rw [h2] at h3
  have := (s.mem k x.v).1 h3
  rw [h] at this
  cases this
theorem mend_a {h : Hp} {b : Nat} {S : Nat → Prop} {t : HT} {g c : Nat} (q : HAg h b S t g c) {m : Int} {M : Hdr → Option ByteArray} {n l : Nat} (s : St0 t m M n l) (hh : 2 * (fulls t.ss + lefts t.ss) ≤ l + 2) {K : Value → Hp → Prop}
    (H : ∀ h' S' l', HB h' b S' m M n l' → Tg S S' h h' → l' = l ∨ (l' = 2 * l ∧ l < 2 * n) → K (.tuple #[]) h') : CallsH Tryd.prog 13 #[.pointer (some ⟨b, 0, none⟩)] h K := by
  refine hash_TableS_mend_ok _ ?_
  unfold hash_TableS_mend
  have hc := q.cl
  obtain ⟨s1, s2, s3, s4, s5, s6, s7, s8, s9, s10, s11, s12⟩ := s
  have hlen : (t.ss.length : Int) = l := by omega
  refine ⟨_, _, _, ld (hc.at_ 1 _ rfl) (by kernel_rfl), _, ld (hc.at_ 2 _ rfl) (by kernel_rfl), ?_⟩
  rw [wrap_in (by omega) (by omega)]
  refine br_i (fun hb => ?_) (fun hb => ?_)
  · have hb : 2 * t.n > t.ss.length := by simpa using hb
    rw [wrap_in (by omega) (by omega)]
    obtain ⟨ss', e, I, hl', l0, f', mm⟩ := lay_all s4 (n := 2 * l) (by omega) (by omega)
    have e2 : (2 * (t.ss.length : Int)) = ((2 * l : Nat) : Int) := by omega
    rw [e2]
    refine lay_s q (by omega) (by omega) e (by omega) fun h' S' q' tg => ⟨rfl, H h' S' (2 * l) ⟨_, q', ⟨⟨s1, s2, s3, I, s5, by rw [f']; exact s6, by show (0 : Int) = _; rw [l0]; rfl, hl', by omega, by omega, s11, fun k v => by rw [mm, s12]⟩, ?_⟩⟩ tg (.inr ⟨rfl, by omega⟩)⟩
    show 2 * (fulls ss' + lefts ss') ≤ 2 * l
    omega
  · have hb : ¬ 2 * t.n > t.ss.length := by simpa using hb
    refine ⟨_, ld (hc.at_ 2 _ rfl) (by kernel_rfl), _, ld (hc.at_ 3 _ rfl) (by kernel_rfl), ?_⟩
    rw [wrap_in (n := t.n + t.marks) (by omega) (by omega), wrap_in (by omega) (by omega)]
    refine br_i (fun hb2 => ?_) (fun hb2 => ?_)
    · obtain ⟨ss', e, I, hl', l0, f', mm⟩ := lay_all s4 (n := l) (by omega) (by omega)
      rw [hlen]
      refine lay_s q (by omega) (by omega) e (by omega) fun h' S' q' tg => ⟨rfl, H h' S' l ⟨_, q', ⟨⟨s1, s2, s3, I, s5, by rw [f']; exact s6, by show (0 : Int) = _; rw [l0]; rfl, hl', by omega, by omega, s11, fun k v => by rw [mm, s12]⟩, ?_⟩⟩ tg (.inl rfl)⟩
      show 2 * (fulls ss' + lefts ss') ≤ l
      omega
    · have hb2 : ¬ 2 * (t.n + t.marks) > t.ss.length := by simpa using hb2
      exact H h S l ⟨t, q.at_, ⟨⟨s1, s2, s3, s4, s5, s6, s7, s8, s9, s10, s11, s12⟩, by omega⟩⟩ (Tg.refl _ _) (.inl rfl)
theorem hput_a {h : Hp} {b : Nat} {S : Nat → Prop} {m : Int} {M : Hdr → Option ByteArray} {n l : Nat} (q : HB h b S m M n l) (k : Hdr) (v : ByteArray) {K : Value → Hp → Prop}
    (H1 : ∀ w, M k = some w → ∀ h', HB h' b S m (upd M k (some v)) n l → Fr S h h' → K (.int .i64 0) h')
    (H2 : M k = none → m ≤ n → ∀ h', Ext h h' → K (.int .i64 150) h')
    (H3 : M k = none → (n : Int) < m → ∀ h' S' l', HB h' b S' m (upd M k (some v)) (n + 1) l' → Tg S S' h h' → l' = l ∨ (l' = 2 * l ∧ l < 2 * (n + 1)) → K (.int .i64 0) h') :
    CallsH Tryd.prog 7 #[.pointer (some ⟨b, 0, none⟩), k.val, .string v] h K := by
  obtain ⟨t, q, s⟩ := q
  have h8 := s.l8
  have hlt := s.lt
  have hln := s.len
  refine hash_TableS_Put_ok _ _ _ _ _ _ _ ?_
  unfold hash_TableS_Put
  refine newC_i fun h1 e1 c1 b1 z1 => ⟨_, eqNil eq22, br_f rfl ⟨_, _, _, _, _, ldS (vs := k.enc) c1 (by kernel_rfl), ?_⟩⟩
  cases hM : M k with
  | some w =>
    obtain ⟨i, fr, p, hi, hsk, _, _⟩ := s.held hM
    refine seek_s (q.ext e1) k (by omega) (by omega) (scat_ge _) hsk fun h2 e2 => ⟨_, _, _, rfl, ?_⟩
    have e12 := e1.trans e2
    obtain ⟨g, c, qg⟩ := (q.ext e12).ag
    have hc := qg.cl
    refine br_t (by simp) ?_
    obtain ⟨hix, _⟩ := rd_slot (c := c) qg.row rfl hi
    refine ⟨_, _, _, ld (hc.at_ 1 _ rfl) (by kernel_rfl), _, hix, ?_⟩
    obtain ⟨I, f', l', mm⟩ := lay_old s.hi hi rfl v
    refine qg.st_v hi v fun h3 q3 f3 z3 => H1 w hM h3 ⟨_, q3.at_, ⟨⟨s.most, s.m0, s.m1, I, s.tn, by rw [f']; exact s.nf, by show t.marks = _; rw [l']; exact s.marks, by rw [List.length_set]; exact hln, h8, hlt, s.nm, fun k' v' => ?_⟩, ?_⟩⟩ ((e12.fr S).trans f3)
    · rw [mm, s.mem]
      unfold upd
      by_cases hk : k' = k
      · subst hk; simp; constructor <;> (intro h; exact h.symm)
      · simp [hk]
    · show 2 * (fulls _ + lefts _) ≤ l
      rw [f', l']; exact s.half
  | none =>
    obtain ⟨d, x, p, hd, hsk, _, _, hx, hxf, hb⟩ := s.miss hM
    refine seek_s (q.ext e1) k (by omega) (by omega) (scat_ge _) hsk fun h2 e2 => ⟨_, _, _, rfl, ?_⟩
    have e12 := e1.trans e2
    have ck := c1.ext e2
    obtain ⟨g, c, qg⟩ := (q.ext e12).ag
    have hc := qg.cl
    refine br_f (by decide) ⟨_, ld (hc.at_ 2 _ rfl) (by kernel_rfl), _, ld (hc.at_ 0 _ rfl) (by kernel_rfl), ?_⟩
    have hn := s.tn
    have hmost := s.most
    have hm1 := s.m1
    refine br_i (fun cb => ?_) (fun cb => ?_)
    · have cb : t.n ≥ t.most := by simpa using cb
      exact H2 hM (by omega) h2 e12
    · have cb : ¬ t.n ≥ t.most := by simpa using cb
      have hlt' := (List.getElem?_eq_some_iff.1 hx).1
      obtain ⟨hix, hcl⟩ := rd_slot (c := c) qg.row rfl hx
      have hno : ∀ u, (⟨1, k, u⟩ : Slot) ∉ t.ss := fun u hu => by
        have := (s.mem k u).1 hu
        rw [hM] at this
        cases this
      obtain ⟨I, f', l', mm⟩ := lay_new s.hi (v := v) hno hd hx hxf hb
      have hhalf := s.half
      have hmarks := s.marks
      have fin : ∀ (h3 : Hp) (mk : Int), HAg h3 b S { t with marks := mk } g c → Fr S h h3 → Cl h3 ⟨h.size, 0, none⟩ k.enc → mk = lefts (t.ss.set (pos t.ss.length (stOf t.ss k) d) ⟨1, k, v⟩) →
          hash_TableS_Put_j1 (fun x h => K (.int .i64 x) h) (some ⟨b, 0, none⟩) v ⟨h.size, 0, none⟩ ((pos t.ss.length (stOf t.ss k) d : Nat) : Int) h3 := fun h3 mk q3 f3 k3 hm => by
        unfold hash_TableS_Put_j1
        have hc3 := q3.cl
        obtain ⟨hix3, _⟩ := rd_slot (c := c) q3.row rfl hx
        refine ⟨_, _, _, ld (hc3.at_ 1 _ rfl) (by kernel_rfl), _, _, _, _, _, ldS k3 (by kernel_rfl), _, hix3, ?_⟩
        refine q3.st_slot hlt' ⟨1, k, v⟩ fun h4 q4 f4 z4 => ?_
        refine ⟨_, ld (q4.cl.at_ 2 _ rfl) (by kernel_rfl), ?_⟩
        rw [wrap_in (by show -9223372036854775808 ≤ t.n + 1; omega) (by show t.n + 1 ≤ _; omega)]
        refine q4.st_n (t.n + 1) fun h5 q5 f5 z5 => ?_
        refine mend_a q5 (m := m) (M := upd M k (some v)) (n := n + 1) (l := l) ⟨hmost, s.m0, hm1, I, by show t.n + 1 = _; omega, by show fulls (t.ss.set _ _) = _; rw [f', s.nf], hm, by show (t.ss.set _ _).length = _; rw [List.length_set]; exact hln, h8, hlt, by omega, fun k' v' => ?_⟩ ?_ fun h6 S' l'' q6 tg hl => ⟨rfl, ?_⟩
        · show (⟨1, k', v'⟩ : Slot) ∈ t.ss.set _ _ ↔ _
          rw [mm, s.mem]
          unfold upd
          by_cases hk : k' = k
          · subst hk; simp [hM]; constructor <;> (intro h; exact h.symm)
          · simp [hk]
        · show 2 * (fulls (t.ss.set _ _) + lefts (t.ss.set _ _)) ≤ l + 2
          rw [f']
          split at l' <;> omega
        · exact H3 hM (by omega) h6 S' l'' q6 ((Fr.tg ((f3.trans f4).trans f5)).trans tg) hl
      refine ⟨_, _, _, ld (hc.at_ 1 _ rfl) (by kernel_rfl), _, hix, _, ld hcl.head (by kernel_rfl), br_i (fun c2 => ?_) (fun c2 => ?_)⟩
      · have c2 : x.is = 2 := by simpa using c2
        refine ⟨_, ld (hc.at_ 3 _ rfl) (by kernel_rfl), ?_⟩
        rw [if_pos c2] at l'
        rw [wrap_in (by omega) (by omega)]
        refine qg.st_marks (t.marks - 1) fun h3 q3 f3 z3 => ?_
        exact fin h3 _ q3 ((e12.fr S).trans f3) (f3.cl ck (fun hs => by have := q.2.1 _ hs; simp at this)) (by omega)
      · have c2 : ¬ x.is = 2 := by simpa using c2
        rw [if_neg c2] at l'
        exact fin h2 t.marks qg (e12.fr S) ck (by omega)
theorem hget_a {h : Hp} {b : Nat} {S : Nat → Prop} {m : Int} {M : Hdr → Option ByteArray} {n l : Nat} (q : HB h b S m M n l) (k : Hdr) {K : Value → Hp → Prop}
    (H : ∀ h', Ext h h' → K (.tuple #[.string ((M k).getD zb), .bool (M k).isSome]) h') : CallsH Tryd.prog 8 #[.pointer (some ⟨b, 0, none⟩), k.val] h K := by
  obtain ⟨t, q, s⟩ := q
  have h8 := s.l8
  have hlt := s.lt
  have hln := s.len
  have hhalf := s.half
  have hn := s.tn
  have hnf := s.nf
  have hmk := s.marks
  have ok : t.ok := ⟨by omega, by omega, by omega, by omega, by omega, by omega⟩
  cases hM : M k with
  | some w =>
    obtain ⟨i, fr, p, hi, hsk, _, _⟩ := s.held hM
    rw [hM] at H
    refine hget_s q ok k (scat_ge _) (v := w) (f := true) ?_ H
    unfold getI
    rw [hsk]
    simp [hi]
  | none =>
    obtain ⟨d, x, p, hd, hsk, _, _, hx, hxf, hb⟩ := s.miss hM
    rw [hM] at H
    refine hget_s q ok k (scat_ge _) (v := zb) (f := false) ?_ H
    unfold getI
    rw [hsk]
    rfl
theorem hdel_a {h : Hp} {b : Nat} {S : Nat → Prop} {m : Int} {M : Hdr → Option ByteArray} {n l : Nat} (q : HB h b S m M n l) (k : Hdr) {K : Value → Hp → Prop}
    (H : ∀ h', HB h' b S m (upd M k none) (if (M k).isSome then n - 1 else n) l → Fr S h h' → ((M k).isSome = true → 1 ≤ n) → K (.bool (M k).isSome) h') : CallsH Tryd.prog 6 #[.pointer (some ⟨b, 0, none⟩), k.val] h K := by
  obtain ⟨t, q, s⟩ := q
  have h8 := s.l8
  have hlt := s.lt
  have hln := s.len
  have hhalf := s.half
  have hn := s.tn
  have hnf := s.nf
  have hmk := s.marks
  have hnm := s.nm
  have ok : t.ok := ⟨by omega, by omega, by omega, by omega, by omega, by omega⟩
  cases hM : M k with
  | some w =>
    obtain ⟨i, fr, p, hi, hsk, _, _⟩ := s.held hM
    obtain ⟨I, f', l', mm⟩ := lay_del s.hi hi rfl
    rw [hM] at H
    refine hdel_s q ok k (scat_ge _) (f := true) (t' := ⟨t.most, t.ss.set i ⟨2, h0, zb⟩, t.n - 1, t.marks + 1⟩) ?_ fun h' q' f => H h' ⟨_, q', ⟨⟨s.most, s.m0, s.m1, I, ?_, ?_, ?_, by rw [List.length_set]; exact hln, h8, hlt, ?_, fun k' v' => ?_⟩, ?_⟩⟩ f (fun _ => by omega)
    · unfold delI
      rw [hsk]
      have h1 : ¬ ((i : Nat) : Int) < 0 := by omega
      simp only [h1, if_false, Int.toNat_natCast, hi]
      rw [if_pos]
      unfold HT.still
      simp only [List.length_set, Bool.and_eq_true, decide_eq_true_eq]
      omega
    · show t.n - 1 = (((if true = true then n - 1 else n : Nat)) : Int)
      rw [if_pos rfl]; omega
    · show fulls (t.ss.set _ _) = if true = true then n - 1 else n
      rw [if_pos rfl]; omega
    · show t.marks + 1 = ((lefts (t.ss.set _ _) : Nat) : Int)
      omega
    · show (((if true = true then n - 1 else n : Nat)) : Int) ≤ m
      rw [if_pos rfl]; omega
    · show (⟨1, k', v'⟩ : Slot) ∈ t.ss.set _ _ ↔ _
      rw [mm, s.mem]
      unfold upd
      by_cases hk : k' = k
      · simp [hk]
      · simp [hk]
    · show 2 * (fulls (t.ss.set _ _) + lefts (t.ss.set _ _)) ≤ l
      omega
  | none =>
    obtain ⟨d, x, p, hd, hsk, _, _, hx, hxf, hb⟩ := s.miss hM
    rw [hM] at H
    have hu : upd M k none = M := by
      funext k'
      unfold upd
      by_cases hk : k' = k
      · simp [hk, hM]
      · simp [hk]
    rw [hu] at H
    refine hdel_s q ok k (scat_ge _) (f := false) (t' := t) ?_ fun h' q' f => H h' ⟨_, q', s⟩ f (fun h => by cases h)
    unfold delI
    rw [hsk]
    rfl
theorem hlen_a {h : Hp} {b : Nat} {S : Nat → Prop} {m : Int} {M : Hdr → Option ByteArray} {n l : Nat} (q : HB h b S m M n l) {K : Value → Hp → Prop} (H : K (.int .i64 (n : Int)) h) : CallsH Tryd.prog 10 #[.pointer (some ⟨b, 0, none⟩)] h K := by
  obtain ⟨t, q, s⟩ := q
  refine hlen_s q ?_
  rw [s.tn]
  exact H
theorem HB.b {h : Hp} {b : Nat} {S : Nat → Prop} {m : Int} {M : Hdr → Option ByteArray} {n l : Nat} (q : HB h b S m M n l) : 8 ≤ l ∧ 2 * n ≤ l ∧ l ≤ 262144 ∧ (n : Int) ≤ m ∧ m ≤ 65536 := by
  obtain ⟨t, _, s⟩ := q
  have h1 := s.l8
  have h2 := s.lt
  have h3 := s.half
  have h4 := s.nf
  exact ⟨h1, by omega, h2, s.nm, s.m1⟩
theorem hnew_a (m : Int) {h : Hp} {K : Value → Hp → Prop} (H0 : (m < 1 ∨ m > 65536) → K (.tuple #[.pointer none, .int .i64 1]) h)
    (H1 : ¬ (m < 1 ∨ m > 65536) → ∀ h' b S, Ext h h' → (∀ k, S k → h.size ≤ k) → HB h' b S m (fun _ => none) 0 8 → K (.tuple #[.pointer (some ⟨b, 0, none⟩), .int .i64 0]) h') : CallsH Tryd.prog 4 #[.int .i64 m] h K := by
  refine hnew_s m H0 fun hm h' b S e hS q => H1 hm h' b S e hS ⟨_, q, ?_⟩
  obtain ⟨I, f, l, mm⟩ := HI.fresh 8 (by decide)
  refine ⟨⟨rfl, by omega, by omega, I, rfl, f, by show (0 : Int) = _; rw [show lefts (newHT m).ss = 0 from l]; rfl, by show (List.replicate 8 zS).length = 8; simp, by omega, by omega, by omega, fun k v => ⟨fun h => absurd h (mm k v), fun h => by cases h⟩⟩, ?_⟩
  show 2 * (fulls (List.replicate 8 zSl) + lefts (List.replicate 8 zSl)) ≤ 8
  omega
end Go.Proofs.YtoheablfncdibaaDoor.FsS
