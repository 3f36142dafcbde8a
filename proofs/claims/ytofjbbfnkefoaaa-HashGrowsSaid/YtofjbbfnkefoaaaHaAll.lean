/- All: each entry in its turn, by rising headers, until yield says no. -/
import Derived.Test.YtofjbbfnkefoaaaHaRef
namespace Go.Proofs.Ytofjbbfnkefoaaa.Fs
open Go Go.RowKit Go.Proofs.Ytofjbbfnkefoaaa.Sx
set_option linter.unusedVariables false
set_option linter.unusedSimpArgs false
set_option maxRecDepth 10000
theorem loop_back (r : Loop) (h1 : r.state = .ready) (h2 : r.pending = none) : ({ ({ r with state := .busy } : Loop) with state := if (none : Option Code).isNone = true then .ready else .done, pending := none } : Loop) = r := by
  cases r; simp_all
theorem set_get {h : Hp} {l : Nat} {o : Obj} (hl : l < h.size) : (h.setIfInBounds l o)[l]? = some o := by simp [hl]
theorem set_fr {h : Hp} {l : Nat} {o : Obj} {S : Nat → Prop} (hS : S l) : Fr S h (h.setIfInBounds l o) :=
  ⟨by simp, fun k hk hn => Array.getElem?_setIfInBounds_ne (fun e => hn (by rw [← e]; exact hS))⟩
theorem get_mid {L done rest : List Ent} {e : Ent} (h : L = done ++ e :: rest) : L[done.length]? = some e ∧ done.length < L.length := by
  subst h
  simp
/-- What a yield does, its own blocks told (Y). -/
structure ItY (J : List Ent → (Nat → Prop) → Hp → Prop) (Stop : Hp → Prop) (L : List Ent) (v : Value) : Prop where
  ext : ∀ done Y h h', J done Y h → Ext h h' → J done Y h'
  lt : ∀ done Y h, J done Y h → ∀ k, Y k → k < h.size
  round : ∀ done e rest Y h (K : Value → Hp → Prop), L = done ++ e :: rest → J done Y h → (∀ h' Y', J (done ++ [e]) Y' h' → Fr Y h h' → (∀ k, Y' k → Y k ∨ h.size ≤ k) → K (.bool true) h') → (∀ h', Stop h' → K (.bool false) h') → HN Try.prog (callS v #[e.k.val, .int .i64 e.v]) h K
theorem ItY.add {J : List Ent → (Nat → Prop) → Hp → Prop} {Stop : Hp → Prop} {L : List Ent} {v : Value} (it : ItY J Stop L v) {P : Hp → Prop} {B : Nat → Prop} (hB : ∀ h, P h → ∀ k, B k → k < h.size) (hP : ∀ h h' Y, P h → Fr Y h h' → (∀ k, Y k → ¬ B k) → P h') :
    ItY (fun done Y h => J done Y h ∧ P h ∧ ∀ k, Y k → ¬ B k) Stop L v :=
  ⟨fun done Y h h' ⟨q, p, n⟩ e => ⟨it.ext _ _ _ _ q e, hP h h' (fun _ => False) p (e.fr _) (fun _ h => h.elim), n⟩, fun done Y h ⟨q, _⟩ => it.lt _ _ _ q, fun done e rest Y h K hL ⟨q, p, n⟩ H1 H0 => it.round done e rest Y h K hL q (fun h' Y' q' f s => H1 h' Y' ⟨q', hP h h' Y p f n, fun k hk hb => by
    rcases s k hk with h1 | h1
    · exact n k h1 hb
    · have := hB h p k hb; omega⟩ f s) H0⟩
theorem sorted_eq {α : Type} {R : α → α → Prop} (irr : ∀ a, ¬ R a a) (tr : ∀ a b c, R a b → R b c → R a c) : ∀ l l' : List α, l.Pairwise R → l'.Pairwise R → (∀ x, x ∈ l ↔ x ∈ l') → l = l'
  | [], [], _, _, _ => rfl
  | [], b :: l', _, _, h => by have := (h b).2 (by simp); simp at this
  | a :: l, [], _, _, h => by have := (h a).1 (by simp); simp at this
  | a :: l, b :: l', h1, h2, h => by
    rw [List.pairwise_cons] at h1 h2
    have hab : a = b := by
      have q1 := (h a).1 (by simp)
      have q2 := (h b).2 (by simp)
      rcases List.mem_cons.1 q1 with q1 | q1
      · exact q1
      · rcases List.mem_cons.1 q2 with q2 | q2
        · exact q2.symm
        · exact absurd (tr _ _ _ (h1.1 b q2) (h2.1 a q1)) (irr a)
    subst hab
    rw [sorted_eq irr tr l l' h1.2 h2.2 fun x => ⟨fun hx => by
      rcases List.mem_cons.1 ((h x).1 (List.mem_cons_of_mem _ hx)) with e | e
      · exact absurd (e ▸ h1.1 x hx) (irr a)
      · exact e, fun hx => by
      rcases List.mem_cons.1 ((h x).2 (List.mem_cons_of_mem _ hx)) with e | e
      · exact absurd (e ▸ h2.1 x hx) (irr a)
      · exact e⟩]
def toEnt (s : Slot) : Ent := ⟨s.k, s.v⟩
def isF (s : Slot) : Bool := s.is == 1
theorem told_L {ss ys : List Slot} {M : Hdr → Option Int} {L : List Ent} (I : HI ss) (hm : ∀ k v, (⟨1, k, v⟩ : Slot) ∈ ss ↔ M k = some v) (lm : LM L M) (hp : ys.Perm (ss.filter isF)) (hs : ys.Pairwise fun a b => ¬ ltH b.k a.k) : ys.map toEnt = L := by
  have hap : (ss.filter isF).Pairwise fun a b => a.k ≠ b.k := by
    have h1 := I.apart.filter isF
    refine List.Pairwise.imp_of_mem ?_ h1
    intro a b ha hb h
    rw [List.mem_filter] at ha hb
    exact h (by simpa [isF] using ha.2) (by simpa [isF] using hb.2)
  have hap2 : ys.Pairwise fun a b => a.k ≠ b.k := (hp.pairwise_iff (fun {a b} h e => h e.symm)).2 hap
  have hlt : ys.Pairwise fun a b => ltH a.k b.k := by
    refine (hs.and hap2).imp ?_
    rintro a b ⟨h1, h2⟩
    rcases ltH_tri a.k b.k with h | h | h
    · exact h
    · exact absurd h h2
    · exact absurd h h1
  refine sorted_eq (R := fun a b : Ent => ltH a.k b.k) (fun a => ltH_irr a.k) (fun a b c => ltH_trans) _ _ ?_ lm.sorted ?_
  · rw [List.pairwise_map]
    exact hlt
  · intro e
    rw [List.mem_map]
    constructor
    · rintro ⟨s, h, rfl⟩
      have h1 := hp.mem_iff.1 h
      rw [List.mem_filter] at h1
      have h2 := slot_eta (s := s) (by simpa [isF] using h1.2)
      show (⟨s.k, s.v⟩ : Ent) ∈ L
      rw [lm.mem, ← hm, ← h2]
      exact h1.1
    · intro h
      obtain ⟨k, v⟩ := e
      have h1 := (hm k v).2 ((lm.mem k v).1 h)
      exact ⟨⟨1, k, v⟩, hp.mem_iff.2 (List.mem_filter.2 ⟨h1, rfl⟩), rfl⟩
theorem info_sl : ∃ i z, Try.prog.info? 104 = some i ∧ i.zero = some z ∧ z.cells.size = 7 ∧ i.size = 7 ∧ 0 < i.bytes ∧ i.bytes ≤ 1000 := ⟨_, _, rfl, rfl, rfl, rfl, by decide, by decide⟩
theorem all_l1 {hb : Hp} {g c : Nat} {ss : List Slot} (r : RowS hb g c ss) (hl : ss.length < 2 ^ 29) {v : Value} {K0 : Value → (Option Addr) → Nat → Nat → Hp → Prop}
    (H : ∀ h' A' c', Ext hb h' → RowSC h' A' c' (ss.filter isF) → Fresh hb A' → K0 v A' (ss.filter isF).length c' h') :
    ∀ (rest done : List Slot) (h : Hp) (A : Option Addr) (c1 : Nat), ss = done ++ rest → Ext hb h → RowSC h A c1 (done.filter isF) → Fresh hb A → hash_Table_All_1_l1 v (some ⟨g, 0, none⟩) ss.length c (ss.length : Int) K0 (rest.length + 1) A (done.filter isF).length c1 (done.length : Int) h := by
  intro rest
  induction rest with
  | nil =>
    intro done h A c1 he e ro fr
    unfold hash_Table_All_1_l1
    have hd : ss = done := by rw [he]; simp
    refine br_f (by rw [hd]; simp) ?_
    rw [← hd] at ro ⊢
    exact H h A c1 e ro fr
  | cons s rest ih =>
    intro done h A c1 he e ro fr
    unfold hash_Table_All_1_l1
    have hlen : ss.length = done.length + (rest.length + 1) := by rw [he]; simp
    have hs : ss[done.length]? = some s := by rw [he]; simp
    refine br_t (by simp; omega) ?_
    obtain ⟨hix, hcl⟩ := rd_slot (c := c) (r.ext e).read rfl hs
    refine ⟨_, hix, _, _, _, _, _, _, _, ldS (vs := s.enc) hcl (by kernel_rfl), ?_⟩
    refine newV (us := s.enc) rfl rfl (by kernel_rfl) s.flat fun h1 e1 k1 b1 z1 => ?_
    have hidx : IntKind.i64.wrap ((done.length : Int) + 1) = ((done ++ [s]).length : Int) := by
      rw [wrap_in (by omega) (by omega)]; simp
    refine ⟨_, ld k1.head (by kernel_rfl), ?_⟩
    rw [hidx]
    have he' : ss = (done ++ [s]) ++ rest := by rw [he]; simp
    have hfl : (done.filter isF).length ≤ done.length := List.length_filter_le _ _
    refine br_i (fun p => ?_) (fun p => ?_)
    · have hf : isF s = true := p
      refine ⟨_, _, _, _, _, _, _, ldS (vs := s.enc) k1 (by kernel_rfl), newC_i (cs := s.enc) fun h2 e2 k2 b2 z2 => ?_⟩
      obtain ⟨i, z, hi, hz, hzl, hsz, hb0, hb1⟩ := info_sl
      refine appF Slot.len Slot.flat und93 hi hz hzl hsz hb0 hb1 ((e.trans e1).trans e2) ((ro.ext e1).ext e2) fr (x := s) k2 (by omega) fun h3 A3 c3 e3 r3 f3 _ => ⟨_, _, _, rfl, ?_⟩
      have hfe : done.filter isF ++ [s] = (done ++ [s]).filter isF := by simp [hf]
      rw [hfe] at r3 ⊢
      exact ih (done ++ [s]) h3 A3 c3 he' e3 r3 f3
    · have hf : isF s = false := p
      have hfe : done.filter isF = (done ++ [s]).filter isF := by simp [hf]
      have := ih (done ++ [s]) h1 A c1 he' (e.trans e1) (by rw [← hfe]; exact ro.ext e1) fr
      rw [← hfe] at this
      exact this
theorem all_l2 {J : List Ent → (Nat → Prop) → Hp → Prop} {Stop : Hp → Prop} {L : List Ent} {v : Value} (it : ItY J Stop L v) {A : Option Addr} {c : Nat} {ys : List Slot} (hys : ys.map toEnt = L) (hl : ys.length < 2 ^ 60) (hr : ∀ done Y h, J done Y h → RowSC h A c ys) {K0 K1 : Hp → Prop} (H0 : ∀ h', Stop h' → K0 h') (H1 : ∀ h' Y', J L Y' h' → K1 h') :
    ∀ (rest done : List Slot) (h : Hp) (Y : Nat → Prop), ys = done ++ rest → J (done.map toEnt) Y h → hash_Table_All_1_l2 v A ys.length c (ys.length : Int) K0 K1 (rest.length + 1) (done.length : Int) h := by
  intro rest
  induction rest with
  | nil =>
    intro done h Y he j
    unfold hash_Table_All_1_l2
    have hd : ys = done := by rw [he]; simp
    refine br_f (by rw [hd]; simp) (H1 h Y ?_)
    rw [← hys, hd]; exact j
  | cons s rest ih =>
    intro done h Y he j
    unfold hash_Table_All_1_l2
    have hlen : ys.length = done.length + (rest.length + 1) := by rw [he]; simp
    have hs : ys[done.length]? = some s := by rw [he]; simp
    refine br_t (by simp; omega) ?_
    obtain ⟨a, _, _, hix, hcl⟩ := ixR (P := Try.prog) (T := 93) (E := 104) (k := .i64) (c := c) Slot.len (hr _ _ _ j).read rfl und93 size120 hs
    refine ⟨_, hix, _, _, _, _, _, _, _, ldS (vs := s.enc) hcl (by kernel_rfl), ?_⟩
    refine newV (us := s.enc) rfl rfl (by kernel_rfl) s.flat fun h1 e1 k1 b1 z1 => ?_
    refine ⟨_, _, _, _, _, ldS (Cl.sl k1 (n := 1) (us := s.k.enc) rfl) (by kernel_rfl), _, ld (k1.at_ 6 _ rfl) (by kernel_rfl), ?_⟩
    have hL : L = done.map toEnt ++ toEnt s :: rest.map toEnt := by rw [← hys, he]; simp
    refine it.round (done.map toEnt) (toEnt s) (rest.map toEnt) Y h1 _ hL (it.ext _ _ _ _ j e1) (fun h2 Y2 j2 _ _ => ⟨true, rfl, br_f rfl ?_⟩) (fun h2 s2 => ⟨false, rfl, br_t rfl (H0 h2 s2)⟩)
    have hidx : IntKind.i64.wrap ((done.length : Int) + 1) = ((done ++ [s]).length : Int) := by
      rw [wrap_in (by omega) (by omega)]; simp
    rw [hidx]
    exact ih (done ++ [s]) h2 Y2 (by rw [he]; simp) (by simpa using j2)
theorem all1_s {h : Hp} {b : Nat} {S : Nat → Prop} {m : Int} {M : Hdr → Option Int} {n ll : Nat} (q : HB h b S m M n ll) {L : List Ent} (lm : LM L M) {a2 : Addr} (c2 : Cl h a2 [.pointer (some ⟨b, 0, none⟩)]) {J : List Ent → (Nat → Prop) → Hp → Prop} {Stop : Hp → Prop} {l : Nat} {Y : Nat → Prop} {K : Value → Hp → Prop}
    (it : ItY J Stop L (yieldV l)) (j0 : J [] Y h) (H1 : ∀ h' Y', J L Y' h' → K (.tuple #[]) h') (H0 : ∀ h', Stop h' → K (.tuple #[]) h') : CallsH Try.prog 46 #[yieldV l, .pointer (some a2)] h K := by
  refine hash_Table_All_1_ok _ _ _ _ ?_
  unfold hash_Table_All_1
  obtain ⟨t, q, s⟩ := q
  have hlt := s.lt
  have hln := s.len
  obtain ⟨g, c, qg⟩ := q.ag
  have hl : t.ss.length < 2 ^ 29 := by omega
  refine ⟨_, ld c2.head (by kernel_rfl), _, eqNil eq22, br_f rfl ⟨_, ld c2.head (by kernel_rfl), _, _, _, ld (qg.cl.at_ 1 _ rfl) (by kernel_rfl), t.ss.length + 1, ?_⟩⟩
  have hYlt := it.lt _ _ _ j0
  refine all_l1 qg.2.2.2.1 hl (fun h1 A1 c1 e1 r1 f1 => ?_) t.ss [] h none 0 rfl (Ext.refl _) (RowC.nil) (Fresh.none h)
  have hfl : (t.ss.filter isF).length ≤ t.ss.length := List.length_filter_le _ _
  refine sort_sl r1 (by omega) fun h2 ys hp hs r2 f2 => ⟨rfl, ys.length + 1, ?_⟩
  have e2 : Ext h h2 := extOwn e1 f2 f1
  have hyl : (t.ss.filter isF).length = ys.length := hp.length_eq.symm
  rw [hyl]
  have it2 := it.add (P := fun h' => RowSC h' A1 c1 ys) (B := blk A1) (fun h' p k hk => p.old k hk) (fun h' h'' Y' p f n => p.keep f fun k hk hY => n k hY hk)
  exact all_l2 it2 (told_L s.hi s.mem lm hp hs) (by omega) (fun done Y' h' hj => hj.2.1) H0 (fun h' Y' hj => H1 h' Y' hj.1) ys [] h2 Y rfl ⟨it.ext _ _ _ _ j0 e2, r2, fun k hk hb => by
    have := hYlt k hk
    have := f1 k hb
    omega⟩
end Go.Proofs.Ytofjbbfnkefoaaa.Fs
