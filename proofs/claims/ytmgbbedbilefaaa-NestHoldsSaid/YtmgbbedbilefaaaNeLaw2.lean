/- NestApart. -/
import Derived.Test.YtmgbbedbilefaaaNeLaw1
import Derived.Test.YtmgbbedbilefaaaNePure4
namespace Go.Proofs.Ytmgbbedbilefaaa.Fs
open Go Go.RowKit Go.Sort Go.Proofs.Ytmgbbedbilefaaa.Sx Go.Proofs.Ytmgbbedbilefaaa.Sp Go.Proofs.Ytmgbbedbilefaaa.Ne
set_option linter.unusedVariables false
set_option linter.unusedSimpArgs false
set_option maxRecDepth 10000
section
variable {h : Hp} {A B : Option Addr} {c d : Nat} {l : List Sp}
theorem levs_get {i : Nat} {s : Sp} (hs : l[i]? = some s) : (levs l)[i]? = some (lk (DL l) s : Int) := by unfold levs; rw [List.getElem?_map, hs]; rfl
theorem any_snoc {α : Type} {l : List α} {k : Nat} {x : α} (hx : l[k]? = some x) (p : α → Bool) : (l.take (k + 1)).any p = ((l.take k).any p || p x) := by rw [tk1 hx, List.any_append]; simp
def fB (l : List Sp) (s : Sp) (lvl : Nat) (t : Sp) : Bool := lk (DL l) t == lvl && meetB t s
theorem ap_l108 (r : RSl h A l.length 2 (l.flatMap Sp.enc)) (rn : RSl h B (levs l).length 1 ((levs l).flatMap encI)) (hl : l.length ≤ 4000) {x6 x8 : Int} {i lvl : Nat} {s : Sp} (hs : l[i]? = some s)
    {K0 : (Option Addr) → Nat → Nat → (Option Addr) → Nat → Nat → Int → Int → Int → Int → Bool → Hp → Prop} (H : K0 A l.length c B (levs l).length d x6 (i : Int) x8 (lvl : Int) (l.any (fB l s lvl)) h) :
    ∀ (k j : Nat), l.length - j < k → j ≤ l.length → quintetlaw14_NestApart_l108 A l.length c B (levs l).length d x6 (i : Int) x8 (lvl : Int) K0 k ((l.take j).any (fB l s lvl)) (j : Int) h := by
  intro k
  induction k with
  | zero => intro j hk; omega
  | succ k ih =>
    intro j hk hj
    unfold quintetlaw14_NestApart_l108
    refine br_i (fun q => ?_) (fun q => ?_)
    · have hlt : j < l.length := by simpa using q
      have ht := List.getElem?_eq_getElem hlt
      generalize l[j] = t at ht
      have hst := any_snoc ht (fB l s lvl)
      have ih' := ih (j + 1) (by omega) (by omega)
      rw [hst] at ih'
      rw [wrapN (by omega)]
      obtain ⟨a1, hix1, hc1⟩ := ixS (c := c) r ht
      obtain ⟨a2, hix2, hc2⟩ := ixS (c := c) r hs
      obtain ⟨a3, hix3, hld3⟩ := ixIR (c := d) rn (levs_get ht)
      refine br_i (fun u => ?_) (fun u => ?_)
      · rw [u, Bool.true_or] at ih'
        exact ih'
      · rw [u, Bool.false_or] at ih'
        refine ⟨_, hix3, _, hld3, br_i (fun v => ⟨_, hix1, _, ld hc1.head (by kernel_rfl), _, hix2, _, ld (hc2.at_ 1 _ rfl) (by kernel_rfl), br_i (fun w => ⟨_, hix2, _, ld hc2.head (by kernel_rfl), _, hix1, _, ld (hc1.at_ 1 _ rfl) (by kernel_rfl), ?_⟩) (fun w => ?_)⟩) (fun v => ?_)⟩
        · have v : lk (DL l) t = lvl := by simp at v; omega
          have w : t.lo ≤ s.hi := by simpa using w
          have e : fB l s lvl t = decide (s.lo ≤ t.hi) := by unfold fB meetB; simp [v, w]
          rw [e] at ih'
          exact ih'
        · have v : lk (DL l) t = lvl := by simp at v; omega
          have w : ¬ t.lo ≤ s.hi := by simpa using w
          have e : fB l s lvl t = false := by unfold fB meetB; simp [w]
          rw [e] at ih'
          exact ih'
        · have v : ¬ lk (DL l) t = lvl := by simp at v; omega
          have e : fB l s lvl t = false := by unfold fB; simp [v]
          rw [e] at ih'
          exact ih'
    · have hj' : j = l.length := by simp at q; omega
      subst hj'
      rw [List.take_length]
      exact H
theorem ap_l107 (r : RSl h A l.length 2 (l.flatMap Sp.enc)) (rn : RSl h B (levs l).length 1 ((levs l).flatMap encI)) (hl : l.length ≤ 4000) {x7 : Int} {i : Nat} {s : Sp} (hs : l[i]? = some s)
    {K0 : (Option Addr) → Nat → Nat → (Option Addr) → Nat → Nat → Int → Int → Int → Hp → Prop} (H : K0 A l.length c B (levs l).length d x7 (i : Int) (lk (DL l) s : Int) h) :
    ∀ (k m : Nat), lk (DL l) s - m < k → m ≤ lk (DL l) s → quintetlaw14_NestApart_l107 A l.length c B (levs l).length d x7 (i : Int) K0 k (m : Int) (m : Int) h := by
  have hm := lk_lt (List.mem_of_getElem? hs)
  have hd := dep_le l
  intro k
  induction k with
  | zero => intro m hk; omega
  | succ k ih =>
    intro m hk hmm
    unfold quintetlaw14_NestApart_l107
    obtain ⟨a3, hix3, hld3⟩ := ixIR (c := d) rn (levs_get hs)
    refine ⟨_, hix3, _, hld3, br_i (fun q => ?_) (fun q => ?_)⟩
    · have hlt : m < lk (DL l) s := by simpa using q
      have hany : l.any (fB l s m) = true := by
        obtain ⟨t, ht, h1, h2⟩ := below (List.mem_of_getElem? hs) hlt
        rw [List.any_eq_true]
        exact ⟨t, ht, by unfold fB; simp [h1, h2]⟩
      refine ⟨l.length + 1, ap_l108 (c := c) (d := d) r rn hl hs ?_ (l.length + 1) 0 (by omega) (by omega)⟩
      rw [hany]
      refine br_t rfl ?_
      rw [wrapN (by omega)]
      exact ih (m + 1) (by omega) (by omega)
    · have : m = lk (DL l) s := by simp at q; omega
      subst this
      exact H
theorem ap_j111 (r : RSl h A l.length 2 (l.flatMap Sp.enc)) (rn : RSl h B (levs l).length 1 ((levs l).flatMap encI)) {x6 : Int} {i j : Nat} {s t : Sp} (hs : l[i]? = some s) (ht : l[j]? = some t) {K0 : Bool → Hp → Prop} {K1 : (Option Addr) → Nat → Nat → (Option Addr) → Nat → Nat → Int → Int → Int → Hp → Prop}
    (H : K1 A l.length c B (levs l).length d x6 (i : Int) (j : Int) h) : quintetlaw14_NestApart_j111 K0 K1 A l.length c B (levs l).length d x6 (i : Int) (j : Int) (meetB t s) h := by
  unfold quintetlaw14_NestApart_j111
  obtain ⟨a1, hix1, hc1⟩ := ixS (c := c) r ht
  obtain ⟨a2, hix2, hc2⟩ := ixS (c := c) r hs
  obtain ⟨a3, hix3, hld3⟩ := ixIR (c := d) rn (levs_get ht)
  obtain ⟨a4, hix4, hld4⟩ := ixIR (c := d) rn (levs_get hs)
  refine ⟨_, hix1, _, _, ldS hc1 (by kernel_rfl), _, hix2, _, _, ldS hc2 (by kernel_rfl), _, eq_sp t s, br_i (fun u => ?_) (fun u => ?_)⟩
  · have u : t = s := by simpa using u
    refine ⟨_, hix3, _, hld3, _, hix4, _, hld4, br_f (by rw [u]; simp) ⟨_, hix1, _, _, ldS hc1 (by kernel_rfl), _, hix2, _, _, ldS hc2 (by kernel_rfl), _, ne_sp t s, br_f (by simp [u]) H⟩⟩
  · have u : ¬ t = s := by simpa using u
    refine ⟨_, hix1, _, _, ldS hc1 (by kernel_rfl), _, hix2, _, _, ldS hc2 (by kernel_rfl), _, ne_sp t s, br_t (by simp [u]) (br_i (fun m => ⟨_, hix3, _, hld3, _, hix4, _, hld4, br_f ?_ H⟩) (fun _ => H))⟩
    have : ¬ lk (DL l) t = lk (DL l) s := fun e => u (apart (List.mem_of_getElem? ht) (List.mem_of_getElem? hs) e m)
    simp
    omega
theorem ap_l110 (r : RSl h A l.length 2 (l.flatMap Sp.enc)) (rn : RSl h B (levs l).length 1 ((levs l).flatMap encI)) (hl : l.length ≤ 4000) {x6 : Int} {i : Nat} {s : Sp} (hs : l[i]? = some s) {K0 : Bool → Hp → Prop} {K1 : (Option Addr) → Nat → Nat → (Option Addr) → Nat → Nat → Int → Int → Hp → Prop}
    (H : K1 A l.length c B (levs l).length d x6 (i : Int) h) : ∀ (k j : Nat), i - j < k → j ≤ i → quintetlaw14_NestApart_l110 A l.length c B (levs l).length d x6 (i : Int) K0 K1 k (j : Int) h := by
  have hil := (List.getElem?_eq_some_iff.1 hs).1
  intro k
  induction k with
  | zero => intro j hk; omega
  | succ k ih =>
    intro j hk hj
    unfold quintetlaw14_NestApart_l110
    refine br_i (fun q => ?_) (fun q => ?_)
    · have hlt : j < i := by simpa using q
      have ht : l[j]? = some l[j] := List.getElem?_eq_getElem (by omega)
      generalize l[j] = t at ht
      obtain ⟨a1, hix1, hc1⟩ := ixS (c := c) r ht
      obtain ⟨a2, hix2, hc2⟩ := ixS (c := c) r hs
      have nx := ih (j + 1) (by omega) (by omega)
      refine ⟨_, hix1, _, ld hc1.head (by kernel_rfl), _, hix2, _, ld (hc2.at_ 1 _ rfl) (by kernel_rfl), br_i (fun u => ⟨_, hix2, _, ld hc2.head (by kernel_rfl), _, hix1, _, ld (hc1.at_ 1 _ rfl) (by kernel_rfl), ?_⟩) (fun u => ?_)⟩
      · have u : t.lo ≤ s.hi := by simpa using u
        have e : decide (s.lo ≤ t.hi) = meetB t s := by unfold meetB; simp [u]
        rw [e]
        refine ap_j111 r rn hs ht ?_
        rw [wrapN (by omega)]
        exact nx
      · have u : ¬ t.lo ≤ s.hi := by simpa using u
        have e : false = meetB t s := by unfold meetB; simp [u]
        rw [e]
        refine ap_j111 r rn hs ht ?_
        rw [wrapN (by omega)]
        exact nx
    · have : j = i := by simp at q; omega
      exact H
theorem ap_l98 (r : RSl h A l.length 2 (l.flatMap Sp.enc)) (rn : RSl h B (levs l).length 1 ((levs l).flatMap encI)) (hl : l.length ≤ 4000) {K0 : Bool → Hp → Prop} {K1 : (Option Addr) → Nat → Nat → Int → Hp → Prop}
    (H : K1 A l.length c (dep l : Int) h) : ∀ (k i : Nat), l.length - i < k → i ≤ l.length → quintetlaw14_NestApart_l98 A l.length c B (levs l).length d (dep l : Int) K0 K1 k (i : Int) h := by
  intro k
  induction k with
  | zero => intro i hk; omega
  | succ k ih =>
    intro i hk hi
    unfold quintetlaw14_NestApart_l98
    refine br_i (fun q => ?_) (fun q => ?_)
    · have hlt : i < l.length := by simpa using q
      have hs := List.getElem?_eq_getElem hlt
      generalize l[i] = s at hs
      have hm := lk_lt (List.mem_of_getElem? hs)
      obtain ⟨a4, hix4, hld4⟩ := ixIR (c := d) rn (levs_get hs)
      refine ⟨_, hix4, _, hld4, br_f (by simp) ⟨_, hix4, _, hld4, br_f (by simp; omega) ?_⟩⟩
      unfold quintetlaw14_NestApart_j105
      refine ⟨lk (DL l) s + 1, ap_l107 r rn hl hs ?_ _ 0 (by omega) (by omega)⟩
      refine ⟨_, hix4, _, hld4, br_f (by simp) ⟨i + 1, ap_l110 r rn hl hs ?_ _ 0 (by omega) (by omega)⟩⟩
      dsimp only
      rw [wrapN (by omega)]
      exact ih (i + 1) (by omega) (by omega)
    · have : i = l.length := by simp at q; omega
      exact H
end
theorem dep_pos (l : List Sp) : (0 < dep l) ↔ 0 < l.length := by
  constructor
  · intro h; have := dep_le l; omega
  · intro h
    have : l[0] ∈ l := List.getElem_mem h
    have := lk_lt this
    omega
theorem NestApart_s {h : Hp} {A : Option Addr} {c : Nat} {l : List Sp} (hc : l.length ≤ 9223372036854775807) (rs : RSl h A l.length 2 (l.flatMap Sp.enc)) {K : Value → Hp → Prop} (H : ∀ h', Ext h h' → K (.bool true) h') : CallsH Try.prog 5 #[.slice A l.length c] h K := by
  refine quintetlaw14_NestApart_ok _ _ _ ?_
  unfold quintetlaw14_NestApart
  refine Wrong_s rs hc ⟨_, rfl, ?_⟩
  cases hw : wrongB l
  · refine br_f rfl (br_i (fun p => awake_s fun h1 e1 => ⟨_, rfl, H h1 e1⟩) (fun p => ?_))
    have hl : l.length ≤ 4000 := by simp at p; omega
    unfold quintetlaw14_NestApart_j56
    refine Levels_s rs (by omega) (fun hw' => by rw [hw] at hw'; cases hw') fun _ h1 g e1 hg r1 => ⟨_, _, _, _, rfl, ?_⟩
    refine Depth_s (rs.ext e1) (by omega) (fun hw' => by rw [hw] at hw'; cases hw') fun _ h2 e2 => ⟨_, _, rfl, br_f rfl (br_f rfl (br_f (by simp) ?_))⟩
    unfold quintetlaw14_NestApart_j84
    have := ap_l98 (c := c) (d := l.length) (K0 := fun b5 h5 => K (.bool b5) h5) (K1 := fun A5888 l5888 c5888 x5889 h5890 =>
      CallsH Try.prog 9 #[] h5890 fun r5892 h5891 =>
      ∃ b5893 : Bool, r5892 = (.bool b5893) ∧
      br b5893
      (K (.bool ((decide (x5889 > 0)) == (decide ((l5888 : Int) > 0)))) h5891)
      (K (.bool false) h5891)) (rs.ext (e1.trans e2)) (r1.ext e2).read hl (awake_s fun h3 e3 => ⟨_, rfl, br_t rfl (by
        have hd := dep_pos l
        have e : (decide ((dep l : Int) > 0) == decide ((l.length : Int) > 0)) = true := by
          rw [beq_iff_eq, decide_eq_decide]
          omega
        rw [e]
        exact H h3 ((e1.trans e2).trans e3))⟩) (l.length + 1) 0 (by omega) (by omega)
    rw [levs_len] at this
    exact ⟨_, this⟩
  · exact br_t rfl (awake_s fun h1 e1 => ⟨_, rfl, H h1 e1⟩)
end Go.Proofs.Ytmgbbedbilefaaa.Fs
