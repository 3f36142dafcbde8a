/- The engine's Ask. -/
import Derived.Test.YtomhkbhgpmcbiaaGreatPnEng3
namespace Go.Proofs.YtomhkbhgpmcbiaaGreat.Fs
open Go Go.RowKit Go.Proofs.YtomhkbhgpmcbiaaGreat.Sx
set_option linter.unusedVariables false
set_option linter.unusedSimpArgs false
set_option maxRecDepth 10000
/-- No list is longer than the rules. -/
def LB (ar : List Nd) (n : Nat) : Prop := ∀ x, x ∈ ar → x.list.length ≤ n
theorem LB.snoc {ar : List Nd} {n : Nat} (w : LB ar n) : LB (ar ++ [zNd]) n := fun x hx => by
  rcases List.mem_append.1 hx with h | h
  · exact w x h
  · rw [List.mem_singleton.1 h]; exact Nat.zero_le _
theorem LB.set {ar : List Nd} {n : Nat} (w : LB ar n) (k : Nat) {x : Nd} (hx : x.list.length ≤ n) : LB (ar.set k x) n := fun y hy => by
  rcases List.mem_or_eq_of_mem_set hy with h | h
  · exact w y h
  · subst h; exact hx
theorem down_LB (n : Nat) : ∀ (bs : List Bool) (ar : List Nd) (i : Nat), LB ar n → WF ar → i < ar.length → LB (downI ar i bs).1 n
  | [], ar, i, w, _, _ => w
  | b :: bs, ar, i, w, wf, hi => by
    rw [downI]
    split
    · refine down_LB n bs _ ar.length (w.snoc.set i ?_) (wf.grow hi b) (by simp)
      have := w (ndAt ar i) (ndAt_mem hi)
      cases b <;> exact this
    · exact down_LB n bs ar _ w wf (wf.kid hi b)
theorem fill_LB (root : Nat) (s : Pf) (l : List Rul) : ∀ (rs : List Rul) (ar : List Nd) (ent : Nat), LB ar l.length → LN ar → WF ar → root < ar.length → LB (fillI root s l rs ar ent).1 l.length
  | [], ar, ent, w, _, _, _ => w
  | r :: rs, ar, ent, w, ln, wf, hr => by
    rw [fillI]
    obtain ⟨w1, d1, l1, _⟩ := down_ok (bitsOf r.dA r.dL.toNat) ar root wf hr
    have n1 := down_LB l.length (bitsOf r.dA r.dL.toNat) ar root w wf hr
    have m1 := down_LN (bitsOf r.dA r.dL.toNat) ar root ln wf hr
    split
    · exact fill_LB root s l rs ar ent w ln wf hr
    · split
      · exact fill_LB root s l rs _ ent n1 m1 w1 (by omega)
      · rename_i hw
        refine fill_LB root s l rs _ _ (n1.set _ ?_) (m1.set _ fun h => by cases h) (w1.same d1 rfl rfl rfl) (by rw [List.length_set]; omega)
        show ((ndAt (downI ar root (bitsOf r.dA r.dL.toNat)).1 (downI ar root (bitsOf r.dA r.dL.toNat)).2).list ++ idxTo l s r.dst l.length).length ≤ _
        rw [m1 _ (ndAt_mem d1) (by simpa using hw), List.nil_append]
        exact idxTo_len _ _ _ _
theorem build_LB (l : List Rul) : ∀ (rs : List Rul) (ar : List Nd) (ent : Nat), WF ar → LN ar → LB ar l.length → 1 < ar.length → LB (buildI l rs ar ent).1 l.length
  | [], ar, ent, w, ln, li, h1 => li
  | r :: rs, ar, ent, w, ln, li, h1 => by
    rw [buildI]
    obtain ⟨w1, d1, l1, _⟩ := down_ok (bitsOf r.sA r.sL.toNat) ar 1 w h1
    have n1 := down_LN (bitsOf r.sA r.sL.toNat) ar 1 ln w h1
    have i1 := down_LB l.length (bitsOf r.sA r.sL.toNat) ar 1 li w h1
    split
    · exact build_LB l rs _ ent w1 n1 i1 (by omega)
    · obtain ⟨w2, n2⟩ := hang_ok w1 n1 d1
      have i2 := i1.snoc.set (downI ar 1 (bitsOf r.sA r.sL.toNat)).2 (x := { ndAt (downI ar 1 (bitsOf r.sA r.sL.toNat)).1 (downI ar 1 (bitsOf r.sA r.sL.toNat)).2 with hang := (downI ar 1 (bitsOf r.sA r.sL.toNat)).1.length }) (i1 (ndAt _ _) (ndAt_mem d1))
      have hlt : (downI ar 1 (bitsOf r.sA r.sL.toNat)).1.length < (((downI ar 1 (bitsOf r.sA r.sL.toNat)).1 ++ [zNd]).set (downI ar 1 (bitsOf r.sA r.sL.toNat)).2 { ndAt (downI ar 1 (bitsOf r.sA r.sL.toNat)).1 (downI ar 1 (bitsOf r.sA r.sL.toNat)).2 with hang := (downI ar 1 (bitsOf r.sA r.sL.toNat)).1.length }).length := by simp
      have f := fill_ok (downI ar 1 (bitsOf r.sA r.sL.toNat)).1.length r.src l l _ ent w2 hlt
      exact build_LB l rs _ _ f.1 (fill_LN _ _ _ _ _ _ n2 w2 hlt) (fill_LB _ _ _ _ _ _ i2 n2 w2 hlt) (by omega)
theorem bld_LB (l : List Rul) : LB (bld l).1 l.length := build_LB l l _ 0 two_ok.1 two_ok.2.1 (fun x hx => by
  have : x = zNd := by simpa using hx
  rw [this]; exact Nat.zero_le _) (by decide)
/-! ### seek -/
def seekI (ar : List Nd) (w : Nd → Bool) (a : Int) : Nat → Nat → Nat → Nat → Nat → Nat × Nat
  | 0, _, f, n, _ => (f, n)
  | k + 1, at_, f, n, i => if at_ = 0 then (f, n) else if i = 32 then (if w (ndAt ar at_) then at_ else f, n + 1)
    else seekI ar w a k ((ndAt ar at_).kid (bitP a i)) (if w (ndAt ar at_) then at_ else f) (n + 1) (i + 1)
theorem seek_lt {ar : List Nd} (wf : WF ar) (w : Nd → Bool) (a : Int) : ∀ (k at_ f n i : Nat), at_ < ar.length → f < ar.length → (seekI ar w a k at_ f n i).1 < ar.length ∧ (seekI ar w a k at_ f n i).2 ≤ n + k
  | 0, at_, f, n, i, ha, hf => ⟨hf, Nat.le_refl _⟩
  | k + 1, at_, f, n, i, ha, hf => by
    have hf' : (if w (ndAt ar at_) then at_ else f) < ar.length := by split <;> assumption
    rw [seekI]
    split
    · exact ⟨hf, by omega⟩
    · split
      · exact ⟨hf', by show n + 1 ≤ _; omega⟩
      · have := seek_lt wf w a k ((ndAt ar at_).kid (bitP a i)) _ (n + 1) (i + 1) (wf.kid ha _) hf'
        exact ⟨this.1, by omega⟩
theorem seek_l2 {h0 : Hp} {b : Nat} {S : Nat → Prop} {cfv : List Value} {ar : List Nd} {ent : Nat} (q : ArN h0 b S cfv ar ent) (wf : WF ar) {w : Nd → Bool} {v : Value} (hw : ∀ (x : HNd) (h : Hp) (K : Value → Hp → Prop), (∀ h', Ext h h' → K (.bool (w x.nd)) h') → HN Tryz.prog (callS v #[.agg x.enc.toArray]) h K) (a : Int) {K0 : Int → Int → Hp → Prop} :
    ∀ (k at_ f n i : Nat) (h : Hp), at_ < ar.length → i ≤ 32 → 34 ≤ k + i → n ≤ i → Ext h0 h → (∀ h', Ext h0 h' → K0 ((seekI ar w a k at_ f n i).1 : Int) ((seekI ar w a k at_ f n i).2 : Int) h') → prune_Engine_seek_l2 (some ⟨b, 0, none⟩) a v K0 k (at_ : Int) (f : Int) (n : Int) (i : Int) h := by
  intro k
  induction k with
  | zero => intro at_ f n i h _ _ hk; omega
  | succ k ih =>
    intro at_ f n i h ha hi hk hn e H
    unfold prune_Engine_seek_l2
    rw [seekI] at H
    refine br_i (fun p => ?_) (fun p => ?_)
    · have p : ¬ at_ = 0 := by simp at p; omega
      rw [if_neg p] at H
      obtain ⟨A, c, hs, qa, m⟩ := q.ext e
      have hsl : hs.length = ar.length := by rw [← m, List.length_map]
      obtain ⟨x, hx, hxn⟩ := at_of m ha
      obtain ⟨g, rfl⟩ := qa.blkA (by omega)
      have hix : PV Tryz.prog (Instr.indexAt 72 (.slice (some ⟨g, 0, none⟩) hs.length c) (.int .i64 (at_ : Int))) (.pointer (some ⟨g, at_ * 5, none⟩)) := ix0 (by omega) und_nd size_nd
      have hcl := qa.row.elem0 HNd.len hx
      refine ⟨_, _, _, qa.ld8, _, hix, _, _, _, _, _, _, _, ldS (vs := x.enc) hcl (by kernel_rfl), hw x h _ fun h1 e1 => ⟨_, rfl, ?_⟩⟩
      rw [hxn]
      have hn1 : IntKind.i64.wrap ((n : Int) + 1) = ((n + 1 : Nat) : Int) := by rw [wrap_in (by omega) (by omega)]; omega
      have hi1 : IntKind.i64.wrap ((i : Int) + 1) = ((i + 1 : Nat) : Int) := by rw [wrap_in (by omega) (by omega)]; omega
      have e01 := e.trans e1
      have qa1 := qa.ext e1
      have hcl1 := hcl.ext e1
      have go : ∀ f' : Nat, f' = (if w (ndAt ar at_) then at_ else f) → prune_Engine_seek_j3 (fun x y h => K0 x y h) (fun p x3 x4 v3 x5 x6 x7 h3 => prune_Engine_seek_l2 (some ⟨b, 0, none⟩) a v K0 k x3 x5 x6 (IntKind.i64.wrap (x7 + 1)) h3) (some ⟨b, 0, none⟩) (at_ : Int) a v (f' : Int) ((n + 1 : Nat) : Int) (i : Int) h1 := fun f' hf' => by
        unfold prune_Engine_seek_j3
        rw [← hf'] at H
        refine br_i (fun u => ?_) (fun u => ?_)
        · have u : i = 32 := by simp at u; omega
          rw [if_pos u] at H
          exact H h1 e01
        · have u : ¬ i = 32 := by simp at u; omega
          rw [if_neg u] at H
          have hx01 : 0 ≤ (if bitP a i then (1 : Int) else 0) ∧ (if bitP a i then (1 : Int) else 0) < 2 := by split <;> omega
          have kidc : HV Tryz.prog (Instr.loadAt 3 (.pointer (some ((⟨g, at_ * 5, none⟩ : Addr).add (if bitP a i then (1 : Int) else 0).toNat)))) h1 (.int .i64 (x.nd.kid (bitP a i) : Int)) := by
            cases bitP a i
            · exact ld (hcl1.at_ 0 _ rfl) (by kernel_rfl)
            · exact ld (hcl1.at_ 1 _ rfl) (by kernel_rfl)
          refine ⟨_, _, _, qa1.ld8, bit_s a (by omega) ⟨_, rfl, qa1.ld8, _, hix, _, ixA hx01.1 hx01.2, _, kidc, ?_⟩⟩
          rw [hxn]
          show prune_Engine_seek_l2 _ a v K0 k _ _ _ (IntKind.i64.wrap ((i : Int) + 1)) h1
          rw [hi1]
          exact ih _ f' (n + 1) (i + 1) h1 (wf.kid ha _) (by omega) (by omega) (by omega) e01 H
      rw [hn1]
      refine br_i (fun u => ?_) (fun u => ?_)
      · exact go at_ (by rw [if_pos u])
      · exact go f (by rw [if_neg (by rw [u]; decide)])
    · have p : at_ = 0 := by simp at p; omega
      rw [if_pos p] at H
      exact H h e
theorem seek_s {h : Hp} {b : Nat} {S : Nat → Prop} {cfv : List Value} {ar : List Nd} {ent : Nat} (q : ArN h b S cfv ar ent) (wf : WF ar) {w : Nd → Bool} {f : Fn} {fr fc : Array Value} (hw : ∀ (x : HNd) (h : Hp) (K : Value → Hp → Prop), (∀ h', Ext h h' → K (.bool (w x.nd)) h') → HN Tryz.prog (callS (.func f fr fc) #[.agg x.enc.toArray]) h K) (a : Int) {at_ : Nat} (ha : at_ < ar.length) {K : Value → Hp → Prop}
    (H : ∀ h', Ext h h' → K (.tuple #[.int .i64 ((seekI ar w a 34 at_ 0 0 0).1 : Int), .int .i64 ((seekI ar w a 34 at_ 0 0 0).2 : Int)]) h') : CallsH Tryz.prog 31 #[.pointer (some ⟨b, 0, none⟩), .int .i64 (at_ : Int), .int .u32 a, .func f fr fc] h K := by
  refine prune_Engine_seek_ok _ _ _ _ _ _ ?_
  unfold prune_Engine_seek
  exact ⟨34, seek_l2 q wf hw a 34 at_ 0 0 0 h ha (by decide) (by decide) (by decide) (Ext.refl _) H⟩
theorem ask1_s (x : HNd) (h : Hp) (K : Value → Hp → Prop) (H : ∀ h', Ext h h' → K (.bool (decide (0 < x.nd.hang))) h') : HN Tryz.prog (callS (.func (.func 32) #[] #[]) #[.agg x.enc.toArray]) h K := by
  refine callF (by kernel_rfl) ?_
  refine prune_Engine_Ask_1_ok _ _ _ _ _ _ _ ?_
  unfold prune_Engine_Ask_1
  refine newC_i (cs := x.enc) fun h1 e1 c1 b1 z1 => ⟨_, ld (c1.at_ 2 _ rfl) (by kernel_rfl), ?_⟩
  have := H h1 e1
  rwa [show decide (0 < x.nd.hang) = decide ((x.nd.hang : Int) > 0) by rw [decide_eq_decide]; omega] at this
theorem ask2_s (x : HNd) (h : Hp) (K : Value → Hp → Prop) (H : ∀ h', Ext h h' → K (.bool x.nd.whole) h') : HN Tryz.prog (callS (.func (.func 33) #[] #[]) #[.agg x.enc.toArray]) h K := by
  refine callF (by kernel_rfl) ?_
  refine prune_Engine_Ask_2_ok _ _ _ _ _ _ _ ?_
  unfold prune_Engine_Ask_2
  refine newC_i (cs := x.enc) fun h1 e1 c1 b1 z1 => ⟨_, ld (c1.at_ 3 _ rfl) (by kernel_rfl), H h1 e1⟩
/-! ### the steps' box -/
def stp (n r : Nat) : List Value := [.int .i64 (n : Int), .int .i64 (r : Int), .int .i64 0, .int .i64 0, .int .i64 0]
abbrev SBox (h : Hp) (bs n r : Nat) : Prop := h[bs]? = some (.cells (stp n r).toArray 64 (0, 0))
theorem SBox.cl {h : Hp} {bs n r : Nat} (s : SBox h bs n r) : Cl h ⟨bs, 0, none⟩ (stp n r) := Cl.of_block s fun j v hj => by rw [Nat.zero_add]; exact hj
theorem st_nodes {h : Hp} {bs n r : Nat} (s : SBox h bs n r) (x : Nat) {K : Hp → Prop} (H : ∀ h', SBox h' bs x r → Fr (fun k => k = bs) h h' → h'.size = h.size → K h') : HU Tryz.prog (Instr.storeAt 3 (.pointer (some ⟨bs, 0, none⟩)) (.int .i64 (x : Int))) h K := by
  refine HU_st (us := [.int .i64 (x : Int)]) s rfl (by kernel_rfl) (by simp [stp]) rfl ?_
  have e : (stp n r).take 0 ++ [.int .i64 (x : Int)] ++ (stp n r).drop (0 + [Value.int .i64 (x : Int)].length) = stp x r := rfl
  rw [e]
  exact H _ (setB_get (lt_of_get s)) (setB_fr rfl) setB_size
theorem st_rls {h : Hp} {bs n r : Nat} (s : SBox h bs n r) (x : Nat) {K : Hp → Prop} (H : ∀ h', SBox h' bs n x → Fr (fun k => k = bs) h h' → h'.size = h.size → K h') : HU Tryz.prog (Instr.storeAt 3 (.pointer (some ((⟨bs, 0, none⟩ : Addr).add 1))) (.int .i64 (x : Int))) h K := by
  rw [add_eq0]
  refine HU_st (us := [.int .i64 (x : Int)]) s rfl (by kernel_rfl) (by simp [stp]) rfl ?_
  have e : (stp n r).take 1 ++ [.int .i64 (x : Int)] ++ (stp n r).drop (1 + [Value.int .i64 (x : Int)].length) = stp n x := rfl
  rw [e]
  exact H _ (setB_get (lt_of_get s)) (setB_fr rfl) setB_size
/-! ### the rules that a list names -/
def ruAt (l : List Rul) (i : Nat) : Rul := l.getD i zRul
theorem ruAt_get {l : List Rul} {i : Nat} (hi : i < l.length) : l[i]? = some (ruAt l i) := by
  unfold ruAt
  rw [List.getD_eq_getElem?_getD, List.getElem?_eq_getElem hi]
  rfl
theorem und_il : Tryz.prog.underlying 92 = some (.slice 3) := by kernel_rfl
theorem idx_l1 {hb : Hp} {l : List Rul} {g : Hdr} {A : Option Addr} {cl : Nat} {L : List Nat} {B : Option Addr} {cL bs nd : Nat} {ar_ ah : Addr} (hL : ∀ i, i ∈ L → i < l.length) (hLl : L.length ≤ 1000000)
    (rl : RSl hb A l.length 12 (l.flatMap Rul.enc)) (rL : RSl hb B L.length 1 ((ints L).flatMap encI)) (cr : Cl hb ar_ [.slice A l.length cl]) (ch : Cl hb ah g.enc) (hne : ∀ k, blk A k → k ≠ bs) (hneL : ∀ k, blk B k → k ≠ bs) (hr : ar_.block ≠ bs) (hh : ah.block ≠ bs) {K0 : Int → Hp → Prop} {K1 : Hp → Prop}
    (H0 : ∀ (j : Nat) h', L.findIdx (fun i => (ruAt l i).has g) = j → j < L.length → SBox h' bs nd (j + 1) → (∀ k, k < hb.size → k ≠ bs → h'[k]? = hb[k]?) → hb.size ≤ h'.size → K0 (j : Int) h') (H1 : ∀ h', L.findIdx (fun i => (ruAt l i).has g) = L.length → SBox h' bs nd L.length → (∀ k, k < hb.size → k ≠ bs → h'[k]? = hb[k]?) → hb.size ≤ h'.size → K1 h') :
    ∀ (rest done : List Nat) (h : Hp), L = done ++ rest → (∀ i, i ∈ done → (ruAt l i).has g = false) → SBox h bs nd done.length → (∀ k, k < hb.size → k ≠ bs → h[k]? = hb[k]?) → hb.size ≤ h.size →
      slices_IndexFunc_int_l1 B L.length cL (.func (.func 36) #[] #[.pointer (some ⟨bs, 0, none⟩), .pointer (some ar_), .pointer (some ah)]) (L.length : Int) K0 K1 (rest.length + 1) (done.length : Int) h := by
  intro rest
  induction rest with
  | nil =>
    intro done h he hd s fr hsz
    unfold slices_IndexFunc_int_l1
    have hL' : L = done := by rw [he]; simp
    refine br_f (by rw [hL']; simp) (H1 h ?_ (by rw [hL']; exact s) fr hsz)
    rw [List.findIdx_eq_length]
    intro x hx
    rw [hL'] at hx
    exact hd x hx
  | cons i rest ih =>
    intro done h he hd s fr hsz
    unfold slices_IndexFunc_int_l1
    have hlen : L.length = done.length + (rest.length + 1) := by rw [he]; simp
    have hfr : Fr (fun k => k = bs) hb h := ⟨hsz, fun k hk hn => fr k hk hn⟩
    have keepR : ∀ {h' : Hp}, Fr (fun k => k = bs) hb h' → RSl h' A l.length 12 (l.flatMap Rul.enc) := fun f => ⟨rl.1, rl.2.imp id fun ⟨a, ha, hc⟩ => ⟨a, ha, f.cl hc (hne _ ⟨a, ha, rfl⟩)⟩⟩
    have rLh : RSl h B L.length 1 ((ints L).flatMap encI) := ⟨rL.1, rL.2.imp id fun ⟨a, ha, hc⟩ => ⟨a, ha, hfr.cl hc (hneL _ ⟨a, ha, rfl⟩)⟩⟩
    have hx : (ints L)[done.length]? = some (i : Int) := by rw [he]; simp [ints]
    refine br_t (by simp; omega) ?_
    obtain ⟨ax, _, _, hix, hcl⟩ := ixR (P := Tryz.prog) (T := 92) (E := 3) (k := .i64) (c := cL) encI_len rLh (by simp [ints]) und_il size_int hx
    have hil : i < l.length := hL i (by rw [he]; simp)
    refine ⟨_, hix, _, ld hcl.head (by kernel_rfl), callF (by kernel_rfl) ?_⟩
    refine prune_Engine_Ask_3_ok _ _ _ _ ?_
    unfold prune_Engine_Ask_3
    refine ⟨_, ld (s.cl.at_ 1 _ rfl) (by kernel_rfl), ?_⟩
    have hw1 : IntKind.i64.wrap ((done.length : Int) + 1) = ((done.length + 1 : Nat) : Int) := by rw [wrap_in (by omega) (by omega)]; omega
    rw [hw1]
    refine st_rls s (done.length + 1) fun h1 s1 f1 z1 => ?_
    have f01 := hfr.trans f1
    obtain ⟨ay, hiy, hcy⟩ := ixRu (c := cl) (keepR f01) (ruAt_get hil)
    refine ⟨_, _, _, ld (f01.cl cr hr).head (by kernel_rfl), _, hiy, _, _, _, _, _, _, _, _, _, _, _, _, ldS (vs := (ruAt l i).enc) hcy (by kernel_rfl), _, _, _, _, _, ldS (vs := g.enc) (f01.cl ch hh) (by kernel_rfl), ?_⟩
    refine rule_Match_s (ruAt l i) g fun v h2 e2 hv => ⟨_, rfl, v, rfl, ?_⟩
    have f02 := f01.trans (e2.fr _)
    have s2 : SBox h2 bs nd (done.length + 1) := (e2.fr (fun _ => False)).get s1 (fun h => h)
    subst hv
    refine br_i (fun u => ?_) (fun u => ?_)
    · refine H0 done.length h2 ?_ (by omega) s2 (fun k hk hn => f02.keep k hk hn) f02.size
      rw [he, List.findIdx_append]
      have : List.findIdx (fun i => (ruAt l i).has g) done = done.length := by
        rw [List.findIdx_eq_length]
        exact fun x hx => hd x hx
      rw [this, if_neg (by omega), List.findIdx_cons]
      simp [u]
    · have := ih (done ++ [i]) h2 (by rw [he]; simp) (fun x hx => by
        rcases List.mem_append.1 hx with hx | hx
        · exact hd x hx
        · rw [List.mem_singleton.1 hx]; exact u) (by rw [List.length_append, List.length_singleton]; exact s2) (fun k hk hn => f02.keep k hk hn) f02.size
      rw [List.length_append, List.length_singleton] at this
      exact this
/-! ### Ask -/
def found1 (l : List Rul) (g : Hdr) : Nat × Nat := seekI (bld l).1 (fun n => decide (0 < n.hang)) g.src 34 1 0 0 0
def found2 (l : List Rul) (g : Hdr) : Nat × Nat := seekI (bld l).1 (fun n => n.whole) g.dst 34 (ndAt (bld l).1 (found1 l g).1).hang 0 0 0
def lstOf (l : List Rul) (g : Hdr) : List Nat := (ndAt (bld l).1 (found2 l g).1).list
def hitOf (l : List Rul) (g : Hdr) : Nat := (lstOf l g).findIdx fun i => (ruAt l i).has g
def askI (l : List Rul) (d : Int) (g : Hdr) : (Bool × Int × Int) × Nat × Nat :=
  if (found1 l g).1 = 0 then ((false, 0, d), (found1 l g).2, 0)
  else if hitOf l g < (lstOf l g).length then ((true, (ruAt l ((lstOf l g).getD (hitOf l g) 0)).id, (ruAt l ((lstOf l g).getD (hitOf l g) 0)).act), (found1 l g).2 + (found2 l g).2, hitOf l g + 1)
  else ((false, 0, d), (found1 l g).2 + (found2 l g).2, (lstOf l g).length)
def vrd (v : Bool × Int × Int) : Value := .agg #[.bool v.1, .int .i64 v.2.1, .int .i64 v.2.2]
def stpV (n r : Nat) : Value := .agg #[.int .i64 (n : Int), .int .i64 (r : Int), .int .i64 0, .int .i64 0, .int .i64 0]
abbrev VBox (h : Hp) (bv : Nat) (v : Bool × Int × Int) : Prop := h[bv]? = some (.cells (verd v).toArray 62 (0, 0))
theorem VBox.cl {h : Hp} {bv : Nat} {v : Bool × Int × Int} (s : VBox h bv v) : Cl h ⟨bv, 0, none⟩ (verd v) := Cl.of_block s fun j v hj => by rw [Nat.zero_add]; exact hj
def askEnd (a10 a12 a27 a29 : Addr) (K : Value → Hp → Prop) (h : Hp) : Prop :=
  ∃ b38 : Bool, ∃ x39 : Int, ∃ x40 : Int, HV Tryz.prog (Instr.loadAt 62 (.pointer (some a27))) h (.agg #[(.bool b38), (.int .i64 x39), (.int .i64 x40)]) ∧ 
  ∃ x41 : Int, ∃ x42 : Int, ∃ x43 : Int, ∃ x44 : Int, ∃ x45 : Int, HV Tryz.prog (Instr.loadAt 64 (.pointer (some a29))) h (.agg #[(.int .i64 x41), (.int .i64 x42), (.int .i64 x43), (.int .i64 x44), (.int .i64 x45)]) ∧ 
  HU Tryz.prog (Instr.storeAt 62 (.pointer (some a10)) (.agg #[(.bool b38), (.int .i64 x39), (.int .i64 x40)])) h fun h46 => HV Tryz.prog (Instr.loadAt 64 (.pointer (some a29))) h46 (.agg #[(.int .i64 x41), (.int .i64 x42), (.int .i64 x43), (.int .i64 x44), (.int .i64 x45)]) ∧ 
  HU Tryz.prog (Instr.storeAt 64 (.pointer (some a12)) (.agg #[(.int .i64 x41), (.int .i64 x42), (.int .i64 x43), (.int .i64 x44), (.int .i64 x45)])) h46 fun h47 => 
  ∃ b48 : Bool, ∃ x49 : Int, ∃ x50 : Int, HV Tryz.prog (Instr.loadAt 62 (.pointer (some a10))) h47 (.agg #[(.bool b48), (.int .i64 x49), (.int .i64 x50)]) ∧ ∃ x51 : Int, ∃ x52 : Int, ∃ x53 : Int, ∃ x54 : Int, ∃ x55 : Int, HV Tryz.prog (Instr.loadAt 64 (.pointer (some a12))) h47 (.agg #[(.int .i64 x51), (.int .i64 x52), (.int .i64 x53), (.int .i64 x54), (.int .i64 x55)]) ∧ K (.tuple #[(.agg #[(.bool b48), (.int .i64 x49), (.int .i64 x50)]), (.agg #[(.int .i64 x51), (.int .i64 x52), (.int .i64 x53), (.int .i64 x54), (.int .i64 x55)])]) h47
theorem ask_end {h0 h : Hp} {b10 b12 b27 b29 : Nat} {v v0 : Bool × Int × Int} {n r n0 r0 : Nat} (v27 : VBox h b27 v) (s29 : SBox h b29 n r) (v10 : VBox h b10 v0) (s12 : SBox h b12 n0 r0) (hd : b10 ≠ b29 ∧ b12 ≠ b10 ∧ b12 ≠ b29) (e : Ext h0 h) (o10 : h0.size ≤ b10) (o12 : h0.size ≤ b12) {K : Value → Hp → Prop} (H : ∀ h', Ext h0 h' → K (.tuple #[vrd v, stpV n r]) h') : askEnd ⟨b10, 0, none⟩ ⟨b12, 0, none⟩ ⟨b27, 0, none⟩ ⟨b29, 0, none⟩ K h := by
  unfold askEnd
  refine ⟨_, _, _, ldS (vs := verd v) v27.cl (by kernel_rfl), _, _, _, _, _, ldS (vs := stp n r) s29.cl (by kernel_rfl), ?_⟩
  refine HU_box (us := verd v) v10 rfl rfl (by kernel_rfl) rfl fun h1 c1 b1 f1 z1 => ?_
  have s291 := f1.get s29 (fun e => hd.1 e.symm)
  refine ⟨ldS (vs := stp n r) (SBox.cl s291) (by kernel_rfl), ?_⟩
  refine HU_box (us := stp n r) (f1.get s12 hd.2.1) rfl rfl (by kernel_rfl) rfl fun h2 c2 b2 f2 z2 => ?_
  refine ⟨_, _, _, ldS (vs := verd v) (f2.cl c1 (fun e => hd.2.1 e.symm)) (by kernel_rfl), _, _, _, _, _, ldS (vs := stp n r) c2 (by kernel_rfl), ?_⟩
  have hs := e.size
  exact H h2 ⟨by omega, fun k hk => by rw [f2.keep k (by omega) (by omega), f1.keep k (by omega) (by omega), e.old k hk]⟩
theorem eAsk_s {h : Hp} {b : Nat} {S : Nat → Prop} {cf : Cfg} {l : List Rul} (q : En h b S cf l) (g : Hdr) {K : Value → Hp → Prop}
    (H : ∀ h', Ext h h' → K (.tuple #[vrd (askI l cf.dflt g).1, stpV (askI l cf.dflt g).2.1 (askI l cf.dflt g).2.2]) h') : CallsH Tryz.prog 14 #[.pointer (some ⟨b, 0, none⟩), g.val] h K := by
  refine prune_Engine_Ask_ok _ _ _ _ _ _ ?_
  unfold prune_Engine_Ask
  obtain ⟨wf, li, h1l⟩ := bld_ok l
  obtain ⟨tb, Sa, St, q, t, dj, eS, gd⟩ := q
  refine newC_i (cs := g.enc) fun h1 e1 c1 b1 z1 => newC_i (cs := verd (false, 0, 0)) fun h2 e2 c2 b2 z2 => newC_i (cs := stp 0 0) fun h3 e3 c3 b3 z3 => ⟨_, eqNil und_ep, br_f rfl ?_⟩
  have fN := fun (x y : Hp) (e : Ext x y) => e.fr (fun _ => False)
  have e13 := (e1.trans e2).trans e3
  obtain ⟨A, c, hs, qa, m⟩ := q.ext e13
  refine ⟨_, ld (qa.cl.at_ 1 _ rfl) (by kernel_rfl), newC_i (cs := verd (false, 0, 0)) fun h4 e4 c4 b4 z4 => newC_i (cs := stp 0 0) fun h5 e5 c5 b5 z5 => ?_⟩
  have s1 := e1.size
  have s2 := e2.size
  have s3 := e3.size
  have s4 := e4.size
  have s5 := e5.size
  refine HU_box (us := verd (false, 0, cf.dflt)) ((fN _ _ e5).get b4 (fun h => h)) rfl rfl (by kernel_rfl) rfl fun h6 c6 b6 f6 z6 => ?_
  refine HU_box (us := stp 0 0) (f6.get b5 (by omega)) rfl rfl (by kernel_rfl) rfl fun h7 c7 b7 f7 z7 => ?_
  have E7 : Ext h h7 := ⟨by omega, fun k hk => by rw [f7.keep k (by omega) (by omega), f6.keep k (by omega) (by omega), ((e13.trans e4).trans e5).old k hk]⟩
  have hdr : Cl h7 ⟨h.size, 0, none⟩ g.enc := f7.cl (f6.cl ((((c1.ext e2).ext e3).ext e4).ext e5) (by show ¬ h.size = _; omega)) (by show ¬ h.size = _; omega)
  have v10 : VBox h7 h1.size (false, 0, 0) := f7.get (f6.get ((fN _ _ ((e3.trans e4).trans e5)).get b2 (fun h => h)) (by omega)) (by omega)
  have s12 : SBox h7 h2.size 0 0 := f7.get (f6.get ((fN _ _ (e4.trans e5)).get b3 (fun h => h)) (by omega)) (by omega)
  have v27 : VBox h7 h3.size (false, 0, cf.dflt) := f7.get b6 (by omega)
  refine ⟨_, ld hdr.head (by kernel_rfl), ?_⟩
  have q7 := q.ext E7
  refine seek_s (w := fun n => decide (0 < n.hang)) q7 wf ask1_s g.src (at_ := 1) h1l fun h8 e8 => ⟨_, _, rfl, ?_⟩
  have s8 := e8.size
  refine st_nodes ((fN _ _ e8).get b7 (fun h => h)) _ fun h9 sb9 f9 z9 => ?_
  have E9 : Ext h h9 := ⟨by omega, fun k hk => by rw [f9.keep k (by omega) (by omega), (E7.trans e8).old k hk]⟩
  have hdr9 : Cl h9 ⟨h.size, 0, none⟩ g.enc := f9.cl (hdr.ext e8) (by show ¬ h.size = _; omega)
  have v109 : VBox h9 h1.size (false, 0, 0) := f9.get ((fN _ _ e8).get v10 (fun h => h)) (by omega)
  have s129 : SBox h9 h2.size 0 0 := f9.get ((fN _ _ e8).get s12 (fun h => h)) (by omega)
  have v279 : VBox h9 h3.size (false, 0, cf.dflt) := f9.get ((fN _ _ e8).get v27 (fun h => h)) (by omega)
  have hf1 := seek_lt wf (fun n => decide (0 < n.hang)) g.src 34 1 0 0 0 h1l (by omega)
  have hf1' : (found1 l g).1 < (bld l).1.length ∧ (found1 l g).2 ≤ 34 := by unfold found1; exact ⟨hf1.1, by have := hf1.2; omega⟩
  clear hf1
  change SBox h9 h4.size (found1 l g).2 0 at sb9
  show br (((found1 l g).1 : Int) == 0) _ _
  unfold askI at H
  refine br_i (fun p => ?_) (fun p => ?_)
  · have p : (found1 l g).1 = 0 := by simp at p; omega
    rw [if_pos p] at H
    exact ask_end v279 sb9 v109 s129 (by omega) E9 (by omega) (by omega) H
  · have p : ¬ (found1 l g).1 = 0 := by simp at p; omega
    rw [if_neg p] at H
    obtain ⟨A9, c9, hs9, qa9, m9⟩ := q.ext E9
    have hsl9 : hs9.length = (bld l).1.length := by rw [← m9, List.length_map]
    obtain ⟨x, hx, hxn⟩ := at_of m9 hf1'.1
    obtain ⟨ga, rfl⟩ := qa9.blkA (by omega)
    have hix9 : PV Tryz.prog (Instr.indexAt 72 (.slice (some ⟨ga, 0, none⟩) hs9.length c9) (.int .i64 ((found1 l g).1 : Int))) (.pointer (some ⟨ga, (found1 l g).1 * 5, none⟩)) := ix0 (by omega) und_nd size_nd
    refine ⟨_, _, _, qa9.ld8, _, hix9, _, ld ((qa9.row.elem0 HNd.len hx).at_ 2 _ rfl) (by kernel_rfl), _, ld (hdr9.at_ 1 _ rfl) (by kernel_rfl), ?_⟩
    rw [hxn]
    have hhang := (wf.ok _ (ndAt_mem hf1'.1)).2.2
    refine seek_s (w := fun n => n.whole) (q.ext E9) wf ask2_s g.dst hhang fun h10 e10 => ⟨_, _, rfl, ?_⟩
    have hf2 := seek_lt wf (fun n => n.whole) g.dst 34 (ndAt (bld l).1 (found1 l g).1).hang 0 0 0 hhang (by omega)
    have hf2' : (found2 l g).1 < (bld l).1.length ∧ (found2 l g).2 ≤ 34 := by unfold found2; exact ⟨hf2.1, by have := hf2.2; omega⟩
    clear hf2
    have sb10 : SBox h10 h4.size (found1 l g).2 0 := (fN _ _ e10).get sb9 (fun h => h)
    refine ⟨_, ld sb10.cl.head (by kernel_rfl), ?_⟩
    have hadd : IntKind.i64.wrap (((found1 l g).2 : Int) + ((found2 l g).2 : Int)) = (((found1 l g).2 + (found2 l g).2 : Nat) : Int) := by rw [wrap_in (by omega) (by omega)]; omega
    show HU Tryz.prog (Instr.storeAt 3 (.pointer (some ⟨h4.size, 0, none⟩)) (.int .i64 (IntKind.i64.wrap (((found1 l g).2 : Int) + ((found2 l g).2 : Int))))) h10 _
    rw [hadd]
    have s10 := e10.size
    refine st_nodes sb10 _ fun h11 sb11 f11 z11 => ?_
    have E11 : Ext h h11 := ⟨by omega, fun k hk => by rw [f11.keep k (by omega) (by omega), (E9.trans e10).old k hk]⟩
    obtain ⟨A11, c11, hs11, qa11, m11⟩ := q.ext E11
    refine drf_some ?_
    refine rules_s (b := b) (rest := [Value.slice A11 hs11.length c11, Value.int .i64 ((bld l).2 : Int)]) qa11.cl (t.ext E11) gd.n fun h12 e12 r12 hlt12 => ⟨_, _, _, rfl, ?_⟩
    have s12' := e12.size
    refine newV (us := [Value.slice (some ⟨h11.size, 0, none⟩) l.length l.length]) (cs := [Value.slice none 0 0]) rfl rfl (by kernel_rfl) rfl fun h13 e13' c13 b13 z13 => ?_
    have E13 := (E11.trans e12).trans e13'
    have e1113 := e12.trans e13'
    obtain ⟨A13, c13', hs13, qa13, m13⟩ := q.ext E13
    have hsl13 : hs13.length = (bld l).1.length := by rw [← m13, List.length_map]
    obtain ⟨y, hy, hyn⟩ := at_of m13 hf2'.1
    obtain ⟨gb, rfl⟩ := qa13.blkA (by omega)
    have hix13 : PV Tryz.prog (Instr.indexAt 72 (.slice (some ⟨gb, 0, none⟩) hs13.length c13') (.int .i64 ((found2 l g).1 : Int))) (.pointer (some ⟨gb, (found2 l g).1 * 5, none⟩)) := ix0 (by omega) und_nd size_nd
    have hcl13 := qa13.row.elem0 HNd.len hy
    refine ⟨_, _, _, qa13.ld8, _, hix13, _, _, _, ld (hcl13.at_ 4 _ rfl) (by kernel_rfl), ?_⟩
    refine slices_IndexFunc_int_ok _ _ _ _ _ _ ?_
    unfold slices_IndexFunc_int
    have hyl : y.nd.list = lstOf l g := by rw [hyn]; rfl
    have hym := List.mem_of_getElem? hy
    have rL := (qa13.ls y hym).read
    have hlen : (ints y.nd.list).length = y.nd.list.length := by simp [ints]
    rw [hlen] at rL
    have hLi : ∀ i, i ∈ y.nd.list → i < l.length := fun i hi => li _ (ndAt_mem hf2'.1) i (by rw [← hyn]; exact hi)
    have hsb : h4.size < h13.size := by omega
    have hold13 := qa13.old
    have hqold : ∀ k, Sa k → k < h.size := q.old
    have v10a : ∀ {h' : Hp}, (∀ k, k < h13.size → k ≠ h4.size → h'[k]? = h13[k]?) → VBox h' h1.size (false, 0, 0) := fun fr => by
      show _ = _
      rw [fr _ (by omega) (by omega)]
      exact (fN _ _ e1113).get (f11.get ((fN _ _ e10).get v109 (fun h => h)) (by omega)) (fun h => h)
    have s12a : ∀ {h' : Hp}, (∀ k, k < h13.size → k ≠ h4.size → h'[k]? = h13[k]?) → SBox h' h2.size 0 0 := fun fr => by
      show _ = _
      rw [fr _ (by omega) (by omega)]
      exact (fN _ _ e1113).get (f11.get ((fN _ _ e10).get s129 (fun h => h)) (by omega)) (fun h => h)
    have v27a : ∀ {h' : Hp}, (∀ k, k < h13.size → k ≠ h4.size → h'[k]? = h13[k]?) → VBox h' h3.size (false, 0, cf.dflt) := fun fr => by
      show _ = _
      rw [fr _ (by omega) (by omega)]
      exact (fN _ _ e1113).get (f11.get ((fN _ _ e10).get v279 (fun h => h)) (by omega)) (fun h => h)
    have hdr13 : Cl h13 ⟨h.size, 0, none⟩ g.enc := (f11.cl (hdr9.ext e10) (by show ¬ h.size = _; omega)).ext e1113
    refine ⟨y.nd.list.length + 1, ?_⟩
    refine idx_l1 (hb := h13) (l := l) (g := g) (A := some ⟨h11.size, 0, none⟩) (cl := l.length) (L := y.nd.list) (bs := h4.size) (nd := (found1 l g).2 + (found2 l g).2) (ar_ := ⟨h12.size, 0, none⟩) (ah := ⟨h.size, 0, none⟩) hLi (by rw [hyl]; exact Nat.le_trans (bld_LB l _ (ndAt_mem hf2'.1)) (by have := gd.n; omega)) (r12.ext e13') rL c13 hdr13 (fun k hk => by have := blk_one hk; omega) (fun k hk => by have := (qa13.sl y hym k hk).1; have := hqold k (by assumption); omega) (by show h12.size ≠ _; omega) (by show h.size ≠ _; omega) ?_ ?_ y.nd.list [] h13 rfl (fun i hi => by simp at hi) ((fN _ _ e1113).get sb11 (fun h => h)) (fun k _ _ => rfl) (Nat.le_refl _)
    · intro j h14 hj hjl sb14 fr14 sz14
      have hfr : Fr (fun k => k = h4.size) h13 h14 := ⟨sz14, fr14⟩
      have hhit : hitOf l g = j := by unfold hitOf; rw [← hyl]; exact hj
      rw [if_pos (by rw [hhit, ← hyl]; exact hjl)] at H
      refine ⟨_, rfl, br_t (by simp) ?_⟩
      have E14 : Ext h h14 := ⟨by omega, fun k hk => by rw [fr14 k (by omega) (by omega), E13.old k hk]⟩
      obtain ⟨A14, c14, hs14, qa14, m14⟩ := q.ext E14
      have hsl14 : hs14.length = (bld l).1.length := by rw [← m14, List.length_map]
      obtain ⟨y4, hy4, hyn4⟩ := at_of m14 hf2'.1
      obtain ⟨gc, rfl⟩ := qa14.blkA (by omega)
      have hix14 : PV Tryz.prog (Instr.indexAt 72 (.slice (some ⟨gc, 0, none⟩) hs14.length c14) (.int .i64 ((found2 l g).1 : Int))) (.pointer (some ⟨gc, (found2 l g).1 * 5, none⟩)) := ix0 (by omega) und_nd size_nd
      have hcl14 := qa14.row.elem0 HNd.len hy4
      have hyl4 : y4.nd.list = lstOf l g := by rw [hyn4]; rfl
      have hjl4 : j < y4.nd.list.length := by rw [hyl4, ← hyl]; exact hjl
      have hx4 : (ints y4.nd.list)[j]? = some ((y4.nd.list[j] : Nat) : Int) := by simp [ints, List.getElem?_eq_getElem hjl4]
      have hgetD : (lstOf l g).getD (hitOf l g) 0 = y4.nd.list[j] := by
        rw [hhit, ← hyl4, List.getD_eq_getElem?_getD, List.getElem?_eq_getElem hjl4]; rfl
      rw [hgetD] at H
      have hym4 := List.mem_of_getElem? hy4
      have rL4 := (qa14.ls y4 hym4).read
      have hlen4 : (ints y4.nd.list).length = y4.nd.list.length := by simp [ints]
      rw [hlen4] at rL4
      obtain ⟨ax, _, _, hixx, hclx⟩ := ixR (P := Tryz.prog) (T := 92) (E := 3) (k := .i64) (c := y4.c) encI_len rL4 hlen4 und_il size_int hx4
      have hi4 : y4.nd.list[j] < l.length := li _ (ndAt_mem hf2'.1) _ (by rw [← hyn4]; exact List.getElem_mem hjl4)
      generalize y4.nd.list[j] = i4 at hx4 H hclx hi4 hgetD
      have rl14 : RSl h14 (some ⟨h11.size, 0, none⟩) l.length 12 (l.flatMap Rul.enc) := by
        have r13 := r12.ext e13'
        exact ⟨r13.1, r13.2.imp id fun ⟨a, ha, hc⟩ => ⟨a, ha, hfr.cl hc (by injection ha with ha; subst ha; show ¬ h11.size = _; omega)⟩⟩
      obtain ⟨ay, hiy, hcy⟩ := ixRu (c := l.length) rl14 (ruAt_get hi4)
      have c1314 := hfr.cl c13 (by show ¬ h12.size = _; omega)
      refine ⟨_, _, _, ld c1314.head (by kernel_rfl), _, _, _, qa14.ld8, _, hix14, _, _, _, ld (hcl14.at_ 4 _ rfl) (by kernel_rfl), _, hixx, _, ld hclx.head (by kernel_rfl), _, hiy, _, _, _, _, _, _, _, _, _, _, _, _, ldS (vs := (ruAt l i4).enc) hcy (by kernel_rfl), ?_⟩
      refine newC_i (cs := zRul.enc) fun h15 e15 c15 b15 z15 => ⟨ldS (vs := (ruAt l i4).enc) (hcy.ext e15) (by kernel_rfl), ld (hclx.ext e15).head (by kernel_rfl), ld ((hcl14.ext e15).at_ 4 _ rfl) (by kernel_rfl), (qa14.ext e15).ld8, ld (c1314.ext e15).head (by kernel_rfl), ?_⟩
      refine HU_box (us := (ruAt l i4).enc) b15 rfl rfl size_ru rfl fun h16 c16 b16 f16 z16 => ?_
      refine ⟨_, ld c16.head (by kernel_rfl), _, ld (c16.at_ 11 _ rfl) (by kernel_rfl), ?_⟩
      have s15 := e15.size
      have kp : ∀ k, k < h14.size → h16[k]? = h14[k]? := fun k hk => by rw [f16.keep k (by omega) (by omega), e15.old k hk]
      have fr16 : ∀ k, k < h13.size → k ≠ h4.size → h16[k]? = h13[k]? := fun k hk hn => by rw [kp k (by omega), fr14 k hk hn]
      have v2716 := v27a fr16
      refine HU_box (us := verd (true, (ruAt l i4).id, (ruAt l i4).act)) v2716 rfl rfl (by kernel_rfl) rfl fun h17 c17 b17 f17 z17 => ?_
      have E17 : Ext h h17 := ⟨by omega, fun k hk => by rw [f17.keep k (by omega) (by omega), kp k (by omega), E14.old k hk]⟩
      have sb17 : SBox h17 h4.size ((found1 l g).2 + (found2 l g).2) (j + 1) := f17.get (show h16[h4.size]? = _ by rw [kp _ (by omega)]; exact sb14) (by omega)
      rw [hhit] at H
      exact ask_end b17 sb17 (f17.get (v10a fr16) (by omega)) (f17.get (s12a fr16) (by omega)) (by omega) E17 (by omega) (by omega) H
    · intro h14 hj sb14 fr14 sz14
      have hhit : hitOf l g = (lstOf l g).length := by unfold hitOf; rw [← hyl]; exact hj
      rw [if_neg (by omega)] at H
      refine ⟨_, rfl, br_f (by decide) ?_⟩
      have E14 : Ext h h14 := ⟨by omega, fun k hk => by rw [fr14 k (by omega) (by omega), E13.old k hk]⟩
      rw [hyl] at sb14
      exact ask_end (v27a fr14) sb14 (v10a fr14) (s12a fr14) (by omega) E14 (by omega) (by omega) H
end Go.Proofs.YtomhkbhgpmcbiaaGreat.Fs
