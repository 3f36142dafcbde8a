/- HashRuns: any calls on a table are each answered as the document's list would have it. -/
import Derived.Test.YtofjbbfnkefoaaaHaAll2
namespace Go.Proofs.Ytofjbbfnkefoaaa.Fs
open Go Go.RowKit Go.Proofs.Ytofjbbfnkefoaaa.Sx
set_option linter.unusedVariables false
set_option linter.unusedSimpArgs false
set_option maxRecDepth 10000
structure OpH where
  kind : Int
  k : Hdr
  v : Int
def OpH.enc (o : OpH) : List Value := [.int .i64 o.kind, .int .u32 o.k.src, .int .u32 o.k.dst, .int .u16 o.k.sp, .int .u16 o.k.dp, .int .u8 o.k.pr, .int .i64 o.v]
theorem OpH.len (o : OpH) : o.enc.length = 7 := rfl
theorem OpH.flat (o : OpH) : o.enc.all flatV = true := rfl
theorem und_op : Try.prog.underlying 31 = some (.slice 38) := by kernel_rfl
theorem size_op : (Try.prog.info? 38).map (·.size) = some 7 := by kernel_rfl
theorem max64 (x y : Int) : PV Try.prog (Builtin.max_ #[3, 3] 3 #[.int .i64 x, .int .i64 y]) (.int .i64 (if x < y then y else x)) := by
  intro w
  simp [Builtin.max_, Builtin.max2, go_sem]
theorem max64n (x y : Nat) : PV Try.prog (Builtin.max_ #[3, 3] 3 #[.int .i64 (x : Int), .int .i64 (y : Int)]) (.int .i64 ((max x y : Nat) : Int)) := by
  have := max64 (x : Int) (y : Int)
  have e : (if (x : Int) < y then (y : Int) else x) = ((max x y : Nat) : Int) := by split <;> omega
  rwa [e] at this
theorem HB.lt {h : Hp} {b : Nat} {S : Nat → Prop} {m : Int} {M : Hdr → Option Int} {n l : Nat} (q : HB h b S m M n l) : ∀ k, S k → k < h.size := by
  obtain ⟨t, q, _⟩ := q
  exact q.2.1
/-- The table and the list between two calls. -/
structure RS (h0 h : Hp) (b : Nat) (m : Int) (A : Option Addr) (c : Nat) (L : List Ent) (pk : Nat) (S : Nat → Prop) (M : Hdr → Option Int) (l : Nat) : Prop where
  e : Ext h0 h
  q : HB h b S m M L.length l
  hS : ∀ k, S k → h0.size ≤ k
  lm : LM L M
  r : RowEn h A c L
  fr : Fresh h0 A
  ap : ∀ k, blk A k → ¬ S k
  lp : l ≤ 8 + 4 * pk
  np : L.length ≤ pk
  pm : pk ≤ 65536
theorem RS.ext {h0 h h' : Hp} {b : Nat} {m : Int} {A : Option Addr} {c : Nat} {L : List Ent} {pk : Nat} {S : Nat → Prop} {M : Hdr → Option Int} {l : Nat} (s : RS h0 h b m A c L pk S M l) (e : Ext h h') : RS h0 h' b m A c L pk S M l :=
  ⟨s.e.trans e, s.q.ext e, s.hS, s.lm, s.r.ext e, s.fr, s.ap, s.lp, s.np, s.pm⟩
theorem j15_s {h0 h : Hp} {b : Nat} {m : Int} {A : Option Addr} {c : Nat} {L : List Ent} {pk : Nat} {S : Nat → Prop} {M : Hdr → Option Int} {l : Nat} (e : Ext h0 h) (q : HB h b S m M L.length l) (hS : ∀ k, S k → h0.size ≤ k) (lm : LM L M) (r : RowEn h A c L) (fr : Fresh h0 A) (ap : ∀ k, blk A k → ¬ S k) (lp : l ≤ 8 + 4 * max pk L.length) (pm : pk ≤ 65536)
    {k : Hdr} {ka : Addr} (ck : Cl h (ka.add 1) k.enc) {x1690 : Int} {A1691 : Option Addr} {l1691 c1691 : Nat} {i : Int} {K0 : Bool → Hp → Prop} {K1 : Int → (Option Addr) → Nat → Nat → (Option Addr) → (Option Addr) → Nat → Nat → Int → Int → Hp → Prop}
    (H : ∀ h', RS h0 h' b m A c L (max pk L.length) S M l → K1 x1690 A1691 l1691 c1691 (some ⟨b, 0, none⟩) A L.length c ((max pk L.length : Nat) : Int) i h') :
    quintetlaw15_HashRuns_j15 K0 K1 x1690 A1691 l1691 c1691 (some ⟨b, 0, none⟩) A L.length c (pk : Int) i ka true h := by
  unfold quintetlaw15_HashRuns_j15
  have hb := q.b
  have pm' : max pk L.length ≤ 65536 := by omega
  refine ⟨_, max64n pk L.length, br_f rfl ⟨_, _, _, _, _, ldS (vs := k.enc) ck (by kernel_rfl), ?_⟩⟩
  refine bounds_a q lp pm' k fun h' e' => ⟨_, rfl, br_f rfl (H h' ⟨e.trans e', q.ext e', hS, lm, r.ext e', fr, ap, lp, by omega, pm'⟩)⟩
theorem runs_l14 {h0 : Hp} {b : Nat} {m : Int} {As : Option Addr} {cs : Nat} {os : List OpH} (rs : RSl h0 As os.length 7 (os.flatMap OpH.enc)) (hos : os.length ≤ 3000) (hw : ∀ o, o ∈ os → o.k.wf) {K0 : Bool → Hp → Prop} {K1 : (Option Addr) → (Option Addr) → Nat → Nat → Hp → Prop}
    (H : ∀ h A c L pk S M l, RS h0 h b m A c L pk S M l → K1 (some ⟨b, 0, none⟩) A L.length c h) :
    ∀ (rest done : List OpH) (h : Hp) (A : Option Addr) (c : Nat) (L : List Ent) (pk : Nat) (S : Nat → Prop) (M : Hdr → Option Int) (l : Nat), os = done ++ rest → RS h0 h b m A c L pk S M l →
      quintetlaw15_HashRuns_l14 m As os.length cs (some ⟨b, 0, none⟩) K0 K1 (rest.length + 1) A L.length c (pk : Int) (done.length : Int) h := by
  intro rest
  induction rest with
  | nil =>
    intro done h A c L pk S M l he s
    unfold quintetlaw15_HashRuns_l14
    have : os.length = done.length := by rw [he]; simp
    exact br_f (by simp; omega) (H h A c L pk S M l s)
  | cons o rest ih =>
    intro done h A c L pk S M l he s
    unfold quintetlaw15_HashRuns_l14
    have hlen : os.length = done.length + (rest.length + 1) := by rw [he]; simp
    have ho : os[done.length]? = some o := by rw [he]; simp
    have hkw := hw o (List.mem_of_getElem? ho)
    refine br_t (by simp; omega) ?_
    obtain ⟨a, _, _, hix, hcl⟩ := ixR (P := Try.prog) (T := 31) (E := 38) (k := .i64) (c := cs) OpH.len (rs.ext s.e) rfl und_op size_op ho
    refine ⟨_, hix, _, _, _, _, _, _, _, ldS (vs := o.enc) hcl (by kernel_rfl), ?_⟩
    refine newV (us := o.enc) rfl rfl (by kernel_rfl) o.flat fun h1 e1 k1 b1 z1 => ?_
    have hidx : IntKind.i64.wrap ((done.length : Int) + 1) = ((done ++ [o]).length : Int) := by
      rw [wrap_in (by omega) (by omega)]; simp
    have he' : os = (done ++ [o]) ++ rest := by rw [he]; simp
    have ih' : ∀ (h : Hp) (A : Option Addr) (c : Nat) (L : List Ent) (pk : Nat) (S : Nat → Prop) (M : Hdr → Option Int) (l : Nat), RS h0 h b m A c L pk S M l →
        quintetlaw15_HashRuns_l14 m As os.length cs (some ⟨b, 0, none⟩) K0 K1 (rest.length + 1) A L.length c (pk : Int) (IntKind.i64.wrap ((done.length : Int) + 1)) h := fun h A c L pk S M l s => by
      rw [hidx]
      exact ih (done ++ [o]) h A c L pk S M l he' s
    have s1 := s.ext e1
    have hB := s1.q.b
    have hL : L.length ≤ 99999 := by omega
    have kk : ∀ {h'}, Ext h1 h' → Cl h' ((⟨h.size, 0, none⟩ : Addr).add 1) o.k.enc := fun e => Cl.sl (k1.ext e) (n := 1) (us := o.k.enc) rfl
    have kkF : ∀ {h' : Hp} {S : Nat → Prop}, Fr S h1 h' → ¬ S h.size → Cl h' ((⟨h.size, 0, none⟩ : Addr).add 1) o.k.enc := fun f hn => Cl.sl (f.cl k1 hn) (n := 1) (us := o.k.enc) rfl
    have vv : ∀ {h'} {S : Nat → Prop}, Fr S h1 h' → ¬ S h.size → HV Try.prog (Instr.loadAt 3 (.pointer (some ((⟨h.size, 0, none⟩ : Addr).add 6)))) h' (.int .i64 o.v) := fun f hn => ld ((f.cl k1 hn).at_ 6 _ rfl) (by kernel_rfl)
    have hSn : ¬ S h.size := fun hs => by have := s.q.lt _ hs; omega
    have hl4 : l ≤ 8 + 4 * max pk L.length := by have := s.lp; omega
    refine ⟨_, ld k1.head (by kernel_rfl), br_i (fun p1 => ?_) (fun p1 => br_i (fun p2 => ?_) (fun p2 => br_i (fun p3 => ?_) (fun p3 => br_i (fun p4 => ?_) (fun p4 => ?_))))⟩
    · refine ⟨_, _, _, _, _, ldS (vs := o.k.enc) (kk (Ext.refl _)) (by kernel_rfl), _, vv (Fr.refl (fun _ => False) _) (fun h => h), ?_⟩
      refine hput_a s1.q o.k o.v (fun w hM h2 q2 f2 => ?_) (fun hM hge h2 e2 => ?_) (fun hM hlt h2 S2 l2 q2 t2 hl2 => ?_)
      · refine ⟨_, rfl, _, _, _, _, _, ldS (vs := o.k.enc) (kkF f2 hSn) (by kernel_rfl), _, vv f2 hSn, ?_⟩
        have E2 : Ext h0 h2 := extOwn s1.e f2 s1.hS
        refine rput_a s1.lm (s1.r.keep f2 s1.ap) hL m o.k hkw o.v (fun w' hM' h3 A3 c3 L3 e3 r3 f3 lm3 hl3 => ?_) (fun hM' => by rw [hM] at hM'; cases hM') (fun hM' => by rw [hM] at hM'; cases hM')
        refine ⟨_, _, _, _, rfl, ?_⟩
        refine j15_s (E2.trans e3) (hl3 ▸ q2.ext e3) s1.hS lm3 r3 (f3.sub E2) (fun k hk hs => by have := f3 k hk; have := q2.lt k hs; omega) (by rw [hl3]; exact hl4) s.pm ((kkF f2 hSn).ext e3) fun h4 s4 => ih' h4 _ _ _ _ _ _ _ s4
      · refine ⟨_, rfl, _, _, _, _, _, ldS (vs := o.k.enc) (kk e2) (by kernel_rfl), _, vv (e2.fr (fun _ => False)) (fun h => h), ?_⟩
        have s2 := s1.ext e2
        refine rput_a s2.lm s2.r hL m o.k hkw o.v (fun w' hM' => by rw [hM] at hM'; cases hM') (fun _ _ h3 e3 => ?_) (fun _ hlt => by omega)
        refine ⟨_, _, _, _, rfl, ?_⟩
        have s3 := s2.ext e3
        exact j15_s s3.e s3.q s3.hS s3.lm s3.r s3.fr s3.ap hl4 s.pm (kk (e2.trans e3)) fun h4 s4 => ih' h4 _ _ _ _ _ _ _ s4
      · refine ⟨_, rfl, _, _, _, _, _, ldS (vs := o.k.enc) (kkF t2.fr hSn) (by kernel_rfl), _, vv t2.fr hSn, ?_⟩
        have E2 : Ext h0 h2 := extOwn s1.e t2.fr s1.hS
        refine rput_a s1.lm (s1.r.keep t2.fr s1.ap) hL m o.k hkw o.v (fun w' hM' => by rw [hM] at hM'; cases hM') (fun _ hge => by omega) (fun _ _ h3 A3 c3 L3 e3 r3 f3 lm3 hl3 => ?_)
        refine ⟨_, _, _, _, rfl, ?_⟩
        refine j15_s (E2.trans e3) (hl3 ▸ q2.ext e3) (fun k hk => by
          rcases t2.own k hk with h | h
          · exact s1.hS k h
          · have := s1.e.size; omega) lm3 r3 (f3.sub E2) (fun k hk hs => by have := f3 k hk; have := q2.lt k hs; omega) (by rw [hl3]; have := s.lp; omega) s.pm ((kkF t2.fr hSn).ext e3) fun h4 s4 => ih' h4 _ _ _ _ _ _ _ s4
    · refine ⟨_, _, _, _, _, ldS (vs := o.k.enc) (kk (Ext.refl _)) (by kernel_rfl), ?_⟩
      refine hget_a s1.q o.k fun h2 e2 => ⟨_, _, rfl, _, _, _, _, _, ldS (vs := o.k.enc) (kk e2) (by kernel_rfl), ?_⟩
      have s2 := s1.ext e2
      refine rget_a s2.lm s2.r (by omega) o.k hkw fun h3 e3 => ⟨_, _, rfl, br_t (by simp) ?_⟩
      have s3 := s2.ext e3
      rw [show ((M o.k).isSome == (M o.k).isSome) = true by simp]
      exact j15_s s3.e s3.q s3.hS s3.lm s3.r s3.fr s3.ap hl4 s.pm (kk (e2.trans e3)) fun h4 s4 => ih' h4 _ _ _ _ _ _ _ s4
    · refine ⟨_, _, _, _, _, ldS (vs := o.k.enc) (kk (Ext.refl _)) (by kernel_rfl), ?_⟩
      refine hdel_a s1.q o.k fun h2 q2 f2 hn2 => ⟨_, rfl, _, _, _, _, _, ldS (vs := o.k.enc) (kkF f2 hSn) (by kernel_rfl), ?_⟩
      have E2 : Ext h0 h2 := extOwn s1.e f2 s1.hS
      refine rdel_a s1.lm (s1.r.keep f2 s1.ap) hL o.k hkw (fun hM h3 e3 => ?_) (fun hM h3 A3 c3 L3 e3 r3 f3 lm3 hl3 => ?_)
      · refine ⟨_, _, _, _, rfl, ?_⟩
        rw [hM] at q2 ⊢
        have hu : upd M o.k none = M := by
          funext k'
          unfold upd
          by_cases hk : k' = o.k
          · simp [hk, hM]
          · simp [hk]
        rw [hu] at q2
        exact j15_s (E2.trans e3) (q2.ext e3) s1.hS s1.lm ((s1.r.keep f2 s1.ap).ext e3) s1.fr s1.ap hl4 s.pm ((kkF f2 hSn).ext e3) fun h4 s4 => ih' h4 _ _ _ _ _ _ _ s4
      · refine ⟨_, _, _, _, rfl, ?_⟩
        rw [hM] at q2 ⊢
        rw [if_pos rfl] at q2
        have hq : L.length - 1 = L3.length := by omega
        rw [hq] at q2
        exact j15_s (E2.trans e3) (q2.ext e3) s1.hS lm3 r3 (f3.sub E2) (fun k hk hs => by have := f3 k hk; have := q2.lt k hs; omega) (by have := s.lp; omega) s.pm ((kkF f2 hSn).ext e3) fun h4 s4 => ih' h4 _ _ _ _ _ _ _ s4
    · refine ⟨_, vv (Fr.refl (fun _ => False) _) (fun h => h), ?_⟩
      refine all_s s1.lm (by omega) s1.q s1.r.read s1.r.old fun h2 e2 => ⟨_, rfl, ?_⟩
      have s2 := s1.ext e2
      exact j15_s s2.e s2.q s2.hS s2.lm s2.r s2.fr s2.ap hl4 s.pm (kk e2) fun h4 s4 => ih' h4 _ _ _ _ _ _ _ s4
    · exact j15_s s1.e s1.q s1.hS s1.lm s1.r s1.fr s1.ap hl4 s.pm (kk (Ext.refl _)) fun h4 s4 => ih' h4 _ _ _ _ _ _ _ s4
theorem HashRuns_s (n : Int) (As : Option Addr) (cs : Nat) (os : List OpH) {h : Hp} (rs : RSl h As os.length 7 (os.flatMap OpH.enc)) (hw : ∀ o, o ∈ os → o.k.wf) {K : Value → Hp → Prop} (H : ∀ h', Ext h h' → K (.bool true) h') :
    CallsH Try.prog 4 #[.int .i64 n, .slice As os.length cs] h K := by
  refine quintetlaw15_HashRuns_ok _ _ _ _ ?_
  unfold quintetlaw15_HashRuns
  refine br_i (fun _ => hawake_s fun h1 e1 => ⟨_, rfl, H h1 e1⟩) (fun p1 => br_i (fun _ => hawake_s fun h1 e1 => ⟨_, rfl, H h1 e1⟩) (fun p2 => br_i (fun _ => hawake_s fun h1 e1 => ⟨_, rfl, H h1 e1⟩) (fun p3 => ?_)))
  have p1 : ¬ n < 1 := by simpa using p1
  have p2 : ¬ n > 65536 := by simpa using p2
  have p3 : ¬ (os.length : Int) > 3000 := by simpa using p3
  unfold quintetlaw15_HashRuns_j8
  refine hnew_a n (fun hc => by omega) (fun _ h1 b S e1 hS q1 => ⟨_, _, rfl, _, eqNil eq22, br_f rfl (br_f rfl ?_)⟩)
  unfold quintetlaw15_HashRuns_j12
  refine ⟨os.length + 1, ?_⟩
  refine runs_l14 (h0 := h) (b := b) (m := n) (os := os) rs (by omega) hw (fun h2 A c L pk S2 M l s2 => ?_) os [] h1 none 0 [] 0 S (fun _ => none) 8 rfl ⟨e1, q1, hS, LM.nil, RowC.nil, Fresh.none h, (by rintro k ⟨a, ha, _⟩; cases ha), by omega, by simp, by omega⟩
  refine hawake_s fun h3 e3 => ⟨_, rfl, br_t rfl ?_⟩
  have s3 := s2.ext e3
  have hB := s3.q.b
  refine all_s s3.lm (by omega) s3.q s3.r.read s3.r.old fun h4 e4 => ⟨_, rfl, H h4 (s3.e.trans e4)⟩
end Go.Proofs.Ytofjbbfnkefoaaa.Fs
