/- NestShrinks: the law. -/
import Derived.Test.YtmgbbedbilefaaaNeLaw4
namespace Go.Proofs.Ytmgbbedbilefaaa.Fs
open Go Go.RowKit Go.Sort Go.Proofs.Ytmgbbedbilefaaa.Sx Go.Proofs.Ytmgbbedbilefaaa.Sp Go.Proofs.Ytmgbbedbilefaaa.Uq
set_option linter.unusedVariables false
set_option linter.unusedSimpArgs false
set_option maxRecDepth 10000
theorem self_src {r : Rul} (hw : r.wf) (hc : r.check.1 = 0) : withinB r.src r.src = true := within_self hw.s.1 hw.s.2 (check_parts hc _ (by simp [Rul.parts]; exact .inl rfl))
theorem self_dst {r : Rul} (hw : r.wf) (hc : r.check.1 = 0) : withinB r.dst r.dst = true := within_self hw.d.1 hw.d.2 (check_parts hc _ (by simp [Rul.parts]; exact .inr (.inl rfl)))
theorem cells1_pos {r : Rul} (ok : r.okP) (hc : r.check.1 = 0) : 1 ≤ cells1 r := by
  obtain ⟨h1, h2⟩ := check_sp hc
  have a := (of_len r.sp ok.1.1 h1 ok.1.2.2.2).1
  have b := (of_len r.dp ok.2.1 h2 ok.2.2.2.2).1
  exact Nat.mul_pos a b
structure Shr (l : List Rul) (at_ : Nat) : Prop where
  e1 : listE (l.eraseIdx at_) = 0
  e2 : listE (bkF 0 l.reverse) = 0
  p1 : pruneN (l.eraseIdx at_) < pruneN l
  g1 : gridN (l.eraseIdx at_) < gridN l
  t1 : tupleN (l.eraseIdx at_) < tupleN l
  p2 : pruneN (bkF 0 l.reverse) = pruneN l
  g2 : gridN (bkF 0 l.reverse) = gridN l
  t2 : tupleN (bkF 0 l.reverse) = tupleN l
  g3 : l.length ≤ gridN l
  t3 : l.length ≤ tupleN l
  p3 : gridN l ≤ pruneN l
theorem shr {l : List Rul} {at_ : Nat} (he : listE l = 0) (hw : ∀ x ∈ l, x.wf) (ok : ∀ x ∈ l, x.okP) (ha : at_ < l.length) : Shr l at_ := by
  have hck := listE_chk he
  have hln := listE_len he
  have hx := List.getElem?_eq_getElem ha
  generalize l[at_] = x at hx
  have hxm := List.mem_of_getElem? hx
  have hp := perm_erase hx
  have hsub : (l.eraseIdx at_).Sublist l := List.eraseIdx_sublist ..
  refine ⟨?_, ?_, ?_, ?_, ?_, ?_, ?_, ?_, ?_, ?_, ?_⟩
  · exact listE_yes (Nat.le_trans hsub.length_le hln) (fun r hr => hck r (hsub.subset hr)) ((listE_ids he).sublist hsub)
  · refine listE_yes (by rw [bkF_len, List.length_reverse]; exact hln) (fun r hr => ?_) (bkF_ids _ _)
    obtain ⟨m, r', h1, h2, h3, rfl⟩ := bkF_mem _ _ _ hr
    rw [List.length_reverse] at h2
    exact check_set (hck r' (List.mem_reverse.1 h3)) (by omega) (by omega) rfl
  · rw [prune_eq, prune_eq, prP_perm (hp.map Rul.pp), List.map_cons]
    exact prP_cons (self_src (hw x hxm) (hck x hxm)) (self_dst (hw x hxm) (hck x hxm))
  · rw [grid_eq, grid_eq, gL_perm (hp.map Rul.src), List.map_cons]
    exact gL_cons (self_src (hw x hxm) (hck x hxm))
  · have e : tupleN l = tupleN (x :: l.eraseIdx at_) := tuple_perm (hp.map cells1)
    have := cells1_pos (ok x hxm) (hck x hxm)
    rw [e]
    unfold tupleN
    rw [List.map_cons, List.sum_cons]
    omega
  · rw [prune_eq, prune_eq, bkF_map Rul.pp (fun _ _ => rfl)]
    exact prP_perm ((List.reverse_perm l).map _)
  · rw [grid_eq, grid_eq, bkF_map Rul.src (fun _ _ => rfl)]
    exact gL_perm ((List.reverse_perm l).map _)
  · refine tuple_perm ?_
    rw [bkF_map cells1 (fun _ _ => rfl)]
    exact (List.reverse_perm l).map _
  · rw [grid_eq]
    have := gL_len (l.map Rul.src) fun p hp => by
      obtain ⟨r, hr, rfl⟩ := List.mem_map.1 hp
      exact self_src (hw r hr) (hck r hr)
    rwa [List.length_map] at this
  · exact tuple_len fun r hr => cells1_pos (ok r hr) (hck r hr)
  · exact prune_ge fun r hr => self_dst (hw r hr) (hck r hr)
section
variable {h0 : Hp} {A : Option Addr} {c : Nat} {l : List Rul}
theorem Shr_j15 (r : RSl h0 A l.length 12 (l.flatMap Rul.enc)) (hc : l.length ≤ c) (he : listE l = 0) (hne : 0 < l.length) (hw : ∀ x ∈ l, x.wf) (ok : ∀ x ∈ l, x.okP) {x : Int} (hx0 : 0 ≤ x) {K0 : Bool → Hp → Prop} (H : ∀ h', Ext h0 h' → K0 true h') : quintetlaw14_NestShrinks_j15 K0 A l.length c x h0 := by
  unfold quintetlaw14_NestShrinks_j15
  have hln := listE_len he
  have hm : Int.tmod x (l.length : Int) = ((x.toNat % l.length : Nat) : Int) := by
    rw [Int.tmod_eq_emod_of_nonneg hx0, Int.natCast_emod, Int.toNat_of_nonneg hx0]
  refine ⟨_, rem64 _ _ (by omega), ?_⟩
  rw [hm]
  have ha : x.toNat % l.length < l.length := Nat.mod_lt _ hne
  generalize x.toNat % l.length = at_ at ha
  have q := shr he hw ok ha
  have okl : ∀ y ∈ l.eraseIdx at_, y.okP := fun y hy => ok y ((List.eraseIdx_sublist ..).subset hy)
  have okb : ∀ y ∈ bkF 0 l.reverse, y.okP := fun y hy => by
    obtain ⟨m, r', h1, h2, h3, rfl⟩ := bkF_mem _ _ _ hy
    exact ok r' (List.mem_reverse.1 h3)
  have hll : (l.eraseIdx at_).length ≤ 64 := Nat.le_trans (List.eraseIdx_sublist ..).length_le hln
  have hlb : (bkF 0 l.reverse).length ≤ 64 := by rw [bkF_len, List.length_reverse]; exact hln
  refine ⟨l.length + 1, ?_⟩
  refine Shr_l17 r hln (fun h1 P p Q b e1 rP rQ => ?_) (l.length + 1) 0 h0 none 0 none 0 (by omega) (by omega) (Ext.refl _) (by simpa using RowC.nil) (by simpa [bkF] using RowC.nil) (Fresh.none _) (Fresh.none _) (by rintro k ⟨a, ha, _⟩; cases ha)
  refine Prune_s (r.ext e1) (by omega) hc fun h2 e2 => ⟨_, _, rfl, ?_⟩
  have E2 := e1.trans e2
  refine Grid_s (r.ext E2) (by omega) hc fun h3 e3 => ⟨_, _, rfl, ?_⟩
  have E3 := E2.trans e3
  refine Tuple_s (r.ext E3) (by omega) hc ok fun h4 e4 => ⟨_, _, rfl, ?_⟩
  have E4 := (e2.trans e3).trans e4
  refine Prune_s (rP.ext E4).read (by omega) rP.le fun h5 e5 => ⟨_, _, rfl, ?_⟩
  have E5 := E4.trans e5
  refine Grid_s (rP.ext E5).read (by omega) rP.le fun h6 e6 => ⟨_, _, rfl, ?_⟩
  have E6 := E5.trans e6
  refine Tuple_s (rP.ext E6).read (by omega) rP.le okl fun h7 e7 => ⟨_, _, rfl, ?_⟩
  have E7 := E6.trans e7
  refine Prune_s (rQ.ext E7).read (by omega) rQ.le fun h8 e8 => ⟨_, _, rfl, ?_⟩
  have E8 := E7.trans e8
  refine Grid_s (rQ.ext E8).read (by omega) rQ.le fun h9 e9 => ⟨_, _, rfl, ?_⟩
  have E9 := E8.trans e9
  refine Tuple_s (rQ.ext E9).read (by omega) rQ.le okb fun h10 e10 => ⟨_, _, rfl, ?_⟩
  have E10 := e1.trans (E9.trans e10)
  rw [he, q.e1, q.e2]
  simp only [if_true]
  refine br_t rfl (br_t rfl (br_t rfl (br_t rfl (br_t rfl (br_t rfl (br_t rfl (br_t rfl ?_)))))))
  unfold quintetlaw14_NestShrinks_j19
  refine awake_s fun h11 e11 => ⟨_, rfl, br_t rfl (br_t rfl ?_)⟩
  have p1 := q.p1; have g1 := q.g1; have t1 := q.t1; have g3 := q.g3; have t3 := q.t3; have p3 := q.p3
  rw [q.p2, q.g2, q.t2]
  refine br_t (by simpa using p1) (br_t (by simpa using g1) (br_t (by simpa using t1) (br_t (by simp) (br_t (by simp) (br_t (by simp) (br_t (by simpa using g3) (br_t (by simpa using t3) ?_)))))))
  rw [decide_eq_true (by omega)]
  exact H h11 (E10.trans e11)
end
theorem NestShrinks_s {h : Hp} {A : Option Addr} {c : Nat} {l : List Rul} {x : Int} (hx : -9223372036854775808 ≤ x ∧ x ≤ 9223372036854775807) (hc : l.length ≤ c) (hw : ∀ x ∈ l, x.wf) (ok : ∀ x ∈ l, x.okP) (rs : RSl h A l.length 12 (l.flatMap Rul.enc)) {K : Value → Hp → Prop} (H : ∀ h', Ext h h' → K (.bool true) h') : CallsH Try.prog 7 #[.slice A l.length c, .int .i64 x] h K := by
  refine quintetlaw14_NestShrinks_ok _ _ _ _ ?_
  unfold quintetlaw14_NestShrinks
  refine RList_s rs hw fun h1 e1 => ⟨_, rfl, br_i (fun u => awake_s fun h2 e2 => ⟨_, rfl, H h2 (e1.trans e2)⟩) (fun u => br_i (fun v => awake_s fun h2 e2 => ⟨_, rfl, H h2 (e1.trans e2)⟩) (fun v => ?_))⟩
  have u : listE l = 0 := by simpa using u
  have v : 0 < l.length := by
    have : (l.length : Int) ≠ 0 := by simpa using v
    omega
  unfold quintetlaw14_NestShrinks_j10
  refine br_i (fun w => ?_) (fun w => ?_)
  · have w : x < 0 := by simpa using w
    rw [wrap_in (n := x + 1) (by omega) (by omega), wrap_in (n := 0 - (x + 1)) (by omega) (by omega)]
    exact Shr_j15 (rs.ext e1) hc u v hw ok (by omega) fun h2 e2 => H h2 (e1.trans e2)
  · have w : ¬ x < 0 := by simpa using w
    exact Shr_j15 (rs.ext e1) hc u v hw ok (by omega) fun h2 e2 => H h2 (e1.trans e2)
end Go.Proofs.Ytmgbbedbilefaaa.Fs
