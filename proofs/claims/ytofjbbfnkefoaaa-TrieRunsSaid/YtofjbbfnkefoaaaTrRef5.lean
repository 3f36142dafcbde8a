/- The document's trie: Put, Cut, Nodes. -/
import Derived.Test.YtofjbbfnkefoaaaTrRef4
import Derived.Test.YtofjbbfnkefoaaaTrUndo2
namespace Go.Proofs.Ytofjbbfnkefoaaa.Fs
open Go Go.RowKit Go.Proofs.Ytofjbbfnkefoaaa.Sx Go.Proofs.Ytofjbbfnkefoaaa.Tp
set_option linter.unusedVariables false
set_option linter.unusedSimpArgs false
set_option maxRecDepth 10000
theorem HU_stA {P : Program} {t : TypeId} {b o : Nat} {T : TypeId} {cs us : List Value} {v : Value} {h : Hp} {K : Hp → Prop} (hb : h[b]? = some (.cells cs.toArray T (0, 0))) (hv : v.cells = us.toArray) (hsz : (P.info? t).map (·.size) = some us.length)
    (hl : o + us.length ≤ cs.length) (hf : us.all flatV = true) (hk : K (setB h b (cs.take o ++ us ++ cs.drop (o + us.length)) T)) : HU P (Instr.storeAt t (.pointer (some ((⟨b, 0, none⟩ : Addr).add o))) v) h K := by
  rw [add_eq0]
  exact HU_st hb hv hsz hl hf hk
/-- What is known of a trie's tree and its bounds. -/
structure Rok (w : Nat) (most : Int) (s : Ab) : Prop where
  ok : s.T.Ok
  dp : s.T.Dp w
  w3 : W3 w
  m0 : 0 ≤ most ∧ most ≤ 1048576
  le : (s.ar : Int) ≤ most
  sz : s.T.size ≤ s.ar
theorem TGd.rok {w : Nat} {most : Int} {t : TT} {s : Ab} (G : TGd w most t s) : Rok w most s := ⟨G.ok, G.dp, G.w3, G.m0, G.le, G.size⟩
theorem Rok.len {w : Nat} {most : Int} {s : Ab} (R : Rok w most s) : (s.T.ents []).length ≤ 1048576 := by
  have := Tr.len_ents s.T []
  have := R.sz
  have := R.le
  have := R.m0
  omega
def rfC (w : Nat) (most : Int) (s : Ab) (A : Option Addr) (c : Nat) : List Value := [.int .i64 (w : Int), .int .i64 most, .int .i64 (s.ar : Int), .slice A (s.T.ents []).length c]
/-- The document's trie at m; M: its own blocks. -/
def RfAt (h : Hp) (m : Nat) (M : Nat → Prop) (w : Nat) (most : Int) (s : Ab) : Prop :=
  M m ∧ (∀ k, M k → k < h.size) ∧ ∃ A c, h[m]? = some (.cells (rfC w most s A c).toArray 81 (0, 0)) ∧ RowE h A c ((s.T.ents []).map (enW w)) ∧ (∀ k, blk A k → M k) ∧ ¬ blk A m
theorem RfAt.keep {h h' : Hp} {m : Nat} {M S : Nat → Prop} {w : Nat} {most : Int} {s : Ab} (q : RfAt h m M w most s) (f : Fr S h h') (hn : ∀ k, M k → ¬ S k) : RfAt h' m M w most s := by
  obtain ⟨h1, h2, A, c, hb, hr, hS, hne⟩ := q
  exact ⟨h1, fun k hk => Nat.lt_of_lt_of_le (h2 k hk) f.size, A, c, f.get hb (hn m h1), hr.keep f (fun k hk => hn k (hS k hk)), hS, hne⟩
theorem RfAt.ext {h h' : Hp} {m : Nat} {M : Nat → Prop} {w : Nat} {most : Int} {s : Ab} (q : RfAt h m M w most s) (e : Ext h h') : RfAt h' m M w most s := q.keep (e.fr (fun _ => False)) (fun _ _ h => h)
theorem row_view {h : Hp} {A : Option Addr} {c w : Nat} {L : List Ent} (r : RowE h A c (L.map (enW w))) : RSl h A L.length 3 ((L.map (enW w)).flatMap En.enc) := by
  have := r.read
  rwa [List.length_map] at this
theorem rf_view {h : Hp} {m w : Nat} {most : Int} {s : Ab} {A : Option Addr} {c : Nat} (hb : h[m]? = some (.cells (rfC w most s A c).toArray 81 (0, 0))) (r : RowE h A c ((s.T.ents []).map (enW w))) : RfV h m w most s.ar A c (s.T.ents []) :=
  ⟨Cl.of_block hb fun j v hj => by rw [Nat.zero_add]; exact hj, row_view r⟩
theorem RfAt.view {h : Hp} {m : Nat} {M : Nat → Prop} {w : Nat} {most : Int} {s : Ab} (q : RfAt h m M w most s) : ∃ A c, RfV h m w most s.ar A c (s.T.ents []) := by
  obtain ⟨_, _, A, c, hb, hr, _⟩ := q
  exact ⟨A, c, rf_view hb hr⟩
theorem rnodes_s {h : Hp} {m : Nat} {M : Nat → Prop} {w : Nat} {most : Int} {s : Ab} (q : RfAt h m M w most s) (R : Rok w most s) {K : Value → Hp → Prop} (H : K (.int .i64 (s.T.size : Nat)) h) : CallsH Try.prog 63 #[.pointer (some ⟨m, 0, none⟩)] h K := by
  refine quintetref12_Trie_Nodes_ok _ ?_
  unfold quintetref12_Trie_Nodes
  obtain ⟨A, c, v⟩ := q.view
  refine ⟨_, _, _, ld (v.1.at_ 3 _ rfl) (by kernel_rfl), ?_⟩
  have hlen := R.len
  refine nodes_s v v.2 R.w3 (by omega) (fun e he => (ent_in R.dp he).1) 1048576 fun n _ h1 h2 => ⟨_, rfl, ?_⟩
  have hc : cnt none (pthsL (s.T.ents [])) = s.T.size := cnt_size R.ok
  have := R.sz
  have := R.le
  have := R.m0
  rw [hc] at h1
  rw [h1 (by omega)]
  exact H
theorem set_map {w : Nat} {T : Tr} (hD : T.Dp w) {i : Nat} {e : Ent} (hi : (T.ents [])[i]? = some e) (v : Int) : ((T.ents []).map (enW w)).set i (enW w (e.1, v)) = ((T.ents []).map (setE e.1 v)).map (enW w) := by
  have hlt := (List.getElem?_eq_some_iff.1 hi).1
  have hap := List.pairwise_iff_getElem.1 (ents_apart hD)
  refine List.ext_getElem? fun j => ?_
  by_cases hj : j < (T.ents []).length
  · by_cases e0 : i = j
    · subst e0
      rw [List.getElem?_set_self (by rw [List.length_map]; exact hlt), List.getElem?_map, List.getElem?_map, hi]
      show some _ = some (enW w (setE e.1 v e))
      unfold setE
      rw [if_pos rfl]
    · rw [List.getElem?_set_ne e0, List.getElem?_map, List.getElem?_map, List.getElem?_map, List.getElem?_eq_getElem hj]
      show some _ = some (enW w (setE e.1 v _))
      have hne : ((T.ents [])[j]).1 ≠ e.1 := by
        have he := (List.getElem?_eq_some_iff.1 hi).2
        rw [← he]
        rcases Nat.lt_or_gt_of_ne e0 with hh | hh
        · exact fun x => hap i j hlt hj hh x.symm
        · exact hap j i hj hlt hh
      unfold setE
      rw [if_neg hne]
  · rw [List.getElem?_eq_none (by rw [List.length_set, List.length_map]; omega), List.getElem?_eq_none (by rw [List.length_map, List.length_map]; omega)]
theorem rput_s {h : Hp} {m : Nat} {M : Nat → Prop} {w : Nat} {most : Int} {s : Ab} (q : RfAt h m M w most s) (R : Rok w most s) {k : Nat} (hk : k < 4294967296) (n v : Int) {K : Value → Hp → Prop}
    (H : ∀ h' M', RfAt h' m M' w most (putA w most s k n v).2 → (∀ j, M' j → M j ∨ h.size ≤ j) → Fr M h h' → K (.int .i64 (putA w most s k n v).1) h') :
    CallsH Try.prog 58 #[.pointer (some ⟨m, 0, none⟩), .int .u32 (k : Int), .int .i64 n, .int .i64 v] h K := by
  refine quintetref12_Trie_Put_ok _ _ _ _ ?_
  unfold quintetref12_Trie_Put
  have q0 := q
  obtain ⟨hm, hM, A, c, hb, hr, hA, hne⟩ := q
  have vw := rf_view hb hr
  have hlen := R.len
  have hsz := R.sz
  have hle := R.le
  have hm0 := R.m0
  have hwl := R.w3.le
  refine rmay_s vw R.w3 hk n ⟨_, rfl, ?_⟩
  unfold putA at H
  by_cases hmay : mayT w k n = true
  · rw [if_pos hmay] at H
    obtain ⟨n, rfl, hnw⟩ := mayT_nat hmay
    rw [Int.toNat_natCast] at H
    obtain ⟨_, hpk⟩ := may_path R.w3 hk hmay
    have hpl : (pa w k n).length = n := pa_len _ _ _
    refine br_f (by rw [hmay]; rfl) ?_
    refine at_s vw (by omega) _ _ (fun j e hj hje => ⟨_, rfl, ?_⟩) (fun hno => ⟨_, rfl, ?_⟩)
    · -- it is held: the value anew
      have hem := List.mem_of_getElem? hj
      obtain ⟨hel, heg⟩ := ent_in R.dp hem
      have hep : e.1 = pa w k n := ent_is hel (by omega) (by omega) (by omega)
      have hg : s.T.get (pa w k n) ≠ none := by rw [← hep, heg]; simp
      have hsame := Tr.put_had v (pa w k n) s.T hg
      rw [if_neg (by rw [hsame]; omega), hsame, Nat.max_eq_left hsz] at H
      have hjl := (List.getElem?_eq_some_iff.1 hj).1
      have hr0 := hr
      obtain ⟨g, rfl⟩ : ∃ g, A = some ⟨g, 0, none⟩ := by
        obtain ⟨g, rest, hA', _⟩ := hr.open En.len (by rw [List.length_map]; omega)
        exact ⟨g, hA'⟩
      have hix : PV Try.prog (Instr.indexAt 79 (.slice (some ⟨g, 0, none⟩) (s.T.ents []).length c) (.int .i64 (j : Int))) (.pointer (some ⟨g, j * 3, none⟩)) := by
        have := ix (P := Try.prog) (T := 79) (E := 66) (a := ⟨g, 0, none⟩) (l := (s.T.ents []).length) (c := c) (sz := 3) (k := .i64) (i := (j : Int)) (by omega) (by omega) undE sizeE
        rw [Int.toNat_natCast, add_eq0] at this
        exact this
      refine br_t (by rw [decide_eq_true_eq]; omega) ⟨_, _, _, ld (vw.1.at_ 3 _ rfl) (by kernel_rfl), _, hix, ?_⟩
      rw [add_off rfl]
      refine HU_part (enc := En.enc) (sz := 3) En.len hr (j := j) (x := enW w e) (x' := enW w (e.1, v)) (us := [.int .i64 v]) (o := 2) (by rw [List.getElem?_map, hj]; rfl) rfl intSz rfl (by simp) rfl fun h1 r1 f1 z1 => ?_
      rw [set_map R.dp hj v, hep, ← ents_put_old R.dp (by omega) v hg] at r1
      have hgm : g ≠ m := fun e' => hne ⟨_, rfl, by rw [e']⟩
      have hlp : ((s.T.put v (pa w k n)).ents []).length = (s.T.ents []).length := by rw [ents_put_old R.dp (by omega) v hg, List.length_map]
      refine H h1 M ⟨hm, fun j hj => by rw [z1]; exact hM j hj, some ⟨g, 0, none⟩, c, ?_, r1, hA, hne⟩ (fun j hj => .inl hj) (f1.mono fun j hj => hA j ⟨_, rfl, hj.symm⟩)
      have := f1.get hb (fun e' => hgm e'.symm)
      rw [this]
      show some (Obj.cells (rfC w most s _ c).toArray _ _) = some (Obj.cells (rfC w most ⟨_, s.ar⟩ _ c).toArray _ _)
      unfold rfC
      simp only
      rw [hlp]
    · -- it is not held
      have hg : s.T.get (pa w k n) = none := by
        cases hg : s.T.get (pa w k n) with
        | none => rfl
        | some u =>
          have hmem : (pa w k n, u) ∈ s.T.ents [] := mem0.2 hg
          exact absurd ⟨by show ((kv w (pa w k n) : Nat) : Int) = k; omega, by show (((pa w k n).length : Nat) : Int) = n; omega⟩ (hno _ hmem)
      have hnew := ents_put_new R.dp (by omega : (pa w k n).length ≤ w) v hg
      refine br_f rfl ⟨_, _, _, ld (vw.1.at_ 3 _ rfl) (by kernel_rfl), ?_⟩
      have hev : En.val (enW w (pa w k n, v)) = .agg #[.int .u32 (k : Int), .int .i64 (n : Int), .int .i64 v] := by
        show Value.agg #[.int .u32 ((kv w (pa w k n) : Nat) : Int), .int .i64 (((pa w k n).length : Nat) : Int), .int .i64 v] = _
        rw [hpk, hpl]
      rw [← hev]
      refine with_s vw.2 hlen (pa w k n, v) fun h1 A1 c1 e1 r1 hb1 => ⟨_, _, _, rfl, ?_⟩
      rw [← hnew] at r1 ⊢
      have vw1 := vw.ext e1
      refine ⟨_, ld (vw1.1.at_ 1 _ rfl) (by kernel_rfl), ?_⟩
      have hlen1 : ((s.T.put v (pa w k n)).ents []).length ≤ 1048577 := by rw [hnew, ins_len]; omega
      have hdp1 := Tr.Dp.put v w (pa w k n) s.T R.dp (by omega)
      refine nodes_s (c' := c1) vw1 (row_view r1) R.w3 (by omega) (fun e he => (ent_in hdp1 he).1) most fun x hx h1x h2x => ⟨_, rfl, ?_⟩
      have hc : cnt none (pthsL ((s.T.put v (pa w k n)).ents [])) = (s.T.put v (pa w k n)).size := cnt_size (Tr.ok_put _ _ _ R.ok)
      rw [hc] at h1x h2x
      refine ⟨_, ld (vw1.1.at_ 1 _ rfl) (by kernel_rfl), br_i (fun hgt => ?_) (fun hgt => ?_)⟩
      · have hgt' : most < (x : Int) := by simpa using hgt
        have hfull : most < (((s.T.put v (pa w k n)).size : Nat) : Int) := by
          by_cases hh : (((s.T.put v (pa w k n)).size : Nat) : Int) ≤ most
          · rw [h1x hh] at hgt'; omega
          · omega
        rw [if_pos hfull] at H
        exact H h1 M (q0.ext e1) (fun j hj => .inl hj) (e1.fr M)
      · have hgt' : ¬ most < (x : Int) := by simpa using hgt
        have hfit : (((s.T.put v (pa w k n)).size : Nat) : Int) ≤ most := by
          by_cases hh : (((s.T.put v (pa w k n)).size : Nat) : Int) ≤ most
          · exact hh
          · exact absurd (h2x (by omega)) hgt'
        have hxe := h1x hfit
        subst hxe
        rw [if_neg (by omega)] at H
        have hb1' := (e1.fr (fun _ => False)).get hb (fun h => h)
        have hml := lt_of_get hb
        have s1 := e1.size
        refine HU_stA (o := 3) (us := [.slice A1 ((s.T.put v (pa w k n)).ents []).length c1]) hb1' rfl (by kernel_rfl) (by simp [rfC]) rfl ?_
        have e3 : (rfC w most s A c).take 3 ++ [.slice A1 ((s.T.put v (pa w k n)).ents []).length c1] ++ (rfC w most s A c).drop (3 + [Value.slice A1 ((s.T.put v (pa w k n)).ents []).length c1].length) = rfC w most ⟨s.T.put v (pa w k n), s.ar⟩ A1 c1 := rfl
        rw [e3]
        have hb2 := setB_get (h := h1) (cs := rfC w most ⟨s.T.put v (pa w k n), s.ar⟩ A1 c1) (T := 81) (lt_of_get hb1')
        have f2 := setB_fr (h := h1) (S := fun j => j = m) (b := m) (cs := rfC w most ⟨s.T.put v (pa w k n), s.ar⟩ A1 c1) (T := 81) rfl
        revert hb2 f2
        generalize setB h1 m (rfC w most ⟨s.T.put v (pa w k n), s.ar⟩ A1 c1) 81 = h2
        intro hb2 f2
        have cl2 : Cl h2 ⟨m, 0, none⟩ (rfC w most ⟨s.T.put v (pa w k n), s.ar⟩ A1 c1) := Cl.of_block hb2 fun j v hj => by rw [Nat.zero_add]; exact hj
        refine ⟨_, ld (cl2.at_ 2 _ rfl) (by kernel_rfl), _, max64 _ _, ?_⟩
        refine HU_stA (o := 2) (us := [.int .i64 ((max s.ar (s.T.put v (pa w k n)).size : Nat) : Int)]) hb2 rfl (by kernel_rfl) (by simp [rfC]) rfl ?_
        have e4 : (rfC w most ⟨s.T.put v (pa w k n), s.ar⟩ A1 c1).take 2 ++ [.int .i64 ((max s.ar (s.T.put v (pa w k n)).size : Nat) : Int)] ++ (rfC w most ⟨s.T.put v (pa w k n), s.ar⟩ A1 c1).drop (2 + [Value.int .i64 ((max s.ar (s.T.put v (pa w k n)).size : Nat) : Int)].length) = rfC w most ⟨s.T.put v (pa w k n), max s.ar (s.T.put v (pa w k n)).size⟩ A1 c1 := rfl
        rw [e4]
        have hb3 := setB_get (h := h2) (cs := rfC w most ⟨s.T.put v (pa w k n), max s.ar (s.T.put v (pa w k n)).size⟩ A1 c1) (T := 81) (lt_of_get hb2)
        have f3 := setB_fr (h := h2) (S := fun j => j = m) (b := m) (cs := rfC w most ⟨s.T.put v (pa w k n), max s.ar (s.T.put v (pa w k n)).size⟩ A1 c1) (T := 81) rfl
        revert hb3 f3
        generalize setB h2 m (rfC w most ⟨s.T.put v (pa w k n), max s.ar (s.T.put v (pa w k n)).size⟩ A1 c1) 81 = h3
        intro hb3 f3
        have hbm : ¬ blk A1 m := fun hh => by have := hb1 m hh; omega
        have r3 := (r1.keep f2 (fun j hj e => hbm (e ▸ hj))).keep f3 (fun j hj e => hbm (e ▸ hj))
        have s2 := f2.size
        have s3 := f3.size
        refine H h3 (fun j => M j ∨ blk A1 j) ⟨.inl hm, ?_, A1, c1, hb3, r3, fun j hj => .inr hj, hbm⟩ ?_ ?_
        · rintro j (hj | hj)
          · have := hM j hj; omega
          · exact lt_of_row r3 hj
        · rintro j (hj | hj)
          · exact .inl hj
          · exact .inr (hb1 j hj)
        · exact ((e1.fr M).trans (f2.mono fun j hj => hj ▸ hm)).trans (f3.mono fun j hj => hj ▸ hm)
  · rw [if_neg hmay] at H
    exact br_t (by simpa using hmay) (H h M q0 (fun j hj => .inl hj) (Fr.refl _ _))
end Go.Proofs.Ytofjbbfnkefoaaa.Fs
