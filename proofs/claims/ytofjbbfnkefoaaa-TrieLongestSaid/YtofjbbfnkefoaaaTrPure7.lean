/- Tries in an arena: cut, told whole. -/
import Derived.Test.YtofjbbfnkefoaaaTrPure6
namespace Go.Proofs.Ytofjbbfnkefoaaa.Fs
open Go Go.RowKit Go.Proofs.Ytofjbbfnkefoaaa.Sx Go.Proofs.Ytofjbbfnkefoaaa.Tp
set_option linter.unusedVariables false
set_option linter.unusedSimpArgs false
set_option maxRecDepth 10000
theorem hv_repl : ∀ (q : List Bool) (S T : Tr), S ≠ .nil → Tr.hv q (repl q S T) = q.length + 1
  | [], S, T, h => by
    cases S with
    | nil => exact absurd rfl h
    | node x l r => rfl
  | b :: q, S, T, h => by
    have ih := hv_repl q S (T.sub b) h
    have hs := Tr.sub_set T b b (repl q S (T.sub b))
    rw [if_pos rfl] at hs
    rw [repl]
    cases hT : T.setSub b (repl q S (T.sub b)) with
    | nil => exact absurd hT (Tr.set_ne _ _ _)
    | node x l r =>
      rw [hT] at hs
      rw [Tr.hv, hs, ih]
      rfl
theorem cutT_no {f : Nat} {t : TT} {key n : Int} (hm : ¬ mayT t.width key n = true) : cutT f t key n = some (120, t) := by rw [cutT, if_neg hm]
theorem cut_none {t : TT} {T : Tr} (I : Inv t T) {key n : Int} {p : List Bool} (hm : mayT t.width key n = true) (hb : Bits t.width key 0 p) (hn : n = (p.length : Nat)) (hw : p.length < 40) (hg : T.get p = none) : cutT 40 t key n = some (121, t) := by
  rw [cutT, if_pos hm]
  rcases I with ⟨rfl, hro, _, _⟩ | ⟨hT, hro, U, fs, hr, st⟩
  · rw [downT, if_neg (by rw [hro]; decide)]
    simp only
    rw [if_pos (by omega)]
  · obtain ⟨q, s, j, g, rest, rfl, hd, hv, hsb, F1, F2, F3, F4⟩ := down_go (n := n) p T 0 U 0 40 hr hT (List.nodup_append.1 st.nd).1 hb (by omega) hw
    have hd' : downT t key n = some ((j : Int), (0 : Int) + (q.length : Nat)) := by rw [downT, if_pos hro]; exact hd
    rw [hd']
    simp only
    cases s with
    | cons b s => rw [if_pos (by rw [hn, List.length_append, List.length_cons]; omega)]
    | nil =>
      obtain ⟨k, o, f1, g0, hx, _⟩ := F1.open_ F2 false
      rw [List.append_nil] at hn hg
      rw [if_neg (by omega), if_neg (by omega), Int.toNat_natCast, hx]
      have hg' : Tr.get q T = (subt q T).h := by have := get_app q [] T; rwa [List.append_nil] at this
      simp only [mkN_held]
      rw [← hg', hg]
      rfl
theorem cut_some {t : TT} {T : Tr} (I : Inv t T) {key n : Int} {p : List Bool} (hm : mayT t.width key n = true) (hb : Bits t.width key 0 p) (hn : n = (p.length : Nat)) (hw : p.length < 40) (hpw : (p.length : Int) ≤ t.width) (hl : t.ns.length ≤ 1048576) (hg : T.get p ≠ none) :
    ∃ t', cutT 40 t key n = some (0, t') ∧ Inv t' (T.cut p) ∧ t'.width = t.width ∧ t'.most = t.most ∧ t'.ns.length = t.ns.length := by
  rcases I with ⟨rfl, hro, _, _⟩ | ⟨hT, hro, U, fs, hr, st⟩
  · exact absurd (Tr.get_nil p) hg
  obtain ⟨q, s, j, g, rest, rfl, hd, hv, hsb, F1, F2, F3, F4⟩ := down_go (n := n) p T 0 U 0 40 hr hT (List.nodup_append.1 st.nd).1 hb (by omega) hw
  cases s with
  | cons b s => exact absurd (Tr.hv_get _ _ (by rw [hv, List.length_append, List.length_cons]; omega)) hg
  | nil =>
    rw [List.append_nil] at hn hg hb hw hpw hv ⊢
    have hd' : downT t key n = some ((j : Int), (0 : Int) + (q.length : Nat)) := by rw [downT, if_pos hro]; exact hd
    obtain ⟨k, o, f1, g0, hx, h1, h2, hp, z1, z2⟩ := F1.open_ F2 false
    have hg' : Tr.get q T = (subt q T).h := by have := get_app q [] T; rwa [List.append_nil] at this
    have hlt := (List.getElem?_eq_some_iff.1 hx).1
    have hndU := (List.nodup_append.1 (st.perm F3).nd).1
    have hnd2 := List.nodup_append.1 hndU
    have hnd3 := List.nodup_cons.1 (hp.nodup_iff.1 hnd2.1)
    have hjg : j ∈ g := by obtain ⟨f, rfl, _⟩ := F1.ne F2; simp
    have hjU : j ∈ U := F3.mem_iff.2 (List.mem_append_left _ hjg)
    have hset : ({ mkN (subt q T).h false k o with held := false, v := 0 } : Node) = mkN none false k o := rfl
    have hfr : ∀ m, m ≠ j → (t.ns.set j (mkN none false k o))[m]? = t.ns[m]? := fun m hm => List.getElem?_set_ne (fun e => hm e.symm)
    obtain ⟨gS, hrS, hpS⟩ := Rep.shut_ (ns := t.ns.set j (mkN none false k o)) (x := none) (c := false) (i := j) (List.getElem?_set_self hlt) (h1.frame fun m hm => hfr m (fun e => hnd3.1 (by rw [← e]; simp [hm]))) (h2.frame fun m hm => hfr m (fun e => hnd3.1 (by rw [← e]; simp [hm]))) z1 z2
    have hSn : nodeC none false ((subt q T).sub false) ((subt q T).sub !false) ≠ .nil := by simp [nodeC]
    obtain ⟨fp0, hp0, hr0⟩ := F4 _ _ gS hSn hrS (fun m hm => hfr m (fun e => hnd2.2.2 j hjg m hm e.symm)) (fun m hm => .inl (hp.mem_iff.2 (hpS.mem_iff.1 hm)))
    have hpU : U.Perm fp0 := (F3.trans ((hp.trans hpS.symm).append_right rest)).trans hp0.symm
    have st0 := (st.set hjU (mkN none false k o)).perm hpU
    have hT0 : repl q (nodeC none false ((subt q T).sub false) ((subt q T).sub !false)) T ≠ .nil := repl_ne hSn
    have hhv := hv_repl q _ T hSn
    have hpath := path_go (w := t.width) (key := key) (n := n) q _ 0 fp0 0 40 [((0 : Nat) : Int)] hr0 hT0 hhv hb (by omega) hw rfl rfl (by omega)
    have hcut := cut_upr q T
    have hS : nodeC none false ((subt q T).sub false) ((subt q T).sub !false) = .node none (subt q T).l (subt q T).r := rfl
    rw [← hS] at hcut
    obtain ⟨t', U', fs', fp', gone, r1, ne1, st1, pU, pf, _, l1, w1, m1, ro1, alt⟩ := up_go (w := t.width) (key := key) (qs := [((0 : Nat) : Int)] ++ (Pls (t.ns.set j (mkN none false k o)) 0 q).map fun (k : Nat) => (k : Int)) q _ 0 fp0 0 { t with ns := t.ns.set j (mkN none false k o) } fp0 fs hr0 hT0 hhv (List.nodup_append.1 st0.nd).1 st0 (fun m hm => hm) hb (by omega) (by show (t.ns.set j _).length ≤ _; rw [List.length_set]; omega) rfl (fun m k' hm => by
      rw [List.getElem?_append_right (by simp)]
      simp only [List.length_singleton]
      rw [show 0 + 1 + m - 1 = m by omega, List.getElem?_map]
      show Option.map _ (Pls (t.ns.set j _) 0 q)[m]? = _
      have hm' : (Pls (t.ns.set j (mkN none false k o)) 0 q)[m]? = some k' := hm
      rw [hm']; rfl)
    have hUf : U'.Perm fp' := (List.perm_append_left_iff gone).1 (pU.symm.trans pf)
    have l1' : t'.ns.length = t.ns.length := by rw [l1]; exact List.length_set ..
    have fin : (upr q (repl q (nodeC none false ((subt q T).sub false) ((subt q T).sub !false)) T)).mkd = upr q (repl q (nodeC none false ((subt q T).sub false) ((subt q T).sub !false)) T) → Inv t' (T.cut q) := by
      intro hm'
      rw [hcut, hm']
      exact .inr ⟨ne1, by rw [ro1, hro], fp', fs', r1, st1.perm hUf⟩
    have key2 : ∃ t2, upT t.width key ([((0 : Nat) : Int)] ++ (Pls (t.ns.set j (mkN none false k o)) 0 q).map fun (k : Nat) => (k : Int)) 40 ((0 + q.length : Nat) : Int) { t with ns := t.ns.set j (mkN none false k o) } = some t2 ∧ Inv t2 (T.cut q) ∧ t2.width = t.width ∧ t2.most = t.most ∧ t2.ns.length = t.ns.length := by
      rcases alt with alt | ⟨hm', alt⟩
      · obtain ⟨a, o', fa, fb, hy, ha, hb', hpc, za, zb⟩ := r1.open_ ne1 false
        have := alt (39 - q.length + 1)
        rw [show 39 - q.length + 1 + q.length = 40 by omega] at this
        rw [this, upT, if_pos (by decide)]
        have e0 : (((0 : Nat) : Int)).toNat = 0 := rfl
        rw [e0]
        simp only [List.cons_append, List.nil_append, List.getElem?_cons_zero]
        rw [if_neg (by decide), e0, hy]
        simp only [mkN_held]
        have hk01 : (mkN (upr q (repl q (nodeC none false ((subt q T).sub false) ((subt q T).sub !false)) T)).h false a o').k0 = a ∧ (mkN (upr q (repl q (nodeC none false ((subt q T).sub false) ((subt q T).sub !false)) T)).h false a o').k1 = o' := ⟨rfl, rfl⟩
        rw [hk01.1, hk01.2]
        by_cases c1 : (upr q (repl q (nodeC none false ((subt q T).sub false) ((subt q T).sub !false)) T)).h.isSome = true
        · rw [if_pos c1]
          exact ⟨t', rfl, fin (mkd_h (fun e => by rw [e] at c1; cases c1)), w1, m1, l1'⟩
        · rw [if_neg c1]
          have ha0 : (a : Int) = 0 ↔ (upr q (repl q (nodeC none false ((subt q T).sub false) ((subt q T).sub !false)) T)).l = .nil := by rw [show (a : Int) = 0 ↔ a = 0 by omega]; exact ha.kid0 za
          have hb0' : (o' : Int) = 0 ↔ (upr q (repl q (nodeC none false ((subt q T).sub false) ((subt q T).sub !false)) T)).r = .nil := by rw [show (o' : Int) = 0 ↔ o' = 0 by omega]; exact hb'.kid0 zb
          by_cases c2 : (a : Int) = 0 ∧ (o' : Int) = 0
          · rw [if_pos c2]
            have hnodes : 0 ≤ t'.nodes ∧ t'.nodes ≤ 2 ^ 60 := by
              have := st1.nodes
              have := st1.len
              omega
            rw [if_pos hnodes, if_pos (show ((0 : Nat) : Int) = 0 from rfl)]
            have hl' := ha0.1 c2.1
            have hr' := hb0'.1 c2.2
            have hh' : (upr q (repl q (nodeC none false ((subt q T).sub false) ((subt q T).sub !false)) T)).h = none := by simpa using c1
            have hm' : (upr q (repl q (nodeC none false ((subt q T).sub false) ((subt q T).sub !false)) T)).mkd = .nil := by rw [Tr.mkd, hl', hr', hh']; rfl
            have hfa : fa = [] := by rw [show (upr q (repl q (nodeC none false ((subt q T).sub false) ((subt q T).sub !false)) T)).sub false = .nil from hl'] at ha; exact ha.2
            have hfb : fb = [] := by rw [show (upr q (repl q (nodeC none false ((subt q T).sub false) ((subt q T).sub !false)) T)).sub (!false) = .nil from hr'] at hb'; exact hb'.2
            rw [hfa, hfb, List.append_nil] at hpc
            have hU1 : U'.length = 1 := by rw [(hUf.trans hpc).length_eq]; rfl
            refine ⟨_, rfl, ?_, w1, m1, l1'⟩
            rw [hcut, hm']
            refine .inl ⟨rfl, rfl, ?_, fs', st1.chain, (List.nodup_append.1 st1.nd).2.1, .inr ?_⟩
            · show t'.nodes - 1 = 0
              rw [st1.nodes, hU1]; rfl
            · show t'.ns.length = _
              rw [← st1.len, hU1]; omega
          · rw [if_neg c2]
            exact ⟨t', rfl, fin (mkd_kid (fun e => c2 ⟨ha0.2 e.1, hb0'.2 e.2⟩)), w1, m1, l1'⟩
      · have := alt (39 - q.length)
        rw [show 39 - q.length + q.length + 1 = 40 by omega] at this
        exact ⟨t', this, fin hm', w1, m1, l1'⟩
    obtain ⟨t2, hu, hI, hw2, hm2, hl2⟩ := key2
    refine ⟨t2, ?_, hI, hw2, hm2, hl2⟩
    rw [cutT, if_pos hm, hd']
    simp only
    rw [if_neg (by omega), if_neg (by omega), Int.toNat_natCast, hx]
    simp only [mkN_held]
    rw [if_pos (by rw [← hg']; cases hq : Tr.get q T with
      | none => exact absurd hq hg
      | some v => rfl), hset]
    rw [show ((0 : Nat) : Int) = (0 : Int) from rfl] at hpath
    rw [hpath.1]
    simp only
    rw [if_pos (by simp [hpath.2]; omega)]
    rw [show ((0 + q.length : Nat) : Int) = n by omega, show ((0 : Nat) : Int) = (0 : Int) from rfl] at hu
    rw [hu]
    rfl
end Go.Proofs.Ytofjbbfnkefoaaa.Fs
