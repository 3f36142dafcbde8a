/- Tries in an arena: what is held; get and put. -/
import Derived.Test.YtofjbbfnkefoaaaTrPure4
namespace Go.Proofs.Ytofjbbfnkefoaaa.Fs
open Go Go.RowKit Go.Proofs.Ytofjbbfnkefoaaa.Sx Go.Proofs.Ytofjbbfnkefoaaa.Tp
set_option linter.unusedVariables false
set_option linter.unusedSimpArgs false
set_option maxRecDepth 10000
def Inv (t : TT) (T : Tr) : Prop :=
  (T = .nil ∧ t.rooted = false ∧ t.nodes = 0 ∧ ∃ fs, Chain t.ns t.free fs ∧ fs.Nodup ∧ (t.ns.length = 0 ∧ fs = [] ∨ t.ns.length = fs.length + 1)) ∨
  (T ≠ .nil ∧ t.rooted = true ∧ ∃ U fs, Rep t.ns T 0 U ∧ St t U fs)
theorem Inv.nodes {t : TT} {T : Tr} (I : Inv t T) : t.nodes = T.size := by
  rcases I with ⟨rfl, _, h, _⟩ | ⟨_, _, U, fs, hr, st⟩
  · exact h
  · rw [st.nodes, hr.len]
theorem Inv.le {t : TT} {T : Tr} (I : Inv t T) : T.size ≤ t.ns.length := by
  rcases I with ⟨rfl, _, h, _⟩ | ⟨_, _, U, fs, hr, st⟩
  · exact Nat.zero_le _
  · have := st.len
    have := hr.len
    omega
theorem Inv.new (w m : Int) : Inv ⟨w, m, [], 0, 0, false⟩ .nil := .inl ⟨rfl, rfl, rfl, [], rfl, List.nodup_nil, .inl ⟨rfl, rfl⟩⟩
def outG (o : Option Int) : Int × Bool := match o with
  | some v => (v, true)
  | none => (0, false)
theorem getT_no {t : TT} {key n : Int} (hm : ¬ mayT t.width key n = true) : getT t key n = some (0, false) := by rw [getT, if_neg hm]
theorem get_law {t : TT} {T : Tr} (I : Inv t T) {key n : Int} {p : List Bool} (hm : mayT t.width key n = true) (hb : Bits t.width key 0 p) (hn : n = (p.length : Nat)) (hw : p.length < 40) : getT t key n = some (outG (T.get p)) := by
  rw [getT, if_pos hm]
  rcases I with ⟨rfl, hro, _, _⟩ | ⟨hT, hro, U, fs, hr, st⟩
  · rw [downT, if_neg (by rw [hro]; decide)]
    simp only
    rw [if_pos (by omega), Tr.get_nil]
    rfl
  · obtain ⟨q, s, j, g, rest, rfl, hd, hv, hsb, F1, F2, F3, F4⟩ := down_go (n := n) p T 0 U 0 40 hr hT (List.nodup_append.1 st.nd).1 hb (by omega) hw
    have hd' : downT t key n = some ((j : Int), (0 : Int) + (q.length : Nat)) := by rw [downT, if_pos hro]; exact hd
    rw [hd']
    simp only
    cases s with
    | cons b s =>
      rw [if_pos (by rw [hn, List.length_append, List.length_cons]; omega), Tr.hv_get _ _ (by rw [hv, List.length_append, List.length_cons]; omega)]
      rfl
    | nil =>
      obtain ⟨k, o, f1, g0, hx, _⟩ := F1.open_ F2 false
      rw [List.append_nil] at hn ⊢
      rw [if_neg (by omega), if_neg (by omega), Int.toNat_natCast, hx]
      have hg : Tr.get q T = (subt q T).h := by have := get_app q [] T; rwa [List.append_nil] at this
      simp only [mkN_held, mkN_v]
      rw [hg]
      cases (subt q T).h <;> rfl
theorem putT_no {f : Nat} {t : TT} {key n v : Int} (hm : ¬ mayT t.width key n = true) : putT f t key n v = some (120, t) := by rw [putT, if_neg hm]
theorem put_law {t : TT} {T : Tr} (I : Inv t T) {key n : Int} (v : Int) {p : List Bool} (hm : mayT t.width key n = true) (hb : Bits t.width key 0 p) (hn : n = (p.length : Nat)) (hw : p.length < 40) (hl : t.ns.length ≤ 1048576) :
    (t.most < ((T.put v p).size : Nat) → putT 40 t key n v = some (122, t)) ∧
    (((T.put v p).size : Nat) ≤ t.most → ∃ t', putT 40 t key n v = some (0, t') ∧ Inv t' (T.put v p) ∧ t'.width = t.width ∧ t'.most = t.most ∧ t'.ns.length = max t.ns.length (T.put v p).size) := by
  have hsz := Tr.size_put v p T
  have hnod := I.nodes
  have hle := I.le
  have hhv := Tr.hv_le p T
  have key1 : ∃ (at_ i : Int), downT t key n = some (at_, i) ∧ i = (Tr.hv p T : Nat) - 1 ∧ ∃ t', (if i < 0 then (loopP key n v 40 at_ 0 (rootT t)).map fun t' => ((0 : Int), t') else (loopP key n v 40 at_ i t).map fun t' => ((0 : Int), t')) = some (0, t') ∧ Inv t' (T.put v p) ∧ t'.width = t.width ∧ t'.most = t.most ∧ t'.ns.length = max t.ns.length (T.put v p).size := by
    rcases I with ⟨rfl, hro, _, fs, hc, hnd, hlen⟩ | ⟨hT, hro, U, fs, hr, st⟩
    · refine ⟨0, -1, by rw [downT, if_neg (by rw [hro]; decide)], by rw [Tr.hv_nil]; rfl, ?_⟩
      have hL : (rootT t).ns.length = max t.ns.length 1 := by
        simp only [rootT, List.length_set]
        split
        · simp; omega
        · omega
      have h0 : (rootT t).ns[0]? = some zN := by
        rw [rootT]
        show (List.set _ 0 zN)[0]? = _
        rw [List.getElem?_set_self]
        split
        · simp
        · omega
      have hst : St (rootT t) [0] fs := by
        refine ⟨hc.frame fun k hk => ?_, ?_, ?_, ?_, ?_, by simp⟩
        · have := hc.pos k hk
          show (List.set _ 0 zN)[k]? = _
          rw [List.getElem?_set_ne (by omega), if_neg (by omega)]
        · rw [List.singleton_append, List.nodup_cons]
          exact ⟨fun h => absurd (hc.pos 0 h).1 (by omega), hnd⟩
        · rw [hL]
          rcases hlen with ⟨h1, rfl⟩ | h1
          · simp [h1]
          · rw [h1]; simp; omega
        · intro k hk
          rw [List.mem_singleton] at hk
          omega
        · show t.nodes + 1 = _
          rw [hnod]; rfl
      obtain ⟨t', news, fs', g', hl', hr', hp', st', _, w', m', ro', l', nl⟩ := loopP_go (key := key) (n := n) (v := v) p (.node none .nil .nil) 0 [0] 0 40 (rootT t) [0] fs ⟨0, 0, [], [], by rw [h0]; rfl, ⟨rfl, rfl⟩, ⟨rfl, rfl⟩, rfl, by simp⟩ (by simp) (by simp) (by intro b s' e; cases b <;> rfl) hst (fun k hk => hk) hb (by omega) hw (by simp; omega) (by rw [hL]; omega)
      rw [put_dead] at hr'
      rw [if_pos (by decide)]
      refine ⟨t', by show (loopP key n v 40 ((0 : Nat) : Int) 0 (rootT t)).map _ = _; rw [hl']; rfl, .inr ⟨Tr.put_ne v p _, ro', _, fs', hr', st'.perm hp'.symm⟩, w', m', ?_⟩
      rw [l', hL]
      rw [Tr.hv_nil] at hsz
      simp only [Tr.size, List.length_singleton] at hsz ⊢
      omega
    · obtain ⟨q, s, j, g, rest, rfl, hd, hv, hsb, F1, F2, F3, F4⟩ := down_go (n := n) p T 0 U 0 40 hr hT (List.nodup_append.1 st.nd).1 hb (by omega) hw
      have hU := F3
      have hndU := (List.nodup_append.1 (st.perm F3).nd).1
      have hnd2 := List.nodup_append.1 hndU
      rw [List.length_append] at hn hsz hhv hw
      obtain ⟨t', news, fs', g', hl', hr', hp', st', hk', w', m', ro', l', nl⟩ := loopP_go (key := key) (n := n) (v := v) s (subt q T) j g (0 + (q.length : Nat)) 40 t U fs F1 F2 hnd2.1 hsb st (fun k hk => F3.mem_iff.2 (List.mem_append_left _ hk)) hb.app.2 (by omega) (by omega) (by have := st.len; omega) (by omega)
      have hne : Tr.put v s (subt q T) ≠ .nil := Tr.put_ne v s _
      have hndn : (U ++ news).Nodup := (List.nodup_append.1 st'.nd).1
      obtain ⟨fp', hpf, hrf⟩ := F4 t'.ns _ g' hne hr' (fun k hk => hk' k (F3.mem_iff.2 (List.mem_append_right _ hk)) (fun hg => hnd2.2.2 k hg k hk rfl)) (fun k hk => by
        rcases List.mem_append.1 (hp'.mem_iff.1 hk) with h | h
        · exact .inl h
        · exact .inr fun e => (List.nodup_append.1 hndn).2.2 0 st.zero 0 (e ▸ h) rfl)
      refine ⟨(j : Int), (0 : Int) + (q.length : Nat), by rw [downT, if_pos hro]; exact hd, by rw [hv]; omega, t', ?_, ?_, w', m', ?_⟩
      · rw [if_neg (by omega), hl']; rfl
      · rw [put_app]
        refine .inr ⟨repl_ne hne, by rw [ro', hro], fp', fs', hrf, st'.perm ?_⟩
        refine List.Perm.trans ?_ hpf.symm
        refine List.Perm.trans (F3.append_right news) ?_
        refine List.Perm.trans ?_ (hp'.append_right rest).symm
        rw [List.append_assoc, List.append_assoc]
        exact List.Perm.append_left g List.perm_append_comm
      · rw [l']
        have := hr.len
        omega
  obtain ⟨at_, i, hd, hi, t', hlp, hI, hw', hm', hl'⟩ := key1
  constructor
  · intro hlt
    rw [putT, if_pos hm, hd]
    simp only
    rw [if_pos ⟨by omega, by omega, by omega, by omega, by omega⟩, if_pos (by omega)]
  · intro hge
    refine ⟨t', ?_, hI, hw', hm', hl'⟩
    rw [putT, if_pos hm, hd]
    simp only
    rw [if_pos ⟨by omega, by omega, by omega, by omega, by omega⟩, if_neg (by omega)]
    exact hlp
end Go.Proofs.Ytofjbbfnkefoaaa.Fs
