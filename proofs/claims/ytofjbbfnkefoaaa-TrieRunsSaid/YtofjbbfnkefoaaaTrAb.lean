/- Tries told by trees alone: each call's answer and what it leaves. -/
import Derived.Test.YtofjbbfnkefoaaaTrSeq
namespace Go.Proofs.Ytofjbbfnkefoaaa.Fs
open Go Go.RowKit Go.Proofs.Ytofjbbfnkefoaaa.Sx Go.Proofs.Ytofjbbfnkefoaaa.Tp
set_option linter.unusedVariables false
set_option linter.unusedSimpArgs false
set_option maxRecDepth 10000
structure Ab where
  T : Tr
  ar : Nat
def putA (w : Nat) (most : Int) (s : Ab) (k : Nat) (n v : Int) : Int × Ab :=
  if mayT w k n = true then (if most < (((s.T.put v (pa w k n.toNat)).size : Nat) : Int) then (122, s) else (0, ⟨s.T.put v (pa w k n.toNat), max s.ar (s.T.put v (pa w k n.toNat)).size⟩)) else (120, s)
def cutA (w : Nat) (s : Ab) (k : Nat) (n : Int) : Int × Ab :=
  if mayT w k n = true then (if s.T.get (pa w k n.toNat) = none then (121, s) else (0, ⟨s.T.cut (pa w k n.toNat), s.ar⟩)) else (120, s)
def getA (w : Nat) (s : Ab) (k : Nat) (n : Int) : Int × Bool := if mayT w k n = true then outG (s.T.get (pa w k n.toNat)) else (0, false)
structure TGd (w : Nat) (most : Int) (t : TT) (s : Ab) : Prop where
  inv : Inv t s.T
  wid : t.width = w
  mst : t.most = most
  ar : t.ns.length = s.ar
  ok : s.T.Ok
  dp : s.T.Dp w
  w3 : W3 w
  m0 : 0 ≤ most ∧ most ≤ 1048576
  le : (s.ar : Int) ≤ most
theorem TGd.new {w : Nat} {most : Int} (hw : W3 w) (hm : 0 ≤ most ∧ most ≤ 1048576) : TGd w most ⟨w, most, [], 0, 0, false⟩ ⟨.nil, 0⟩ :=
  ⟨Inv.new _ _, rfl, rfl, rfl, True.intro, Tr.dp_nil w, hw, hm, hm.1⟩
theorem TGd.size {w : Nat} {most : Int} {t : TT} {s : Ab} (G : TGd w most t s) : s.T.size ≤ s.ar := by
  have := G.inv.le
  rw [G.ar] at this
  exact this
theorem put_ab {w : Nat} {most : Int} {t : TT} {s : Ab} (G : TGd w most t s) {k : Nat} (hk : k < 4294967296) (n v : Int) : ∃ t', putT 40 t k n v = some ((putA w most s k n v).1, t') ∧ TGd w most t' (putA w most s k n v).2 := by
  unfold putA
  by_cases hm : mayT w k n = true
  · rw [if_pos hm]
    obtain ⟨m, rfl, hmw⟩ := mayT_nat hm
    rw [Int.toNat_natCast]
    have hwl := G.w3.le
    have hle := G.le
    have hl := put_law G.inv (key := k) (n := m) v (p := pa w k m) (by rw [G.wid]; exact hm) (by rw [G.wid]; exact bits_key (by omega) hk hmw) (by rw [pa_len]) (by rw [pa_len]; omega) (by rw [G.ar]; have := G.m0; omega)
    rw [G.mst] at hl
    by_cases hc : most < (((s.T.put v (pa w k m)).size : Nat) : Int)
    · rw [if_pos hc]
      exact ⟨t, hl.1 hc, G⟩
    · rw [if_neg hc]
      obtain ⟨t', h1, h2, h3, h4, h5⟩ := hl.2 (by omega)
      refine ⟨t', h1, h2, h3.trans G.wid, h4, by rw [h5, G.ar], Tr.ok_put _ _ _ G.ok, Tr.Dp.put v w _ _ G.dp (by rw [pa_len]; exact hmw), G.w3, G.m0, ?_⟩
      show (((max s.ar (s.T.put v (pa w k m)).size : Nat)) : Int) ≤ most
      omega
  · rw [if_neg hm]
    exact ⟨t, putT_no (by rw [G.wid]; exact hm), G⟩
theorem cut_ab {w : Nat} {most : Int} {t : TT} {s : Ab} (G : TGd w most t s) {k : Nat} (hk : k < 4294967296) (n : Int) : ∃ t', cutT 40 t k n = some ((cutA w s k n).1, t') ∧ TGd w most t' (cutA w s k n).2 := by
  unfold cutA
  by_cases hm : mayT w k n = true
  · rw [if_pos hm]
    obtain ⟨m, rfl, hmw⟩ := mayT_nat hm
    rw [Int.toNat_natCast]
    have hwl := G.w3.le
    have hle := G.le
    by_cases hg : s.T.get (pa w k m) = none
    · rw [if_pos hg]
      exact ⟨t, cut_none G.inv (by rw [G.wid]; exact hm) (by rw [G.wid]; exact bits_key (by omega) hk hmw) (by rw [pa_len]) (by rw [pa_len]; omega) hg, G⟩
    · rw [if_neg hg]
      obtain ⟨t', h1, h2, h3, h4, h5⟩ := cut_some G.inv (key := k) (n := m) (p := pa w k m) (by rw [G.wid]; exact hm) (by rw [G.wid]; exact bits_key (by omega) hk hmw) (by rw [pa_len]) (by rw [pa_len]; omega) (by rw [pa_len, G.wid]; omega) (by rw [G.ar]; have := G.m0; omega) hg
      exact ⟨t', h1, h2, h3.trans G.wid, h4.trans G.mst, by rw [h5, G.ar], Tr.ok_cut _ _ G.ok, Tr.Dp.cut w _ _ G.dp, G.w3, G.m0, G.le⟩
  · rw [if_neg hm]
    exact ⟨t, cutT_no (by rw [G.wid]; exact hm), G⟩
theorem get_ab {w : Nat} {most : Int} {t : TT} {s : Ab} (G : TGd w most t s) {k : Nat} (hk : k < 4294967296) (n : Int) : getT t k n = some (getA w s k n) := by
  unfold getA
  by_cases hm : mayT w k n = true
  · rw [if_pos hm]
    obtain ⟨m, rfl, hmw⟩ := mayT_nat hm
    rw [Int.toNat_natCast]
    have hwl := G.w3.le
    exact get_law G.inv (by rw [G.wid]; exact hm) (by rw [G.wid]; exact bits_key (by omega) hk hmw) (by rw [pa_len]) (by rw [pa_len]; omega)
  · rw [if_neg hm]
    exact getT_no (by rw [G.wid]; exact hm)
theorem aboveT_go {ns : List Node} {w k n : Nat} (hw : w ≤ 32) (hk : k < 4294967296) (hkw : k < 2 ^ w) (hn : n ≤ w) : ∀ (p : List Bool) (T : Tr) (i : Nat) (fp : List Nat) (q : List Bool) (f : Nat), Rep ns T i fp → T ≠ .nil → Bits w k q.length p → q ++ p = pa w k n → p.length < f →
    aboveT ns w k n f (i : Int) (q.length : Nat) = some ((Tr.above p T q).map (enW w)) := by
  intro p
  induction p with
  | nil =>
    intro T i fp q f hr hT hb hq hf
    obtain ⟨f, rfl⟩ : ∃ f', f = f' + 1 := ⟨f - 1, by simp at hf; omega⟩
    obtain ⟨kk, o, f1, g0, hx, h1, h2, hp, z1, z2⟩ := hr.open_ hT false
    rw [List.append_nil] at hq
    have hql : q.length = n := by rw [hq, pa_len]
    have htop : topT w k (q.length : Nat) = (kv w q : Nat) := by
      rw [topT_nat (by omega) hw hk hkw]
      congr 1
      rw [hq, pa_len]
    rw [aboveT, if_neg (by omega), Int.toNat_natCast, hx]
    simp only
    rw [if_pos (by omega), mkN_held, mkN_v, htop]
    cases hh : T.h with
    | some x => simp [Tr.above, hh, Tr.hdE, enW]
    | none => simp [Tr.above, hh, Tr.hdE]
  | cons bb p ih =>
    intro T i fp q f hr hT hb hq hf
    obtain ⟨f, rfl⟩ : ∃ f', f = f' + 1 := ⟨f - 1, by simp at hf; omega⟩
    rw [List.length_cons] at hf
    obtain ⟨kk, o, f1, g0, hx, h1, h2, hp, z1, z2⟩ := hr.open_ hT bb
    obtain ⟨hb0, hb1⟩ := hb
    have hql : q.length + p.length + 1 = n := by
      have := congrArg List.length hq
      rw [pa_len, List.length_append, List.length_cons] at this
      omega
    have hqp : q = pa w k q.length := by
      have := pa_take n q.length w k (by omega)
      rw [← hq] at this
      simpa using this
    have htop : topT w k (q.length : Nat) = (kv w q : Nat) := by
      rw [topT_nat (by omega) hw hk hkw, ← hqp]
    have hlen : ((q ++ [bb]).length : Int) = (q.length : Int) + 1 := by simp
    have hrest : (if (kk : Int) = 0 then some [] else aboveT ns w k n f (kk : Int) ((q.length : Nat) + 1)) = some ((Tr.above p (T.sub bb) (q ++ [bb])).map (enW w)) := by
      by_cases hk0 : kk = 0
      · have hs := (h1.kid0 z1).1 hk0
        rw [if_pos (by omega), hs, Tr.above_nil]
        rfl
      · have hs : T.sub bb ≠ .nil := fun e => hk0 ((h1.kid0 z1).2 e)
        rw [if_neg (by omega), ← hlen]
        exact ih (T.sub bb) kk f1 (q ++ [bb]) f h1 hs (by rw [hlen]; exact hb1) (by rw [← hq]; simp) (by omega)
    rw [aboveT, if_neg (by omega), Int.toNat_natCast, hx]
    simp only
    have hb01 := bi01 bb
    rw [if_neg (by omega), hb0, if_neg (by omega), mkN_held, mkN_v, mkN_kid, htop, hrest]
    cases hh : T.h with
    | some x => simp [Tr.above, hh, Tr.hdE, enW]
    | none => simp [Tr.above, hh, Tr.hdE]
theorem above_ab {w : Nat} {most : Int} {t : TT} {s : Ab} (G : TGd w most t s) {k : Nat} (hk : k < 4294967296) (n : Int) : aboveAll 40 t k n = some (abovL s.T w k n) := by
  unfold aboveAll abovL
  rw [G.wid]
  by_cases hm : mayT w k n = true
  · rw [if_pos hm, if_pos hm]
    obtain ⟨m, rfl, hmw⟩ := mayT_nat hm
    rw [Int.toNat_natCast]
    have hwl := G.w3.le
    have hmi := (may_iff G.w3 hk m).1 hm
    rcases G.inv with ⟨hT, hro, _, _⟩ | ⟨hT, hro, U, fs, hr, st⟩
    · rw [if_neg (by rw [hro]; decide), hT, Tr.above_nil]
      rfl
    · rw [if_pos hro]
      exact aboveT_go (by omega) hk hmi.2.1 hmw (pa w k m) s.T 0 U [] 40 hr hT (bits_key (by omega) hk hmw) (by simp) (by rw [pa_len]; omega)
  · rw [if_neg hm, if_neg hm]
theorem TGd.w64 {w : Nat} {most : Int} {t : TT} {s : Ab} (G : TGd w most t s) : 0 ≤ t.width ∧ t.width ≤ 64 := by
  have := G.w3.le
  have := G.wid
  omega
/-- A trie in the heap that is such a tree. -/
def TrG (h : Hp) (b : Nat) (S : Nat → Prop) (w : Nat) (most : Int) (s : Ab) : Prop := ∃ t, TrAt h b S t ∧ TGd w most t s
theorem TrG.ext {h h' : Hp} {b : Nat} {S : Nat → Prop} {w : Nat} {most : Int} {s : Ab} (q : TrG h b S w most s) (e : Ext h h') : TrG h' b S w most s := by
  obtain ⟨t, q, G⟩ := q
  exact ⟨t, q.ext e, G⟩
theorem tput_a {h : Hp} {b : Nat} {S : Nat → Prop} {w : Nat} {most : Int} {s : Ab} (q : TrG h b S w most s) {k : Nat} (hk : k < 4294967296) (n v : Int) {K : Value → Hp → Prop} (H : ∀ h' S', TrG h' b S' w most (putA w most s k n v).2 → (∀ k, S' k → S k ∨ h.size ≤ k) → Fr S h h' → K (.int .i64 (putA w most s k n v).1) h') :
    CallsH Try.prog 31 #[.pointer (some ⟨b, 0, none⟩), .int .u32 (k : Int), .int .i64 n, .int .i64 v] h K := by
  obtain ⟨t, q, G⟩ := q
  obtain ⟨t', hp, G'⟩ := put_ab G hk n v
  exact put_s q G.w64 k n v hp fun h' ⟨S', q', s', f'⟩ => H h' S' ⟨t', q', G'⟩ s' f'
theorem tcut_a {h : Hp} {b : Nat} {S : Nat → Prop} {w : Nat} {most : Int} {s : Ab} (q : TrG h b S w most s) {k : Nat} (hk : k < 4294967296) (n : Int) {K : Value → Hp → Prop} (H : ∀ h', TrG h' b S w most (cutA w s k n).2 → Fr S h h' → K (.int .i64 (cutA w s k n).1) h') :
    CallsH Try.prog 32 #[.pointer (some ⟨b, 0, none⟩), .int .u32 (k : Int), .int .i64 n] h K := by
  obtain ⟨t, q, G⟩ := q
  obtain ⟨t', hp, G'⟩ := cut_ab G hk n
  exact cut_s q G.w64 k n hp fun h' q' f' => H h' ⟨t', q', G'⟩ f'
theorem tget_a {h : Hp} {b : Nat} {S : Nat → Prop} {w : Nat} {most : Int} {s : Ab} (q : TrG h b S w most s) {k : Nat} (hk : k < 4294967296) (n : Int) {K : Value → Hp → Prop} (H : K (.tuple #[.int .i64 (getA w s k n).1, .bool (getA w s k n).2]) h) :
    CallsH Try.prog 29 #[.pointer (some ⟨b, 0, none⟩), .int .u32 (k : Int), .int .i64 n] h K := by
  obtain ⟨t, q, G⟩ := q
  exact get_s q G.w64 k n (get_ab G hk n) H
theorem tnodes_a {h : Hp} {b : Nat} {S : Nat → Prop} {w : Nat} {most : Int} {s : Ab} (q : TrG h b S w most s) {K : Value → Hp → Prop} (H : K (.int .i64 (s.T.size : Nat)) h) : CallsH Try.prog 36 #[.pointer (some ⟨b, 0, none⟩)] h K := by
  obtain ⟨t, q, G⟩ := q
  refine tnodes_s q ?_
  rw [G.inv.nodes]; exact H
theorem tarena_a {h : Hp} {b : Nat} {S : Nat → Prop} {w : Nat} {most : Int} {s : Ab} (q : TrG h b S w most s) {K : Value → Hp → Prop} (H : K (.int .i64 (s.ar : Nat)) h) : CallsH Try.prog 37 #[.pointer (some ⟨b, 0, none⟩)] h K := by
  obtain ⟨t, q, G⟩ := q
  refine tarena_s q ?_
  rw [G.ar]; exact H
theorem tlongest_a {h : Hp} {b : Nat} {S : Nat → Prop} {w : Nat} {most : Int} {s : Ab} (q : TrG h b S w most s) {k : Nat} (hk : k < 4294967296) {K : Value → Hp → Prop} (H : ∀ h', Ext h h' → K (.tuple #[En.val (lastE (abovL s.T w k w)), .bool (!(abovL s.T w k w).isEmpty)]) h') : CallsH Try.prog 30 #[.pointer (some ⟨b, 0, none⟩), .int .u32 (k : Int)] h K := by
  obtain ⟨t, q, G⟩ := q
  refine longest_s (F := 40) q G.w64 k ?_ H
  rw [longT, G.wid, above_ab G hk w]
  rfl
theorem twalk_a {h : Hp} {b : Nat} {S : Nat → Prop} {w : Nat} {most : Int} {s : Ab} (q : TrG h b S w most s) {K : Value → Hp → Prop} (H : ∀ h' lb, Ext h h' → SeqAt h' 56 lb ((s.T.ents []).map (enW w)) → K (.func (.func 56) #[] lb) h') : CallsH Try.prog 35 #[.pointer (some ⟨b, 0, none⟩)] h K := by
  obtain ⟨t, q, G⟩ := q
  exact walk_s _ fun h' a1 e l1 m1 c => H h' _ e (walk_seq (q.ext e) G.inv G.dp G.wid G.w3.le.2 c)
theorem tabove_a {h : Hp} {b : Nat} {S : Nat → Prop} {w : Nat} {most : Int} {s : Ab} (q : TrG h b S w most s) {k : Nat} (hk : k < 4294967296) (n : Int) {K : Value → Hp → Prop} (H : ∀ h' lb, Ext h h' → SeqAt h' 55 lb (abovL s.T w k n) → K (.func (.func 55) #[] lb) h') : CallsH Try.prog 34 #[.pointer (some ⟨b, 0, none⟩), .int .u32 (k : Int), .int .i64 n] h K := by
  obtain ⟨t, q, G⟩ := q
  exact above_s _ _ _ fun h' a1 a2 a3 e _ _ _ _ _ _ c1 c2 c3 => H h' _ e (above_seq (q.ext e) G.inv G.wid G.w3 hk c1 c2 c3)
theorem ents_len {w : Nat} {most : Int} {h : Hp} {b : Nat} {S : Nat → Prop} {s : Ab} (q : TrG h b S w most s) : ((s.T.ents []).map (enW w)).length ≤ 1048576 := by
  obtain ⟨t, q, G⟩ := q
  have := Tr.len_ents s.T []
  have := G.size
  have := G.le
  have := G.m0
  rw [List.length_map]
  omega
theorem abovL_len {w : Nat} {most : Int} {h : Hp} {b : Nat} {S : Nat → Prop} {s : Ab} (q : TrG h b S w most s) (k : Nat) (n : Int) : (abovL s.T w k n).length ≤ 1048576 := by
  obtain ⟨t, q, G⟩ := q
  unfold abovL
  split
  · rw [List.length_map, Tr.above_ents]
    have := Tr.len_ents s.T []
    have := List.length_filter_le (fun (e : List Bool × Int) => e.1.isPrefixOf ([] ++ pa w k n.toNat)) (s.T.ents [])
    have := G.size
    have := G.le
    have := G.m0
    omega
  · simp
end Go.Proofs.Ytofjbbfnkefoaaa.Fs
