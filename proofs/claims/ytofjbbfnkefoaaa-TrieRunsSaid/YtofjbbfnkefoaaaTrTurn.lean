/- TrieTurned: the plain law. -/
import Derived.Test.YtofjbbfnkefoaaaTrSame2
namespace Go.Proofs.Ytofjbbfnkefoaaa.Fs
open Go Go.RowKit Go.Proofs.Ytofjbbfnkefoaaa.Sx Go.Proofs.Ytofjbbfnkefoaaa.Tp
set_option linter.unusedVariables false
set_option linter.unusedSimpArgs false
set_option maxRecDepth 10000
/-- Two calls speak of keys that are unlike. -/
def Unl (a b : OpR) : Prop := ¬ (a.key = b.key ∧ a.n = b.n)
def vld (w : Nat) (o : OpR) : Prop := mayT w o.key o.n = true
def pth (w : Nat) (o : OpR) : List Bool := pa w o.key o.n.toNat
theorem pth_apart {w : Nat} (hw : W3 w) {a b : OpR} (ha : vld w a) (hb : vld w b) (ka : a.key < 4294967296) (kb : b.key < 4294967296) (h : Unl a b) : pth w a ≠ pth w b := by
  intro e
  obtain ⟨m, hm, hmw⟩ := mayT_nat ha
  obtain ⟨m', hm', hmw'⟩ := mayT_nat hb
  have hl := congrArg List.length e
  rw [pth, pth, pa_len, pa_len, hm, hm', Int.toNat_natCast, Int.toNat_natCast] at hl
  subst hl
  unfold vld at ha hb
  rw [hm] at ha
  rw [hm'] at hb
  rw [pth, pth, hm, hm', Int.toNat_natCast] at e
  have h1 := (may_path hw ka ha).2
  have h2 := (may_path hw kb hb).2
  refine h ⟨?_, by rw [hm, hm']⟩
  rw [← h1, ← h2, e]
/-- Puts alone, with room for all. -/
structure Puts (w : Nat) (os : List OpR) (n0 : Nat) (s0 s : Ab) : Prop where
  ok : s.T.Ok
  size : s.T.size ≤ n0 + 33 * os.length
  ar : s.ar = s.T.size
  get : ∀ q v, s.T.get q = some v ↔ (∃ o, o ∈ os ∧ vld w o ∧ pth w o = q ∧ o.v = v) ∨ (s0.T.get q = some v ∧ ∀ o, o ∈ os → vld w o → pth w o ≠ q)
theorem puts_go {w : Nat} (hw : W3 w) : ∀ (os : List OpR) (n0 : Nat) (s0 : Ab), (∀ o, o ∈ os → o.kind ≠ 1 ∧ o.key < 4294967296) → os.Pairwise Unl → s0.T.Ok → s0.T.size ≤ n0 → s0.ar = s0.T.size → n0 + 33 * os.length ≤ 1048576 → Puts w os n0 s0 (os.foldl (playA w 1048576) s0)
  | [], n0, s0, _, _, ho, hs, ha, _ => ⟨ho, by simpa using hs, ha, fun q v => by simp⟩
  | o :: os, n0, s0, hk, hp, ho, hs, ha, hb => by
    rw [List.length_cons] at hb
    obtain ⟨hk0, hkk⟩ := hk o (by simp)
    rw [List.foldl_cons]
    have hpl : playA w 1048576 s0 o = (putA w 1048576 s0 o.key o.n o.v).2 := by rw [playA, if_neg hk0]
    rw [List.pairwise_cons] at hp
    by_cases hm : mayT w o.key o.n = true
    · obtain ⟨m, hme, hmw⟩ := mayT_nat hm
      have hwl := hw.le
      have hsz := Tr.size_put o.v (pth w o) s0.T
      rw [pth, pa_len, hme, Int.toNat_natCast] at hsz
      have hput : playA w 1048576 s0 o = ⟨s0.T.put o.v (pth w o), max s0.ar (s0.T.put o.v (pth w o)).size⟩ := by
        rw [hpl]
        unfold putA
        rw [if_pos hm, if_neg (by rw [hme, Int.toNat_natCast]; omega)]
        rfl
      have hsz' : (s0.T.put o.v (pth w o)).size ≤ n0 + 33 := by
        rw [pth, hme, Int.toNat_natCast]; omega
      have hle := Tr.size_le_put o.v (pth w o) s0.T
      have ih := puts_go hw os (n0 + 33) (playA w 1048576 s0 o) (fun o' h' => hk o' (by simp [h'])) hp.2 (by rw [hput]; exact Tr.ok_put _ _ _ ho) (by rw [hput]; exact hsz') (by rw [hput]; show max s0.ar (s0.T.put o.v (pth w o)).size = (s0.T.put o.v (pth w o)).size; omega) (by omega)
      refine ⟨ih.ok, by have := ih.size; rw [List.length_cons]; omega, ih.ar, fun q v => ?_⟩
      rw [ih.get q v, hput]
      show _ ∨ (Tr.get q (Tr.put o.v (pth w o) s0.T) = some v ∧ _) ↔ _
      rw [Tr.get_put]
      constructor
      · rintro (⟨o', h1, h2, h3, h4⟩ | ⟨h1, h2⟩)
        · exact .inl ⟨o', by simp [h1], h2, h3, h4⟩
        · by_cases hq : q = pth w o
          · rw [if_pos hq] at h1
            exact .inl ⟨o, by simp, hm, hq.symm, by simpa using h1⟩
          · rw [if_neg hq] at h1
            refine .inr ⟨h1, fun o' h' hv => ?_⟩
            rcases List.mem_cons.1 h' with rfl | h'
            · exact fun e => hq e.symm
            · exact h2 o' h' hv
      · rintro (⟨o', h1, h2, h3, h4⟩ | ⟨h1, h2⟩)
        · rcases List.mem_cons.1 h1 with rfl | h1
          · refine .inr ⟨by rw [if_pos h3.symm, h4], fun o'' h'' hv'' e => ?_⟩
            exact pth_apart hw hm hv'' hkk (hk o'' (by simp [h''])).2 (hp.1 o'' h'') (h3.trans e.symm)
          · exact .inl ⟨o', h1, h2, h3, h4⟩
        · have hq : q ≠ pth w o := fun e => h2 o (by simp) hm e.symm
          exact .inr ⟨by rw [if_neg hq]; exact h1, fun o' h' hv => h2 o' (by simp [h']) hv⟩
    · have hput : playA w 1048576 s0 o = s0 := by
        rw [hpl]
        unfold putA
        rw [if_neg hm]
      have ih := puts_go hw os (n0 + 33) s0 (fun o' h' => hk o' (by simp [h'])) hp.2 ho (by omega) ha (by omega)
      rw [hput]
      refine ⟨ih.ok, by have := ih.size; rw [List.length_cons]; omega, ih.ar, fun q v => ?_⟩
      rw [ih.get q v]
      constructor
      · rintro (⟨o', h1, h2, h3, h4⟩ | ⟨h1, h2⟩)
        · exact .inl ⟨o', by simp [h1], h2, h3, h4⟩
        · refine .inr ⟨h1, fun o' h' hv => ?_⟩
          rcases List.mem_cons.1 h' with rfl | h'
          · exact absurd hv hm
          · exact h2 o' h' hv
      · rintro (⟨o', h1, h2, h3, h4⟩ | ⟨h1, h2⟩)
        · rcases List.mem_cons.1 h1 with rfl | h1
          · exact absurd h2 hm
          · exact .inl ⟨o', h1, h2, h3, h4⟩
        · exact .inr ⟨h1, fun o' h' hv => h2 o' (by simp [h']) hv⟩
/-- The order of the puts does not matter. -/
theorem turned {w : Nat} (hw : W3 w) {os : List OpR} (hk : ∀ o, o ∈ os → o.kind ≠ 1 ∧ o.key < 4294967296) (hp : os.Pairwise Unl) (hl : os.length ≤ 4000) : os.foldl (playA w 1048576) ⟨.nil, 0⟩ = os.reverse.foldl (playA w 1048576) ⟨.nil, 0⟩ := by
  have h1 := puts_go hw os 0 ⟨.nil, 0⟩ hk hp True.intro (Nat.le_refl _) rfl (by omega)
  have h2 := puts_go hw os.reverse 0 ⟨.nil, 0⟩ (fun o ho => hk o (by simpa using ho)) (by rw [List.pairwise_reverse]; exact hp.imp fun h e => h ⟨e.1.symm, e.2.symm⟩) True.intro (Nat.le_refl _) rfl (by rw [List.length_reverse]; omega)
  revert h1 h2
  generalize os.foldl (playA w 1048576) ⟨.nil, 0⟩ = s1
  generalize os.reverse.foldl (playA w 1048576) ⟨.nil, 0⟩ = s2
  intro h1 h2
  have hT : s1.T = s2.T := by
    refine Tr.ext _ _ h1.ok h2.ok fun q => ?_
    have key : ∀ v, s1.T.get q = some v ↔ s2.T.get q = some v := fun v => by
      rw [h1.get, h2.get]
      simp [Tr.get_nil]
    cases hq : s1.T.get q with
    | some v => exact ((key v).1 hq).symm
    | none =>
      cases hq2 : s2.T.get q with
      | none => rfl
      | some v => rw [(key v).2 hq2] at hq; cases hq
  have ha : s1.ar = s2.ar := by rw [h1.ar, h2.ar, hT]
  cases s1; cases s2
  simp only at hT ha
  rw [hT, ha]
end Go.Proofs.Ytofjbbfnkefoaaa.Fs
