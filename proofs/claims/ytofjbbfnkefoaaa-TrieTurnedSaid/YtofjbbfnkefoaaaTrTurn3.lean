/- TrieTurned, the law. -/
import Derived.Test.YtofjbbfnkefoaaaTrTurn2
namespace Go.Proofs.Ytofjbbfnkefoaaa.Fs
open Go Go.RowKit Go.Proofs.Ytofjbbfnkefoaaa.Sx Go.Proofs.Ytofjbbfnkefoaaa.Tp
set_option linter.unusedVariables false
set_option linter.unusedSimpArgs false
set_option maxRecDepth 10000
theorem turn_j11 {w : Nat} {s : Ab} {h : Hp} {b b' : Nat} {S S' : Nat → Prop} (q : TrG h b S w 1048576 s) (q' : TrG h b' S' w 1048576 s) {K0 : Bool → Hp → Prop} (H : ∀ h', Ext h h' → K0 true h') : quintetlaw12_TrieTurned_j11 K0 (some ⟨b, 0, none⟩) (some ⟨b', 0, none⟩) h := by
  unfold quintetlaw12_TrieTurned_j11
  refine awake_s fun h1 e1 => ⟨_, rfl, br_t rfl ?_⟩
  refine twalk_a (q'.ext e1) fun h2 lb2 e2 sq2 => ⟨_, rfl, ?_⟩
  refine twalk_a ((q.ext e1).ext e2) fun h3 lb3 e3 sq3 => ⟨_, rfl, ?_⟩
  have hl := ents_len q
  refine told_s sq3 (by omega) fun h4 A4 c4 e4 r4 => ⟨_, _, _, rfl, ?_⟩
  refine same_s ((sq2.ext e3).ext e4) r4.read (by omega) 1 (by decide) (by decide) fun h5 e5 => ⟨_, rfl, br_t rfl ?_⟩
  have E := (((e1.trans e2).trans e3).trans e4).trans e5
  refine tnodes_a (q.ext E) ⟨_, rfl, ?_⟩
  refine tnodes_a (q'.ext E) ⟨_, rfl, br_t (by simp) ?_⟩
  refine tarena_a (q.ext E) ⟨_, rfl, ?_⟩
  refine tarena_a (q'.ext E) ⟨_, rfl, ?_⟩
  have hb : (((s.ar : Nat) : Int) == ((s.ar : Nat) : Int)) = true := by simp
  rw [hb]
  exact H h5 E
theorem turn_j6 {w : Nat} (hw : W3 w) {h0 : Hp} {A : Option Addr} {c : Nat} {xs : List OpR} (hz : ∀ o, o ∈ xs → o.kind = 0 ∧ o.second = false) (hk : ∀ o, o ∈ xs → o.key < 4294967296) (r : RSl h0 A xs.length 3 ((xs.map eE).flatMap En.enc)) (hbd : xs.length ≤ 4000) {K0 : Bool → Hp → Prop} (H : ∀ h', Ext h0 h' → K0 true h') : quintetlaw12_TrieTurned_j6 K0 w A xs.length c h0 := by
  unfold quintetlaw12_TrieTurned_j6
  refine ⟨xs.length + 1, ?_⟩
  refine turn_l8 r hbd (fun h' e => H h' e) (fun hp => ?_) xs.length 0 _ (by omega) (by omega) (by simp)
  refine ⟨xs.length + 1, ?_⟩
  refine turn_l10 hz r hbd (fun h1 A1 c1 A2 c2 e1 r1 r2 => ?_) xs.length 0 _ h0 none none 0 0 [] [] (by omega) (by omega) (by simp) (by simp) (Ext.refl _) (.inl ⟨rfl, rfl, rfl, rfl⟩) (.inl ⟨rfl, rfl, rfl, rfl⟩) (by rintro k ⟨a, ha, _⟩; cases ha) (by rintro k ⟨a, ha, _⟩; cases ha) (by rintro k ⟨a, ha, _⟩; cases ha) (by rintro k ⟨a, ha, _⟩; cases ha)
  refine played_s hw r1.read rfl (by omega) hk fun h2 b S e2 q hS => ⟨_, rfl, ?_⟩
  refine played_s hw (r2.read.ext e2) rfl (by rw [List.length_reverse]; omega) (fun o ho => hk o (by simpa using ho)) fun h3 b' S' e3 q' hS' => ⟨_, rfl, _, eqNil eq32, br_f rfl ⟨_, eqNil eq32, br_f rfl ?_⟩⟩
  rw [← turned hw (fun o ho => ⟨by rw [(hz o ho).1]; decide, hk o ho⟩) hp hbd] at q'
  exact turn_j11 (q.ext e3) q' fun h4 e4 => H h4 (((e1.trans e2).trans e3).trans e4)
theorem TrieTurned_s (w : Int) (A : Option Addr) (c : Nat) (xs : List OpR) (hz : ∀ o, o ∈ xs → o.kind = 0 ∧ o.second = false) (hk : ∀ o, o ∈ xs → o.key < 4294967296) {h : Hp} (r : RSl h A xs.length 3 ((xs.map eE).flatMap En.enc)) {K : Value → Hp → Prop} (H : ∀ h', Ext h h' → K (.bool true) h') :
    CallsH Try.prog 10 #[.int .i64 w, .slice A xs.length c] h K := by
  refine quintetlaw12_TrieTurned_ok _ _ _ _ ?_
  unfold quintetlaw12_TrieTurned
  have aw : CallsH Try.prog 38 #[] h fun r1021 h1020 => ∃ b1022 : Bool, r1021 = (.bool b1022) ∧ K (.bool b1022) h1020 := awake_s fun h1 e1 => ⟨_, rfl, H h1 e1⟩
  have go : (w = 8 ∨ w = 16 ∨ w = 32) → br (decide ((xs.length : Int) > 4000)) (CallsH Try.prog 38 #[] h fun r1021 h1020 => ∃ b1022 : Bool, r1021 = (.bool b1022) ∧ K (.bool b1022) h1020) (quintetlaw12_TrieTurned_j6 (fun (b1026 : Bool) (h1027 : Hp) => K (.bool b1026) h1027) w A xs.length c h) := by
    intro hw3
    refine br_i (fun _ => aw) (fun hlen => ?_)
    have hlen' : xs.length ≤ 4000 := by simp at hlen; omega
    obtain ⟨w, rfl⟩ := Int.eq_ofNat_of_zero_le (a := w) (by omega)
    have hw : W3 w := by unfold W3; omega
    exact turn_j6 hw hz hk r hlen' fun h' e => H h' e
  refine br_i (fun h0 => br_i (fun h1 => br_i (fun h2 => aw) (fun h2 => go (by simp at h2; omega))) (fun h1 => go (by simp at h1; omega))) (fun h0 => go (by simp at h0; omega))
end Go.Proofs.Ytofjbbfnkefoaaa.Fs
