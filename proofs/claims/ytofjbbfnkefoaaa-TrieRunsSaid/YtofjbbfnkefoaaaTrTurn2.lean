/- TrieTurned: the walk. -/
import Derived.Test.YtofjbbfnkefoaaaTrTurn
namespace Go.Proofs.Ytofjbbfnkefoaaa.Fs
open Go Go.RowKit Go.Proofs.Ytofjbbfnkefoaaa.Sx Go.Proofs.Ytofjbbfnkefoaaa.Tp
set_option linter.unusedVariables false
set_option linter.unusedSimpArgs false
set_option maxRecDepth 10000
theorem lt_of_row {α : Type} {enc : α → List Value} {sz : Nat} {h : Hp} {E : Nat} {A : Option Addr} {c : Nat} {xs : List α} (r : Row h E enc sz A c xs) {k : Nat} (hk : blk A k) : k < h.size := by
  rcases r with ⟨hA, _⟩ | ⟨g, rest, hA, hg, _⟩
  · rw [hA] at hk; obtain ⟨a, ha, _⟩ := hk; cases ha
  · rw [hA] at hk
    obtain ⟨a, ha, rfl⟩ := hk
    injection ha with ha
    rw [← ha]
    exact lt_of_get hg
def eE (o : OpR) : En := ((o.key : Int), o.n, o.v)
theorem turn_l9 {w : Int} {A : Option Addr} {c i : Nat} {xs : List OpR} {h : Hp} (r : RSl h A xs.length 3 ((xs.map eE).flatMap En.enc)) (hi : i < xs.length) (hbd : xs.length ≤ 4000) {K0 : Bool → Hp → Prop} {K1 : Int → Option Addr → Nat → Nat → Int → Hp → Prop} (H0 : ∀ h', Ext h h' → K0 true h') (H1 : (∀ k (hk : k < i), Unl (xs[k]'(by omega)) (xs[i]'hi)) → K1 w A xs.length c i h) :
    ∀ (d k f : Nat), k + d = i → d < f → (∀ k' (hk : k' < k) (hk2 : k' < xs.length), Unl xs[k'] (xs[i]'hi)) → quintetlaw12_TrieTurned_l9 w A xs.length c i K0 K1 f k h := by
  intro d
  induction d with
  | zero =>
    intro k f hk hf hu
    obtain ⟨f, rfl⟩ : ∃ f', f = f' + 1 := ⟨f - 1, by omega⟩
    unfold quintetlaw12_TrieTurned_l9
    exact br_f (by simp; omega) (H1 fun k' hk' => hu k' (by omega) (by omega))
  | succ d ih =>
    intro k f hk hf hu
    obtain ⟨f, rfl⟩ : ∃ f', f = f' + 1 := ⟨f - 1, by omega⟩
    unfold quintetlaw12_TrieTurned_l9
    have hki : k < xs.length := by omega
    obtain ⟨a, hp, hcl⟩ := rd_e (c := c) (i := i) (e := eE xs[i]) r (by simp) (by rw [List.getElem?_map, List.getElem?_eq_getElem hi]; rfl)
    obtain ⟨a', hp', hcl'⟩ := rd_e (c := c) (i := k) (e := eE xs[k]) r (by simp) (by rw [List.getElem?_map, List.getElem?_eq_getElem hki]; rfl)
    have go : Unl xs[k] (xs[i]'hi) → quintetlaw12_TrieTurned_l9 w A xs.length c i K0 K1 f (IntKind.i64.wrap ((k : Int) + 1)) h := by
      intro hn
      rw [wrap_in (by omega) (by omega)]
      have hcast : (k : Int) + 1 = ((k + 1 : Nat) : Int) := by omega
      rw [hcast]
      refine ih (k + 1) f (by omega) (by omega) fun k' hk' hk2 => ?_
      by_cases e : k' = k
      · subst e; exact hn
      · exact hu k' (by omega) hk2
    refine br_t (by simp; omega) ⟨_, hp, _, ld (hcl.at_ 0 _ rfl) (by kernel_rfl), _, hp', _, ld (hcl'.at_ 0 _ rfl) (by kernel_rfl), br_i (fun hkey => ?_) (fun hkey => ?_)⟩
    · refine ⟨_, hp, _, ld (hcl.at_ 1 _ rfl) (by kernel_rfl), _, hp', _, ld (hcl'.at_ 1 _ rfl) (by kernel_rfl), br_i (fun hn => ?_) (fun hn => ?_)⟩
      · exact awake_s fun h1 e1 => ⟨_, rfl, H0 h1 e1⟩
      · refine go fun e => ?_
        have : ((xs[i]'hi).n == (xs[k]).n) = false := hn
        rw [e.2] at this
        simp at this
    · refine go fun e => ?_
      have : (((xs[i]'hi).key : Int) == ((xs[k]).key : Int)) = false := hkey
      rw [e.1] at this
      simp at this
theorem turn_l8 {w : Int} {A : Option Addr} {c : Nat} {xs : List OpR} {h : Hp} (r : RSl h A xs.length 3 ((xs.map eE).flatMap En.enc)) (hbd : xs.length ≤ 4000) {K0 : Bool → Hp → Prop} {K1 : Int → Option Addr → Nat → Nat → Hp → Prop} (H0 : ∀ h', Ext h h' → K0 true h') (H1 : xs.Pairwise Unl → K1 w A xs.length c h) :
    ∀ (d i f : Nat), i + d = xs.length → d < f → (xs.take i).Pairwise Unl → quintetlaw12_TrieTurned_l8 w A xs.length c K0 K1 f i h := by
  intro d
  induction d with
  | zero =>
    intro i f hi hf hp
    obtain ⟨f, rfl⟩ : ∃ f', f = f' + 1 := ⟨f - 1, by omega⟩
    unfold quintetlaw12_TrieTurned_l8
    rw [List.take_of_length_le (by omega)] at hp
    exact br_f (by simp; omega) (H1 hp)
  | succ d ih =>
    intro i f hi hf hp
    obtain ⟨f, rfl⟩ : ∃ f', f = f' + 1 := ⟨f - 1, by omega⟩
    unfold quintetlaw12_TrieTurned_l8
    have hlt : i < xs.length := by omega
    refine br_t (by simp; omega) ⟨i + 1, ?_⟩
    refine turn_l9 r hlt hbd H0 (fun hu => ?_) i 0 (i + 1) (by omega) (by omega) (fun k' hk' => absurd hk' (by omega))
    show quintetlaw12_TrieTurned_l8 w A xs.length c K0 K1 f (IntKind.i64.wrap ((i : Int) + 1)) h
    rw [wrap_in (by omega) (by omega)]
    have hcast : (i : Int) + 1 = ((i + 1 : Nat) : Int) := by omega
    rw [hcast]
    refine ih (i + 1) f (by omega) (by omega) ?_
    rw [List.take_add_one, List.getElem?_eq_getElem hlt]
    show (xs.take i ++ [xs[i]]).Pairwise Unl
    rw [List.pairwise_append]
    refine ⟨hp, by simp, fun a ha b hb => ?_⟩
    rw [List.mem_singleton] at hb
    subst hb
    obtain ⟨k, hk, rfl⟩ := List.mem_iff_getElem.1 ha
    rw [List.length_take] at hk
    rw [List.getElem_take]
    exact hu k (by omega)
theorem infoO : ∃ i z, Try.prog.info? 83 = some i ∧ i.size = 5 ∧ i.bytes ≤ 100 ∧ 0 < i.bytes ∧ i.zero = some z ∧ z.cells = (OpR.enc ⟨0, false, 0, 0, 0⟩).toArray := ⟨_, _, rfl, rfl, by decide, by decide, rfl, rfl⟩
abbrev RowO (h : Hp) (A : Option Addr) (c : Nat) (os : List OpR) : Prop := Row h 83 OpR.enc 5 A c os
theorem app_op {h g0 : Hp} {A : Option Addr} {c : Nat} {os : List OpR} {a : Addr} {o : OpR} (hr : RowO h A c os) (hb : ∀ k, blk A k → g0.size ≤ k) (hca : Cl h a o.enc) (e0 : Ext g0 h) (hl : os.length ≤ 4000) {K : Value → Hp → Prop}
    (H : ∀ h' A' c', Ext g0 h' → RowO h' A' c' (os ++ [o]) → (∀ k, blk A' k → g0.size ≤ k) → (∀ k, blk A' k → blk A k ∨ h.size ≤ k) → Fr (blk A) h h' → K (.slice A' (os.length + 1) c') h') : HW Try.prog (Builtin.append_ #[77, 77] 77 #[(.slice A os.length c), (.slice (some a) 1 1)]) h K := by
  obtain ⟨i', z, hi', hisz, hiby, hiby0, hiz, hzc⟩ := infoO
  refine HW_append1 (enc := OpR.enc) (xs := os) (x := o) OpR.len OpR.flat undO hi' hiz (by rw [hzc]; rfl) hisz hiby0 hr hca ?_ ?_
  · have : (2 * (os.length + 1) + 768) * i'.bytes ≤ (2 * (os.length + 1) + 768) * 100 := Nat.mul_le_mul_left _ hiby
    omega
  intro g5 g c5 hr5 hg f5
  have hbg : ∀ k, blk (some ⟨g, 0, none⟩ : Option Addr) k → k = g := by rintro k ⟨a', ha', rfl⟩; injection ha' with ha'; subst ha'; rfl
  have hs := e0.size
  refine H g5 (some ⟨g, 0, none⟩) c5 ⟨Nat.le_trans hs f5.size, fun k hk => by rw [f5.keep k (by omega) (fun hb' => by have := hb k hb'; omega), e0.old k hk]⟩ hr5 (fun k hk => ?_) (fun k hk => ?_) f5
  · have := hbg k hk
    rcases hg with hg | hg
    · rw [this]; exact hb g hg
    · omega
  · have := hbg k hk
    rcases hg with hg | hg
    · exact .inl (this ▸ hg)
    · exact .inr (by omega)
theorem turn_l10 {w : Int} {A : Option Addr} {c : Nat} {xs : List OpR} (hz : ∀ o, o ∈ xs → o.kind = 0 ∧ o.second = false) {g0 : Hp} (r : RSl g0 A xs.length 3 ((xs.map eE).flatMap En.enc)) (hbd : xs.length ≤ 4000) {K0 : Int → Option Addr → Nat → Nat → Option Addr → Nat → Nat → Hp → Prop}
    (H : ∀ h' A1 c1 A2 c2, Ext g0 h' → RowO h' A1 c1 xs → RowO h' A2 c2 xs.reverse → K0 w A1 xs.length c1 A2 xs.reverse.length c2 h') :
    ∀ (d i f : Nat) (h : Hp) (A1 A2 : Option Addr) (c1 c2 : Nat) (t1 t2 : List OpR), i + d = xs.length → d < f → t1 = xs.take i → t2 = xs.reverse.take i → Ext g0 h → RowO h A1 c1 t1 → RowO h A2 c2 t2 → (∀ k, blk A1 k → g0.size ≤ k) → (∀ k, blk A2 k → g0.size ≤ k) → (∀ k, blk A1 k → ¬ blk A2 k) → (∀ k, blk A2 k → k < h.size) →
      quintetlaw12_TrieTurned_l10 w A xs.length c K0 f A1 t1.length c1 A2 t2.length c2 i h := by
  intro d
  induction d with
  | zero =>
    intro i f h A1 A2 c1 c2 t1 t2 hi hf h1 h2 e r1 r2 b1 b2 b12 bl
    obtain ⟨f, rfl⟩ : ∃ f', f = f' + 1 := ⟨f - 1, by omega⟩
    unfold quintetlaw12_TrieTurned_l10
    rw [List.take_of_length_le (by omega)] at h1
    rw [List.take_of_length_le (by rw [List.length_reverse]; omega)] at h2
    subst h1 h2
    exact br_f (by simp; omega) (H h A1 c1 A2 c2 e r1 r2)
  | succ d ih =>
    intro i f h A1 A2 c1 c2 t1 t2 hi hf h1 h2 e r1 r2 b1 b2 b12 bl
    obtain ⟨f, rfl⟩ : ∃ f', f = f' + 1 := ⟨f - 1, by omega⟩
    unfold quintetlaw12_TrieTurned_l10
    have hlt : i < xs.length := by omega
    have hj : xs.length - 1 - i < xs.length := by omega
    obtain ⟨a, hp, hcl⟩ := rd_e (c := c) (i := i) (e := eE xs[i]) (r.ext e) (by simp) (by rw [List.getElem?_map, List.getElem?_eq_getElem hlt]; rfl)
    obtain ⟨a', hp', hcl'⟩ := rd_e (c := c) (i := xs.length - 1 - i) (e := eE xs[xs.length - 1 - i]) (r.ext e) (by simp) (by rw [List.getElem?_map, List.getElem?_eq_getElem hj]; rfl)
    have hix : IntKind.i64.wrap (IntKind.i64.wrap ((xs.length : Int) - 1) - (i : Int)) = ((xs.length - 1 - i : Nat) : Int) := by
      rw [wrap_in (n := (xs.length : Int) - 1) (by omega) (by omega), wrap_in (by omega) (by omega)]; omega
    rw [hix]
    have ht1 : t1.length ≤ 4000 := by rw [h1, List.length_take]; omega
    have ht2 : t2.length ≤ 4000 := by rw [h2, List.length_take, List.length_reverse]; omega
    refine br_t (by simp; omega) ⟨_, hp', _, _, _, ldS hcl' (by kernel_rfl), ?_⟩
    refine newV (us := (eE xs[xs.length - 1 - i]).enc) rfl rfl size39 rfl fun g1 e1 k1 bb1 z1 => ?_
    refine ⟨_, hp, _, ld ((hcl.ext e1).at_ 0 _ rfl) (by kernel_rfl), _, hp, _, ld ((hcl.ext e1).at_ 1 _ rfl) (by kernel_rfl), _, hp, _, ld ((hcl.ext e1).at_ 2 _ rfl) (by kernel_rfl), ?_⟩
    obtain ⟨z0, zs⟩ := hz xs[i] (List.getElem_mem hlt)
    obtain ⟨z0', zs'⟩ := hz xs[xs.length - 1 - i] (List.getElem_mem hj)
    have henc : OpR.enc xs[i] = [.int .i64 0, .bool false, .int .u32 (eE xs[i]).1, .int .i64 (eE xs[i]).2.1, .int .i64 (eE xs[i]).2.2] := by
      show [Value.int .i64 (xs[i]).kind, .bool (xs[i]).second, _, _, _] = _
      rw [z0, zs]; rfl
    have henc' : OpR.enc xs[xs.length - 1 - i] = [.int .i64 0, .bool false, .int .u32 (eE xs[xs.length - 1 - i]).1, .int .i64 (eE xs[xs.length - 1 - i]).2.1, .int .i64 (eE xs[xs.length - 1 - i]).2.2] := by
      show [Value.int .i64 (xs[xs.length - 1 - i]).kind, .bool (xs[xs.length - 1 - i]).second, _, _, _] = _
      rw [z0', zs']; rfl
    refine newC_i (cs := [.int .i64 0, .bool false, .int .u32 (eE xs[i]).1, .int .i64 (eE xs[i]).2.1, .int .i64 (eE xs[i]).2.2]) fun g2 e2 k2 bb2 z2 => ?_
    rw [← henc] at k2
    have fN := fun (x y : Hp) (e : Ext x y) => e.fr (fun _ => False)
    have e02 := (e.trans e1).trans e2
    have r12 := (r1.keep (fN _ _ e1) (fun _ _ h => h)).keep (fN _ _ e2) (fun _ _ h => h)
    have r22 := (r2.keep (fN _ _ e1) (fun _ _ h => h)).keep (fN _ _ e2) (fun _ _ h => h)
    refine app_op r12 b1 k2 e02 ht1 fun g3 A3 c3 e3 r3 b3 b3' f3 => ⟨_, _, _, rfl, ?_⟩
    have k13 : Cl g3 ⟨h.size, 0, none⟩ (eE xs[xs.length - 1 - i]).enc := f3.cl (k1.ext e2) (fun hb => by
      have hb' : blk A1 h.size := hb
      have := lt_of_row r1 hb'
      omega)
    have r23 := r22.keep f3 (fun k hk hb => b12 k hb hk)
    refine ⟨_, ld (k13.at_ 0 _ rfl) (by kernel_rfl), _, ld (k13.at_ 1 _ rfl) (by kernel_rfl), _, ld (k13.at_ 2 _ rfl) (by kernel_rfl), ?_⟩
    refine newC_i (cs := [.int .i64 0, .bool false, .int .u32 (eE xs[xs.length - 1 - i]).1, .int .i64 (eE xs[xs.length - 1 - i]).2.1, .int .i64 (eE xs[xs.length - 1 - i]).2.2]) fun g4 e4 k4 bb4 z4 => ?_
    rw [← henc'] at k4
    have e04 := e3.trans e4
    have r14 := r3.keep (fN _ _ e4) (fun _ _ h => h)
    have r24 := r23.keep (fN _ _ e4) (fun _ _ h => h)
    refine app_op r24 b2 k4 e04 ht2 fun g5 A5 c5 e5 r5 b5 b5' f5 => ⟨_, _, _, rfl, ?_⟩
    have s1 := e1.size
    have s2 := e2.size
    have s3 := f3.size
    have s4 := e4.size
    have s5 := f5.size
    have n1 : ∀ k, blk A3 k → ¬ blk A2 k := fun k hk hb => by
      rcases b3' k hk with h' | h'
      · exact b12 k h' hb
      · have := bl k hb; omega
    have r15 := r14.keep f5 n1
    have l3 : t1.length + 1 = (t1 ++ [xs[i]]).length := by simp
    have l5 : t2.length + 1 = (t2 ++ [xs[xs.length - 1 - i]]).length := by simp
    rw [l3, l5, wrap_in (by omega) (by omega)]
    have hcast : (i : Int) + 1 = ((i + 1 : Nat) : Int) := by omega
    rw [hcast]
    refine ih (i + 1) f g5 A3 A5 c3 c5 _ _ (by omega) (by omega) ?_ ?_ e5 r15 r5 b3 b5 ?_ ?_
    · rw [h1, List.take_add_one, List.getElem?_eq_getElem hlt]; rfl
    · rw [h2, List.take_add_one, List.getElem?_eq_getElem (by rw [List.length_reverse]; exact hlt), List.getElem_reverse]; rfl
    · intro k hk hb
      rcases b5' k hb with h' | h'
      · exact n1 k hk h'
      · have := lt_of_row r3 hk
        omega
    · intro k hk
      exact lt_of_row r5 hk
end Go.Proofs.Ytofjbbfnkefoaaa.Fs
