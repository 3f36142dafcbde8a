/- What a table tells: its rules, twice, and its iterator's rounds. -/
import Derived.Test.YtgecabgcjfpenaaTNil
import Derived.Test.YtgecabgcjfpenaaTRef2
import Derived.Test.YtgecabgcjfpenaaFsT
import Derived.Test.YtgecabgcjfpenaaFsU
namespace Go.Proofs.Ytgecabgcjfpenaa.Fs
open Go Go.RowKit Go.Proofs.Ytgecabgcjfpenaa.Sx
set_option linter.unusedVariables false
set_option linter.unusedSimpArgs false
set_option maxRecDepth 10000
def mk (i : Int) : Rul := ⟨-7 - i, 0, 0, 0, 0, 0, 0, 0, 0, 0, 0, 77⟩
theorem mark_s (i : Int) (h0 : 0 ≤ i) (h1 : i ≤ 100) {h : Hp} {K : Value → Hp → Prop} (H : ∀ h', Ext h h' → K (mk i).val h') : CallsH Try.prog 58 #[.int .i64 i] h K := by
  refine quintetkeep_mark_ok _ ?_
  unfold quintetkeep_mark
  have w : IntKind.i64.wrap ((-7) - i) = -7 - i := wrap_in (by omega) (by omega)
  rw [w]
  refine newV (us := (mk i).enc) rfl rfl size55 rfl fun h1 e1 c1 b1 z1 => ?_
  exact ⟨_, _, _, _, _, _, _, _, _, _, _, _, ldS c1 (by kernel_rfl), H h1 e1⟩
theorem rowR_ix {g l c n : Nat} (hn : n < l) : PV Try.prog (Instr.indexAt 32 (.slice (some ⟨g, 0, none⟩) l c) (.int .i64 (n : Int))) (.pointer (some ⟨g, n * 12, none⟩)) := by
  have := ix (P := Try.prog) (T := 32) (E := 55) (a := ⟨g, 0, none⟩) (l := l) (c := c) (sz := 12) (k := .i64) (i := (n : Int)) (by omega) (by omega) und32 size55
  rw [Int.toNat_natCast, add_eq0] at this
  exact this
theorem spoil_l1 {g c : Nat} {h0 : Hp} {K0 : Hp → Prop} (H : ∀ h', Fr (fun k => k = g) h0 h' → K0 h') (hg0 : g < h0.size) :
    ∀ (d n k : Nat) (h : Hp) (ys : List Rul), n + d = ys.length → d < k → ys.length ≤ 1000000 → RowR h (some ⟨g, 0, none⟩) c ys → Fr (fun k => k = g) h0 h → quintetkeep_Spoil_l1 (some ⟨g, 0, none⟩) ys.length c K0 k n h := by
  intro d
  induction d with
  | zero =>
    intro n k h ys hn hk hl r f
    obtain ⟨k, rfl⟩ : ∃ m, k = m + 1 := ⟨k - 1, by omega⟩
    unfold quintetkeep_Spoil_l1
    exact br_f (by simp; omega) (H h f)
  | succ d ih =>
    intro n k h ys hn hk hl r f
    obtain ⟨k, rfl⟩ : ∃ m, k = m + 1 := ⟨k - 1, by omega⟩
    unfold quintetkeep_Spoil_l1
    refine br_t (by simp; omega) ?_
    refine mark_s 9 (by omega) (by omega) fun h1 e1 => ⟨_, _, _, _, _, _, _, _, _, _, _, _, rfl, ?_⟩
    refine ⟨_, rowR_ix (by omega), ?_⟩
    have r1 := r.keep (e1.fr (fun _ => False)) (fun _ _ h => h)
    refine HU_elem (enc := Rul.enc) Rul.enc_len Rul.flat r1 (j := n) (by omega) (x := mk 9) rfl size55 fun h2 r2 f2 z2 => ?_
    rw [wrap_in (by omega) (by omega)]
    have := ih (n + 1) k h2 (ys.set n (mk 9)) (by simp; omega) (by omega) (by simpa using hl) r2 ((f.trans (e1.fr _)).trans f2)
    simpa using this
theorem spoil_s {h : Hp} {g : Nat} {xs : List Rul} (r : RowR h (some ⟨g, 0, none⟩) xs.length xs) (hl : xs.length ≤ 1000000) (hg : g < h.size) {K : Value → Hp → Prop} (H : ∀ h', Fr (fun k => k = g) h h' → K (.tuple #[]) h') : CallsH Try.prog 45 #[.slice (some ⟨g, 0, none⟩) xs.length xs.length] h K := by
  obtain ⟨i, z, hi, hisz, hiby, hiz, hzc⟩ := info55
  refine quintetkeep_Spoil_ok _ _ _ ?_
  unfold quintetkeep_Spoil
  refine ⟨_, _, _, slHi und32 hi (by omega) (by omega), xs.length + 1, ?_⟩
  rw [Int.toNat_natCast]
  exact spoil_l1 H hg xs.length 0 (xs.length + 1) h xs (by omega) (by omega) hl r (Fr.refl _ _)
/-- The table's iterator: each rule is yielded in its turn, until yield says no. -/
theorem iter_l1 {A : Option Addr} {l c : Nat} {xs : List Rul} {v : Value} (hl : xs.length = l) (hlen : l ≤ 1000000) (Inv : Nat → Hp → Prop) (Stop : Hp → Prop) (hrow : ∀ i h, Inv i h → RSl h A l 12 (xs.flatMap Rul.enc)) (hext : ∀ i h h', Inv i h → Ext h h' → Inv i h')
    (hround : ∀ (i : Nat) (hi : i < xs.length) (h : Hp) (K : Value → Hp → Prop), Inv i h → (∀ h', Inv (i + 1) h' → K (.bool true) h') → (∀ h', Stop h' → K (.bool false) h') → HN Try.prog (callS v #[.int .i64 i, (xs[i]).val]) h K)
    {K0 : Hp → Prop} {K1 : Hp → Prop} (H0 : ∀ h, Stop h → K0 h) (H1 : ∀ h, Inv l h → K1 h) :
    ∀ (d n k : Nat) (h : Hp), n + d = l → d < k → Inv n h → table_Table_All_1_l1 v A l c (l : Int) K0 K1 k n h := by
  intro d
  induction d with
  | zero =>
    intro n k h hn hk hi
    obtain ⟨k, rfl⟩ : ∃ m, k = m + 1 := ⟨k - 1, by omega⟩
    unfold table_Table_All_1_l1
    have : n = l := by omega
    exact br_f (by simp; omega) (H1 h (this ▸ hi))
  | succ d ih =>
    intro n k h hn hk hi
    obtain ⟨k, rfl⟩ : ∃ m, k = m + 1 := ⟨k - 1, by omega⟩
    unfold table_Table_All_1_l1
    refine br_t (by simp; omega) ?_
    obtain ⟨a, hp, hcl⟩ := rd_elem (c := c) (hrow n h hi) hl (i := n) (by omega)
    refine ⟨_, hp, ?_⟩
    refine ⟨_, _, _, _, _, _, _, _, _, _, _, _, ldS hcl (by kernel_rfl), ?_⟩
    refine newV (us := (xs[n]'(by omega)).enc) rfl rfl size55 rfl fun h1 e1 c1 b1 z1 => ?_
    refine ⟨_, _, _, _, _, _, _, _, _, _, _, _, ldS c1 (by kernel_rfl), ?_⟩
    refine hround n (by omega) h1 _ (hext n h h1 hi e1) (fun h2 h2i => ?_) (fun h2 h2s => ?_)
    · refine ⟨_, rfl, br_f rfl ?_⟩
      rw [wrap_in (by omega) (by omega)]
      exact ih (n + 1) k h2 (by omega) (by omega) h2i
    · exact ⟨_, rfl, br_t rfl (H0 h2 h2s)⟩
theorem iter_s {h : Hp} {b : Nat} {S : Nat → Prop} {cf : Cfg} {xs : List Rul} (t : TabAt h b S cf xs) (hlen : xs.length ≤ 1000000) {a : Addr} (ca : Cl h a [.pointer (some ⟨b, 0, none⟩)]) (m : Nat) (Inv : Nat → Hp → Prop) (Stop : Hp → Prop)
    (hfr : ∀ i h', Inv i h' → ∃ S', Fr S' h h' ∧ ∀ k, S k → ¬ S' k) (hext : ∀ i h h', Inv i h → Ext h h' → Inv i h') (h0 : Inv 0 h)
    (hround : ∀ (i : Nat) (hi : i < xs.length) (h : Hp) (K : Value → Hp → Prop), Inv i h → (∀ h', Inv (i + 1) h' → K (.bool true) h') → (∀ h', Stop h' → K (.bool false) h') → HN Try.prog (callS (yieldV m) #[.int .i64 i, (xs[i]).val]) h K)
    {K : Value → Hp → Prop} (H0 : ∀ h, Stop h → K (.tuple #[]) h) (H1 : ∀ h, Inv xs.length h → K (.tuple #[]) h) : CallsH Try.prog 46 #[yieldV m, .pointer (some a)] h K := by
  refine table_Table_All_1_ok _ _ _ _ ?_
  unfold table_Table_All_1
  refine ⟨_, ld ca.head (by kernel_rfl), _, eqNil eq27, br_f rfl ⟨_, ld ca.head (by kernel_rfl), ?_⟩⟩
  obtain ⟨hSb, hSl, A, c, hb, hr, hSA, hne⟩ := t
  refine ⟨_, _, _, ld_rules hb, xs.length + 1, ?_⟩
  refine iter_l1 rfl hlen Inv Stop (fun i h' hi => ?_) hext hround H0 H1 xs.length 0 (xs.length + 1) h (by omega) (by omega) h0
  obtain ⟨S', f, hn⟩ := hfr i h' hi
  exact (hr.keep f (fun k hk => hn k (hSA k hk))).read
theorem shutAll {G : Hp → Prop} : ∀ (dl : List Nat) (h : Hp), dl.Nodup → (∀ D ∈ dl, h[D]? = some (.deferred (some []))) → (∀ h', Fr (fun k => k ∈ dl) h h' → G h') → shut dl h G
  | [], h, _, _, H => H h (Fr.refl _ _)
  | D :: dl, h, hn, hd, H => by
    refine ⟨hd D List.mem_cons_self, shutAll dl _ (List.nodup_cons.1 hn).2 (fun E hE => ?_) (fun h' f => H h' ⟨by have := f.size; simpa using this, fun k hk hnk => ?_⟩)⟩
    · have : E ≠ D := fun e => (List.nodup_cons.1 hn).1 (e ▸ hE)
      rw [Array.getElem?_setIfInBounds_ne (fun e => this e.symm)]
      exact hd E (List.mem_cons_of_mem _ hE)
    · rw [f.keep k (by simpa using hk) (fun hm => hnk (List.mem_cons_of_mem _ hm)), Array.getElem?_setIfInBounds_ne (fun e => hnk (by rw [← e]; exact List.mem_cons_self))]
end Go.Proofs.Ytgecabgcjfpenaa.Fs
