/- HashGrows: so many headers, one behind the other, and every one of them gone but one. -/
import Derived.Test.YtofjbbfnkefoaaaHaAll2
namespace Go.Proofs.Ytofjbbfnkefoaaa.Fs
open Go Go.RowKit Go.Proofs.Ytofjbbfnkefoaaa.Sx
set_option linter.unusedVariables false
set_option linter.unusedSimpArgs false
set_option maxRecDepth 10000
theorem HB.ltS {h : Hp} {b : Nat} {S : Nat → Prop} {m : Int} {M : Hdr → Option Int} {n l : Nat} (q : HB h b S m M n l) : ∀ k, S k → k < h.size := by
  obtain ⟨t, q, _⟩ := q
  exact q.2.1
theorem w32m (x : Int) : IntKind.u32.wrap x = x % 4294967296 := by
  simp [IntKind.wrap, IntKind.bits, IntKind.signed]
theorem pow_dvd : ∀ (k d s : Nat), s % 2 = 1 → 2 ^ k ∣ d * s → 2 ^ k ∣ d
  | 0, d, s, _, _ => by simp
  | k + 1, d, s, hs, h => by
    have h2 : 2 ∣ d * s := Nat.dvd_trans ⟨2 ^ k, by rw [Nat.pow_succ, Nat.mul_comm]⟩ h
    have hd : d % 2 = 0 := by
      have := Nat.mod_eq_zero_of_dvd h2
      rw [Nat.mul_mod, hs] at this
      omega
    obtain ⟨e, rfl⟩ : ∃ e, d = 2 * e := ⟨d / 2, by omega⟩
    obtain ⟨c, hc⟩ := h
    have h3 : 2 ^ k ∣ e * s := ⟨c, by
      have : 2 * (e * s) = 2 * (2 ^ k * c) := by rw [← Nat.mul_assoc, hc, Nat.pow_succ]; simp [Nat.mul_comm, Nat.mul_left_comm]
      omega⟩
    obtain ⟨f, hf⟩ := pow_dvd k e s hs h3
    exact ⟨f, by rw [hf, Nat.pow_succ]; simp [Nat.mul_comm, Nat.mul_left_comm]⟩
def key (f : Hdr) (st : Int) (i : Nat) : Hdr := { f with dst := IntKind.u32.wrap (f.dst + i * st) }
theorem key_0 {f : Hdr} (hf : f.wf) (st : Int) : key f st 0 = f := by
  have : IntKind.u32.wrap (f.dst + ((0 : Nat) : Int) * st) = f.dst := by
    rw [w32m]
    obtain ⟨_, _, h1, h2, _⟩ := hf
    simp
    omega
  unfold key
  rw [this]
theorem key_s (f : Hdr) (st : Int) (i : Nat) : IntKind.u32.wrap ((key f st i).dst + st) = (key f st (i + 1)).dst := by
  show IntKind.u32.wrap (IntKind.u32.wrap (f.dst + i * st) + st) = IntKind.u32.wrap (f.dst + ((i + 1 : Nat) : Int) * st)
  rw [w32m, w32m, w32m, Int.emod_add_emod]
  congr 1
  rw [Int.natCast_add, Int.add_mul]
  simp [Int.add_assoc]
theorem key_k (f : Hdr) (st : Int) (i : Nat) : IntKind.u32.wrap (f.dst + IntKind.u32.wrap (IntKind.u32.wrap (i : Int) * st)) = (key f st i).dst := by
  show _ = IntKind.u32.wrap (f.dst + i * st)
  rw [w32m, w32m, w32m, w32m, Int.add_emod_emod, Int.add_emod, Int.mul_emod, Int.emod_emod, ← Int.mul_emod, ← Int.add_emod]
theorem key_wf {f : Hdr} (hf : f.wf) (st : Int) (i : Nat) : (key f st i).wf := by
  obtain ⟨h1, h2, h3, h4, h5⟩ := hf
  refine ⟨h1, h2, ?_, ?_, h5⟩
  · show 0 ≤ IntKind.u32.wrap _
    rw [w32m]; omega
  · show IntKind.u32.wrap _ < _
    rw [w32m]; omega
theorem key_inj {f : Hdr} {s : Nat} (hs : s % 2 = 1) {i j : Nat} (hi : i ≤ 100000) (hj : j ≤ 100000) (h : key f (s : Int) i = key f (s : Int) j) : i = j := by
  have main : ∀ i j : Nat, i ≤ j → j ≤ 100000 → key f (s : Int) i = key f (s : Int) j → i = j := fun i j hij hj h => by
    have h1 : IntKind.u32.wrap (f.dst + i * s) = IntKind.u32.wrap (f.dst + j * s) := congrArg Hdr.dst h
    rw [w32m, w32m] at h1
    have h2 := Int.emod_emod_of_dvd (f.dst + j * s - (f.dst + i * s)) (show (4294967296 : Int) ∣ 4294967296 from ⟨1, by simp⟩)
    have h3 : (f.dst + j * s - (f.dst + i * s)) % 4294967296 = 0 := Int.emod_eq_emod_iff_emod_sub_eq_zero.1 h1.symm
    have h4 : (f.dst + j * s - (f.dst + i * s) : Int) = (((j - i) * s : Nat) : Int) := by
      rw [Int.natCast_mul, Int.natCast_sub hij, Int.sub_mul]
      omega
    rw [h4] at h3
    have h5 : ((j - i) * s) % 4294967296 = 0 := by omega
    have h6 : 2 ^ 32 ∣ (j - i) * s := Nat.dvd_of_mod_eq_zero h5
    have h7 := pow_dvd 32 (j - i) s hs h6
    rcases Nat.eq_zero_or_pos (j - i) with h | h
    · omega
    · have := Nat.le_of_dvd h h7
      omega
  rcases Nat.le_total i j with hle | hle
  · exact main i j hle hj h
  · exact (main j i hle hi h.symm).symm
theorem or_odd (x : Int) : ∃ s : Nat, bOr .u32 x 1 = (s : Int) ∧ s % 2 = 1 := by
  unfold bOr
  refine ⟨(BitVec.ofInt 32 x ||| BitVec.ofInt 32 1).toNat, ?_, ?_⟩
  · rw [w32m]
    have := (BitVec.ofInt 32 x ||| BitVec.ofInt 32 1).isLt
    show (((BitVec.ofInt 32 x ||| BitVec.ofInt 32 1).toNat : Nat) : Int) % 4294967296 = _
    omega
  · rw [Nat.mod_two_eq_one_iff_testBit_zero, BitVec.toNat_or, Nat.testBit_or]
    have : (BitVec.ofInt 32 1).toNat.testBit 0 = true := by decide
    rw [this]; simp
theorem box_dst {h : Hp} {bk : Nat} {g : Hdr} (hb : h[bk]? = some (.cells g.enc.toArray 36 (0, 0))) (x : Int) {K : Hp → Prop} (H : ∀ h', h'[bk]? = some (.cells ({ g with dst := x } : Hdr).enc.toArray 36 (0, 0)) → Fr (fun k => k = bk) h h' → h'.size = h.size → K h') : HU Try.prog (Instr.storeAt 33 (.pointer (some ((⟨bk, 0, none⟩ : Addr).add 1))) (.int .u32 x)) h K := by
  rw [add_eq0]
  refine HU_st (us := [.int .u32 x]) hb rfl (by kernel_rfl) (by simp [Hdr.enc]) rfl ?_
  have e : g.enc.take 1 ++ [.int .u32 x] ++ g.enc.drop (1 + [Value.int .u32 x].length) = ({ g with dst := x } : Hdr).enc := rfl
  rw [e]
  exact H _ (setB_get (lt_of_get hb)) (setB_fr rfl) setB_size
/-- Between two steps: the table, the box of the header. -/
structure GS (h0 h : Hp) (b : Nat) (m : Int) (S : Nat → Prop) (M : Hdr → Option Int) (n l bk : Nat) (g : Hdr) : Prop where
  e : Ext h0 h
  q : HB h b S m M n l
  hS : ∀ k, S k → h0.size ≤ k
  bx : h[bk]? = some (.cells g.enc.toArray 36 (0, 0))
  nb : ¬ S bk
  hb : h0.size ≤ bk
theorem GS.cl {h0 h : Hp} {b : Nat} {m : Int} {S : Nat → Prop} {M : Hdr → Option Int} {n l bk : Nat} {g : Hdr} (s : GS h0 h b m S M n l bk g) : Cl h ⟨bk, 0, none⟩ g.enc := Cl.of_block s.bx fun j v hj => by rw [Nat.zero_add]; exact hj
theorem GS.ext {h0 h h' : Hp} {b : Nat} {m : Int} {S : Nat → Prop} {M : Hdr → Option Int} {n l bk : Nat} {g : Hdr} (s : GS h0 h b m S M n l bk g) (e : Ext h h') : GS h0 h' b m S M n l bk g :=
  ⟨s.e.trans e, s.q.ext e, s.hS, (e.fr (fun _ => False)).get s.bx (fun h => h), s.nb, s.hb⟩
theorem GS.step {h0 h h' : Hp} {b : Nat} {m : Int} {S S' : Nat → Prop} {M M' : Hdr → Option Int} {n l n' l' bk : Nat} {g : Hdr} (s : GS h0 h b m S M n l bk g) (t : Tg S S' h h') (q : HB h' b S' m M' n' l') : GS h0 h' b m S' M' n' l' bk g :=
  ⟨extOwn s.e t.fr s.hS, q, fun k hk => by
    rcases t.own k hk with h | h
    · exact s.hS k h
    · have := s.e.size; omega, t.fr.get s.bx s.nb, fun hk => by
    rcases t.own bk hk with h | h
    · exact s.nb h
    · have := lt_of_get s.bx; omega, s.hb⟩
theorem GS.dst {h0 h : Hp} {b : Nat} {m : Int} {S : Nat → Prop} {M : Hdr → Option Int} {n l bk : Nat} {g : Hdr} (s : GS h0 h b m S M n l bk g) (x : Int) {K : Hp → Prop} (H : ∀ h', GS h0 h' b m S M n l bk { g with dst := x } → K h') : HU Try.prog (Instr.storeAt 33 (.pointer (some ((⟨bk, 0, none⟩ : Addr).add 1))) (.int .u32 x)) h K :=
  box_dst s.bx x fun h' b' f z => H h' ⟨extOwn s.e f (fun k hk => by subst hk; exact s.hb), s.q.keep f (fun k hk e => s.nb (e ▸ hk)), s.hS, b', s.nb, s.hb⟩
def MI (f : Hdr) (st : Int) (P : Nat → Prop) (M : Hdr → Option Int) : Prop := ∀ k v, M k = some v ↔ ∃ j : Nat, P j ∧ v = (j : Int) ∧ k = key f st j
theorem MI.no {f : Hdr} {s : Nat} (hs : s % 2 = 1) {P : Nat → Prop} {M : Hdr → Option Int} (hM : MI f (s : Int) P M) (hP : ∀ j, P j → j ≤ 100000) {i : Nat} (hi : i ≤ 100000) (hn : ¬ P i) : M (key f (s : Int) i) = none := by
  cases h : M (key f (s : Int) i) with
  | none => rfl
  | some v =>
    obtain ⟨j, hj, _, hk⟩ := (hM _ _).1 h
    have := key_inj hs hi (hP j hj) hk
    subst this
    exact absurd hj hn
theorem MI.yes {f : Hdr} {st : Int} {P : Nat → Prop} {M : Hdr → Option Int} (hM : MI f st P M) {i : Nat} (h : P i) : M (key f st i) = some (i : Int) := (hM _ _).2 ⟨i, h, rfl, rfl⟩
theorem MI.put {f : Hdr} {s : Nat} (hs : s % 2 = 1) {P Q : Nat → Prop} {M : Hdr → Option Int} (hM : MI f (s : Int) P M) (hP : ∀ j, P j → j ≤ 100000) {i : Nat} (hi : i ≤ 100000) (hn : ¬ P i) (hQ : ∀ j, Q j ↔ P j ∨ j = i) : MI f (s : Int) Q (upd M (key f (s : Int) i) (some (i : Int))) := fun k v => by
  unfold upd
  by_cases hk : k = key f (s : Int) i
  · rw [if_pos hk]
    constructor
    · intro h; injection h with h; exact ⟨i, (hQ i).2 (.inr rfl), h.symm, hk⟩
    · rintro ⟨j, hj, hv, hkj⟩
      rcases (hQ j).1 hj with h | h
      · have := key_inj hs hi (hP j h) (hk.symm.trans hkj)
        rw [hv, this]
      · rw [hv, h]
  · rw [if_neg hk, hM]
    constructor
    · rintro ⟨j, hj, hv, hkj⟩; exact ⟨j, (hQ j).2 (.inl hj), hv, hkj⟩
    · rintro ⟨j, hj, hv, hkj⟩
      rcases (hQ j).1 hj with h | h
      · exact ⟨j, h, hv, hkj⟩
      · exact absurd (h ▸ hkj) hk
theorem MI.del {f : Hdr} {s : Nat} (hs : s % 2 = 1) {P Q : Nat → Prop} {M : Hdr → Option Int} (hM : MI f (s : Int) P M) (hP : ∀ j, P j → j ≤ 100000) {i : Nat} (hi : i ≤ 100000) (hQ : ∀ j, Q j ↔ P j ∧ j ≠ i) : MI f (s : Int) Q (upd M (key f (s : Int) i) none) := fun k v => by
  unfold upd
  by_cases hk : k = key f (s : Int) i
  · rw [if_pos hk]
    constructor
    · intro h; cases h
    · rintro ⟨j, hj, hv, hkj⟩
      obtain ⟨h1, h2⟩ := (hQ j).1 hj
      exact absurd (key_inj hs (hP j h1) hi (hkj.symm.trans hk)) h2
  · rw [if_neg hk, hM]
    constructor
    · rintro ⟨j, hj, hv, hkj⟩
      exact ⟨j, (hQ j).2 ⟨hj, fun e => hk (e ▸ hkj)⟩, hv, hkj⟩
    · rintro ⟨j, hj, hv, hkj⟩
      exact ⟨j, ((hQ j).1 hj).1, hv, hkj⟩
theorem key_put (f : Hdr) (st : Int) (i : Nat) : ({ key f st i with dst := IntKind.u32.wrap ((key f st i).dst + st) } : Hdr) = key f st (i + 1) := by
  rw [key_s]; rfl
theorem grow_l36 {h0 : Hp} {b : Nat} {N s : Nat} (hN : N ≤ 2000) (hs : s % 2 = 1) {f : Hdr} {x5 : Int} {a10 : Addr} {bk : Nat} {K0 : Bool → Hp → Prop} {K1 : Int → Int → Int → Addr → (Option Addr) → Addr → Hp → Prop}
    (H : ∀ h S M l, GS h0 h b N S M N l bk (key f s N) → MI f s (fun j => j < N) M → l ≤ 8 + 4 * N → K1 (N : Int) (s : Int) x5 a10 (some ⟨b, 0, none⟩) ⟨bk, 0, none⟩ h) :
    ∀ (r i : Nat) (h : Hp) (S : Nat → Prop) (M : Hdr → Option Int) (l : Nat), i + r = N → GS h0 h b N S M i l bk (key f s i) → MI f s (fun j => j < i) M → l ≤ 8 + 4 * i → quintetlaw15_HashGrows_l36 (N : Int) (s : Int) x5 a10 (some ⟨b, 0, none⟩) ⟨bk, 0, none⟩ K0 K1 (r + 1) (i : Int) h := by
  intro r
  induction r with
  | zero =>
    intro i h S M l hi g hM hl
    have : i = N := by omega
    subst this
    unfold quintetlaw15_HashGrows_l36
    exact br_f (by simp) (H h S M l g hM hl)
  | succ r ih =>
    intro i h S M l hi g hM hl
    unfold quintetlaw15_HashGrows_l36
    have hno := hM.no hs (fun j hj => by omega) (i := i) (by omega) (by omega)
    refine br_t (by simp; omega) ⟨_, _, _, _, _, ldS (vs := (key f s i).enc) g.cl (by kernel_rfl), ?_⟩
    refine hput_a g.q (key f s i) (i : Int) (fun w hw => by rw [hno] at hw; cases hw) (fun _ hge => by omega) (fun _ _ h2 S2 l2 q2 t2 hl2 => ⟨_, rfl, br_f rfl ?_⟩)
    have g2 := g.step t2 q2
    refine ⟨_, ld (g2.cl.at_ 1 _ rfl) (by kernel_rfl), g2.dst _ fun h3 g3 => ?_⟩
    rw [key_put] at g3
    have hw : IntKind.i64.wrap ((i : Int) + 1) = ((i + 1 : Nat) : Int) := by rw [wrap_in (by omega) (by omega)]; omega
    rw [hw]
    exact ih (i + 1) h3 S2 _ l2 (by omega) g3 (hM.put hs (fun j hj => by omega) (i := i) (by omega) (by omega) (fun j => by omega)) (by omega)
theorem grow_l39 {h0 : Hp} {b : Nat} {N s st : Nat} (hN : N ≤ 2000) (hst : st < N) (hs : s % 2 = 1) {f : Hdr} {a10 : Addr} {bk l : Nat} {K0 : Bool → Hp → Prop} {K1 : Int → Int → Int → Addr → (Option Addr) → Hp → Prop}
    (H : ∀ h S M, GS h0 h b N S M 1 l bk (key f s N) → MI f s (fun j => j = st) M → K1 (N : Int) (s : Int) (st : Int) a10 (some ⟨b, 0, none⟩) h) :
    ∀ (r i : Nat) (h : Hp) (S : Nat → Prop) (M : Hdr → Option Int), i + r = N → GS h0 h b N S M (N - i + (if st < i then 1 else 0)) l bk (key f s i) → MI f s (fun j => j < N ∧ (i ≤ j ∨ j = st)) M → quintetlaw15_HashGrows_l39 (N : Int) (s : Int) (st : Int) a10 (some ⟨b, 0, none⟩) ⟨bk, 0, none⟩ K0 K1 (r + 1) (i : Int) h := by
  intro r
  induction r with
  | zero =>
    intro i h S M hi g hM
    have : i = N := by omega
    subst this
    unfold quintetlaw15_HashGrows_l39
    rw [if_pos hst, Nat.sub_self] at g
    refine br_f (by simp) (H h S M g fun k v => ?_)
    rw [hM]
    constructor
    · rintro ⟨j, ⟨h1, h2⟩, h3⟩; exact ⟨j, by omega, h3⟩
    · rintro ⟨j, h1, h3⟩; exact ⟨j, by omega, h3⟩
  | succ r ih =>
    intro i h S M hi g hM
    unfold quintetlaw15_HashGrows_l39
    have hyes := hM.yes (i := i) ⟨by omega, .inl (Nat.le_refl _)⟩
    refine br_t (by simp; omega) ⟨_, _, _, _, _, ldS (vs := (key f s i).enc) g.cl (by kernel_rfl), ?_⟩
    refine hget_a g.q (key f s i) fun h2 e2 => ⟨_, _, rfl, ?_⟩
    rw [hyes]
    have g2 := g.ext e2
    have hw : IntKind.i64.wrap ((i : Int) + 1) = ((i + 1 : Nat) : Int) := by rw [wrap_in (by omega) (by omega)]; omega
    rw [hw]
    refine br_f rfl (br_f (by simp) (br_i (fun p => ?_) (fun p => ?_)))
    · have hne : i ≠ st := by simp at p; omega
      refine ⟨_, _, _, _, _, ldS (vs := (key f s i).enc) g2.cl (by kernel_rfl), ?_⟩
      refine hdel_a g2.q (key f s i) fun h3 q3 f3 hn3 => ⟨_, rfl, ?_⟩
      rw [hyes] at q3 ⊢
      refine br_f rfl ?_
      have g3 := g2.step (Fr.tg f3) q3
      refine ⟨_, ld (g3.cl.at_ 1 _ rfl) (by kernel_rfl), g3.dst _ fun h4 g4 => ?_⟩
      rw [key_put] at g4
      refine ih (i + 1) h4 S _ (by omega) ?_ (hM.del hs (fun j hj => by omega) (i := i) (by omega) (fun j => by omega))
      have : (if (some (i : Int)).isSome = true then N - i + (if st < i then 1 else 0) - 1 else N - i + (if st < i then 1 else 0)) = N - (i + 1) + (if st < i + 1 then 1 else 0) := by
        rw [if_pos (show (some (i : Int)).isSome = true from rfl)]
        by_cases h1 : st < i
        · rw [if_pos h1, if_pos (by omega)]; omega
        · rw [if_neg h1, if_neg (by omega)]; omega
      rw [this] at g4
      exact g4
    · have he : i = st := by simp at p; omega
      refine ⟨_, ld (g2.cl.at_ 1 _ rfl) (by kernel_rfl), g2.dst _ fun h4 g4 => ?_⟩
      rw [key_put] at g4
      refine ih (i + 1) h4 S M (by omega) ?_ fun k v => ?_
      · have : N - i + (if st < i then 1 else 0) = N - (i + 1) + (if st < i + 1 then 1 else 0) := by
          rw [if_neg (by omega), if_pos (by omega)]; omega
        rw [this] at g4
        exact g4
      · rw [hM]
        constructor
        · rintro ⟨j, h1, h3⟩; exact ⟨j, by omega, h3⟩
        · rintro ⟨j, h1, h3⟩; exact ⟨j, by omega, h3⟩
theorem grow_j30 {h0 h : Hp} (e0 : Ext h0 h) {f : Hdr} (hf : f.wf) {a10 : Addr} (c10 : Cl h a10 f.enc) (ha : a10.spot = none) {N : Nat} (hN0 : 0 < N) (hN : N ≤ 2000) (x4 x5 : Int) (h5 : 0 ≤ x5) {K0 : Bool → Hp → Prop} (H : ∀ h', Ext h0 h' → K0 true h') : quintetlaw15_HashGrows_j30 K0 (N : Int) x4 x5 a10 h := by
  unfold quintetlaw15_HashGrows_j30
  obtain ⟨m, rfl⟩ := Int.eq_ofNat_of_zero_le h5
  obtain ⟨st, hst, hstl⟩ : ∃ st : Nat, Int.tmod (m : Int) (N : Int) = st ∧ st < N := ⟨m % N, by rw [← Int.ofNat_tmod], Nat.mod_lt _ hN0⟩
  refine ⟨_, rem64 _ _ (by omega), ?_⟩
  rw [hst]
  refine hnew_a (N : Int) (fun hc => by omega) (fun _ h1 b S e1 hS q1 => ⟨_, _, rfl, _, eqNil eq22, br_f rfl (br_f rfl ?_)⟩)
  unfold quintetlaw15_HashGrows_j35
  have c1 := c10.ext e1
  refine ⟨_, _, _, _, _, ldS (vs := f.enc) c1 (by kernel_rfl), ?_⟩
  refine newV (us := f.enc) rfl rfl hdrSz rfl fun h2 e2 c2 b2 z2 => ⟨N + 1, ?_⟩
  obtain ⟨s, hs, hodd⟩ := or_odd x4
  rw [hs]
  have e12 := e1.trans e2
  have s1 := e1.size
  have g2 : GS h h2 b (N : Int) S (fun _ => none) 0 8 h1.size (key f s 0) := ⟨e12, q1.ext e2, hS, by rw [key_0 hf]; exact b2, fun hk => by have := q1.ltS _ hk; omega, by omega⟩
  refine grow_l36 (h0 := h) hN hodd (f := f) (fun h3 S3 M3 l3 g3 hM3 hl3 => ?_) N 0 h2 S (fun _ => none) 8 (by omega) g2 (fun k v => ⟨fun h => (by cases h), fun ⟨j, hj, _⟩ => absurd hj (Nat.not_lt_zero _)⟩) (by omega)
  refine ⟨_, _, _, _, _, ldS (vs := (key f s N).enc) g3.cl (by kernel_rfl), ?_⟩
  have hno := hM3.no hodd (fun j hj => by omega) (i := N) (by omega) (by omega)
  refine hput_a g3.q (key f s N) (-1) (fun w hw => by rw [hno] at hw; cases hw) (fun _ _ h4 e4 => ⟨_, rfl, br_f rfl ?_⟩) (fun _ hlt => by omega)
  have g4 := g3.ext e4
  refine ⟨_, _, _, _, _, ldS (vs := (key f s N).enc) g4.cl (by kernel_rfl), ?_⟩
  refine bounds_a g4.q hl3 (by omega) (key f s N) fun h5 e5 => ⟨_, rfl, br_f rfl ?_⟩
  have g5 := g4.ext e5
  unfold quintetlaw15_HashGrows_j38
  have c5 := c10.ext g5.e
  refine ⟨_, _, _, _, _, ldS (vs := f.enc) c5 (by kernel_rfl), ?_⟩
  refine HU_box (us := f.enc) g5.bx rfl rfl hdrSz rfl fun h6 c6 b6 f6 z6 => ⟨N + 1, ?_⟩
  have g6 : GS h h6 b (N : Int) S3 M3 N l3 h1.size (key f s 0) := ⟨extOwn g5.e f6 (fun k hk => by subst hk; exact g5.hb), g5.q.keep f6 (fun k hk e => g5.nb (e ▸ hk)), g5.hS, by rw [key_0 hf]; exact b6, g5.nb, g5.hb⟩
  refine grow_l39 (h0 := h) hN hstl hodd (f := f) (l := l3) (fun h7 S7 M7 g7 hM7 => ?_) N 0 h6 S3 M3 (by omega) ?_ (fun k v => by
    rw [hM3]
    constructor
    · rintro ⟨j, h1, h3⟩; exact ⟨j, by omega, h3⟩
    · rintro ⟨j, h1, h3⟩; exact ⟨j, by omega, h3⟩)
  · refine ⟨_, _, _, _, _, ldS (vs := f.enc) (c10.ext g7.e) (by kernel_rfl), ?_⟩
    refine newV (us := f.enc) rfl rfl hdrSz rfl fun h8 e8 c8 b8 z8 => ?_
    refine ⟨_, ld (c8.at_ 1 _ rfl) (by kernel_rfl), ?_⟩
    rw [key_k]
    refine box_dst b8 _ fun h9 b9 f9 z9 => ?_
    have e79 : Ext h7 h9 := extOwn e8 f9 (fun k hk => by subst hk; omega)
    have g9 := g7.ext e79
    have b9' : h9[h7.size]? = some (.cells (key f s st).enc.toArray 36 (0, 0)) := b9
    refine hawake_s fun h10 e10 => ⟨_, rfl, br_t rfl ?_⟩
    have c9 : Cl h9 ⟨h7.size, 0, none⟩ (key f s st).enc := Cl.of_block b9' fun j v hj => by rw [Nat.zero_add]; exact hj
    have g10 := g9.ext e10
    refine ⟨_, _, _, _, _, ldS (vs := (key f s st).enc) (c9.ext e10) (by kernel_rfl), ?_⟩
    refine bounds_a (n := 1) (peak := N) g10.q hl3 (by omega) (key f s st) fun h11 e11 => ⟨_, rfl, br_t rfl ?_⟩
    have g11 := g10.ext e11
    refine ⟨_, _, _, _, _, ldS (vs := (key f s st).enc) ((c9.ext e10).ext e11) (by kernel_rfl), ?_⟩
    refine newC_i (cs := (⟨key f s st, (st : Int)⟩ : Ent).enc) fun h12 e12 c12 b12 z12 => ?_
    have g12 := g11.ext e12
    have lm : LM [⟨key f s st, (st : Int)⟩] M7 := ⟨List.pairwise_singleton .., fun e he => by rw [List.mem_singleton.1 he]; exact key_wf hf _ _, fun k v => by
      rw [List.mem_singleton, hM7]
      constructor
      · intro h; injection h with h1 h2; exact ⟨st, rfl, h2, h1⟩
      · rintro ⟨j, rfl, rfl, rfl⟩; rfl⟩
    refine all_s (L := [⟨key f s st, (st : Int)⟩]) lm (by simp) g12.q ⟨rfl, .inr ⟨_, rfl, by simpa using c12⟩⟩ (fun k hk => by
      obtain ⟨a, ha, rfl⟩ := hk
      injection ha with ha
      subst ha
      exact lt_of_get b12) fun h13 e13 => ⟨_, rfl, H h13 ((e0.trans g12.e).trans e13)⟩
  · rw [if_neg (by omega), Nat.sub_zero, Nat.add_zero]
    exact g6
theorem grow_j20 {h0 h : Hp} (e0 : Ext h0 h) {f : Hdr} (hf : f.wf) {a10 : Addr} (c10 : Cl h a10 f.enc) (ha : a10.spot = none) (x3 x4 x5 : Int) (h3 : 0 ≤ x3) (h5 : -9223372036854775808 ≤ x5 ∧ x5 ≤ 9223372036854775807) {K0 : Bool → Hp → Prop} (H : ∀ h', Ext h0 h' → K0 true h') : quintetlaw15_HashGrows_j20 K0 x3 x4 x5 a10 h := by
  unfold quintetlaw15_HashGrows_j20
  obtain ⟨m, rfl⟩ := Int.eq_ofNat_of_zero_le h3
  have hm : Int.tmod (m : Int) 2000 = ((m % 2000 : Nat) : Int) := by
    show Int.tmod (m : Int) ((2000 : Nat) : Int) = _
    rw [← Int.ofNat_tmod]
  have hlt := Nat.mod_lt m (show 0 < 2000 by decide)
  have hN : IntKind.i64.wrap (1 + Int.tmod (m : Int) 2000) = ((1 + m % 2000 : Nat) : Int) := by
    rw [hm, wrap_in (by omega) (by omega)]; omega
  rw [hN]
  refine br_i (fun p => ?_) (fun p => ?_)
  · have p : x5 < 0 := by simpa using p
    have hw : IntKind.i64.wrap (0 - IntKind.i64.wrap (x5 + 1)) = -(x5 + 1) := by
      rw [wrap_in (n := x5 + 1) (by omega) (by omega), wrap_in (by omega) (by omega)]; omega
    rw [hw]
    exact grow_j30 e0 hf c10 ha (by omega) (by omega) x4 _ (by omega) H
  · have p : ¬ x5 < 0 := by simpa using p
    exact grow_j30 e0 hf c10 ha (by omega) (by omega) x4 _ (by omega) H
theorem HashGrows_s (f : Hdr) (hf : f.wf) (x3 x4 x5 : Int) (h3 : -9223372036854775808 ≤ x3 ∧ x3 ≤ 9223372036854775807) (h5 : -9223372036854775808 ≤ x5 ∧ x5 ≤ 9223372036854775807) {h : Hp} {K : Value → Hp → Prop} (H : ∀ h', Ext h h' → K (.bool true) h') :
    CallsH Try.prog 5 #[f.val, .int .i64 x3, .int .u32 x4, .int .i64 x5] h K := by
  refine quintetlaw15_HashGrows_ok _ _ _ _ _ _ _ _ ?_
  unfold quintetlaw15_HashGrows
  refine newC_i (cs := f.enc) fun h1 e1 c1 b1 z1 => br_i (fun p => ?_) (fun p => ?_)
  · have p : x3 < 0 := by simpa using p
    have hw : IntKind.i64.wrap (0 - IntKind.i64.wrap (x3 + 1)) = -(x3 + 1) := by
      rw [wrap_in (n := x3 + 1) (by omega) (by omega), wrap_in (by omega) (by omega)]; omega
    rw [hw]
    exact grow_j20 e1 hf c1 rfl _ x4 x5 (by omega) h5 H
  · have p : ¬ x3 < 0 := by simpa using p
    exact grow_j20 e1 hf c1 rfl _ x4 x5 (by omega) h5 H
end Go.Proofs.Ytofjbbfnkefoaaa.Fs
