/- The trie's iterators as sequences; told. -/
import Derived.Test.YtofjbbfnkefoaaaTrWalk
import Derived.Test.YtofjbbfnkefoaaaFsV
import Derived.Test.YtofjbbfnkefoaaaSxPart
namespace Go.Proofs.Ytofjbbfnkefoaaa.Fs
open Go Go.RowKit Go.Proofs.Ytofjbbfnkefoaaa.Sx Go.Proofs.Ytofjbbfnkefoaaa.Tp
set_option linter.unusedVariables false
set_option linter.unusedSimpArgs false
set_option maxRecDepth 10000
/-- An iterator's closure tells just L in each heap that is no less than h0. -/
structure SeqAt (h0 : Hp) (g : FuncId) (lb : Array Value) (L : List En) : Prop where
  enters : enters Try.prog g = true
  run : ∀ {J : List En → (Nat → Prop) → Hp → Prop} {Stop : Hp → Prop} {l : Nat} {Y : Nat → Prop} {h : Hp} {K : Value → Hp → Prop}, ItY J Stop L (yieldV l) → (∀ done Y h, J done Y h → Ext h0 h) → J [] Y h → (∀ h' Y', J L Y' h' → K (.tuple #[]) h') → (∀ h', Stop h' → K (.tuple #[]) h') → CallsH Try.prog g (#[yieldV l] ++ lb) h K
theorem SeqAt.ext {h0 h1 : Hp} {g : FuncId} {lb : Array Value} {L : List En} (s : SeqAt h0 g lb L) (e : Ext h0 h1) : SeqAt h1 g lb L :=
  ⟨s.enters, fun it hj j0 H1 H0 => s.run it (fun done Y h hd => e.trans (hj done Y h hd)) j0 H1 H0⟩
theorem ItY.add {J : List En → (Nat → Prop) → Hp → Prop} {Stop : Hp → Prop} {L : List En} {v : Value} (it : ItY J Stop L v) {P : Hp → Prop} {B : Nat → Prop} (hB : ∀ h, P h → ∀ k, B k → k < h.size) (hP : ∀ h h' Y, P h → Fr Y h h' → (∀ k, Y k → ¬ B k) → P h') :
    ItY (fun done Y h => J done Y h ∧ P h ∧ ∀ k, Y k → ¬ B k) Stop L v :=
  ⟨fun done Y h h' ⟨q, p, n⟩ e => ⟨it.ext _ _ _ _ q e, hP h h' (fun _ => False) p (e.fr _) (fun _ h => h.elim), n⟩, fun done Y h ⟨q, _⟩ => it.lt _ _ _ q, fun done e rest Y h K hL ⟨q, p, n⟩ H1 H0 => it.round done e rest Y h K hL q (fun h' Y' q' f s => H1 h' Y' ⟨q', hP h h' Y p f n, fun k hk hb => by
    rcases s k hk with h1 | h1
    · exact n k h1 hb
    · have := hB h p k hb; omega⟩ f s) H0⟩
theorem walk_seq {h0 : Hp} {b : Nat} {S : Nat → Prop} {t : TT} {T : Tr} {w : Nat} (q : TrAt h0 b S t) (I : Inv t T) (hD : T.Dp w) (htw : t.width = w) (hw : w ≤ 32) {a1 : Addr} (c : Cl h0 a1 [.pointer (some ⟨b, 0, none⟩)]) : SeqAt h0 56 #[.pointer (some a1)] ((T.ents []).map (enW w)) := by
  refine ⟨by kernel_rfl, fun {J Stop l Y h K} it hj j0 H1 H0 => ?_⟩
  show CallsH Try.prog 56 #[yieldV l, .pointer (some a1)] h K
  refine trie_Trie_Walk_1_ok _ _ _ _ ?_
  unfold trie_Trie_Walk_1
  refine newC_i fun h1 e1 c1 b1 z1 => ?_
  have j1 := it.ext _ _ _ _ j0 e1
  have E1 := hj _ _ _ j1
  refine ⟨_, ld (c.ext E1).head (by kernel_rfl), _, eqNil eq32, br_f rfl ⟨_, ld (c.ext E1).head (by kernel_rfl), ?_⟩⟩
  obtain ⟨A, cc, qg⟩ := (q.ext E1).ag
  refine ⟨_, ld (qg.cl.at_ 5 _ rfl) (by kernel_rfl), ?_⟩
  rcases I with ⟨rfl, hro, _, _⟩ | ⟨hT, hro, U, fs, hr, st⟩
  · exact br_t (by rw [hro]; rfl) (H1 _ _ j1)
  · refine br_f (by rw [hro]; rfl) ?_
    refine newC_i (cs := [.nilFunc]) fun h2 e2 c2 b2 z2 => ?_
    have hYlt := it.lt _ _ _ j0
    refine HU_box (us := [.func (.func 57) #[] #[(.pointer (some a1)), (.pointer (some ⟨h.size, 0, none⟩)), (.pointer (some ⟨h1.size, 0, none⟩))]]) (cs := [.nilFunc]) b2 rfl rfl (by kernel_rfl) rfl fun h3 c3 b3 f3 z3 => ?_
    have e23 : Ext h1 h3 := boxExt e2 (Nat.le_refl _) f3
    have j3 := it.ext _ _ _ _ j1 e23
    have it2 := it.add (P := fun h' => Cl h' ⟨h.size, 0, none⟩ [yieldV l] ∧ Cl h' ⟨h1.size, 0, none⟩ [.func (.func 57) #[] #[(.pointer (some a1)), (.pointer (some ⟨h.size, 0, none⟩)), (.pointer (some ⟨h1.size, 0, none⟩))]]) (B := fun k => k = h.size ∨ k = h1.size) (fun h' p k hk => by
      rcases hk with rfl | rfl
      · exact cell_lt p.1.head
      · exact cell_lt p.2.head) (fun h' h'' Y' p f n => ⟨f.cl p.1 (fun hY => n _ hY (.inl rfl)), f.cl p.2 (fun hY => n _ hY (.inr rfl))⟩)
    refine ⟨_, ld c3.head (by kernel_rfl), ?_⟩
    refine callF (by kernel_rfl) ?_
    have hw0 := walk_go it2 (b := b) (S := S) (t := t) (a4 := a1) (a5 := ⟨h.size, 0, none⟩) (a6 := ⟨h1.size, 0, none⟩) htw hw (fun done Y' h' hq => by
      have E := hj _ _ _ hq.1
      exact ⟨q.ext E, c.ext E, hq.2.1.1, hq.2.1.2⟩) T w 0 U [] [] [] Y h3 (fun v h' => ∃ b : Bool, v = .bool b ∧ K (.tuple #[]) h') hr hT hD (by simp) (by simp) ⟨j3, ⟨c1.ext e23, c3⟩, fun k hk hb => by
        have := hYlt k hk
        have := e1.size
        rcases hb with rfl | rfl <;> omega⟩ (fun h' ⟨Y', hq⟩ => ⟨true, rfl, H1 h' Y' (by simpa using hq.1)⟩) (fun h' hs => ⟨false, rfl, H0 h' hs⟩)
    exact hw0
def abovL (T : Tr) (w k : Nat) (n : Int) : List En := if mayT w k n = true then (Tr.above (pa w k n.toNat) T []).map (enW w) else []
theorem mayT_nat {w : Nat} {k : Int} {n : Int} (hm : mayT w k n = true) : ∃ m : Nat, n = m ∧ m ≤ w := by
  have := mayT_le hm
  exact ⟨n.toNat, by omega, by omega⟩
theorem above_seq {h0 : Hp} {b : Nat} {S : Nat → Prop} {t : TT} {T : Tr} {w : Nat} (q : TrAt h0 b S t) (I : Inv t T) (htw : t.width = w) (hw : W3 w) {a1 a2 a3 : Addr} {k : Nat} (hk : k < 4294967296) {n : Int} (c1 : Cl h0 a1 [.pointer (some ⟨b, 0, none⟩)]) (c2 : Cl h0 a2 [.int .u32 (k : Int)]) (c3 : Cl h0 a3 [.int .i64 n]) : SeqAt h0 55 #[.pointer (some a1), .pointer (some a2), .pointer (some a3)] (abovL T w k n) := by
  refine ⟨by kernel_rfl, fun {J Stop l Y h K} it hj j0 H1 H0 => ?_⟩
  show CallsH Try.prog 55 #[yieldV l, .pointer (some a1), .pointer (some a2), .pointer (some a3)] h K
  refine trie_Trie_Above_1_ok _ _ _ _ _ _ ?_
  unfold trie_Trie_Above_1
  have E := hj _ _ _ j0
  have qt := q.ext E
  have k1 := c1.ext E
  have k2 := c2.ext E
  have k3 := c3.ext E
  obtain ⟨A, c, qg⟩ := qt.ag
  have hwl := hw.le
  refine ⟨_, ld k1.head (by kernel_rfl), _, eqNil eq32, br_f rfl ?_⟩
  refine ⟨_, ld k1.head (by kernel_rfl), _, ld k2.head (by kernel_rfl), _, ld k3.head (by kernel_rfl), ?_⟩
  refine may_s qt (by omega) (k : Int) n ⟨_, rfl, ?_⟩
  rw [htw]
  unfold abovL at H1 it
  by_cases hm : mayT w k n = true
  · rw [if_pos hm] at H1 it
    obtain ⟨m, rfl, hmw⟩ := mayT_nat hm
    rw [Int.toNat_natCast] at H1 it
    have hmi := (may_iff hw hk m).1 hm
    refine br_f (by rw [hm]; rfl) ⟨_, ld k1.head (by kernel_rfl), _, ld (qg.cl.at_ 5 _ rfl) (by kernel_rfl), ?_⟩
    rcases I with ⟨rfl, hro, _, _⟩ | ⟨hT, hro, U, fs, hr, st⟩
    · rw [Tr.above_nil] at H1
      exact br_t (by rw [hro]; rfl) (H1 _ _ j0)
    · refine br_f (by rw [hro]; rfl) ?_
      unfold trie_Trie_Above_1_j4
      refine ⟨40, ?_⟩
      exact above2_l6 it.it htw (by omega) hk hmi.2.1 hmw (fun done h' ⟨Y', hq⟩ => by
        have E' := hj _ _ _ hq
        exact ⟨q.ext E', c1.ext E', c2.ext E', c3.ext E'⟩) H0 (pa w k m) T 0 U [] 40 [] [] h hr hT (bits_key (by omega) hk hmw) (by simp) (by rw [pa_len]; omega) (by simp) ⟨Y, j0⟩ (fun h' ⟨Y', hq⟩ => H1 h' Y' (by simpa using hq))
  · rw [if_neg hm] at H1
    exact br_t (by simpa using hm) (H1 _ _ j0)
/-! ### told -/
theorem undE : Try.prog.underlying 79 = some (.slice 66) := by kernel_rfl
theorem infoE : ∃ i z, Try.prog.info? 66 = some i ∧ i.size = 3 ∧ i.bytes ≤ 100 ∧ 0 < i.bytes ∧ i.zero = some z ∧ z.cells = (En.enc (0, 0, 0)).toArray := ⟨_, _, rfl, rfl, by decide, by decide, rfl, rfl⟩
abbrev RowE (h : Hp) (A : Option Addr) (c : Nat) (es : List En) : Prop := Row h 66 En.enc 3 A c es
theorem En.len (e : En) : (En.enc e).length = 3 := rfl
theorem En.flat (e : En) : (En.enc e).all flatV = true := rfl
/-- The heap in told's range. -/
def TJ (h0 g1 : Hp) (a lr : Nat) (r : Loop) (done : List En) (Y : Nat → Prop) (h : Hp) : Prop :=
  ∃ A c, Y = (fun k => k = a ∨ k = lr ∨ blk A k) ∧ Fr (fun k => k = a ∨ k = lr) g1 h ∧ h[a]? = some (.cells [Value.slice A done.length c].toArray 79 (0, 0)) ∧ h[lr]? = some (.loop r) ∧ RowE h A c done ∧ (∀ k, blk A k → g1.size ≤ k ∧ k < h.size)
theorem sizeSl : (Try.prog.info? 79).map (·.size) = some 1 := by kernel_rfl
theorem told_round {h0 g1 : Hp} {a lr D : Nat} {r : Loop} (hne : a ≠ lr) (ha : a < g1.size) (hlr : lr < g1.size) (ok : RecOK 15 #[9] (sub (bodyOf Try.f41) [true, true, true, false, true, false, false]) (sub (bodyOf Try.f41) [true, true, true, false, true, false, true]) (mkTm [(3, some (.pointer (some ⟨a, 0, none⟩)))]) D r) {L : List En} (hL : L.length ≤ 1100000) :
    ItY (TJ h0 g1 a lr r) (fun _ => False) L (yieldV lr) := by
  refine ⟨fun done Y h h' ⟨A, c, hY, f, h1, h2, h3, h4⟩ e => ⟨A, c, hY, f.trans (e.fr _), (e.fr (fun _ => False)).get h1 (fun h => h), (e.fr (fun _ => False)).get h2 (fun h => h), h3.keep (e.fr (fun _ => False)) (fun _ _ h => h), fun k hk => ⟨(h4 k hk).1, Nat.lt_of_lt_of_le (h4 k hk).2 e.size⟩⟩, ?_, ?_⟩
  · rintro done Y h ⟨A, c, rfl, f, h1, h2, h3, h4⟩ k (rfl | rfl | hk)
    · exact lt_of_get h1
    · exact lt_of_get h2
    · exact (h4 k hk).2
  · rintro done e rest Y h K hLe ⟨A, c, rfl, f, h1, h2, h3, h4⟩ H1 _
    refine quintetlaw12_told_r1_ok ⟨a, 0, none⟩ _ _ _ h2 ok ?_
    unfold quintetlaw12_told_r1
    have hlen : done.length ≤ 1100000 := by
      have := congrArg List.length hLe
      simp at this; omega
    refine newV (us := En.enc e) rfl rfl size39 rfl fun g2 e2 c2 b2 z2 => ?_
    have fN := fun (x y : Hp) (e : Ext x y) => e.fr (fun _ => False)
    refine ⟨r, (fN _ _ e2).get h2 (fun h => h), ok.state, ?_⟩
    have f3 : Fr (fun k => k = lr) g2 (g2.setIfInBounds lr (.loop { r with state := .busy })) := set_fr rfl
    have hr3 : (g2.setIfInBounds lr (.loop { r with state := .busy }))[lr]? = some (.loop { r with state := .busy }) := set_get (by have := lt_of_get h2; have := e2.size; omega)
    revert f3 hr3
    generalize g2.setIfInBounds lr (.loop { r with state := .busy }) = g3
    intro f3 hr3
    have hs1 := f.size
    have ha3 := f3.get ((fN _ _ e2).get h1 (fun h => h)) hne
    have nb : ∀ k, blk A k → k ≠ a ∧ k ≠ lr := fun k hk => by have := h4 k hk; omega
    have hrow3 := (h3.keep (fN _ _ e2) (fun _ _ h => h)).keep f3 (fun k hk e => (nb k hk).2 e)
    have ca3 : Cl g3 ⟨a, 0, none⟩ [Value.slice A done.length c] := Cl.of_block ha3 fun j v hj => by rw [Nat.zero_add]; exact hj
    have ce3 : Cl g3 ⟨h.size, 0, none⟩ (En.enc e) := f3.cl c2 (by intro e; simp at e; have := lt_of_get h2; omega)
    refine ⟨_, _, _, ld ca3.head (by kernel_rfl), _, _, _, ldS ce3 (by kernel_rfl), ?_⟩
    refine newC_i (cs := En.enc e) fun g4 e4 c4 b4 z4 => ?_
    obtain ⟨i, z, hi, hisz, hiby, hiby0, hiz, hzc⟩ := infoE
    have hrow4 := hrow3.keep (fN _ _ e4) (fun _ _ h => h)
    refine HW_append1 (enc := En.enc) (xs := done) (x := e) En.len En.flat undE hi hiz (by rw [hzc]; rfl) hisz hiby0 hrow4 c4 ?_ ?_
    · have : (2 * (done.length + 1) + 768) * i.bytes ≤ (2 * (done.length + 1) + 768) * 100 := Nat.mul_le_mul_left _ hiby
      omega
    intro g5 g c5 hr5 hg f5
    refine ⟨_, _, _, rfl, ?_⟩
    have ha5 := f5.get ((fN _ _ e4).get ha3 (fun h => h)) (fun hb => (nb a hb).1 rfl)
    have hlr5 := f5.get ((fN _ _ e4).get hr3 (fun h => h)) (fun hb => (nb lr hb).2 rfl)
    have hglt : g < g5.size := by
      obtain ⟨g', rest', hA, hb, _⟩ := hr5.open En.len (by simp)
      injection hA with hA
      injection hA with hA
      subst hA
      exact lt_of_get hb
    have hgg : g1.size ≤ g := by
      rcases hg with hg | hg
      · exact (h4 g hg).1
      · have := f3.size; have := e2.size; have := e4.size; omega
    refine HU_box (us := [Value.slice (some ⟨g, 0, none⟩) (done.length + 1) c5]) (cs := [Value.slice A done.length c]) ha5 rfl rfl sizeSl rfl fun g6 c6 b6 f6 z6 => ?_
    have hlr6 := f6.get hlr5 (fun e => hne e.symm)
    have hbl : ∀ k, blk (some ⟨g, 0, none⟩ : Option Addr) k → k = g := by rintro k ⟨a', ha', rfl⟩; injection ha' with ha'; subst ha'; rfl
    refine ⟨_, hlr6, ?_⟩
    have hback : ({ ({ r with state := .busy } : Loop) with state := if (none : Option Code).isNone = true then .ready else .done, pending := none } : Loop) = r := loop_back r ok.state ok.pending
    have f7 : ∀ (S : Nat → Prop) (o : Obj), S lr → Fr S g6 (g6.setIfInBounds lr o) := fun S o h => set_fr h
    have Fall : ∀ o, Fr (fun k => k = a ∨ k = lr ∨ blk A k) h (g6.setIfInBounds lr o) := fun o =>
      (((((e2.fr _).trans (f3.mono fun k hk => .inr (.inl hk))).trans (e4.fr _)).trans (f5.mono fun k hk => .inr (.inr hk))).trans (f6.mono fun k hk => .inl hk)).trans (f7 _ o (.inr (.inl rfl)))
    have Fg : ∀ o, Fr (fun k => k = a ∨ k = lr) g1 (g6.setIfInBounds lr o) := fun o => by
      refine ⟨Nat.le_trans f.size (Fall o).size, fun k hk hn => ?_⟩
      rw [(Fall o).keep k (Nat.lt_of_lt_of_le hk f.size) (by
        rintro (e | e | e)
        · exact hn (.inl e)
        · exact hn (.inr e)
        · have := (h4 k e).1; omega), f.keep k hk hn]
    refine H1 _ (fun k => k = a ∨ k = lr ∨ blk (some ⟨g, 0, none⟩) k) ⟨some ⟨g, 0, none⟩, c5, rfl, Fg _, ?_, ?_, ?_, ?_⟩ (Fall _) ?_
    · rw [Array.getElem?_setIfInBounds_ne (fun e => hne e.symm)]
      simpa using b6
    · rw [set_get (lt_of_get hlr6), hback]
    · refine (hr5.keep f6 (fun k hk e => ?_)).keep (f7 (fun k => k = lr) _ rfl) (fun k hk e => ?_)
      · have := hbl k hk; omega
      · have := hbl k hk; omega
    · intro k hk
      have := hbl k hk
      have := f6.size
      rw [Array.size_setIfInBounds]
      omega
    · rintro k (rfl | rfl | hk)
      · exact .inl (.inl rfl)
      · exact .inl (.inr (.inl rfl))
      · rcases hg with hg | hg
        · exact .inl (.inr (.inr (hbl k hk ▸ hg)))
        · right
          have := hbl k hk; have := f3.size; have := e2.size; have := e4.size; omega
end Go.Proofs.Ytofjbbfnkefoaaa.Fs
