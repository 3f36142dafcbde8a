/- The trie's walk: all entries, in the keys' order, until yield says no; the iterators, told whole. -/
import Derived.Test.YtofjbbfnkefoaaaTrIter
namespace Go.Proofs.Ytofjbbfnkefoaaa.Fs
open Go Go.RowKit Go.Proofs.Ytofjbbfnkefoaaa.Sx Go.Proofs.Ytofjbbfnkefoaaa.Tp
set_option linter.unusedVariables false
set_option linter.unusedSimpArgs false
set_option maxRecDepth 10000
/-- What a yield does, its own blocks told (Y). -/
structure ItY (J : List En → (Nat → Prop) → Hp → Prop) (Stop : Hp → Prop) (L : List En) (v : Value) : Prop where
  ext : ∀ done Y h h', J done Y h → Ext h h' → J done Y h'
  lt : ∀ done Y h, J done Y h → ∀ k, Y k → k < h.size
  round : ∀ done e rest Y h (K : Value → Hp → Prop), L = done ++ e :: rest → J done Y h → (∀ h' Y', J (done ++ [e]) Y' h' → Fr Y h h' → (∀ k, Y' k → Y k ∨ h.size ≤ k) → K (.bool true) h') → (∀ h', Stop h' → K (.bool false) h') → HN Try.prog (callS v #[En.val e]) h K
theorem ItY.it {J : List En → (Nat → Prop) → Hp → Prop} {Stop : Hp → Prop} {L : List En} {v : Value} (it : ItY J Stop L v) : It (fun done h => ∃ Y, J done Y h) Stop L v :=
  ⟨fun done h h' ⟨Y, q⟩ e => ⟨Y, it.ext _ _ _ _ q e⟩, fun done e rest h K hL ⟨Y, q⟩ H1 H0 => it.round done e rest Y h K hL q (fun h' Y' q' _ _ => H1 h' ⟨Y', q'⟩) H0⟩
theorem ItY.go {J : List En → (Nat → Prop) → Hp → Prop} {Stop : Hp → Prop} {L : List En} {v : Value} (it : ItY J Stop L v) {done rest : List En} (e : En) {u : Value} (hu : En.val e = u) {Y : Nat → Prop} {h : Hp} {K : Value → Hp → Prop} (hL : L = done ++ e :: rest) (hJ : J done Y h) (H1 : ∀ h' Y', J (done ++ [e]) Y' h' → Fr Y h h' → (∀ k, Y' k → Y k ∨ h.size ≤ k) → K (.bool true) h') (H0 : ∀ h', Stop h' → K (.bool false) h') : HN Try.prog (callS v #[u]) h K :=
  hu ▸ it.round done e rest Y h K hL hJ H1 H0
theorem shl32 {t : TypeId} (x y : Int) (hy : 0 ≤ y) : PV Try.prog (binOp .shl t (.int .u32 x) (.int .i64 y)) (.int .u32 (IntKind.u32.wrap (x * 2 ^ min y.toNat 32))) := by
  intro w
  have hn : ¬ (y < 0) := by omega
  simp only [binOp, Op.shift, hn, if_false]
  rfl
theorem kv_bit {w : Nat} (hw : w ≤ 32) (q : List Bool) (hq : q.length < w) (c : Bool) : bOr .u32 (kv w q : Nat) (IntKind.u32.wrap (IntKind.u32.wrap (bi c) * 2 ^ min ((w : Int) - 1 - (q.length : Nat)).toNat 32)) = (kv w (q ++ [c]) : Nat) := by
  have hk := kv_lt w q (by omega)
  have hpw := pow_lt32 hw
  have e : ((w : Int) - 1 - (q.length : Nat)).toNat = w - q.length - 1 := by omega
  have hm : 2 ^ (w - q.length - 1) < 4294967296 := Nat.pow_lt_pow_right (by decide : 1 < 2) (by omega : w - q.length - 1 < 32)
  have happ : kv w (q ++ [c]) = kv w q + (if c = true then 2 ^ (w - q.length - 1) else 0) := by rw [kv_app]; simp [kv]
  have hb : IntKind.u32.wrap (IntKind.u32.wrap (bi c) * 2 ^ min ((w : Int) - 1 - (q.length : Nat)).toNat 32) = ((if c = true then 2 ^ (w - q.length - 1) else 0 : Nat) : Int) := by
    rw [e, Nat.min_eq_left (by omega)]
    cases c
    · show IntKind.u32.wrap (IntKind.u32.wrap 0 * _) = _
      have : IntKind.u32.wrap 0 = 0 := by decide
      rw [this, Int.zero_mul, this]; rfl
    · show IntKind.u32.wrap (IntKind.u32.wrap 1 * _) = _
      have : IntKind.u32.wrap 1 = 1 := by decide
      rw [this, Int.one_mul, show (2 : Int) ^ (w - q.length - 1) = ((2 ^ (w - q.length - 1) : Nat) : Int) by simp, u32_in _ hm]
      simp
  rw [hb, bOr32 _ _ (by omega) (by split <;> omega), happ]
  congr 1
  cases c
  · simp
  · rw [if_pos rfl]
    have hd := kv_mod w q (by omega)
    obtain ⟨a, ha⟩ : ∃ a, kv w q = 2 ^ (w - q.length) * a := ⟨kv w q / 2 ^ (w - q.length), by have := Nat.div_add_mod (kv w q) (2 ^ (w - q.length)); omega⟩
    have hs : 2 ^ (w - q.length - 1) < 2 ^ (w - q.length) := Nat.pow_lt_pow_right (by decide) (by omega)
    rw [ha, Nat.two_pow_add_eq_or_of_lt hs]
theorem idx0 (x y : Int) : PV Try.prog (Instr.index 114 (.agg #[(.int .i32 x), (.int .i32 y)]) (.int .i64 0)) (.int .i32 x) := fun w => pureRun_run Try.prog _ _ (by kernel_rfl) w
theorem idx1 (x y : Int) : PV Try.prog (Instr.index 114 (.agg #[(.int .i32 x), (.int .i32 y)]) (.int .i64 1)) (.int .i32 y) := fun w => pureRun_run Try.prog _ _ (by kernel_rfl) w
/-- What the walk's own boxes hold. -/
def WBox (h : Hp) (b : Nat) (S : Nat → Prop) (t : TT) (a4 a5 a6 : Addr) (v : Value) : Prop :=
  TrAt h b S t ∧ Cl h a4 [.pointer (some ⟨b, 0, none⟩)] ∧ Cl h a5 [v] ∧ Cl h a6 [.func (.func 57) #[] #[.pointer (some a4), .pointer (some a5), .pointer (some a6)]]
theorem walk_go {J : List En → (Nat → Prop) → Hp → Prop} {Stop : Hp → Prop} {L : List En} {v : Value} (it : ItY J Stop L v) {b : Nat} {S : Nat → Prop} {t : TT} {w : Nat} {a4 a5 a6 : Addr} (htw : t.width = w) (hw : w ≤ 32) (hat : ∀ done Y h, J done Y h → WBox h b S t a4 a5 a6 v) :
    ∀ (T : Tr) (m i : Nat) (fp : List Nat) (q : List Bool) (done rest : List En) (Y : Nat → Prop) (h : Hp) (K : Value → Hp → Prop), Rep t.ns T i fp → T ≠ .nil → T.Dp m → q.length + m = w → L = done ++ ((T.ents q).map (enW w) ++ rest) → J done Y h → (∀ h', (∃ Y, J (done ++ (T.ents q).map (enW w)) Y h') → K (.bool true) h') → (∀ h', Stop h' → K (.bool false) h') →
      CallsH Try.prog 57 #[.int .i32 (i : Int), .int .u32 (kv w q : Nat), .int .i64 (q.length : Nat), .pointer (some a4), .pointer (some a5), .pointer (some a6)] h K
  | .nil, m, i, fp, q, done, rest, Y, h, K, hr, hT, _, _, _, _, _, _ => absurd rfl hT
  | .node x l r, m, i, fp, q, done, rest, Y, h, K, hr, hT, hD, hq, hL, hJ, H1, H0 => by
    obtain ⟨kk, o, f1, g0, hx, h1, h2, hp, z1, z2⟩ := hr.open_ hT false
    refine trie_Trie_Walk_1_1_ok _ _ _ _ _ _ ?_
    unfold trie_Trie_Walk_1_1
    obtain ⟨qt, k4, k5, k6⟩ := hat _ _ _ hJ
    obtain ⟨A, c, qg⟩ := qt.ag
    have hlt := (List.getElem?_eq_some_iff.1 hx).1
    obtain ⟨g, rfl⟩ := qg.blk_some (by omega)
    refine ⟨_, ld k4.head (by kernel_rfl), ?_⟩
    refine ⟨_, _, _, ld (qg.cl.at_ 2 _ rfl) (by kernel_rfl), ?_⟩
    refine ⟨_, ixN hlt, _, _, _, _, ldS (qg.node hx) (by kernel_rfl), ?_⟩
    refine newC_i (cs := zN.enc) fun g2 e2 c2 b2 s2 => ?_
    refine box_node b2 (mkN x false kk o) fun g3 c3 f3 s3 => ?_
    have e03 : Ext h g3 := boxExt e2 (Nat.le_refl _) f3
    have J3 := it.ext _ _ _ _ hJ e03
    have hYlt := it.lt _ _ _ hJ
    have hents : (Tr.node x l r).ents q = Tr.hdE x q ++ (l.ents (q ++ [false]) ++ r.ents (q ++ [true])) := rfl
    have hloop : ∀ (d1 : List En) (h' : Hp), Cl h' ⟨h.size, 0, none⟩ (mkN x false kk o).enc → (∃ Y, J d1 Y h') → L = d1 ++ (((l.ents (q ++ [false])).map (enW w)) ++ ((r.ents (q ++ [true])).map (enW w) ++ rest)) → (∀ h'', (∃ Y, J (d1 ++ (((l.ents (q ++ [false])).map (enW w)) ++ (r.ents (q ++ [true])).map (enW w))) Y h'') → K (.bool true) h'') →
        trie_Trie_Walk_1_1_j2 (fun (b : Bool) (h103 : Hp) => K (.bool b) h103) (kv w q : Nat) (q.length : Nat) a4 a6 ⟨h.size, 0, none⟩ h' := by
      intro d1 h' cb hJ1 hL1 HK
      unfold trie_Trie_Walk_1_1_j2
      refine ⟨_, _, ldS (vs := [.int .i32 (kk : Int), .int .i32 (o : Int)]) (Cl.sub cb 0 (by intro j v hj; rcases j with _ | _ | j <;> simp_all [Node.enc, mkN, nodeOf])) (by kernel_rfl), 3, ?_⟩
      have step : ∀ (cc : Bool) (s : Tr) (j : Nat) (f : List Nat) (d2 rest2 : List En) (h2 : Hp) (ff : Nat), (∀ (m i : Nat) (fp : List Nat) (q : List Bool) (done rest : List En) (Y : Nat → Prop) (h : Hp) (K : Value → Hp → Prop), Rep t.ns s i fp → s ≠ .nil → s.Dp m → q.length + m = w → L = done ++ ((s.ents q).map (enW w) ++ rest) → J done Y h → (∀ h', (∃ Y, J (done ++ (s.ents q).map (enW w)) Y h') → K (.bool true) h') → (∀ h', Stop h' → K (.bool false) h') →
      CallsH Try.prog 57 #[.int .i32 (i : Int), .int .u32 (kv w q : Nat), .int .i64 (q.length : Nat), .pointer (some a4), .pointer (some a5), .pointer (some a6)] h K) → Rep t.ns s j f → 0 ∉ f → (∀ m', m = m' + 1 → s.Dp m') → (m = 0 → s = .nil) → PV Try.prog (Instr.index 114 (.agg #[(.int .i32 (kk : Int)), (.int .i32 (o : Int))]) (.int .i64 (bi cc))) (.int .i32 (j : Int)) → (∃ Y, J d2 Y h2) → L = d2 ++ ((s.ents (q ++ [cc])).map (enW w) ++ rest2) →
          (∀ h'', (∃ Y, J (d2 ++ (s.ents (q ++ [cc])).map (enW w)) Y h'') → trie_Trie_Walk_1_1_l3 (kv w q : Nat) (q.length : Nat) a4 a6 (kk : Int) (o : Int) (fun (b90 : Bool) (h91 : Hp) => K (.bool b90) h91) (fun (h92 : Hp) => K (.bool true) h92) ff (IntKind.i64.wrap (bi cc + 1)) h'') →
          trie_Trie_Walk_1_1_l3 (kv w q : Nat) (q.length : Nat) a4 a6 (kk : Int) (o : Int) (fun (b90 : Bool) (h91 : Hp) => K (.bool b90) h91) (fun (h92 : Hp) => K (.bool true) h92) (ff + 1) (bi cc) h2 := by
        intro cc s j f d2 rest2 h2 ff ih hrs hf0 hdp hm0 hidx ⟨Y2, hJ2⟩ hL2 HN2
        unfold trie_Trie_Walk_1_1_l3
        refine br_t (by rcases bi01 cc with e | e <;> rw [e] <;> rfl) ⟨_, hidx, br_i (fun hz => ?_) (fun hz => ?_)⟩
        · have hj0 : j ≠ 0 := by simp at hz; omega
          have hs : s ≠ .nil := fun e => hj0 ((hrs.kid0 hf0).2 e)
          have hmpos : m ≠ 0 := fun e => hs (hm0 e)
          obtain ⟨qt2, k42, k52, k62⟩ := hat _ _ _ hJ2
          obtain ⟨A2, c2', qg2⟩ := qt2.ag
          refine ⟨_, ld k62.head (by kernel_rfl), _, ld k42.head (by kernel_rfl), ?_⟩
          refine ⟨_, ld (qg2.cl.at_ 0 _ rfl) (by kernel_rfl), ?_⟩
          rw [wrap_in (n := t.width - 1) (by omega) (by omega), wrap_in (n := t.width - 1 - _) (by omega) (by omega)]
          refine ⟨_, shl32 _ _ (by omega), ?_⟩
          rw [htw, kv_bit hw q (by omega) cc, wrap_in (n := ((q.length : Nat) : Int) + 1) (by omega) (by omega)]
          have hlen : ((q.length : Nat) : Int) + 1 = ((q ++ [cc]).length : Nat) := by simp
          rw [hlen]
          refine callF (by kernel_rfl) ?_
          refine ih (m - 1) j f (q ++ [cc]) d2 rest2 Y2 h2 _ hrs hs (hdp (m - 1) (by omega)) (by simp; omega) hL2 hJ2 (fun h3' hJ3 => ⟨true, rfl, br_f rfl (HN2 h3' hJ3)⟩) (fun h3' hS => ⟨false, rfl, br_t rfl (H0 h3' hS)⟩)
        · have hj0 : j = 0 := by simp at hz; omega
          have hs : s = .nil := (hrs.kid0 hf0).1 hj0
          subst hs
          exact HN2 h2 ⟨Y2, by simpa [Tr.ents] using hJ2⟩
      have hdpl : ∀ m', m = m' + 1 → l.Dp m' := fun m' e => by subst e; exact hD.1
      have hdpr : ∀ m', m = m' + 1 → r.Dp m' := fun m' e => by subst e; exact hD.2
      have hl0 : m = 0 → l = .nil := fun e => by subst e; exact hD.1
      have hr0 : m = 0 → r = .nil := fun e => by subst e; exact hD.2
      refine step false l kk f1 d1 _ h' 2 (walk_go it htw hw hat l) h1 z1 hdpl hl0 (idx0 _ _) hJ1 hL1 fun h2' hJ2 => ?_
      show trie_Trie_Walk_1_1_l3 _ _ _ _ _ _ _ _ 2 1 h2'
      refine step true r o g0 _ rest h2' 1 (walk_go it htw hw hat r) h2 z2 hdpr hr0 (idx1 _ _) hJ2 (by rw [hL1]; simp) fun h3' hJ3 => ?_
      show trie_Trie_Walk_1_1_l3 _ _ _ _ _ _ _ _ 1 2 h3'
      unfold trie_Trie_Walk_1_1_l3
      exact br_f rfl (HK h3' (by simpa using hJ3))
    obtain ⟨qt3, k43, k53, k63⟩ := hat _ _ _ J3
    refine ⟨_, ld (c3.at_ 2 _ rfl) (by kernel_rfl), ?_⟩
    rw [mkN_held]
    cases x with
    | some y =>
      refine br_t rfl ⟨_, ld k53.head (by kernel_rfl), _, ld (c3.at_ 3 _ rfl) (by kernel_rfl), ?_⟩
      have hL' : L = done ++ enW w (q, y) :: (((l.ents (q ++ [false])).map (enW w)) ++ ((r.ents (q ++ [true])).map (enW w) ++ rest)) := by rw [hL, hents]; simp [Tr.hdE]
      refine it.go (enW w (q, y)) rfl hL' J3 (fun h4 Y4 J4 f4 _ => ⟨true, rfl, br_f rfl ?_⟩) (fun h4 s4 => ⟨false, rfl, br_t rfl (H0 h4 s4)⟩)
      refine hloop _ h4 (f4.cl c3 (fun hY => Nat.lt_irrefl _ (hYlt _ hY))) ⟨Y4, J4⟩ (by rw [hL']; simp) fun h5 J5 => H1 h5 (by rw [hents]; simpa [Tr.hdE] using J5)
    | none =>
      refine br_f rfl ?_
      refine hloop done g3 c3 ⟨Y, J3⟩ (by rw [hL, hents]; simp [Tr.hdE]) fun h5 J5 => H1 h5 (by rw [hents]; simpa [Tr.hdE] using J5)
end Go.Proofs.Ytofjbbfnkefoaaa.Fs
