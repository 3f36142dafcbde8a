/- The trie: Longest. -/
import Derived.Test.YtofjbbfnkefoaaaTrSpec10
namespace Go.Proofs.Ytofjbbfnkefoaaa.Fs
open Go Go.RowKit Go.Proofs.Ytofjbbfnkefoaaa.Sx
set_option linter.unusedVariables false
set_option linter.unusedSimpArgs false
set_option maxRecDepth 10000
theorem loop_back (r : Loop) (h1 : r.state = .ready) (h2 : r.pending = none) : ({ ({ r with state := .busy } : Loop) with state := if (none : Option Code).isNone = true then .ready else .done, pending := none } : Loop) = r := by
  cases r; simp_all
theorem set_get {h : Hp} {l : Nat} {o : Obj} (hl : l < h.size) : (h.setIfInBounds l o)[l]? = some o := by simp [hl]
theorem set_fr {h : Hp} {l : Nat} {o : Obj} {S : Nat → Prop} (hS : S l) : Fr S h (h.setIfInBounds l o) :=
  ⟨by simp, fun k hk hn => Array.getElem?_setIfInBounds_ne (fun e => hn (by rw [← e]; exact hS))⟩
def En.enc (e : En) : List Value := [.int .u32 e.1, .int .i64 e.2.1, .int .i64 e.2.2]
def lastE (es : List En) : En := es.getLastD (0, 0, 0)
theorem size39 : (Try.prog.info? 66).map (·.size) = some 3 := by kernel_rfl
theorem size4 : (Try.prog.info? 4).map (·.size) = some 1 := by kernel_rfl
def LInv (g1 : Hp) (b6 b8 lr : Nat) (r : Loop) (done : List En) (h : Hp) : Prop :=
  Fr (fun k => k = b6 ∨ k = b8 ∨ k = lr) g1 h ∧ h[b6]? = some (.cells (lastE done).enc.toArray 66 (0, 0)) ∧ h[b8]? = some (.cells [Value.bool (!done.isEmpty)].toArray 4 (0, 0)) ∧ h[lr]? = some (.loop r)
theorem LInv.ext {g1 h h' : Hp} {b6 b8 lr : Nat} {r : Loop} {done : List En} (q : LInv g1 b6 b8 lr r done h) (f : Fr (fun _ => False) h h') : LInv g1 b6 b8 lr r done h' := by
  obtain ⟨q1, q2, q3, q4⟩ := q
  exact ⟨q1.trans (f.mono (fun _ h => h.elim)), f.get q2 (fun h => h), f.get q3 (fun h => h), f.get q4 (fun h => h)⟩
theorem long_round {g1 : Hp} {b6 b8 lr D : Nat} {r : Loop} (ok : RecOK 23 #[19] (sub (bodyOf Try.f30) [true, true, true, true, false, true, false, false]) (sub (bodyOf Try.f30) [true, true, true, true, false, true, false, true]) (mkTm [(6, some (.pointer (some ⟨b6, 0, none⟩))), (7, some (.pointer (some ⟨b8, 0, none⟩)))]) D r)
    (n1 : b6 ≠ b8) (n2 : b6 ≠ lr) (n3 : b8 ≠ lr) (done : List En) (e : En) (h : Hp) (K : Value → Hp → Prop) (q : LInv g1 b6 b8 lr r done h) (H : ∀ h', LInv g1 b6 b8 lr r (done ++ [e]) h' → K (.bool true) h') : HN Try.prog (callS (yieldV lr) #[En.val e]) h K := by
  obtain ⟨f, hb6, hb8, hrec⟩ := q
  refine trie_Trie_Longest_r1_ok ⟨b6, 0, none⟩ ⟨b8, 0, none⟩ _ _ _ hrec ok ?_
  unfold trie_Trie_Longest_r1
  refine newV (us := e.enc) rfl rfl size39 rfl fun h1 e1 c1 b1 z1 => ?_
  have g1e := (e1.fr (fun _ => False))
  have hlr := lt_of_get hrec
  refine ⟨r, g1e.get hrec (fun h => h), ok.state, ?_⟩
  have f2 : Fr (fun k => k = lr) h1 (h1.setIfInBounds lr (.loop { r with state := .busy })) := set_fr rfl
  have hr2 : (h1.setIfInBounds lr (.loop { r with state := .busy }))[lr]? = some (.loop { r with state := .busy }) := set_get (by omega)
  revert f2 hr2
  generalize h1.setIfInBounds lr (.loop { r with state := .busy }) = h2
  intro f2 hr2
  have c1' := f2.cl c1 (by intro e; simp at e; omega)
  have hb62 := f2.get (g1e.get hb6 (fun h => h)) n2
  have hb82 := f2.get (g1e.get hb8 (fun h => h)) n3
  have F2 : Fr (fun k => k = b6 ∨ k = b8 ∨ k = lr) g1 h2 := (f.trans (e1.fr _)).trans (f2.mono (fun k hk => .inr (.inr hk)))
  refine ⟨_, _, _, ldS c1' (by kernel_rfl), ?_⟩
  refine HU_box (us := e.enc) (cs := (lastE done).enc) hb62 rfl rfl size39 rfl fun h3 c3 b3 f3 z3 => ?_
  have hb83 := f3.get hb82 (fun e => n1 e.symm)
  have hr3 := f3.get hr2 (fun e => n2 e.symm)
  refine HU_box (us := [.bool true]) (cs := [Value.bool (!done.isEmpty)]) hb83 rfl rfl size4 rfl fun h4 c4 b4 f4 z4 => ?_
  have hb64 := f4.get b3 n1
  have hr4 := f4.get hr3 (fun e => n3 e.symm)
  refine ⟨_, hr4, H _ ⟨((F2.trans (f3.mono fun k hk => .inl hk)).trans (f4.mono fun k hk => .inr (.inl hk))).trans (set_fr (.inr (.inr rfl))), ?_, ?_, ?_⟩⟩
  · rw [Array.getElem?_setIfInBounds_ne (fun e => n2 e.symm)]
    simpa [lastE] using hb64
  · rw [Array.getElem?_setIfInBounds_ne (fun e => n3 e.symm)]
    rw [show (!(done ++ [e]).isEmpty) = true by cases done <;> rfl]
    exact b4
  · rw [set_get (lt_of_get hr4), loop_back r ok.state ok.pending]
def longT (F : Nat) (t : TT) (key : Int) : Option (En × Bool) := (aboveAll F t key t.width).map fun es => (lastE es, !es.isEmpty)
theorem longest_s {h : Hp} {b : Nat} {S : Nat → Prop} {t : TT} (q : TrAt h b S t) (hw : 0 ≤ t.width ∧ t.width ≤ 64) {F : Nat} (key : Int) {e : En} {o : Bool} (hl : longT F t key = some (e, o)) {K : Value → Hp → Prop} (H : ∀ h', Ext h h' → K (.tuple #[En.val e, .bool o]) h') : CallsH Try.prog 30 #[.pointer (some ⟨b, 0, none⟩), .int .u32 key] h K := by
  unfold longT at hl
  cases hes : aboveAll F t key t.width with
  | none => rw [hes] at hl; cases hl
  | some es =>
    rw [hes] at hl
    injection hl with hl
    injection hl with e1' e2'
    subst e1' e2'
    refine trie_Trie_Longest_ok _ _ ?_
    unfold trie_Trie_Longest
    refine newC_i (cs := (lastE []).enc) fun h1 e1 c1 b1 z1 => newC_i (cs := (lastE []).enc) fun h2 e2 c2 b2 z2 => ?_
    refine newV (cs := [Value.bool false]) (us := [Value.bool (!([] : List En).isEmpty)]) rfl rfl size4 rfl fun h3 e3 c3 b3 z3 => ?_
    have e13 := (e1.trans e2).trans e3
    obtain ⟨A, c, qg⟩ := (q.ext e13).ag
    refine ⟨_, eqNil eq32, br_f rfl ⟨_, ld (qg.cl.at_ 0 _ rfl) (by kernel_rfl), ?_⟩⟩
    refine above_s _ _ _ fun h4 a1 a2 a3 e4 l1 l2 l3 m1 m2 m3 k1 k2 k3 => ⟨_, rfl, ?_⟩
    refine ⟨55, _, rfl, by kernel_rfl, fun r ok => ?_⟩
    show CallsH Try.prog 55 #[yieldV (h4.size + 1), .pointer (some ⟨a1, 0, none⟩), .pointer (some ⟨a2, 0, none⟩), .pointer (some ⟨a3, 0, none⟩)] _ _
    have e5 : Ext h4 ((h4.push (.deferred (some []))).push (.loop r)) := (Ext.push h4 _).trans (Ext.push _ _)
    have hD1 : ((h4.push (.deferred (some []))).push (.loop r))[h4.size]? = some (.deferred (some [])) := by
      rw [Array.getElem?_push, if_neg (by simp), Array.getElem?_push, if_pos rfl]
    have hL1 : ((h4.push (.deferred (some []))).push (.loop r))[h4.size + 1]? = some (.loop r) := by rw [Array.getElem?_push, if_pos (by simp)]
    revert e5 hD1 hL1
    generalize (h4.push (.deferred (some []))).push (.loop r) = g1
    intro e5 hD1 hL1
    have s4 := e4.size
    have s5 := e5.size
    have e45 := e4.trans e5
    have fN := fun (x y : Hp) (e : Ext x y) => e.fr (fun _ => False)
    have ab : Above (LInv g1 h1.size h2.size (h4.size + 1) r) b S t key t.width ⟨a1, 0, none⟩ ⟨a2, 0, none⟩ ⟨a3, 0, none⟩ (yieldV (h4.size + 1)) := by
      refine ⟨fun done h' inv => ?_, fun done h' h'' inv f => inv.ext f, fun done e h' K' inv H' => long_round ok (by omega) (by omega) (by omega) done e h' K' inv H'⟩
      have fi := inv.1
      refine ⟨((q.ext e13).ext e45).keep fi (fun k hk hb => ?_), fi.cl (k1.ext e5) ?_, fi.cl (k2.ext e5) ?_, fi.cl (k3.ext e5) ?_⟩
      · have := q.2.1 k hk
        rcases hb with e | e | e <;> omega
      all_goals
        rintro (e | e | e) <;> simp at e <;> omega
    refine above1_s ab hw hes ⟨Fr.refl _ _, (fN _ _ ((e2.trans e3).trans e45)).get b1 (fun h => h) |> fun _ => (fN _ _ (e3.trans e45)).get b2 (fun h => h), (fN _ _ e45).get b3 (fun h => h), hL1⟩ fun h6 inv => ?_
    obtain ⟨f, hb6, hb8, hrec⟩ := inv
    refine ⟨r, hrec, by rw [ok.state]; decide, ?_⟩
    rw [ok.pending]
    have f7 : Fr (fun k => k = h4.size + 1) h6 (h6.setIfInBounds (h4.size + 1) (.loop { r with state := .done })) := set_fr rfl
    have F : ∀ o, Fr (fun k => k = h1.size ∨ k = h2.size ∨ k = h4.size + 1) g1 (h6.setIfInBounds (h4.size + 1) o) := fun o => f.trans (set_fr (.inr (.inr rfl)))
    have B6 : ∀ o, (h6.setIfInBounds (h4.size + 1) o)[h1.size]? = some (.cells (lastE es).enc.toArray 66 (0, 0)) := fun o => by rw [Array.getElem?_setIfInBounds_ne (by omega)]; exact hb6
    have B8 : ∀ o, (h6.setIfInBounds (h4.size + 1) o)[h2.size]? = some (.cells [Value.bool (!es.isEmpty)].toArray 4 (0, 0)) := fun o => by rw [Array.getElem?_setIfInBounds_ne (by omega)]; exact hb8
    have BD : ∀ o, (h6.setIfInBounds (h4.size + 1) o)[h4.size]? = some (.deferred (some [])) := fun o => (F o).get hD1 (by rintro (e | e | e) <;> omega)
    have BA : ∀ o, (h6.setIfInBounds (h4.size + 1) o)[h.size]? = some (.cells (lastE []).enc.toArray 66 (0, 0)) := fun o => (F o).get ((fN _ _ ((e2.trans e3).trans e45)).get b1 (fun h => h)) (by rintro (e | e | e) <;> omega)
    have clb : ∀ {hh : Hp} {bb : Nat} {vs : List Value} {T : TypeId}, hh[bb]? = some (.cells vs.toArray T (0, 0)) → Cl hh ⟨bb, 0, none⟩ vs := fun hb => Cl.of_block hb fun j v hj => by rw [Nat.zero_add]; exact hj
    refine ⟨_, _, _, ldS (clb (B6 _)) (by kernel_rfl), _, ld (clb (B8 _)).head (by kernel_rfl), ?_⟩
    refine HU_box (us := (lastE es).enc) (cs := (lastE []).enc) (BA _) rfl rfl size39 rfl fun h8 c8 b8 f8 z8 => ?_
    have B88 := f8.get (B8 _) (by omega)
    have s6 := f.size
    have s8 : h6.size ≤ h8.size := by have := f8.size; rwa [Array.size_setIfInBounds] at this
    have BD8 := f8.get (BD _) (by omega)
    refine ⟨ld (clb B88).head (by kernel_rfl), shut1 BD8 ?_⟩
    have f9 : Fr (fun k => k = h4.size) h8 (h8.setIfInBounds h4.size (.deferred none)) := set_fr rfl
    refine ⟨_, _, _, ldS (f9.cl c8 (by intro e; simp at e; omega)) (by kernel_rfl), H _ ⟨?_, fun k hk => ?_⟩⟩
    · have := e13.size
      have := f9.size
      omega
    · have := e13.size
      rw [f9.keep k (by omega) (by omega), f8.keep k (by rw [Array.size_setIfInBounds]; omega) (by omega), (F _).keep k (by omega) (by rintro (e | e | e) <;> omega), e45.old k (by omega), e13.old k hk]
end Go.Proofs.Ytofjbbfnkefoaaa.Fs
