/- The trie: Put. -/
import Derived.Test.YtofjbbfnkefoaaaTrSpec4
namespace Go.Proofs.Ytofjbbfnkefoaaa.Fs
open Go Go.RowKit Go.Proofs.Ytofjbbfnkefoaaa.Sx
set_option linter.unusedVariables false
set_option linter.unusedSimpArgs false
set_option maxRecDepth 10000
theorem TrAg.grow {h1 : Hp} {b : Nat} {S : Nat → Prop} {t : TT} {A : Option Addr} {c : Nat} (q1 : TrAg h1 b S t A c) (hl : t.ns.length ≤ 2000000) {K : Hp → Prop}
    (H : ∀ h', To h1 S b { t with ns := t.ns ++ [zN] } h' → K h') :
  newC h1 (.cells #[(.int .i32 0), (.int .i32 0), (.bool false), (.int .i64 0)] 116 (0, 0)) fun a226 h225 => 
  HW Try.prog (Builtin.append_ #[108, 108] 108 #[(.slice A t.ns.length c), (.slice (some a226) 1 1)]) h225 fun r228 h227 =>
  ∃ A229 : Option Addr, ∃ l229 : Nat, ∃ c229 : Nat, r228 = (.slice A229 l229 c229) ∧ 
  drf (some ⟨b, 0, none⟩) fun a230 =>
  HU Try.prog (Instr.storeAt 108 (.pointer (some (a230.add 2))) (.slice A229 l229 c229)) h227 K := by
    refine newC_i (cs := zN.enc) fun h2 e2x c2 b2 z2 => ?_
    obtain ⟨i, z, hi, hisz, hiby, hiby0, hiz, hzc⟩ := info108
    have q1' := q1
    obtain ⟨g1, g2, g3, g4, g5, g6⟩ := q1'
    have hb2 := (e2x.fr (fun _ => False)).get g3 (fun h => h)
    have hr2 := g4.keep (e2x.fr (fun _ => False)) (fun _ _ h => h)
    refine HW_append1 (enc := Node.enc) (xs := t.ns) (x := zN) Node.len Node.flat und100 hi hiz (by rw [hzc]; rfl) hisz hiby0 hr2 c2 ?_ ?_
    · have : (2 * (t.ns.length + 1) + 768) * i.bytes ≤ (2 * (t.ns.length + 1) + 768) * 100 := Nat.mul_le_mul_left _ hiby
      omega
    intro h3 g c3 hr3 hg f3
    have hgb : g ≠ b := by
      rcases hg with hg | hg
      · intro e; subst e; exact g6 hg
      · have := g2 b g1; have := e2x.size; omega
    have hb3 := f3.get hb2 g6
    have hglt : g < h3.size := by
      obtain ⟨g', rest, hA, hb, _⟩ := hr3.open Node.len (by simp)
      injection hA with hA
      injection hA with hA
      subst hA
      exact lt_of_get hb
    refine ⟨_, _, _, rfl, ?_⟩
    have hlen1 : (t.ns ++ [zN]).length = t.ns.length + 1 := by simp
    rw [← hlen1]
    refine q1.st_slice hb3 hr3 hgb ((e2x.fr _).trans (f3.mono g5)) (fun h4 q4 f4 => ?_) hglt
    refine H h4 ⟨_, q4.at_, ?_, f4⟩
    rintro k (hk | hk)
    · exact .inl hk
    · rcases hg with hg | hg
      · exact .inl (hk ▸ g5 g hg)
      · refine .inr ?_
        have := e2x.size
        omega
def rootT (t : TT) : TT := { t with ns := (if t.ns.length = 0 then t.ns ++ [zN] else t.ns).set 0 zN, rooted := true, nodes := t.nodes + 1 }
def putT (f : Nat) (t : TT) (key n v : Int) : Option (Int × TT) := if mayT t.width key n = true then (match downT t key n with
    | none => none
    | some (at_, i) =>
      if 0 ≤ t.nodes ∧ t.nodes ≤ 2 ^ 60 ∧ t.ns.length ≤ 2000000 ∧ -1 ≤ i ∧ i ≤ n then
        (if t.nodes + n - i > t.most then some (122, t)
        else if i < 0 then (loopP key n v f at_ 0 (rootT t)).map fun t' => (0, t')
        else (loopP key n v f at_ i t).map fun t' => (0, t'))
      else none)
  else some (120, t)
theorem j5_s {h : Hp} {b : Nat} {S : Nat → Prop} {t : TT} (q : TrAt h b S t) (hn : 0 ≤ t.nodes ∧ t.nodes ≤ 2 ^ 62) (hl : 0 < t.ns.length) (key n v at_ : Int) {K0 : Option Addr → Int → Int → Int → Int → Int → Hp → Prop}
    (H : ∀ h', To h S b { t with ns := t.ns.set 0 zN, rooted := true, nodes := t.nodes + 1 } h' → K0 (some ⟨b, 0, none⟩) key n v at_ 0 h') : trie_Trie_Put_j5 K0 (some ⟨b, 0, none⟩) key n v at_ h := by
  unfold trie_Trie_Put_j5
  obtain ⟨A, c, qg⟩ := q.ag
  obtain ⟨g, rfl⟩ := qg.blk_some hl
  refine ⟨_, _, _, ld (qg.cl.at_ 2 _ rfl) (by kernel_rfl), ?_⟩
  refine ⟨_, ixN (i := 0) hl, ?_⟩
  refine qg.st_part' (i := 0) (o := 0) (x := t.ns[0]) (x' := zN) (us := zN.enc) (List.getElem?_eq_getElem hl) rfl (by kernel_rfl) rfl (by decide) rfl fun h1 q1 f1 z1 => ?_
  refine q1.st_rooted _ fun h2 q2 f2 z2 => ?_
  refine ⟨_, ld (q2.cl.at_ 4 _ rfl) (by kernel_rfl), ?_⟩
  rw [wrap_in (by have := hn.1; show _ ≤ t.nodes + 1; omega) (by have := hn.2; show t.nodes + 1 ≤ _; omega)]
  refine q2.st_nodes _ fun h3 q3 f3 z3 => ?_
  exact H h3 ⟨S, q3.at_, fun k hk => .inl hk, (f1.trans f2).trans f3⟩
theorem put_s {h : Hp} {b : Nat} {S : Nat → Prop} {f : Nat} {t t' : TT} {r : Int} (q : TrAt h b S t) (hw : 0 ≤ t.width ∧ t.width ≤ 64) (key n v : Int) (hp : putT f t key n v = some (r, t')) {K : Value → Hp → Prop} (H : ∀ h', To h S b t' h' → K (.int .i64 r) h') : CallsH Try.prog 31 #[.pointer (some ⟨b, 0, none⟩), .int .u32 key, .int .i64 n, .int .i64 v] h K := by
  refine trie_Trie_Put_ok _ _ _ _ ?_
  unfold trie_Trie_Put
  refine ⟨_, eqNil eq32, br_f rfl ?_⟩
  unfold putT at hp
  refine may_s q hw.1 key n ⟨_, rfl, ?_⟩
  by_cases hm : mayT t.width key n = true
  · rw [if_pos hm] at hp
    have hnw := mayT_le hm
    refine br_f (by rw [hm]; rfl) ?_
    cases hd : downT t key n with
    | none => rw [hd] at hp; cases hp
    | some p =>
      obtain ⟨at_, i⟩ := p
      rw [hd] at hp
      simp only at hp
      refine down_s q hw key n hnw.2 hd ⟨_, _, rfl, ?_⟩
      split at hp
      · rename_i hg
        obtain ⟨g1, g2, g3, g4, g5⟩ := hg
        obtain ⟨A, c, qg⟩ := q.ag
        refine ⟨_, ld (qg.cl.at_ 4 _ rfl) (by kernel_rfl), ?_⟩
        refine ⟨_, ld (qg.cl.at_ 1 _ rfl) (by kernel_rfl), ?_⟩
        rw [wrap_in (n := t.nodes + n) (by omega) (by omega), wrap_in (by omega) (by omega)]
        by_cases hmost : t.nodes + n - i > t.most
        · rw [if_pos hmost] at hp
          injection hp with hp
          injection hp with e1 e2
          subst e1 e2
          exact br_t (by simpa using hmost) (H _ (To.refl q))
        · rw [if_neg hmost] at hp
          refine br_f (by simpa using hmost) ?_
          by_cases hi : i < 0
          · rw [if_pos hi] at hp
            refine br_t (by simpa using hi) ?_
            cases hlp : loopP key n v f at_ 0 (rootT t) with
            | none => rw [hlp] at hp; cases hp
            | some t2 =>
              rw [hlp] at hp
              injection hp with hp
              injection hp with e1 e2
              subst e1 e2
              refine ⟨_, _, _, ld (qg.cl.at_ 2 _ rfl) (by kernel_rfl), ?_⟩
              refine br_i (fun h0 => ?_) (fun h0 => ?_)
              · have h0' : t.ns.length = 0 := by simpa using h0
                refine ⟨_, _, _, ld (qg.cl.at_ 2 _ rfl) (by kernel_rfl), ?_⟩
                refine qg.grow g3 fun h1 T1 => ?_
                obtain ⟨S1, q1, s1, f1⟩ := T1
                refine j5_s q1 ⟨g1, by show t.nodes ≤ _; omega⟩ (by simp) key n v at_ fun h2 T2 => ?_
                obtain ⟨S2, q2, s2, f2⟩ := T2
                have ert : rootT t = { ({ t with ns := t.ns ++ [zN] } : TT) with ns := (t.ns ++ [zN]).set 0 zN, rooted := true, nodes := t.nodes + 1 } := by
                  unfold rootT
                  rw [if_pos h0']
                rw [ert] at hlp
                refine ⟨f, ?_⟩
                exact loopP_s (K0 := fun x h' => K (.int .i64 x) h') key n v f at_ 0 _ h2 S2 b q2 hw hnw.2 hlp (by omega) fun h3 T3 => H h3 ((T3.then_ s2 f2).then_ s1 f1)
              · have h0' : t.ns.length ≠ 0 := by simpa using h0
                refine j5_s q ⟨g1, by omega⟩ (by omega) key n v at_ fun h2 T2 => ?_
                obtain ⟨S2, q2, s2, f2⟩ := T2
                have ert : rootT t = { t with ns := t.ns.set 0 zN, rooted := true, nodes := t.nodes + 1 } := by
                  unfold rootT
                  rw [if_neg h0']
                rw [ert] at hlp
                refine ⟨f, ?_⟩
                exact loopP_s (K0 := fun x h' => K (.int .i64 x) h') key n v f at_ 0 _ h2 S2 b q2 hw hnw.2 hlp (by omega) fun h3 T3 => H h3 (T3.then_ s2 f2)
          · rw [if_neg hi] at hp
            refine br_f (by simpa using hi) ?_
            cases hlp : loopP key n v f at_ i t with
            | none => rw [hlp] at hp; cases hp
            | some t2 =>
              rw [hlp] at hp
              injection hp with hp
              injection hp with e1 e2
              subst e1 e2
              refine ⟨f, ?_⟩
              exact loopP_s (K0 := fun x h' => K (.int .i64 x) h') key n v f at_ i _ h S b q hw hnw.2 hlp (by omega) fun h3 T3 => H h3 T3
      · cases hp
  · rw [if_neg hm] at hp
    injection hp with hp
    injection hp with e1 e2
    subst e1 e2
    exact br_t (by simpa using hm) (H _ (To.refl q))
end Go.Proofs.Ytofjbbfnkefoaaa.Fs
