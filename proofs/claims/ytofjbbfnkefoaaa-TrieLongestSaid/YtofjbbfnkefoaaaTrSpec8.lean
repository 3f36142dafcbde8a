/- The trie: Cut. -/
import Derived.Test.YtofjbbfnkefoaaaTrSpec7
namespace Go.Proofs.Ytofjbbfnkefoaaa.Fs
open Go Go.RowKit Go.Proofs.Ytofjbbfnkefoaaa.Sx
set_option linter.unusedVariables false
set_option linter.unusedSimpArgs false
set_option maxRecDepth 10000
def cutT (f : Nat) (t : TT) (key n : Int) : Option (Int × TT) := if mayT t.width key n = true then (match downT t key n with
    | none => none
    | some (at_, i) => if i < n then some (121, t) else if at_ < 0 then none else match t.ns[at_.toNat]? with
      | none => none
      | some x => if x.held = true then
          (match pathT (t.ns.set at_.toNat { x with held := false, v := 0 }) t.width key n f 0 [0] with
          | none => none
          | some qs => if qs.length ≤ 2000 then (upT t.width key qs f n { t with ns := t.ns.set at_.toNat { x with held := false, v := 0 } }).map fun t' => (0, t') else none)
        else some (121, t))
  else some (120, t)
theorem cut_s {h : Hp} {b : Nat} {S : Nat → Prop} {f : Nat} {t t' : TT} {r : Int} (q : TrAt h b S t) (hw : 0 ≤ t.width ∧ t.width ≤ 64) (key n : Int) (hp : cutT f t key n = some (r, t')) {K : Value → Hp → Prop} (H : ∀ h', TrAt h' b S t' → Fr S h h' → K (.int .i64 r) h') : CallsH Try.prog 32 #[.pointer (some ⟨b, 0, none⟩), .int .u32 key, .int .i64 n] h K := by
  refine trie_Trie_Cut_ok _ _ _ ?_
  unfold trie_Trie_Cut
  refine ⟨_, eqNil eq32, br_f rfl ?_⟩
  unfold cutT at hp
  refine may_s q hw.1 key n ⟨_, rfl, ?_⟩
  by_cases hm : mayT t.width key n = true
  · rw [if_pos hm] at hp
    have hnw := mayT_le hm
    refine br_f (by rw [hm]; rfl) ?_
    cases hd : downT t key n with
    | none => rw [hd] at hp; cases hp
    | some p =>
      obtain ⟨at_, i⟩ := p
      rw [hd] at hp
      simp only at hp
      refine down_s q hw key n hnw.2 hd ⟨_, _, rfl, ?_⟩
      by_cases hin : i < n
      · rw [if_pos hin] at hp
        injection hp with hp
        injection hp with e1 e2
        subst e1 e2
        exact br_t (by simpa using hin) (H h q (Fr.refl _ _))
      · rw [if_neg hin] at hp
        refine br_f (by simpa using hin) ?_
        by_cases h0 : at_ < 0
        · rw [if_pos h0] at hp; cases hp
        · rw [if_neg h0] at hp
          obtain ⟨j, rfl⟩ := Int.eq_ofNat_of_zero_le (a := at_) (by omega)
          rw [Int.toNat_natCast] at hp
          cases hx : t.ns[j]? with
          | none => rw [hx] at hp; cases hp
          | some x =>
            rw [hx] at hp
            simp only at hp
            obtain ⟨A, c, qg⟩ := q.ag
            have hlt := (List.getElem?_eq_some_iff.1 hx).1
            obtain ⟨g, rfl⟩ := qg.blk_some (by omega)
            refine ⟨_, _, _, ld (qg.cl.at_ 2 _ rfl) (by kernel_rfl), ?_⟩
            refine ⟨_, ixN hlt, _, ld ((qg.node hx).at_ 2 _ rfl) (by kernel_rfl), ?_⟩
            cases hh : x.held with
            | false =>
              rw [hh, if_neg (by simp)] at hp
              injection hp with hp
              injection hp with e1 e2
              subst e1 e2
              exact br_t rfl (H h q (Fr.refl _ _))
            | true =>
              rw [hh, if_pos rfl] at hp
              refine br_f rfl ?_
              unfold trie_Trie_Cut_j5
              refine ⟨_, _, _, ld (qg.cl.at_ 2 _ rfl) (by kernel_rfl), ?_⟩
              refine ⟨_, _, _, ld (qg.cl.at_ 2 _ rfl) (by kernel_rfl), ?_⟩
              refine ⟨_, ixN hlt, ?_⟩
              rw [add_off rfl]
              refine qg.st_part' (i := j) (o := 2) (x := x) (x' := { x with held := false }) (us := [.bool false]) hx rfl (by kernel_rfl) rfl (by decide) rfl fun h1 q1 f1 z1 => ?_
              refine ⟨_, ixN hlt, ?_⟩
              rw [add_off rfl]
              refine q1.st_part' (i := j) (o := 3) (x := { x with held := false }) (x' := { x with held := false, v := 0 }) (us := [.int .i64 0]) (by simp [hlt]) rfl (by kernel_rfl) rfl (by decide) rfl fun h2 q2 f2 z2 => ?_
              have q2' : TrAt h2 b S { t with ns := t.ns.set j { x with held := false, v := 0 } } := by simpa using q2.at_
              refine newC_i (cs := encI 0) fun h3 e3 c3 b3 z3 => ?_
              cases hpt : pathT (t.ns.set j { x with held := false, v := 0 }) t.width key n f 0 [0] with
              | none => rw [hpt] at hp; cases hp
              | some qs =>
                rw [hpt] at hp
                simp only at hp
                split at hp
                · rename_i hql
                  cases hut : upT t.width key qs f n { t with ns := t.ns.set j { x with held := false, v := 0 } } with
                  | none => rw [hut] at hp; cases hp
                  | some t2 =>
                    rw [hut] at hp
                    injection hp with hp
                    injection hp with e1 e2
                    subst e1 e2
                    have hbl : ∀ k, blk (some (⟨h2.size, 0, none⟩ : Addr)) k → k = h2.size := by rintro k ⟨a, ha, rfl⟩; injection ha with ha; subst ha; rfl
                    have q3 := q2'.ext e3
                    have p3 : Pt h3 S (some ⟨h2.size, 0, none⟩) 1 [0] := by
                      refine ⟨Row.shut (rest := []) encI_len b3 rfl (by decide), fun k hk hS => ?_, fun k hk => ?_⟩
                      · have := q2'.2.1 k hS
                        have := hbl k hk
                        omega
                      · have := hbl k hk
                        omega
                    refine ⟨f, ?_⟩
                    refine path_l6 (t := { t with ns := t.ns.set j { x with held := false, v := 0 } }) hw hnw.2 hql f 0 [0] _ 1 h3 q3 p3 hpt fun h4 A4 c4 q4 p4 f4 => ?_
                    refine ⟨f, ?_⟩
                    have f04 : Fr S h h4 := ((f1.trans f2).trans (e3.fr S)).then_ (f4 (fun k => k = h2.size) hbl) (fun k hk => .inr (by have := f1.size; have := f2.size; omega))
                    refine up_l8 (w := t.width) hw hql (K0 := fun x h' => K (.int .i64 x) h') (K1 := fun h' => K (.int .i64 0) h') f n _ h4 q4 rfl p4 hut fun h5 q5 f5 => ?_
                    have := H h5 q5 (f04.trans (f5 S fun _ h => h))
                    exact ⟨this, this⟩
                · cases hp
  · rw [if_neg hm] at hp
    injection hp with hp
    injection hp with e1 e2
    subst e1 e2
    exact br_t (by simpa using hm) (H h q (Fr.refl _ _))
end Go.Proofs.Ytofjbbfnkefoaaa.Fs
