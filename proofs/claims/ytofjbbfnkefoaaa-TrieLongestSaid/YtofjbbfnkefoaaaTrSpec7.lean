/- The trie: Cut's way up, and Cut. -/
import Derived.Test.YtofjbbfnkefoaaaTrSpec6
namespace Go.Proofs.Ytofjbbfnkefoaaa.Fs
open Go Go.RowKit Go.Proofs.Ytofjbbfnkefoaaa.Sx
set_option linter.unusedVariables false
set_option linter.unusedSimpArgs false
set_option maxRecDepth 10000
theorem Pt.keep {h h' : Hp} {S S' : Nat → Prop} {A : Option Addr} {c : Nat} {ps : List Int} (p : Pt h S A c ps) (f : Fr S' h h') (hn : ∀ k, blk A k → ¬ S' k) : Pt h' S A c ps :=
  ⟨p.1.keep f hn, p.2.1, fun k hk => Nat.lt_of_lt_of_le (p.2.2 k hk) f.size⟩
theorem box_node {h2 : Hp} {g : Nat} (hb : h2[g]? = some (.cells zN.enc.toArray 116 (0, 0))) (x : Node) {K : Hp → Prop} (H : ∀ h3, Cl h3 ⟨g, 0, none⟩ x.enc → Fr (fun k => k = g) h2 h3 → h3.size = h2.size → K h3) :
    HU Try.prog (Instr.storeAt 116 (.pointer (some ⟨g, 0, none⟩)) (.agg #[.int .i32 x.k0, .int .i32 x.k1, .bool x.held, .int .i64 x.v])) h2 K := by
  refine HU_st (us := x.enc) hb rfl (by kernel_rfl) (by simp [Node.len]) rfl ?_
  refine H _ (Cl.of_block (setB_get (lt_of_get hb)) fun j v hj => ?_) (setB_fr rfl) setB_size
  simpa [Node.enc, zN] using hj
def upT (w key : Int) (ps : List Int) : Nat → Int → TT → Option TT
  | 0, _, _ => none
  | f + 1, d, t => if d ≥ 0 then (match ps[d.toNat]? with
      | none => none
      | some p => if p < 0 then none else match t.ns[p.toNat]? with
        | none => none
        | some x => if x.held = true then some t else if x.k0 = 0 ∧ x.k1 = 0 then
            (if 0 ≤ t.nodes ∧ t.nodes ≤ 2 ^ 60 then
              (if d = 0 then some { t with rooted := false, nodes := t.nodes - 1 }
              else match ps[(d - 1).toNat]? with
                | none => none
                | some pp => if pp < 0 ∨ ¬ d - 1 < w ∨ ¬ (bitT w key (d - 1) = 0 ∨ bitT w key (d - 1) = 1) then none else match t.ns[pp.toNat]? with
                  | none => none
                  | some y => upT w key ps f (d - 1) (giveT { t with ns := t.ns.set pp.toNat (y.setKid (bitT w key (d - 1)) 0) } p.toNat))
            else none)
          else some t)
    else some t
theorem up_l8 {key : Int} {b : Nat} {S : Nat → Prop} {w : Int} (hw : 0 ≤ w ∧ w ≤ 64) {A : Option Addr} {c : Nat} {ps : List Int} (hps : ps.length ≤ 2000) {K0 : Int → Hp → Prop} {K1 : Hp → Prop} {t' : TT} :
    ∀ (f : Nat) (d : Int) (t : TT) (h : Hp), TrAt h b S t → t.width = w → Pt h S A c ps → upT w key ps f d t = some t' →
      (∀ h', TrAt h' b S t' → (∀ S' : Nat → Prop, (∀ k, S k → S' k) → Fr S' h h') → K0 0 h' ∧ K1 h') → trie_Trie_Cut_l8 (some ⟨b, 0, none⟩) key A ps.length c K0 K1 f d h := by
  intro f
  induction f with
  | zero => intro d t h q ht p hd; cases hd
  | succ f ih =>
    intro d t h q ht p hd H
    unfold upT at hd
    unfold trie_Trie_Cut_l8
    by_cases hd0 : d ≥ 0
    · rw [if_pos hd0] at hd
      refine br_t (by simpa using hd0) ?_
      obtain ⟨j, rfl⟩ := Int.eq_ofNat_of_zero_le hd0
      rw [Int.toNat_natCast] at hd
      cases hx : ps[j]? with
      | none => rw [hx] at hd; cases hd
      | some pj =>
        rw [hx] at hd
        simp only at hd
        have hjl := (List.getElem?_eq_some_iff.1 hx).1
        by_cases hp0 : pj < 0
        · rw [if_pos hp0] at hd; cases hd
        · rw [if_neg hp0] at hd
          obtain ⟨m, rfl⟩ := Int.eq_ofNat_of_zero_le (a := pj) (by omega)
          rw [Int.toNat_natCast] at hd
          cases hy : t.ns[m]? with
          | none => rw [hy] at hd; cases hd
          | some x =>
            rw [hy] at hd
            simp only at hd
            obtain ⟨B, e, qg⟩ := q.ag
            have hlt := (List.getElem?_eq_some_iff.1 hy).1
            obtain ⟨g, rfl⟩ := qg.blk_some (by omega)
            obtain ⟨ga, hA, hix, hcl⟩ := rd_i p.1 hx
            refine ⟨_, _, _, ld (qg.cl.at_ 2 _ rfl) (by kernel_rfl), ?_⟩
            refine ⟨_, hix, _, ld hcl (by kernel_rfl), ?_⟩
            refine ⟨_, ixN hlt, _, _, _, _, ldS (qg.node hy) (by kernel_rfl), ?_⟩
            refine newC_i (cs := zN.enc) fun h2 e2 c2 b2 z2 => ?_
            refine ⟨ldS ((qg.node hy).ext e2) (by kernel_rfl), ld (e2.cell hcl) (by kernel_rfl), ld ((qg.cl.ext e2).at_ 2 _ rfl) (by kernel_rfl), ?_⟩
            refine box_node b2 x fun h3 c3 f3 z3 => ?_
            have hSn : ∀ k, S k → ¬ k = h.size := fun k hk he => by have := q.2.1 k hk; omega
            have q3 : TrAt h3 b S t := (q.ext e2).keep f3 hSn
            have p3 : Pt h3 S A c ps := (p.keep (e2.fr (fun _ => False)) (fun _ _ h => h)).keep f3 (fun k hk he => by have := p.2.2 k hk; omega)
            have fr3 : ∀ S' : Nat → Prop, Fr S' h h3 := fun S' => ((e2.fr S').then_ f3 (fun k hk => .inr (by omega)))
            refine ⟨_, ld (c3.at_ 2 _ rfl) (by kernel_rfl), ?_⟩
            cases hh : x.held with
            | true =>
              rw [hh, if_pos rfl] at hd
              injection hd with hd
              subst hd
              exact br_t rfl (H h3 q3 fun S' _ => fr3 S').1
            | false =>
              rw [hh, if_neg (by simp)] at hd
              refine br_f rfl ?_
              refine ⟨_, _, ldS (vs := [.int .i32 x.k0, .int .i32 x.k1]) (Cl.sub c3 0 (by intro j v hj; rcases j with _ | _ | j <;> simp_all [Node.enc])) (by kernel_rfl), ?_⟩
              refine ⟨_, ne106 _ _, ?_⟩
              by_cases hk : x.k0 = 0 ∧ x.k1 = 0
              · rw [if_pos hk] at hd
                refine br_f (by simp [hk]) ?_
                split at hd
                · rename_i hnod
                  unfold trie_Trie_Cut_j9
                  obtain ⟨B3, e3, qg3⟩ := q3.ag
                  by_cases hj0 : (j : Int) = 0
                  · rw [if_pos hj0] at hd
                    injection hd with hd
                    subst hd
                    refine br_t (by simpa using hj0) ?_
                    refine qg3.st_rooted _ fun h4 q4 f4 z4 => ?_
                    refine ⟨_, ld (q4.cl.at_ 4 _ rfl) (by kernel_rfl), ?_⟩
                    rw [wrap_in (by have := hnod.1; show _ ≤ t.nodes - 1; omega) (by have := hnod.2; show t.nodes - 1 ≤ _; omega)]
                    refine q4.st_nodes _ fun h5 q5 f5 z5 => ?_
                    exact (H h5 q5.at_ fun S' hS' => ((fr3 S').trans (f4.mono hS')).trans (f5.mono hS')).1
                  · rw [if_neg hj0] at hd
                    refine br_f (by simpa using hj0) ?_
                    cases hpp : ps[((j : Int) - 1).toNat]? with
                    | none => rw [hpp] at hd; cases hd
                    | some pp =>
                      rw [hpp] at hd
                      simp only at hd
                      obtain ⟨j', rfl⟩ : ∃ j', j = j' + 1 := ⟨j - 1, by omega⟩
                      have hj1 : ((j' + 1 : Nat) : Int) - 1 = (j' : Int) := by omega
                      rw [hj1] at hd hpp ⊢
                      rw [Int.toNat_natCast] at hpp
                      split at hd
                      · cases hd
                      · rename_i hbad
                        obtain ⟨m', rfl⟩ := Int.eq_ofNat_of_zero_le (a := pp) (by omega)
                        rw [Int.toNat_natCast] at hd
                        cases hy' : t.ns[m']? with
                        | none => rw [hy'] at hd; cases hd
                        | some y =>
                          rw [hy'] at hd
                          simp only at hd
                          have hlt' := (List.getElem?_eq_some_iff.1 hy').1
                          obtain ⟨g3, rfl⟩ := qg3.blk_some (by omega)
                          obtain ⟨ga', hA', hix', hcl'⟩ := rd_i p3.1 hpp
                          refine ⟨_, _, _, ld (qg3.cl.at_ 2 _ rfl) (by kernel_rfl), ?_⟩
                          rw [wrap_in (n := (j' : Int)) (by omega) (by omega)]
                          refine ⟨_, hix', _, ld hcl' (by kernel_rfl), ?_⟩
                          refine bit_s q3 (by rw [ht]; exact hw) key (j' : Int) ⟨by omega, by omega⟩ ⟨_, rfl, ld hcl' (by kernel_rfl), ld (qg3.cl.at_ 2 _ rfl) (by kernel_rfl), ?_⟩
                          refine ⟨_, ixN hlt', ?_⟩
                          rw [ht]
                          have h01 : bitT w key (j' : Int) = 0 ∨ bitT w key (j' : Int) = 1 := by omega
                          refine ⟨_, ixA (by omega) (by omega), ?_⟩
                          rw [add_off rfl]
                          have go : ∀ h4, TrAg h4 b S { t with ns := t.ns.set m' (y.setKid (bitT w key (j' : Int)) 0) } (some ⟨g3, 0, none⟩) e3 → Fr S h3 h4 → h4.size = h3.size → (∃ a471 : Addr, PV Try.prog (Instr.indexAt 119 (.slice A ps.length c) (.int .i64 ((j' + 1 : Nat) : Int))) (.pointer (some a471)) ∧ ∃ x472 : Int, HV Try.prog (Instr.loadAt 21 (.pointer (some a471))) h4 (.int .i32 x472) ∧ CallsH Try.prog 54 #[(.pointer (some ⟨b, 0, none⟩)), (.int .i32 x472)] h4 (fun r474 h473 => r474 = (.tuple #[]) ∧ trie_Trie_Cut_l8 (some ⟨b, 0, none⟩) key A ps.length c K0 K1 f (IntKind.i64.wrap (((j' + 1 : Nat) : Int) - 1)) h473)) := by
                            intro h4 q4 f4 z4
                            have p4 := p3.keep f4 p3.2.1
                            obtain ⟨ga4, hA4, hix4, hcl4⟩ := rd_i p4.1 hx
                            refine ⟨_, hix4, _, ld hcl4 (by kernel_rfl), ?_⟩
                            refine give_s q4.at_ (by simpa using hlt) ⟨hnod.1, by have := hnod.2; show t.nodes ≤ _; omega⟩ fun h5 q5 f5 z5 => ⟨rfl, ?_⟩
                            rw [hj1, wrap_in (by omega) (by omega)]
                            refine ih (j' : Int) _ h5 q5 ht (p4.keep f5 p4.2.1) hd fun h6 q6 f6 => H h6 q6 fun S' hS' => (((fr3 S').trans (f4.mono hS')).trans (f5.mono hS')).trans (f6 S' hS')
                          rcases h01 with e | e
                          · rw [e] at go ⊢
                            exact qg3.st_part' (i := m') (o := 0) (x := y) (x' := y.setKid 0 0) (us := [.int .i32 0]) hy' rfl (by kernel_rfl) rfl (by decide) rfl go
                          · rw [e] at go ⊢
                            exact qg3.st_part' (i := m') (o := 1) (x := y) (x' := y.setKid 1 0) (us := [.int .i32 0]) hy' rfl (by kernel_rfl) rfl (by decide) rfl go
                · cases hd
              · rw [if_neg hk] at hd
                injection hd with hd
                subst hd
                exact br_t (by simp [hk]) (H h3 q3 fun S' _ => fr3 S').1
    · rw [if_neg hd0] at hd
      injection hd with hd
      subst hd
      exact br_f (by simpa using hd0) (H h q fun S' _ => Fr.refl _ _).2
end Go.Proofs.Ytofjbbfnkefoaaa.Fs
