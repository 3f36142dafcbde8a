/- The trie: Cut. -/
import Derived.Test.YtofjbbfnkefoaaaTrSpec5
import Derived.ChangeKeysEq
namespace Go.Proofs.Ytofjbbfnkefoaaa.Fs
open Go Go.RowKit Go.Proofs.Ytofjbbfnkefoaaa.Sx
set_option linter.unusedVariables false
set_option linter.unusedSimpArgs false
set_option maxRecDepth 10000
theorem ne106 (x y : Int) : PV Try.prog (binOp .neq 114 (.agg #[.int .i32 x, .int .i32 y]) (.agg #[.int .i32 0, .int .i32 0])) (.bool (!(decide (x = 0 ∧ y = 0)))) := by
  intro w
  have hu : Try.prog.underlying 114 = some (.array 2 21) := by kernel_rfl
  have h21 : Try.prog.underlying 21 = some (.int .i32) := by kernel_rfl
  obtain ⟨j, hj, hjs⟩ : ∃ j, Try.prog.info? 21 = some j ∧ j.size = 1 := ⟨_, rfl, rfl⟩
  have hco : Try.prog.cellsOf 21 = 1 := by kernel_rfl
  have hr : List.range 2 = [0, 1] := rfl
  have hp : ∀ (xs : Array Value) (o : Nat) (a : Int), xs[o]? = some (.int .i32 a) → (part 21 xs o).run Try.prog w = .ok (.int .i32 a) w := by
    intro xs o a h
    have hb : scB Try.prog 21 = true := by kernel_rfl
    simp [part, h, go_sem, hj, hjs, h21]
  rw [run_neq_struct, run_equalIn_array w 9999 _ _ hu hj, hco, hr]
  simp only [Op.eqItems, Sem.run_bind]
  rw [hp _ _ x (by simp), Result.andThen_ok, hp _ _ 0 (by simp), Result.andThen_ok, run_equalIn_int w 9998 21 .i32 .i32 x 0 h21, Result.andThen_ok]
  by_cases hx : x = 0
  · subst hx
    simp only [beq_self_eq_true, Bool.not_true, Bool.false_eq_true, if_false, Sem.run_bind]
    rw [hp _ _ y (by simp), Result.andThen_ok, hp _ _ 0 (by simp), Result.andThen_ok, run_equalIn_int w 9998 21 .i32 .i32 y 0 h21, Result.andThen_ok]
    by_cases hy : y = 0
    · subst hy; simp
    · simp [hy]
  · simp [hx]
def encI (x : Int) : List Value := [.int .i32 x]
theorem encI_len (x : Int) : (encI x).length = 1 := rfl
theorem encI_flat (x : Int) : (encI x).all flatV = true := rfl
theorem und111 : Try.prog.underlying 119 = some (.slice 21) := by kernel_rfl
theorem size21 : (Try.prog.info? 21).map (·.size) = some 1 := by kernel_rfl
theorem info21 : ∃ i z, Try.prog.info? 21 = some i ∧ i.size = 1 ∧ i.bytes ≤ 8 ∧ 0 < i.bytes ∧ i.zero = some z ∧ z.cells = (encI 0).toArray := ⟨_, _, rfl, rfl, by decide, by decide, rfl, rfl⟩
abbrev RowI (h : Hp) (A : Option Addr) (c : Nat) (ps : List Int) : Prop := Row h 21 encI 1 A c ps
theorem rd_i {h : Hp} {A : Option Addr} {c : Nat} {ps : List Int} (r : RowI h A c ps) {i : Nat} {p : Int} (hi : ps[i]? = some p) :
    ∃ g, A = some ⟨g, 0, none⟩ ∧ PV Try.prog (Instr.indexAt 119 (.slice A ps.length c) (.int .i64 (i : Int))) (.pointer (some ⟨g, i, none⟩)) ∧ cell h ⟨g, i, none⟩ = some (.int .i32 p) := by
  have hlt := (List.getElem?_eq_some_iff.1 hi).1
  obtain ⟨g, rest, hA, _⟩ := Row.open encI_len r (by omega)
  subst hA
  have hc := r.read.elem (enc := encI) encI_len hi rfl
  have := ix (P := Try.prog) (T := 119) (E := 21) (a := ⟨g, 0, none⟩) (l := ps.length) (c := c) (sz := 1) (k := .i64) (i := (i : Int)) (by omega) (by omega) und111 size21
  rw [Int.toNat_natCast, add_eq0, Nat.mul_one] at this
  rw [add_eq0, Nat.mul_one] at hc
  exact ⟨g, rfl, this, hc.head⟩
def pathT (ns : List Node) (w key n : Int) : Nat → Int → List Int → Option (List Int)
  | 0, _, _ => none
  | f + 1, i, ps => if i < n then
      (if 0 ≤ i ∧ (bitT w key i = 0 ∨ bitT w key i = 1) ∧ ps.length ≤ 1000 then (match ps[i.toNat]? with
        | none => none
        | some p => if p < 0 then none else match ns[p.toNat]? with
          | none => none
          | some x => pathT ns w key n f (i + 1) (ps ++ [x.kid (bitT w key i)]))
      else none)
    else some ps
/-- The path beside the trie. -/
def Pt (h : Hp) (S : Nat → Prop) (A : Option Addr) (c : Nat) (ps : List Int) : Prop := RowI h A c ps ∧ (∀ k, blk A k → ¬ S k) ∧ (∀ k, blk A k → k < h.size)
theorem path_l6 {key n : Int} {b : Nat} {S : Nat → Prop} {t : TT} (hw : 0 ≤ t.width ∧ t.width ≤ 64) (hn : n ≤ t.width) {K0 : Option Addr → Int → Int → Option Addr → Nat → Nat → Hp → Prop} {qs : List Int} (hq : qs.length ≤ 2000) :
    ∀ (f : Nat) (i : Int) (ps : List Int) (A : Option Addr) (c : Nat) (h : Hp), TrAt h b S t → Pt h S A c ps → pathT t.ns t.width key n f i ps = some qs →
      (∀ h' A' c', TrAt h' b S t → Pt h' S A' c' qs → (∀ S' : Nat → Prop, (∀ k, blk A k → S' k) → Fr S' h h') → K0 (some ⟨b, 0, none⟩) key n A' qs.length c' h') →
      trie_Trie_Cut_l6 (some ⟨b, 0, none⟩) key n n K0 f A ps.length c i h := by
  intro f
  induction f with
  | zero => intro i ps A c h q p hd; cases hd
  | succ f ih =>
    intro i ps A c h q p hd H
    unfold pathT at hd
    unfold trie_Trie_Cut_l6
    by_cases hin : i < n
    · rw [if_pos hin] at hd
      refine br_t (by simpa using hin) ?_
      split at hd
      · rename_i hg
        obtain ⟨g1, g2, g3⟩ := hg
        obtain ⟨j, rfl⟩ := Int.eq_ofNat_of_zero_le g1
        rw [Int.toNat_natCast] at hd
        cases hx : ps[j]? with
        | none => rw [hx] at hd; cases hd
        | some pj =>
          rw [hx] at hd
          simp only at hd
          by_cases hp0 : pj < 0
          · rw [if_pos hp0] at hd; cases hd
          · rw [if_neg hp0] at hd
            obtain ⟨m, rfl⟩ := Int.eq_ofNat_of_zero_le (a := pj) (by omega)
            rw [Int.toNat_natCast] at hd
            cases hy : t.ns[m]? with
            | none => rw [hy] at hd; cases hd
            | some x =>
              rw [hy] at hd
              simp only at hd
              obtain ⟨B, d, qg⟩ := q.ag
              have hlt := (List.getElem?_eq_some_iff.1 hy).1
              obtain ⟨g, rfl⟩ := qg.blk_some (by omega)
              obtain ⟨ga, hA, hix, hcl⟩ := rd_i p.1 hx
              refine ⟨_, _, _, ld (qg.cl.at_ 2 _ rfl) (by kernel_rfl), ?_⟩
              refine ⟨_, hix, _, ld hcl (by kernel_rfl), ?_⟩
              refine bit_s q hw key (j : Int) ⟨g1, by omega⟩ ⟨_, rfl, ld hcl (by kernel_rfl), ld (qg.cl.at_ 2 _ rfl) (by kernel_rfl), ?_⟩
              refine ⟨_, ixN hlt, ?_⟩
              refine ⟨_, ixA (by omega) (by omega), ?_⟩
              have hk : HV Try.prog (Instr.loadAt 21 (.pointer (some ((⟨g, m * 4, none⟩ : Addr).add (bitT t.width key (j : Int)).toNat)))) h (.int .i32 (x.kid (bitT t.width key (j : Int)))) := by
                rcases g2 with e | e
                · rw [e]; exact ld ((qg.node hy).at_ 0 _ rfl) (by kernel_rfl)
                · rw [e]; exact ld ((qg.node hy).at_ 1 _ rfl) (by kernel_rfl)
              refine ⟨_, hk, ?_⟩
              refine newC_i (cs := encI (x.kid (bitT t.width key (j : Int)))) fun h2 e2 c2 b2 z2 => ?_
              obtain ⟨i, z, hi, hisz, hiby, hiby0, hiz, hzc⟩ := info21
              have q2 := q.ext e2
              have r2 := p.1.keep (e2.fr (fun _ => False)) (fun _ _ h => h)
              refine HW_append1 (enc := encI) (xs := ps) (x := x.kid (bitT t.width key (j : Int))) encI_len encI_flat und111 hi hiz (by rw [hzc]; rfl) hisz hiby0 r2 c2 ?_ ?_
              · have : (2 * (ps.length + 1) + 768) * i.bytes ≤ (2 * (ps.length + 1) + 768) * 8 := Nat.mul_le_mul_left _ hiby
                omega
              intro h3 g3' c3 hr3 hg f3
              refine ⟨_, _, _, rfl, ?_⟩
              have hl : (ps ++ [x.kid (bitT t.width key (j : Int))]).length = ps.length + 1 := by simp
              rw [wrap_in (by omega) (by omega), ← hl]
              have q3 := q2.keep f3 (fun k hk hb => p.2.1 k hb hk)
              have hbl : ∀ k, blk (some (⟨g3', 0, none⟩ : Addr)) k → k = g3' := by rintro k ⟨a, ha, rfl⟩; injection ha with ha; subst ha; rfl
              have hglt : g3' < h3.size := by
                obtain ⟨g', rest, hA, hb, _⟩ := Row.open encI_len hr3 (by simp)
                injection hA with hA
                injection hA with hA
                subst hA
                exact lt_of_get hb
              refine ih _ _ _ _ _ q3 ⟨hr3, ?_, ?_⟩ hd ?_
              · intro k hk hS
                have := hbl k hk
                subst this
                rcases hg with hg | hg
                · exact p.2.1 _ hg hS
                · have := q.2.1 _ hS
                  have := e2.size
                  omega
              · intro k hk
                rw [hbl k hk]; exact hglt
              · intro h4 A4 c4 q4 p4 f4
                refine H h4 A4 c4 q4 p4 fun S' hS' => ?_
                refine ((e2.fr S').trans (f3.mono hS')).then_ (f4 (fun k => S' k ∨ h.size ≤ k) ?_) (fun k hk => hk)
                intro k hk
                have := hbl k hk
                subst this
                rcases hg with hg | hg
                · exact .inl (hS' _ hg)
                · have := e2.size
                  exact .inr (by omega)
      · cases hd
    · rw [if_neg hin] at hd
      injection hd with hd
      subst hd
      exact br_f (by simpa using hin) (H h A c q p fun S' _ => Fr.refl _ _)
end Go.Proofs.Ytofjbbfnkefoaaa.Fs
