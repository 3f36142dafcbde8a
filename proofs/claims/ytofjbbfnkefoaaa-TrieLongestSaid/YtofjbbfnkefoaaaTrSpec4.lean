/- The trie: Get and Put. -/
import Derived.Test.YtofjbbfnkefoaaaTrSpec3
namespace Go.Proofs.Ytofjbbfnkefoaaa.Fs
open Go Go.RowKit Go.Proofs.Ytofjbbfnkefoaaa.Sx
set_option linter.unusedVariables false
set_option linter.unusedSimpArgs false
set_option maxRecDepth 10000
/-- The trie at b has come to t'. -/
def To (h : Hp) (S : Nat → Prop) (b : Nat) (t' : TT) (h' : Hp) : Prop := ∃ S', TrAt h' b S' t' ∧ (∀ k, S' k → S k ∨ h.size ≤ k) ∧ Fr S h h'
theorem To.refl {h : Hp} {S : Nat → Prop} {b : Nat} {t : TT} (q : TrAt h b S t) : To h S b t h := ⟨S, q, fun k hk => .inl hk, Fr.refl _ _⟩
theorem To.then_ {h h1 h2 : Hp} {S S1 : Nat → Prop} {b : Nat} {t : TT} (T : To h1 S1 b t h2) (s : ∀ k, S1 k → S k ∨ h.size ≤ k) (f : Fr S h h1) : To h S b t h2 := by
  obtain ⟨S2, q, s2, f2⟩ := T
  refine ⟨S2, q, fun k hk => ?_, f.then_ f2 s⟩
  rcases s2 k hk with hk | hk
  · exact s k hk
  · have := f.size
    exact .inr (by omega)
def getT (t : TT) (key n : Int) : Option (Int × Bool) := if mayT t.width key n = true then (match downT t key n with
    | none => none
    | some (at_, i) => if i < n then some (0, false) else if at_ < 0 then none else match t.ns[at_.toNat]? with
      | none => none
      | some x => if x.held = true then some (x.v, true) else some (0, false))
  else some (0, false)
theorem mayT_le {w key n : Int} (h : mayT w key n = true) : 0 ≤ n ∧ n ≤ w := by
  unfold mayT at h
  simp only [Bool.and_eq_true, decide_eq_true_eq] at h
  omega
theorem get_s {h : Hp} {b : Nat} {S : Nat → Prop} {t : TT} (q : TrAt h b S t) (hw : 0 ≤ t.width ∧ t.width ≤ 64) (key n : Int) {r : Int} {o : Bool} (hg : getT t key n = some (r, o)) {K : Value → Hp → Prop} (H : K (.tuple #[.int .i64 r, .bool o]) h) : CallsH Try.prog 29 #[.pointer (some ⟨b, 0, none⟩), .int .u32 key, .int .i64 n] h K := by
  refine trie_Trie_Get_ok _ _ _ ?_
  unfold trie_Trie_Get
  refine ⟨_, eqNil eq32, br_f rfl ?_⟩
  unfold getT at hg
  refine may_s q hw.1 key n ⟨_, rfl, ?_⟩
  by_cases hm : mayT t.width key n = true
  · rw [if_pos hm] at hg
    refine br_f (by rw [hm]; rfl) ?_
    unfold trie_Trie_Get_j1
    cases hd : downT t key n with
    | none => rw [hd] at hg; cases hg
    | some p =>
      obtain ⟨at_, i⟩ := p
      rw [hd] at hg
      simp only at hg
      refine down_s q hw key n (mayT_le hm).2 hd ⟨_, _, rfl, ?_⟩
      by_cases hin : i < n
      · rw [if_pos hin] at hg
        injection hg with hg
        injection hg with e1 e2
        subst e1 e2
        exact br_t (by simpa using hin) H
      · rw [if_neg hin] at hg
        refine br_f (by simpa using hin) ?_
        by_cases h0 : at_ < 0
        · rw [if_pos h0] at hg; cases hg
        · rw [if_neg h0] at hg
          obtain ⟨j, rfl⟩ := Int.eq_ofNat_of_zero_le (a := at_) (by omega)
          rw [Int.toNat_natCast] at hg
          cases hx : t.ns[j]? with
          | none => rw [hx] at hg; cases hg
          | some x =>
            rw [hx] at hg
            simp only at hg
            obtain ⟨A, c, qg⟩ := q.ag
            have hlt := (List.getElem?_eq_some_iff.1 hx).1
            obtain ⟨g, rfl⟩ := qg.blk_some (by omega)
            refine ⟨_, _, _, ld (qg.cl.at_ 2 _ rfl) (by kernel_rfl), ?_⟩
            refine ⟨_, ixN hlt, _, ld ((qg.node hx).at_ 2 _ rfl) (by kernel_rfl), ?_⟩
            cases hh : x.held with
            | false =>
              rw [hh, if_neg (by simp)] at hg
              injection hg with hg
              injection hg with e1 e2
              subst e1 e2
              exact br_t rfl H
            | true =>
              rw [hh, if_pos rfl] at hg
              injection hg with hg
              injection hg with e1 e2
              subst e1 e2
              refine br_f rfl ?_
              refine ⟨_, _, _, ld (qg.cl.at_ 2 _ rfl) (by kernel_rfl), ?_⟩
              exact ⟨_, ixN hlt, _, ld ((qg.node hx).at_ 3 _ rfl) (by kernel_rfl), H⟩
  · rw [if_neg hm] at hg
    injection hg with hg
    injection hg with e1 e2
    subst e1 e2
    exact br_t (by simpa using hm) H
def Node.setKid (x : Node) (b r : Int) : Node := if b = 0 then { x with k0 := r } else { x with k1 := r }
def loopP (key n v : Int) : Nat → Int → Int → TT → Option TT
  | 0, _, _, _ => none
  | f + 1, at_, i, t =>
    if i < n then
      (if 0 ≤ t.nodes ∧ t.nodes ≤ 2 ^ 62 ∧ t.ns.length ≤ 2000000 ∧ 0 ≤ at_ ∧ (bitT t.width key i = 0 ∨ bitT t.width key i = 1) then
        (match takeT t with
        | none => none
        | some (r, t1) => match t1.ns[at_.toNat]? with
          | none => none
          | some x => loopP key n v f r (i + 1) { t1 with ns := t1.ns.set at_.toNat (x.setKid (bitT t.width key i) r) })
      else none)
    else if at_ < 0 then none else match t.ns[at_.toNat]? with
      | none => none
      | some x => some { t with ns := t.ns.set at_.toNat { x with held := true, v := v } }
theorem take_width {t t' : TT} {r : Int} (h : takeT t = some (r, t')) : t'.width = t.width := by
  unfold takeT at h
  split at h
  · split at h
    · cases h
    · injection h with h; injection h with _ h; rw [← h]
  · injection h with h; injection h with _ h; rw [← h]
theorem putEnd_s {h : Hp} {b : Nat} {S : Nat → Prop} {t : TT} (q : TrAt h b S t) (v : Int) {j : Nat} {x : Node} (hx : t.ns[j]? = some x) {K0 : Int → Hp → Prop} (H : ∀ h', To h S b { t with ns := t.ns.set j { x with held := true, v := v } } h' → K0 0 h') :
    drf (some ⟨b, 0, none⟩) fun a170 =>
  ∃ A171 : Option Addr, ∃ l171 : Nat, ∃ c171 : Nat, HV Try.prog (Instr.loadAt 108 (.pointer (some (a170.add 2)))) h (.slice A171 l171 c171) ∧ 
  drf (some ⟨b, 0, none⟩) fun a172 =>
  ∃ A173 : Option Addr, ∃ l173 : Nat, ∃ c173 : Nat, HV Try.prog (Instr.loadAt 108 (.pointer (some (a172.add 2)))) h (.slice A173 l173 c173) ∧ 
  ∃ a174 : Addr, PV Try.prog (Instr.indexAt 108 (.slice A171 l171 c171) (.int .i32 (j : Int))) (.pointer (some a174)) ∧
  HU Try.prog (Instr.storeAt 4 (.pointer (some (a174.add 2))) (.bool true)) h fun h175 => 
  ∃ a176 : Addr, PV Try.prog (Instr.indexAt 108 (.slice A173 l173 c173) (.int .i32 (j : Int))) (.pointer (some a176)) ∧
  HU Try.prog (Instr.storeAt 3 (.pointer (some (a176.add 3))) (.int .i64 v)) h175 fun h177 => 
  K0 0 h177 := by
  obtain ⟨A, c, qg⟩ := q.ag
  have hlt := (List.getElem?_eq_some_iff.1 hx).1
  obtain ⟨g, rfl⟩ := qg.blk_some (by omega)
  refine ⟨_, _, _, ld (qg.cl.at_ 2 _ rfl) (by kernel_rfl), ?_⟩
  refine ⟨_, _, _, ld (qg.cl.at_ 2 _ rfl) (by kernel_rfl), ?_⟩
  refine ⟨_, ixN hlt, ?_⟩
  rw [add_off rfl]
  refine qg.st_part' (i := j) (o := 2) (x := x) (x' := { x with held := true }) (us := [.bool true]) hx rfl (by kernel_rfl) rfl (by decide) rfl fun h1 q1 f1 z1 => ?_
  refine ⟨_, ixN hlt, ?_⟩
  rw [add_off rfl]
  refine q1.st_part' (i := j) (o := 3) (x := { x with held := true }) (x' := { x with held := true, v := v }) (us := [.int .i64 v]) (by simp [hlt]) rfl (by kernel_rfl) rfl (by simp) rfl fun h2 q2 f2 z2 => ?_
  refine H h2 ⟨S, ?_, fun k hk => .inl hk, f1.trans f2⟩
  have := q2.at_
  simpa using this
theorem loopP_s (key n v : Int) {K0 : Int → Hp → Prop} {t' : TT} :
    ∀ (f : Nat) (at_ i : Int) (t : TT) (h : Hp) (S : Nat → Prop) (b : Nat), TrAt h b S t → 0 ≤ t.width ∧ t.width ≤ 64 → n ≤ t.width → loopP key n v f at_ i t = some t' → 0 ≤ i → (∀ h', To h S b t' h' → K0 0 h') →
    trie_Trie_Put_l4 (some ⟨b, 0, none⟩) key n v (fun (p166 : Option Addr) (x167 : Int) (x168 : Int) (h169 : Hp) =>
  drf p166 fun a170 =>
  ∃ A171 : Option Addr, ∃ l171 : Nat, ∃ c171 : Nat, HV Try.prog (Instr.loadAt 108 (.pointer (some (a170.add 2)))) h169 (.slice A171 l171 c171) ∧ 
  drf p166 fun a172 =>
  ∃ A173 : Option Addr, ∃ l173 : Nat, ∃ c173 : Nat, HV Try.prog (Instr.loadAt 108 (.pointer (some (a172.add 2)))) h169 (.slice A173 l173 c173) ∧ 
  ∃ a174 : Addr, PV Try.prog (Instr.indexAt 108 (.slice A171 l171 c171) (.int .i32 x168)) (.pointer (some a174)) ∧
  HU Try.prog (Instr.storeAt 4 (.pointer (some (a174.add 2))) (.bool true)) h169 fun h175 => 
  ∃ a176 : Addr, PV Try.prog (Instr.indexAt 108 (.slice A173 l173 c173) (.int .i32 x168)) (.pointer (some a176)) ∧
  HU Try.prog (Instr.storeAt 3 (.pointer (some (a176.add 3))) (.int .i64 x167)) h175 fun h177 => 
  K0 0 h177) f at_ i h := by
  intro f
  induction f with
  | zero => intro at_ i t h S b q hw hn hl; cases hl
  | succ f ih =>
    intro at_ i t h S b q hw hn hl hi H
    unfold loopP at hl
    unfold trie_Trie_Put_l4
    by_cases hin : i < n
    · rw [if_pos hin] at hl
      refine br_t (by simpa using hin) ?_
      split at hl
      · rename_i hg
        obtain ⟨g1, g2, g3, g4, g5⟩ := hg
        cases ht : takeT t with
        | none => rw [ht] at hl; cases hl
        | some p =>
          obtain ⟨r, t1⟩ := p
          rw [ht] at hl
          simp only at hl
          obtain ⟨j, rfl⟩ := Int.eq_ofNat_of_zero_le g4
          rw [Int.toNat_natCast] at hl
          cases hx : t1.ns[j]? with
          | none => rw [hx] at hl; cases hl
          | some x =>
            rw [hx] at hl
            simp only at hl
            have hw1 := take_width ht
            refine take_s q ht ⟨g1, g2⟩ g3 fun h1 S1 q1 s1 f1 => ⟨_, rfl, ?_⟩
            obtain ⟨A, c, qg⟩ := q1.ag
            have hlt := (List.getElem?_eq_some_iff.1 hx).1
            obtain ⟨g, rfl⟩ := qg.blk_some (by omega)
            refine ⟨_, _, _, ld (qg.cl.at_ 2 _ rfl) (by kernel_rfl), ?_⟩
            refine bit_s q1 (by rw [hw1]; exact hw) key i ⟨hi, by omega⟩ ⟨_, rfl, ld (qg.cl.at_ 2 _ rfl) (by kernel_rfl), ?_⟩
            refine ⟨_, ixN hlt, ?_⟩
            rw [hw1]
            refine ⟨_, ixA (by omega) (by omega), ?_⟩
            rw [add_off rfl, wrap_in (by omega) (by omega)]
            have go : ∀ h2, TrAg h2 b S1 { t1 with ns := t1.ns.set j (x.setKid (bitT t.width key i) r) } (some ⟨g, 0, none⟩) c → Fr S1 h1 h2 → h2.size = h1.size → trie_Trie_Put_l4 (some ⟨b, 0, none⟩) key n v _ f r (i + 1) h2 := fun h2 q2 f2 z2 =>
              ih r (i + 1) _ h2 S1 b q2.at_ (by simpa [hw1] using hw) (by simpa [hw1] using hn) hl (by omega) (fun h3 T => H h3 ((T.then_ (fun k hk => .inl hk) f2).then_ s1 f1))
            rcases g5 with e | e
            · rw [e] at go ⊢
              exact qg.st_part' (i := j) (o := 0) (x := x) (x' := x.setKid 0 r) (us := [.int .i32 r]) hx rfl (by kernel_rfl) rfl (by simp) rfl go
            · rw [e] at go ⊢
              exact qg.st_part' (i := j) (o := 1) (x := x) (x' := x.setKid 1 r) (us := [.int .i32 r]) hx rfl (by kernel_rfl) rfl (by simp) rfl go
      · cases hl
    · rw [if_neg hin] at hl
      refine br_f (by simpa using hin) ?_
      by_cases h0 : at_ < 0
      · rw [if_pos h0] at hl; cases hl
      · rw [if_neg h0] at hl
        obtain ⟨j, rfl⟩ := Int.eq_ofNat_of_zero_le (a := at_) (by omega)
        rw [Int.toNat_natCast] at hl
        cases hx : t.ns[j]? with
        | none => rw [hx] at hl; cases hl
        | some x =>
          rw [hx] at hl
          simp only at hl
          injection hl with hl
          exact putEnd_s q v hx (fun h' T => H h' (hl ▸ T))
end Go.Proofs.Ytofjbbfnkefoaaa.Fs
