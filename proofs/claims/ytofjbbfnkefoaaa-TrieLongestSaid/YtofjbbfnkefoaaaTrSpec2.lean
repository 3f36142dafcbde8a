/- The trie's arena: down, take, give. -/
import Derived.Test.YtofjbbfnkefoaaaTrSpec1
namespace Go.Proofs.Ytofjbbfnkefoaaa.Fs
open Go Go.RowKit Go.Proofs.Ytofjbbfnkefoaaa.Sx
set_option linter.unusedVariables false
set_option linter.unusedSimpArgs false
set_option maxRecDepth 10000
/-- The same, its arena's slice told. -/
def TrAg (h : Hp) (b : Nat) (S : Nat → Prop) (t : TT) (A : Option Addr) (c : Nat) : Prop :=
  S b ∧ (∀ k, S k → k < h.size) ∧ h[b]? = some (.cells (t.enc A c).toArray 110 (0, 0)) ∧ RowN h A c t.ns ∧ (∀ k, blk A k → S k) ∧ ¬ blk A b
theorem TrAg.at_ {h : Hp} {b : Nat} {S : Nat → Prop} {t : TT} {A : Option Addr} {c : Nat} (q : TrAg h b S t A c) : TrAt h b S t := by
  obtain ⟨h1, h2, h3, h4, h5, h6⟩ := q
  exact ⟨h1, h2, A, c, h3, h4, h5, h6⟩
theorem TrAt.ag {h : Hp} {b : Nat} {S : Nat → Prop} {t : TT} (q : TrAt h b S t) : ∃ A c, TrAg h b S t A c := by
  obtain ⟨h1, h2, A, c, h3, h4, h5, h6⟩ := q
  exact ⟨A, c, h1, h2, h3, h4, h5, h6⟩
theorem TrAg.cl {h : Hp} {b : Nat} {S : Nat → Prop} {t : TT} {A : Option Addr} {c : Nat} (q : TrAg h b S t A c) : Cl h ⟨b, 0, none⟩ (t.enc A c) := by
  obtain ⟨_, _, hb, _⟩ := q
  exact Cl.of_block hb fun j v hj => by rw [Nat.zero_add]; exact hj
theorem TrAg.put {h h' : Hp} {b : Nat} {S : Nat → Prop} {t t' : TT} {A : Option Addr} {c : Nat} (q : TrAg h b S t A c) (hl : t'.ns = t.ns) (hb : h'[b]? = some (.cells (t'.enc A c).toArray 110 (0, 0))) (f : Fr (fun k => k = b) h h') : TrAg h' b S t' A c ∧ Fr S h h' := by
  obtain ⟨h1, h2, h3, h4, h5, h6⟩ := q
  refine ⟨⟨h1, fun k hk => Nat.lt_of_lt_of_le (h2 k hk) f.size, hb, ?_, h5, h6⟩, f.mono (fun k hk => hk ▸ h1)⟩
  rw [hl]
  exact h4.keep f (fun k hk e => h6 (e ▸ hk))
theorem TrAg.rows {h h' : Hp} {b : Nat} {S : Nat → Prop} {t : TT} {A : Option Addr} {c : Nat} (q : TrAg h b S t A c) {ns : List Node} (hl : ns.length = t.ns.length) (r : RowN h' A c ns) (f : Fr (blk A) h h') : TrAg h' b S { t with ns := ns } A c ∧ Fr S h h' := by
  obtain ⟨h1, h2, h3, h4, h5, h6⟩ := q
  refine ⟨⟨h1, fun k hk => Nat.lt_of_lt_of_le (h2 k hk) f.size, ?_, r, h5, h6⟩, f.mono h5⟩
  have := f.get h3 h6
  rw [this]
  simp [TT.enc, hl]
theorem TrAg.st_free {h : Hp} {b : Nat} {S : Nat → Prop} {t : TT} {A : Option Addr} {c : Nat} (q : TrAg h b S t A c) (x : Int) {K : Hp → Prop} (H : ∀ h', TrAg h' b S { t with free := x } A c → Fr S h h' → h'.size = h.size → K h') : HU Try.prog (Instr.storeAt 21 (.pointer (some ((⟨b, 0, none⟩ : Addr).add 3))) (.int .i32 x)) h K := by
  rw [add_eq0]
  refine HU_st (us := [.int .i32 x]) q.2.2.1 rfl (by kernel_rfl) (by simp [TT.enc]) rfl ?_
  have e : (t.enc A c).take 3 ++ [.int .i32 x] ++ (t.enc A c).drop (3 + [Value.int .i32 x].length) = ({ t with free := x } : TT).enc A c := rfl
  rw [e]
  have := q.put (t' := { t with free := x }) rfl (setB_get (lt_of_get q.2.2.1)) (setB_fr rfl)
  exact H _ this.1 this.2 setB_size
theorem TrAg.st_nodes {h : Hp} {b : Nat} {S : Nat → Prop} {t : TT} {A : Option Addr} {c : Nat} (q : TrAg h b S t A c) (x : Int) {K : Hp → Prop} (H : ∀ h', TrAg h' b S { t with nodes := x } A c → Fr S h h' → h'.size = h.size → K h') : HU Try.prog (Instr.storeAt 3 (.pointer (some ((⟨b, 0, none⟩ : Addr).add 4))) (.int .i64 x)) h K := by
  rw [add_eq0]
  refine HU_st (us := [.int .i64 x]) q.2.2.1 rfl (by kernel_rfl) (by simp [TT.enc]) rfl ?_
  have e : (t.enc A c).take 4 ++ [.int .i64 x] ++ (t.enc A c).drop (4 + [Value.int .i64 x].length) = ({ t with nodes := x } : TT).enc A c := rfl
  rw [e]
  have := q.put (t' := { t with nodes := x }) rfl (setB_get (lt_of_get q.2.2.1)) (setB_fr rfl)
  exact H _ this.1 this.2 setB_size
theorem TrAg.st_rooted {h : Hp} {b : Nat} {S : Nat → Prop} {t : TT} {A : Option Addr} {c : Nat} (q : TrAg h b S t A c) (x : Bool) {K : Hp → Prop} (H : ∀ h', TrAg h' b S { t with rooted := x } A c → Fr S h h' → h'.size = h.size → K h') : HU Try.prog (Instr.storeAt 4 (.pointer (some ((⟨b, 0, none⟩ : Addr).add 5))) (.bool x)) h K := by
  rw [add_eq0]
  refine HU_st (us := [.bool x]) q.2.2.1 rfl (by kernel_rfl) (by simp [TT.enc]) rfl ?_
  have e : (t.enc A c).take 5 ++ [.bool x] ++ (t.enc A c).drop (5 + [Value.bool x].length) = ({ t with rooted := x } : TT).enc A c := rfl
  rw [e]
  have := q.put (t' := { t with rooted := x }) rfl (setB_get (lt_of_get q.2.2.1)) (setB_fr rfl)
  exact H _ this.1 this.2 setB_size
/-- A part of a node is stored. -/
theorem TrAg.st_part {h : Hp} {b : Nat} {S : Nat → Prop} {t : TT} {A : Option Addr} {c : Nat} (q : TrAg h b S t A c) {i : Nat} {x x' : Node} (hi : t.ns[i]? = some x) {ty : TypeId} {v : Value} {us : List Value} {o : Nat} (hv : v.cells = us.toArray) (hsz : (Try.prog.info? ty).map (·.size) = some us.length) (hf : us.all flatV = true) (ho : o + us.length ≤ 4)
    (hx : x'.enc = x.enc.take o ++ us ++ x.enc.drop (o + us.length)) {K : Hp → Prop} (H : ∀ h', TrAg h' b S { t with ns := t.ns.set i x' } A c → Fr S h h' → h'.size = h.size → K h') :
    ∃ g, A = some ⟨g, 0, none⟩ ∧ HU Try.prog (Instr.storeAt ty (.pointer (some ⟨g, i * 4 + o, none⟩)) v) h K := by
  obtain ⟨hlt, hget⟩ := List.getElem?_eq_some_iff.1 hi
  obtain ⟨g, rest, hA, hb, hl, hcl⟩ := q.2.2.2.1.open Node.len (by omega)
  refine ⟨g, hA, ?_⟩
  have hX : ((t.ns.take i).flatMap Node.enc).length = i * 4 := by rw [flat_len Node.len]; simp; omega
  have hs1 : t.ns.flatMap Node.enc = (t.ns.take i).flatMap Node.enc ++ (x.enc ++ (t.ns.drop (i + 1)).flatMap Node.enc) := by
    have : t.ns = t.ns.take i ++ x :: t.ns.drop (i + 1) := by rw [← hget, ← List.drop_eq_getElem_cons hlt, List.take_append_drop]
    rw [this]
    simp
    rw [← this]
  have hs2 : t.ns.flatMap Node.enc ++ rest = (t.ns.take i).flatMap Node.enc ++ (x.enc ++ ((t.ns.drop (i + 1)).flatMap Node.enc ++ rest)) := by rw [hs1]; simp only [List.append_assoc]
  refine HU_st (us := us) hb hv hsz ?_ hf ?_
  · rw [hs2, List.length_append, List.length_append, hX, Node.len]
    omega
  · have e : (t.ns.flatMap Node.enc ++ rest).take (i * 4 + o) ++ us ++ (t.ns.flatMap Node.enc ++ rest).drop (i * 4 + o + us.length) = (t.ns.set i x').flatMap Node.enc ++ rest := by
      rw [List.set_eq_take_append_cons_drop, if_pos hlt, hs2]
      have d0 : ((t.ns.take i).flatMap Node.enc).drop (i * 4 + o + us.length) = [] := List.drop_of_length_le (by rw [hX]; omega)
      have d1 : ((t.ns.take i).flatMap Node.enc).take (i * 4 + o) = (t.ns.take i).flatMap Node.enc := List.take_of_length_le (by rw [hX]; omega)
      rw [List.take_append, List.drop_append, hX, d0, d1, show i * 4 + o - i * 4 = o by omega, show i * 4 + o + us.length - i * 4 = o + us.length by omega]
      rw [List.take_append_of_le_length (by rw [Node.len]; omega), List.drop_append_of_le_length (by rw [Node.len]; omega)]
      simp [hx]
    rw [e]
    have r := Row.shut (enc := Node.enc) (c := c) (xs := t.ns.set i x') (rest := rest) (E := 116) Node.len (setB_get (lt_of_get hb)) (by rw [← hl, List.length_append, List.length_append, flat_len Node.len, flat_len Node.len, List.length_set]) (by simpa using hcl)
    have := q.rows (ns := t.ns.set i x') (List.length_set ..) (by rw [hA]; exact r) (setB_fr ⟨_, hA, rfl⟩)
    exact H _ this.1 this.2 setB_size
/-- An index into a node's kids. -/
theorem ixA {a : Addr} {x : Int} (h0 : 0 ≤ x) (h1 : x < 2) : PV Try.prog (Instr.indexAt 114 (.pointer (some a)) (.int .i64 x)) (.pointer (some (a.add x.toNat))) := by
  intro w
  have hu : Try.prog.underlying 114 = some (.array 2 21) := by kernel_rfl
  obtain ⟨j, hj, hjs⟩ : ∃ j, Try.prog.info? 21 = some j ∧ j.size = 1 := ⟨_, rfl, rfl⟩
  simp [Instr.indexAt, asIntOf, run_underlying hu, Instr.sureAddr, h0, h1, sizeOf, typeInfo, hj, hjs]
/-- Down along a key. -/
def downI (ns : List Node) (w key n : Int) : Nat → Int → Int → Option (Int × Int)
  | 0, _, _ => none
  | f + 1, at_, i => if i < n then
      (if at_ < 0 ∨ (bitT w key i ≠ 0 ∧ bitT w key i ≠ 1) then none else match ns[at_.toNat]? with
        | none => none
        | some x => if x.kid (bitT w key i) = 0 then some (at_, i) else downI ns w key n f (x.kid (bitT w key i)) (i + 1))
    else some (at_, n)
theorem down_l1 {h : Hp} {b : Nat} {S : Nat → Prop} {t : TT} (q : TrAt h b S t) (hw : 0 ≤ t.width ∧ t.width ≤ 64) (key n : Int) (hn : n ≤ t.width) {r1 r2 : Int} {K0 K1 : Int → Int → Hp → Prop} (H0 : K0 r1 r2 h) (H1 : K1 r2 r1 h) :
    ∀ (f : Nat) (at_ i : Int), downI t.ns t.width key n f at_ i = some (r1, r2) → 0 ≤ i → trie_Trie_down_l1 (some ⟨b, 0, none⟩) key n n K0 K1 f at_ i h := by
  intro f
  obtain ⟨A, c, hc, hr⟩ := q.cl
  induction f with
  | zero => intro at_ i hd; cases hd
  | succ f ih =>
    intro at_ i hd hi
    unfold downI at hd
    unfold trie_Trie_down_l1
    by_cases hin : i < n
    · rw [if_pos hin] at hd
      refine br_t (by simpa using hin) ?_
      split at hd
      · cases hd
      · rename_i hbad
        cases hx : t.ns[at_.toNat]? with
        | none => rw [hx] at hd; cases hd
        | some x =>
          rw [hx] at hd
          simp only at hd
          have hat : 0 ≤ at_ := by omega
          obtain ⟨j, rfl⟩ := Int.eq_ofNat_of_zero_le hat
          rw [Int.toNat_natCast] at hx
          refine ⟨_, _, _, ld (hc.at_ 2 _ rfl) (by kernel_rfl), ?_⟩
          refine bit_s q hw key i ⟨hi, by omega⟩ ⟨_, rfl, ld (hc.at_ 2 _ rfl) (by kernel_rfl), ?_⟩
          obtain ⟨a, hs, hix, hcl⟩ := rd_node (c := c) (k := .i32) hr rfl hx
          refine ⟨_, hix, ?_⟩
          have hb01 : bitT t.width key i = 0 ∨ bitT t.width key i = 1 := by omega
          have hk : HV Try.prog (Instr.loadAt 21 (.pointer (some ((a.add (j * 4)).add (bitT t.width key i).toNat)))) h (.int .i32 (x.kid (bitT t.width key i))) := by
            rcases hb01 with e | e
            · rw [e]; exact ld (hcl.at_ 0 _ rfl) (by kernel_rfl)
            · rw [e]; exact ld (hcl.at_ 1 _ rfl) (by kernel_rfl)
          refine ⟨_, ixA (by omega) (by omega), _, hk, br_i (fun hz => ?_) (fun hz => ?_)⟩
          · rw [if_pos (by simpa using hz)] at hd
            injection hd with hd
            injection hd with e1 e2
            subst e1 e2
            exact H0
          · rw [if_neg (by simpa using hz)] at hd
            rw [wrap_in (by omega) (by omega)]
            exact ih _ _ hd (by omega)
    · rw [if_neg hin] at hd
      injection hd with hd
      injection hd with e1 e2
      subst e1 e2
      exact br_f (by simpa using hin) H1
def downT (t : TT) (key n : Int) : Option (Int × Int) := if t.rooted = true then downI t.ns t.width key n 40 0 0 else some (0, -1)
theorem down_s {h : Hp} {b : Nat} {S : Nat → Prop} {t : TT} (q : TrAt h b S t) (hw : 0 ≤ t.width ∧ t.width ≤ 64) (key n : Int) (hn : n ≤ t.width) {r1 r2 : Int} (hd : downT t key n = some (r1, r2)) {K : Value → Hp → Prop} (H : K (.tuple #[.int .i32 r1, .int .i64 r2]) h) : CallsH Try.prog 51 #[.pointer (some ⟨b, 0, none⟩), .int .u32 key, .int .i64 n] h K := by
  refine trie_Trie_down_ok _ _ _ ?_
  unfold trie_Trie_down
  obtain ⟨A, c, hc, hr⟩ := q.cl
  refine ⟨_, ld (hc.at_ 5 _ rfl) (by kernel_rfl), ?_⟩
  unfold downT at hd
  split at hd
  · rename_i hroot
    refine br_f (by rw [hroot]; rfl) ⟨40, ?_⟩
    exact down_l1 q hw key n hn H H 40 0 0 hd (by omega)
  · rename_i hroot
    injection hd with hd
    injection hd with e1 e2
    subst e1 e2
    exact br_t (by simpa using hroot) H
end Go.Proofs.Ytofjbbfnkefoaaa.Fs
