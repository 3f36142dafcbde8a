/- The trie's arena: take, give. -/
import Derived.Test.YtofjbbfnkefoaaaTrSpec2
namespace Go.Proofs.Ytofjbbfnkefoaaa.Fs
open Go Go.RowKit Go.Proofs.Ytofjbbfnkefoaaa.Sx
set_option linter.unusedVariables false
set_option linter.unusedSimpArgs false
set_option maxRecDepth 10000
theorem TrAg.st_part' {h : Hp} {b : Nat} {S : Nat → Prop} {t : TT} {g c : Nat} (q : TrAg h b S t (some ⟨g, 0, none⟩) c) {i : Nat} {x x' : Node} (hi : t.ns[i]? = some x) {ty : TypeId} {v : Value} {us : List Value} {o : Nat} (hv : v.cells = us.toArray) (hsz : (Try.prog.info? ty).map (·.size) = some us.length) (hf : us.all flatV = true) (ho : o + us.length ≤ 4)
    (hx : x'.enc = x.enc.take o ++ us ++ x.enc.drop (o + us.length)) {K : Hp → Prop} (H : ∀ h', TrAg h' b S { t with ns := t.ns.set i x' } (some ⟨g, 0, none⟩) c → Fr S h h' → h'.size = h.size → K h') :
    HU Try.prog (Instr.storeAt ty (.pointer (some ⟨g, i * 4 + o, none⟩)) v) h K := by
  obtain ⟨g', e, H2⟩ := q.st_part hi hv hsz hf ho hx H
  injection e with e
  injection e with e
  subst e
  exact H2
theorem TrAg.blk_some {h : Hp} {b : Nat} {S : Nat → Prop} {t : TT} {A : Option Addr} {c : Nat} (q : TrAg h b S t A c) (h0 : 0 < t.ns.length) : ∃ g, A = some ⟨g, 0, none⟩ := by
  obtain ⟨g, rest, hA, _⟩ := q.2.2.2.1.open Node.len h0
  exact ⟨g, hA⟩
theorem ixN {g l c : Nat} {k : IntKind} {i : Nat} (h1 : i < l) : PV Try.prog (Instr.indexAt 108 (.slice (some ⟨g, 0, none⟩) l c) (.int k (i : Int))) (.pointer (some ⟨g, i * 4, none⟩)) := by
  have := ix (P := Try.prog) (T := 108) (E := 116) (a := ⟨g, 0, none⟩) (l := l) (c := c) (sz := 4) (k := k) (i := (i : Int)) (by omega) (by omega) und100 size108
  rw [Int.toNat_natCast, add_eq0] at this
  exact this
theorem TrAg.node {h : Hp} {b : Nat} {S : Nat → Prop} {t : TT} {g c : Nat} (q : TrAg h b S t (some ⟨g, 0, none⟩) c) {i : Nat} {x : Node} (hi : t.ns[i]? = some x) : Cl h ⟨g, i * 4, none⟩ x.enc := by
  have := q.2.2.2.1.read.elem (enc := Node.enc) Node.len hi rfl
  rw [add_eq0] at this
  exact this
theorem wrap32 {n : Int} (h0 : 0 ≤ n) (h1 : n < 2147483648) : IntKind.i32.wrap n = n := by
  simp [IntKind.wrap, IntKind.bits, IntKind.signed]
  split <;> omega
def zN : Node := ⟨0, 0, false, 0⟩
def giveT (t : TT) (i : Nat) : TT := { t with ns := t.ns.set i ⟨t.free, 0, false, 0⟩, free := i, nodes := t.nodes - 1 }
theorem give_s {h : Hp} {b : Nat} {S : Nat → Prop} {t : TT} (q : TrAt h b S t) {i : Nat} (hi : i < t.ns.length) (hn : 0 ≤ t.nodes ∧ t.nodes ≤ 2 ^ 62) {K : Value → Hp → Prop}
    (H : ∀ h', TrAt h' b S (giveT t i) → Fr S h h' → h'.size = h.size → K (.tuple #[]) h') : CallsH Try.prog 54 #[.pointer (some ⟨b, 0, none⟩), .int .i32 (i : Int)] h K := by
  refine trie_Trie_give_ok _ _ ?_
  unfold trie_Trie_give
  obtain ⟨A, c, qg⟩ := q.ag
  obtain ⟨g, rfl⟩ := qg.blk_some (by omega)
  refine ⟨_, ld (qg.cl.at_ 4 _ rfl) (by kernel_rfl), ?_⟩
  rw [wrap_in (by omega) (by omega)]
  refine qg.st_nodes _ fun h1 q1 f1 z1 => ?_
  refine ⟨_, _, _, ld (q1.cl.at_ 2 _ rfl) (by kernel_rfl), ?_⟩
  refine ⟨_, ld (q1.cl.at_ 3 _ rfl) (by kernel_rfl), ?_⟩
  refine ⟨_, ixN hi, ?_⟩
  refine q1.st_part' (i := i) (o := 0) (x := t.ns[i]) (x' := ⟨t.free, 0, false, 0⟩) (us := [.int .i32 t.free, .int .i32 0, .bool false, .int .i64 0]) (List.getElem?_eq_getElem hi) rfl (by kernel_rfl) rfl (by simp) rfl fun h2 q2 f2 z2 => ?_
  refine q2.st_free _ fun h3 q3 f3 z3 => ?_
  exact H h3 q3.at_ ((f1.trans f2).trans f3) (by omega)
def takeT (t : TT) : Option (Int × TT) := if t.free > 0 then (match t.ns[t.free.toNat]? with
    | none => none
    | some x => some (t.free, { t with nodes := t.nodes + 1, free := x.k0, ns := t.ns.set t.free.toNat zN }))
  else some (t.ns.length, { t with nodes := t.nodes + 1, ns := t.ns ++ [zN] })
theorem TrAg.st_slice {h h0 : Hp} {b : Nat} {S : Nat → Prop} {t : TT} {A : Option Addr} {c : Nat} (q : TrAg h b S t A c) {ns : List Node} {g c' : Nat} (hb : h0[b]? = some (.cells (t.enc A c).toArray 110 (0, 0))) (hr : RowN h0 (some ⟨g, 0, none⟩) c' ns) (hgb : g ≠ b) (f0 : Fr S h h0) {K : Hp → Prop} 
    (H : ∀ h', TrAg h' b (fun k => S k ∨ k = g) { t with ns := ns } (some ⟨g, 0, none⟩) c' → Fr S h h' → K h') (hg : g < h0.size) : HU Try.prog (Instr.storeAt 108 (.pointer (some ((⟨b, 0, none⟩ : Addr).add 2))) (.slice (some ⟨g, 0, none⟩) ns.length c')) h0 K := by
  rw [add_eq0]
  refine HU_st (us := [.slice (some ⟨g, 0, none⟩) ns.length c']) hb rfl (by kernel_rfl) (by simp [TT.enc]) rfl ?_
  have e : (t.enc A c).take 2 ++ [.slice (some ⟨g, 0, none⟩) ns.length c'] ++ (t.enc A c).drop (2 + [Value.slice (some ⟨g, 0, none⟩) ns.length c'].length) = ({ t with ns := ns } : TT).enc (some ⟨g, 0, none⟩) c' := rfl
  rw [e]
  obtain ⟨h1, h2, h3, h4, h5, h6⟩ := q
  have f1 := setB_fr (h := h0) (S := fun k => k = b) (b := b) (cs := ({ t with ns := ns } : TT).enc (some ⟨g, 0, none⟩) c') (T := 110) rfl
  have hbl : ∀ k, blk (some ⟨g, 0, none⟩) k → k = g := by rintro k ⟨a, ha, rfl⟩; injection ha with ha; subst ha; rfl
  refine H _ ⟨.inl h1, ?_, setB_get (lt_of_get hb), hr.keep f1 (fun k hk e => hgb ((hbl k hk).symm.trans e)), fun k hk => .inr (hbl k hk), fun hk => hgb (hbl b hk).symm⟩ (f0.trans (f1.mono fun k hk => hk ▸ h1))
  rintro k (hk | hk)
  · rw [setB_size]; exact Nat.lt_of_lt_of_le (h2 k hk) f0.size
  · rw [setB_size]; omega
theorem take_s {h : Hp} {b : Nat} {S : Nat → Prop} {t t' : TT} {r : Int} (q : TrAt h b S t) (ht : takeT t = some (r, t')) (hn : 0 ≤ t.nodes ∧ t.nodes ≤ 2 ^ 62) (hl : t.ns.length ≤ 2000000) {K : Value → Hp → Prop}
    (H : ∀ h' S', TrAt h' b S' t' → (∀ k, S' k → S k ∨ h.size ≤ k) → Fr S h h' → K (.int .i32 r) h') : CallsH Try.prog 52 #[.pointer (some ⟨b, 0, none⟩)] h K := by
  refine trie_Trie_take_ok _ ?_
  unfold trie_Trie_take
  obtain ⟨A, c, qg⟩ := q.ag
  refine ⟨_, ld (qg.cl.at_ 4 _ rfl) (by kernel_rfl), ?_⟩
  rw [wrap_in (by omega) (by omega)]
  refine qg.st_nodes _ fun h1 q1 f1 z1 => ?_
  refine ⟨_, ld (q1.cl.at_ 3 _ rfl) (by kernel_rfl), ?_⟩
  unfold takeT at ht
  by_cases hf : t.free > 0
  · rw [if_pos hf] at ht
    refine br_t (by simpa using hf) ?_
    obtain ⟨fr, hfr⟩ := Int.eq_ofNat_of_zero_le (a := t.free) (by omega)
    cases hx : t.ns[fr]? with
    | none => rw [hfr, Int.toNat_natCast, hx] at ht; cases ht
    | some x =>
      rw [hfr, Int.toNat_natCast, hx] at ht
      injection ht with ht
      injection ht with e1 e2
      have hlt := (List.getElem?_eq_some_iff.1 hx).1
      obtain ⟨g, rfl⟩ := qg.blk_some (by omega)
      have hfv : HV Try.prog (Instr.loadAt 21 (.pointer (some ((⟨b, 0, none⟩ : Addr).add 3)))) h1 (.int .i32 (fr : Int)) := hfr ▸ ld (q1.cl.at_ 3 _ rfl) (by kernel_rfl)
      refine ⟨_, hfv, ?_⟩
      refine ⟨_, _, _, ld (q1.cl.at_ 2 _ rfl) (by kernel_rfl), ?_⟩
      refine ⟨_, ixN hlt, _, ixA (by omega) (by omega), ?_⟩
      refine ⟨_, ld ((q1.node (i := fr) hx).at_ 0 _ rfl) (by kernel_rfl), ?_⟩
      refine q1.st_free _ fun h2 q2 f2 z2 => ?_
      refine ⟨_, _, _, ld (q2.cl.at_ 2 _ rfl) (by kernel_rfl), ?_⟩
      refine ⟨_, ixN hlt, ?_⟩
      refine q2.st_part' (i := fr) (o := 0) (x := x) (x' := zN) (us := zN.enc) hx rfl (by kernel_rfl) rfl (by decide) rfl fun h3 q3 f3 z3 => ?_
      rw [e1]
      exact H h3 S (e2 ▸ q3.at_) (fun k hk => .inl hk) ((f1.trans f2).trans f3)
  · rw [if_neg hf] at ht
    injection ht with ht
    injection ht with e1 e2
    refine br_f (by simpa using hf) ?_
    refine ⟨_, _, _, ld (q1.cl.at_ 2 _ rfl) (by kernel_rfl), ?_⟩
    refine newC_i (cs := zN.enc) fun h2 e2x c2 b2 z2 => ?_
    obtain ⟨i, z, hi, hisz, hiby, hiby0, hiz, hzc⟩ := info108
    have q1' := q1
    obtain ⟨g1, g2, g3, g4, g5, g6⟩ := q1'
    have hb2 := (e2x.fr (fun _ => False)).get g3 (fun h => h)
    have hr2 := g4.keep (e2x.fr (fun _ => False)) (fun _ _ h => h)
    refine HW_append1 (enc := Node.enc) (xs := t.ns) (x := zN) Node.len Node.flat und100 hi hiz (by rw [hzc]; rfl) hisz hiby0 hr2 c2 ?_ ?_
    · have : (2 * (t.ns.length + 1) + 768) * i.bytes ≤ (2 * (t.ns.length + 1) + 768) * 100 := Nat.mul_le_mul_left _ hiby
      omega
    intro h3 g c3 hr3 hg f3
    have hgb : g ≠ b := by
      rcases hg with hg | hg
      · intro e; subst e; exact g6 hg
      · have := g2 b g1; have := e2x.size; omega
    have hb3 := f3.get hb2 g6
    have hglt : g < h3.size := by
      obtain ⟨g', rest, hA, hb, _⟩ := hr3.open Node.len (by simp)
      injection hA with hA
      injection hA with hA
      subst hA
      exact lt_of_get hb
    refine ⟨_, _, _, rfl, ?_⟩
    have hlen1 : (t.ns ++ [zN]).length = t.ns.length + 1 := by simp
    rw [← hlen1]
    refine q1.st_slice hb3 hr3 hgb ((e2x.fr _).trans (f3.mono g5)) (fun h4 q4 f4 => ?_) hglt
    refine ⟨_, _, _, ld (q4.cl.at_ 2 _ rfl) (by kernel_rfl), ?_⟩
    have hw : IntKind.i32.wrap (IntKind.i64.wrap (((t.ns ++ [zN]).length : Int) - 1)) = r := by
      rw [hlen1, wrap_in (by omega) (by omega), wrap32 (by omega) (by omega), ← e1]
      omega
    show K (.int .i32 (IntKind.i32.wrap (IntKind.i64.wrap (((t.ns ++ [zN]).length : Int) - 1)))) h4
    rw [hw]
    refine H h4 _ (e2 ▸ q4.at_) ?_ (f1.trans f4)
    rintro k (hk | hk)
    · exact .inl hk
    · rcases hg with hg | hg
      · exact .inl (hk ▸ g5 g hg)
      · refine .inr ?_
        have := f1.size
        have := e2x.size
        omega
end Go.Proofs.Ytofjbbfnkefoaaa.Fs
