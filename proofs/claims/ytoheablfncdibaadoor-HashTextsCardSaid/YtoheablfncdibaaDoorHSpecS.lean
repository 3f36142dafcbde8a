/- The hash's functions: what each leaves. -/
import Derived.Test.YtoheablfncdibaaDoorFsH
import Derived.Test.YtoheablfncdibaaDoorSxRow
namespace Go.Proofs.YtoheablfncdibaaDoor.FsS
open Go Go.RowKit Go.Proofs.YtoheablfncdibaaDoor.Sx Go.Proofs.YtoheablfncdibaaDoor.Fs
set_option linter.unusedVariables false
set_option linter.unusedSimpArgs false
set_option maxRecDepth 10000
/-- A header. -/
structure Hdr where
  src : Int
  dst : Int
  sp : Int
  dp : Int
  pr : Int
  deriving DecidableEq
def Hdr.val (g : Hdr) : Value := .agg #[.int .u32 g.src, .int .u32 g.dst, .int .u16 g.sp, .int .u16 g.dp, .int .u8 g.pr]
def Hdr.enc (g : Hdr) : List Value := [.int .u32 g.src, .int .u32 g.dst, .int .u16 g.sp, .int .u16 g.dp, .int .u8 g.pr]
structure Slot where
  is : Int
  k : Hdr
  v : ByteArray
def Slot.enc (s : Slot) : List Value := [.int .u8 s.is, .int .u32 s.k.src, .int .u32 s.k.dst, .int .u16 s.k.sp, .int .u16 s.k.dp, .int .u8 s.k.pr, .string s.v]
theorem Slot.len (s : Slot) : s.enc.length = 7 := rfl
theorem Slot.flat (s : Slot) : s.enc.all flatV = true := rfl
def h0 : Hdr := ⟨0, 0, 0, 0, 0⟩
def zb : ByteArray := ⟨#[]⟩
def zS : Slot := ⟨0, h0, zb⟩
structure HT where
  most : Int
  ss : List Slot
  n : Int
  marks : Int
theorem und93 : Tryd.prog.underlying 41 = some (.slice 48) := by kernel_rfl
theorem size120 : (Tryd.prog.info? 48).map (·.size) = some 7 := by kernel_rfl
theorem info120 : ∃ i z, Tryd.prog.info? 48 = some i ∧ i.size = 7 ∧ i.bytes ≤ 100 ∧ i.zero = some z ∧ z.cells = zS.enc.toArray := ⟨_, _, rfl, rfl, by decide, rfl, rfl⟩
theorem eq22 : Tryd.prog.underlying 27 = some (.pointer (Tryd.prog.pointee 27)) := by kernel_rfl
/-! ### The number of a header -/
def scat (g : Hdr) : Int :=
  let x := bOr .u64 (IntKind.u64.wrap (IntKind.u64.wrap g.src * 4294967296)) (IntKind.u64.wrap g.dst)
  let y := bOr .u64 (bOr .u64 (IntKind.u64.wrap (IntKind.u64.wrap g.sp * 16777216)) (IntKind.u64.wrap (IntKind.u64.wrap g.dp * 256))) (IntKind.u64.wrap g.pr)
  let x1 := IntKind.u64.wrap (bXor .u64 x (Int.fdiv x 536870912) * 11400714819323198485)
  let x2 := IntKind.u64.wrap (bXor .u64 (bXor .u64 x1 y) (Int.fdiv x1 4294967296) * 13787848793156543929)
  bXor .u64 x2 (Int.fdiv x2 2147483648)
theorem scatter_s (g : Hdr) {h : Hp} {K : Value → Hp → Prop} (H : ∀ h', Ext h h' → K (.int .u64 (scat g)) h') : CallsH Tryd.prog 21 #[g.val] h K := by
  refine hash_scatter_ok _ _ _ _ _ ?_
  unfold hash_scatter
  refine newC_i fun h1 e1 c1 b1 z1 => ?_
  exact ⟨_, ld c1.head (by kernel_rfl), _, ld (c1.at_ 1 _ rfl) (by kernel_rfl), _, ld (c1.at_ 2 _ rfl) (by kernel_rfl), _, ld (c1.at_ 3 _ rfl) (by kernel_rfl), _, ld (c1.at_ 4 _ rfl) (by kernel_rfl), H h1 e1⟩
/-! ### A table in the heap -/
def HT.enc (t : HT) (g c : Nat) : List Value := [.int .i64 t.most, .slice (some ⟨g, 0, none⟩) t.ss.length c, .int .i64 t.n, .int .i64 t.marks]
abbrev RowS (h : Hp) (g c : Nat) (ss : List Slot) : Prop := Row h 48 Slot.enc 7 (some ⟨g, 0, none⟩) c ss
def HAt (h : Hp) (b : Nat) (S : Nat → Prop) (t : HT) : Prop :=
  S b ∧ (∀ k, S k → k < h.size) ∧ ∃ g c, h[b]? = some (.cells (t.enc g c).toArray 43 (0, 0)) ∧ RowS h g c t.ss ∧ S g ∧ g ≠ b
theorem HAt.keep {h h' : Hp} {b : Nat} {S S' : Nat → Prop} {t : HT} (q : HAt h b S t) (f : Fr S' h h') (hn : ∀ k, S k → ¬ S' k) : HAt h' b S t := by
  obtain ⟨h1, h2, g, c, hb, hr, hg, hne⟩ := q
  exact ⟨h1, fun k hk => Nat.lt_of_lt_of_le (h2 k hk) f.size, g, c, f.get hb (hn b h1), hr.keep f (by rintro k ⟨a, ha, rfl⟩; injection ha with ha; subst ha; exact hn _ hg), hg, hne⟩
theorem HAt.ext {h h' : Hp} {b : Nat} {S : Nat → Prop} {t : HT} (q : HAt h b S t) (e : Ext h h') : HAt h' b S t := q.keep (e.fr (fun _ => False)) (fun _ _ h => h)
theorem HAt.cl {h : Hp} {b : Nat} {S : Nat → Prop} {t : HT} (q : HAt h b S t) : ∃ g c, Cl h ⟨b, 0, none⟩ (t.enc g c) ∧ RSl h (some ⟨g, 0, none⟩) t.ss.length 7 (t.ss.flatMap Slot.enc) := by
  obtain ⟨_, _, g, c, hb, hr, _⟩ := q
  exact ⟨g, c, Cl.of_block hb fun j v hj => by rw [Nat.zero_add]; exact hj, hr.read⟩
theorem rd_slot {h : Hp} {g l c : Nat} {ss : List Slot} (r : RSl h (some ⟨g, 0, none⟩) l 7 (ss.flatMap Slot.enc)) (hl : ss.length = l) {i : Nat} {s : Slot} (hi : ss[i]? = some s) :
    PV Tryd.prog (Instr.indexAt 41 (.slice (some ⟨g, 0, none⟩) l c) (.int .i64 (i : Int))) (.pointer (some ((⟨g, 0, none⟩ : Addr).add (i * 7)))) ∧ Cl h ((⟨g, 0, none⟩ : Addr).add (i * 7)) s.enc := by
  have hlt := (List.getElem?_eq_some_iff.1 hi).1
  refine ⟨?_, r.elem Slot.len hi hl⟩
  exact ix (T := 41) (E := 48) (sz := 7) (k := .i64) (i := (i : Int)) (by omega) (by omega) und93 size120
theorem eq71 (a b : Hdr) : PV Tryd.prog (binOp .eql 26 (.agg #[.int .u32 a.src, .int .u32 a.dst, .int .u16 a.sp, .int .u16 a.dp, .int .u8 a.pr]) (.agg #[.int .u32 b.src, .int .u32 b.dst, .int .u16 b.sp, .int .u16 b.dp, .int .u8 b.pr])) (.bool (decide (a = b))) := by
  intro w
  rw [run_eql_struct, run_equalIn_struct w 9999 26 _ _ (by kernel_rfl) (by kernel_rfl)]
  obtain ⟨a1, a2, a3, a4, a5⟩ := a
  obtain ⟨b1, b2, b3, b4, b5⟩ := b
  simp [go_sem]
  by_cases g1 : a1 = b1 <;> by_cases g2 : a2 = b2 <;> by_cases g3 : a3 = b3 <;> by_cases g4 : a4 = b4 <;> by_cases g5 : a5 = b5 <;> simp [g1, g2, g3, g4, g5]
/-! ### seek -/
def nxt (l i : Nat) : Nat := if i + 1 < l then i + 1 else 0
def seekI (ss : List Slot) (k : Hdr) : Nat → Int → Int → Nat → Option (Int × Int × Int)
  | 0, _, _, _ => none
  | f + 1, free, pr, i => match ss[i]? with
    | none => none
    | some s => if s.is = 1 ∧ s.k = k then some (i, free, pr + 1) else if s.is = 2 then seekI ss k f (if free < 0 then i else free) (pr + 1) (nxt ss.length i) else if s.is = 0 then some (-1, if free < 0 then i else free, pr + 1) else seekI ss k f free (pr + 1) (nxt ss.length i)
theorem rem_nxt {l i : Nat} {P : Int → Prop} (hl : l < 2 ^ 62) (hi : i < l) (H : P (nxt l i : Nat)) : br (decide (IntKind.i64.wrap ((i : Int) + 1) < (l : Int))) (P (IntKind.i64.wrap ((i : Int) + 1))) (P 0) := by
  rw [wrap_in (by omega) (by omega)]
  unfold nxt at H
  split at H
  · exact br_t (by simp; omega) (by simpa using H)
  · exact br_f (by simp; omega) H
theorem seek_g1 {h : Hp} {b : Nat} {S : Nat → Prop} {t : HT} (q : HAt h b S t) (k : Hdr) {ka : Addr} (hk : Cl h ka k.enc) (hlen : t.ss.length < 2 ^ 62) {a fr p : Int} {K0 : Int → Int → Int → Hp → Prop} (H : K0 a fr p h) :
    ∀ (f : Nat) (free pr : Int) (i : Nat), seekI t.ss k f free pr i = some (a, fr, p) → 0 ≤ pr → pr + f < 2 ^ 62 → hash_TableS_seek_g1 (some ⟨b, 0, none⟩) ka K0 f free pr i h := by
  intro f
  obtain ⟨g, c, hc, hr⟩ := q.cl
  induction f with
  | zero => intro free pr i hm; cases hm
  | succ f ih =>
    intro free pr i hm hp0 hp1
    unfold seekI at hm
    unfold hash_TableS_seek_g1
    cases hs : t.ss[i]? with
    | none => rw [hs] at hm; cases hm
    | some s =>
      rw [hs] at hm
      simp only at hm
      have hlt := (List.getElem?_eq_some_iff.1 hs).1
      obtain ⟨hix, hcl⟩ := rd_slot (c := c) hr rfl hs
      have w1 : IntKind.i64.wrap (pr + 1) = pr + 1 := wrap_in (by omega) (by omega)
      rw [w1]
      have hA : HV Tryd.prog (Instr.loadAt 41 (.pointer (some ((⟨b, 0, none⟩ : Addr).add 1)))) h (.slice (some ⟨g, 0, none⟩) t.ss.length c) := ld (hc.at_ 1 _ rfl) (by kernel_rfl)
      have hI : HV Tryd.prog (Instr.loadAt 46 (.pointer (some ((⟨g, 0, none⟩ : Addr).add (i * 7))))) h (.int .u8 s.is) := ld hcl.head (by kernel_rfl)
      have go : ∀ free', seekI t.ss k f free' (pr + 1) (nxt t.ss.length i) = some (a, fr, p) → drf (some ⟨b, 0, none⟩) fun a77 => ∃ A78 : Option Addr, ∃ l78 : Nat, ∃ c78 : Nat, HV Tryd.prog (Instr.loadAt 41 (.pointer (some (a77.add 1)))) h (.slice A78 l78 c78) ∧ br (decide ((IntKind.i64.wrap ((i : Int) + 1)) < (l78 : Int))) (hash_TableS_seek_g1 (some ⟨b, 0, none⟩) ka K0 f free' (pr + 1) (IntKind.i64.wrap ((i : Int) + 1)) h) (hash_TableS_seek_g1 (some ⟨b, 0, none⟩) ka K0 f free' (pr + 1) 0 h) := fun free' hm' =>
        ⟨_, _, _, hA, rem_nxt (P := fun x => hash_TableS_seek_g1 (some ⟨b, 0, none⟩) ka K0 f free' (pr + 1) x h) hlen hlt (ih free' (pr + 1) _ hm' (by omega) (by omega))⟩
      have fin : ∀ x y z : Int, some (x, y, z) = some (a, fr, p) → K0 x y z h := fun x y z e => by
        injection e with e; injection e with e1 e; injection e with e2 e3
        rw [e1, e2, e3]; exact H
      have tail : ¬ (s.is = 1 ∧ s.k = k) → ∃ x76 : Int, HV Tryd.prog (Instr.loadAt 46 (.pointer (some ((⟨g, 0, none⟩ : Addr).add (i * 7))))) h (.int .u8 x76) ∧ br (x76 == 2) (br (decide (free < 0)) (drf (some ⟨b, 0, none⟩) fun a77 => ∃ A78 : Option Addr, ∃ l78 : Nat, ∃ c78 : Nat, HV Tryd.prog (Instr.loadAt 41 (.pointer (some (a77.add 1)))) h (.slice A78 l78 c78) ∧ br (decide ((IntKind.i64.wrap ((i : Int) + 1)) < (l78 : Int))) (hash_TableS_seek_g1 (some ⟨b, 0, none⟩) ka K0 f i (pr + 1) (IntKind.i64.wrap ((i : Int) + 1)) h) (hash_TableS_seek_g1 (some ⟨b, 0, none⟩) ka K0 f i (pr + 1) 0 h)) (∃ x79 : Int, HV Tryd.prog (Instr.loadAt 46 (.pointer (some ((⟨g, 0, none⟩ : Addr).add (i * 7))))) h (.int .u8 x79) ∧ br (x79 == 0) (br (decide (free < 0)) (K0 (-1) i (pr + 1) h) (K0 (-1) free (pr + 1) h)) (drf (some ⟨b, 0, none⟩) fun a80 => ∃ A81 : Option Addr, ∃ l81 : Nat, ∃ c81 : Nat, HV Tryd.prog (Instr.loadAt 41 (.pointer (some (a80.add 1)))) h (.slice A81 l81 c81) ∧ br (decide ((IntKind.i64.wrap ((i : Int) + 1)) < (l81 : Int))) (hash_TableS_seek_g1 (some ⟨b, 0, none⟩) ka K0 f free (pr + 1) (IntKind.i64.wrap ((i : Int) + 1)) h) (hash_TableS_seek_g1 (some ⟨b, 0, none⟩) ka K0 f free (pr + 1) 0 h)))) (∃ x82 : Int, HV Tryd.prog (Instr.loadAt 46 (.pointer (some ((⟨g, 0, none⟩ : Addr).add (i * 7))))) h (.int .u8 x82) ∧ br (x82 == 0) (br (decide (free < 0)) (K0 (-1) i (pr + 1) h) (K0 (-1) free (pr + 1) h)) (drf (some ⟨b, 0, none⟩) fun a83 => ∃ A84 : Option Addr, ∃ l84 : Nat, ∃ c84 : Nat, HV Tryd.prog (Instr.loadAt 41 (.pointer (some (a83.add 1)))) h (.slice A84 l84 c84) ∧ br (decide ((IntKind.i64.wrap ((i : Int) + 1)) < (l84 : Int))) (hash_TableS_seek_g1 (some ⟨b, 0, none⟩) ka K0 f free (pr + 1) (IntKind.i64.wrap ((i : Int) + 1)) h) (hash_TableS_seek_g1 (some ⟨b, 0, none⟩) ka K0 f free (pr + 1) 0 h))) := fun hn => by
        rw [if_neg hn] at hm
        refine ⟨_, hI, br_i (fun c2 => br_i (fun c3 => ?_) (fun c3 => ?_)) (fun c2 => ?_)⟩
        · have c2 : s.is = 2 := by simpa using c2
          have c3 : free < 0 := by simpa using c3
          rw [if_pos c2, if_pos c3] at hm
          exact go _ hm
        · have c2 : s.is = 2 := by simpa using c2
          have c3 : ¬ free < 0 := by simpa using c3
          rw [if_pos c2, if_neg c3] at hm
          exact ⟨_, hI, br_f (by simp [c2]) (go _ hm)⟩
        · have c2 : ¬ s.is = 2 := by simpa using c2
          rw [if_neg c2] at hm
          refine ⟨_, hI, br_i (fun c4 => br_i (fun c3 => ?_) (fun c3 => ?_)) (fun c4 => ?_)⟩
          · have c4 : s.is = 0 := by simpa using c4
            have c3 : free < 0 := by simpa using c3
            rw [if_pos c4, if_pos c3] at hm
            exact fin _ _ _ hm
          · have c4 : s.is = 0 := by simpa using c4
            have c3 : ¬ free < 0 := by simpa using c3
            rw [if_pos c4, if_neg c3] at hm
            exact fin _ _ _ hm
          · have c4 : ¬ s.is = 0 := by simpa using c4
            rw [if_neg c4] at hm
            exact go _ hm
      refine ⟨_, _, _, hA, _, hix, _, hI, br_i (fun c1 => ?_) (fun c1 => ?_)⟩
      · have c1 : s.is = 1 := by simpa using c1
        refine ⟨_, _, _, _, _, ldS (Cl.sl hcl (n := 1) (us := s.k.enc) rfl) (by kernel_rfl), _, _, _, _, _, ldS hk (by kernel_rfl), _, eq71 _ _, br_i (fun c5 => ?_) (fun c5 => ?_)⟩
        · have c5 : s.k = k := by simpa using c5
          rw [if_pos ⟨c1, c5⟩] at hm
          exact fin _ _ _ hm
        · exact tail (fun hh => by simp [hh.2] at c5)
      · exact tail (fun hh => by simp [hh.1] at c1)
def seekT (ss : List Slot) (k : Hdr) : Option (Int × Int × Int) := seekI ss k (ss.length + 2) (-1) 0 (scat k % ss.length).toNat
theorem seek_s {h : Hp} {b : Nat} {S : Nat → Prop} {t : HT} (q : HAt h b S t) (k : Hdr) (hlen : t.ss.length < 2 ^ 60) (h0 : 0 < t.ss.length) (hs0 : 0 ≤ scat k) {a fr p : Int} (hm : seekT t.ss k = some (a, fr, p)) {K : Value → Hp → Prop}
    (H : ∀ h', Ext h h' → K (.tuple #[.int .i64 a, .int .i64 fr, .int .i64 p]) h') : CallsH Tryd.prog 12 #[.pointer (some ⟨b, 0, none⟩), k.val] h K := by
  refine hash_TableS_seek_ok _ _ _ _ _ _ ?_
  unfold hash_TableS_seek
  refine newC_i fun h1 e1 c1 b1 z1 => ⟨t.ss.length + 1, _, _, _, _, _, ldS (vs := k.enc) c1 (by kernel_rfl), ?_⟩
  refine scatter_s k fun h2 e2 => ⟨_, rfl, ?_⟩
  obtain ⟨g, c, hc, hr⟩ := (q.ext e1).cl
  have hw : IntKind.u64.wrap (t.ss.length : Int) = t.ss.length := by
    simp [IntKind.wrap, IntKind.bits, IntKind.signed]; omega
  have hr1 : 0 ≤ scat k % t.ss.length := Int.emod_nonneg _ (by omega)
  have hr2 : scat k % t.ss.length < t.ss.length := Int.emod_lt_of_pos _ (by omega)
  refine ⟨_, _, _, ld ((hc.ext e2).at_ 1 _ rfl) (by kernel_rfl), ld (hc.at_ 1 _ rfl) (by kernel_rfl), scat k % t.ss.length, ?_, ?_⟩
  · intro w
    rw [hw]
    have hne : ¬ ((t.ss.length : Int) = 0) := by omega
    simp only [binOp, Op.intDiv, hne, if_false]
    rw [← Int.tmod_eq_emod_of_nonneg hs0]
    rfl
  · rw [wrap_in (by omega) (by omega)]
    obtain ⟨i, hi⟩ := Int.eq_ofNat_of_zero_le hr1
    have := seek_g1 (q.ext (e1.trans e2)) k (c1.ext e2) (by omega) (K0 := fun x106 x107 x108 h109 => K (.tuple #[.int .i64 x106, .int .i64 x107, .int .i64 x108]) h109) (a := a) (fr := fr) (p := p) (H h2 (e1.trans e2)) (t.ss.length + 2) (-1) 0 i (by
      unfold seekT at hm
      rw [hi] at hm
      simpa using hm) (by omega) (by omega)
    rw [hi]
    exact this
end Go.Proofs.YtoheablfncdibaaDoor.FsS
