/- The laws' helpers: Ints, lent, kept, awake. -/
import Derived.Test.YtgahbkbmolfpnaaGreatNeSpec2
import Derived.Test.YtgahbkbmolfpnaaGreatNeSz
import Derived.Test.YtgahbkbmolfpnaaGreatFsC
namespace Go.Proofs.YtgahbkbmolfpnaaGreat.Fs
open Go Go.RowKit Go.Sort Go.Proofs.YtgahbkbmolfpnaaGreat.Sx Go.Proofs.YtgahbkbmolfpnaaGreat.Sp Go.Proofs.YtgahbkbmolfpnaaGreat.Ne
set_option linter.unusedVariables false
set_option linter.unusedSimpArgs false
set_option maxRecDepth 10000
theorem ixIR {h : Hp} {A : Option Addr} {c : Nat} {l : List Int} (r : RSl h A l.length 1 (l.flatMap encI)) {i : Nat} {x : Int} (hi : l[i]? = some x) : ∃ a, PV Tryz.prog (Instr.indexAt 38 (.slice A l.length c) (.int .i64 (i : Int))) (.pointer (some a)) ∧ HV Tryz.prog (Instr.loadAt 3 (.pointer (some a))) h (.int .i64 x) := by
  obtain ⟨a, _, _, hix, hcl⟩ := ixR (P := Tryz.prog) (T := 38) (E := 3) (c := c) (k := .i64) encI_len r rfl und_ints size_int hi
  exact ⟨a, hix, ld hcl.head (by kernel_rfl)⟩
theorem ints_l1 {h : Hp} {A A' : Option Addr} {c c' : Nat} {l m : List Int} (r1 : RSl h A l.length 1 (l.flatMap encI)) (r2 : RSl h A' m.length 1 (m.flatMap encI)) (hl : l.length ≤ 1000000000) (he : l.length = m.length) {K0 : Bool → Hp → Prop} {K1 : Hp → Prop} (H0 : l ≠ m → K0 false h) (H1 : l = m → K1 h) :
    ∀ (k i : Nat), l.length - i < k → i ≤ l.length → l.take i = m.take i → quintetkeep_Ints_l1 A l.length c A' m.length c' K0 K1 k i h
  | 0, i, hk, _, _ => by omega
  | k + 1, i, hk, hi, ht => by
    unfold quintetkeep_Ints_l1
    refine br_i (fun hc => ?_) (fun hc => ?_)
    · have hlt : i < l.length := by simpa using hc
      have hltm : i < m.length := by omega
      obtain ⟨a, hix, hld⟩ := ixIR (c := c) r1 (List.getElem?_eq_getElem hlt)
      obtain ⟨b, hix2, hld2⟩ := ixIR (c := c') r2 (List.getElem?_eq_getElem hltm)
      refine ⟨_, hix, _, hld, _, hix2, _, hld2, br_i (fun p => ?_) (fun p => ?_)⟩
      · refine H0 fun e => ?_
        have p : l[i] ≠ m[i] := by simpa using p
        exact p (by simp [e])
      · have e : l[i] = m[i] := by simpa using p
        rw [wrapN (by omega)]
        refine ints_l1 r1 r2 hl he H0 H1 k (i + 1) (by omega) (by omega) ?_
        rw [List.take_add_one, List.take_add_one, ht, List.getElem?_eq_getElem hlt, List.getElem?_eq_getElem hltm, e]
    · have hi' : i = l.length := by simp at hc; omega
      rw [hi', List.take_length, he, List.take_length] at ht
      exact H1 ht
theorem Ints_s {h : Hp} {A A' : Option Addr} {c c' : Nat} {l m : List Int} (r1 : RSl h A l.length 1 (l.flatMap encI)) (r2 : RSl h A' m.length 1 (m.flatMap encI)) (hl : l.length ≤ 1000000000) {K : Value → Hp → Prop} (H : K (.bool (decide (l = m))) h) : CallsH Tryz.prog 18 #[.slice A l.length c, .slice A' m.length c'] h K := by
  refine quintetkeep_Ints_ok _ _ _ _ _ _ ?_
  unfold quintetkeep_Ints
  refine br_i (fun p => ?_) (fun p => ?_)
  · have hne : l ≠ m := fun e => by subst e; simp at p
    rw [decide_eq_false hne] at H; exact H
  · have he : l.length = m.length := by
      have : (l.length : Int) = (m.length : Int) := by simpa using p
      omega
    refine ⟨l.length + 1, ints_l1 r1 r2 hl he (fun hne => ?_) (fun e => ?_) _ 0 (by omega) (by omega) (by simp)⟩
    · rw [decide_eq_false hne] at H; exact H
    · rw [decide_eq_true e] at H; exact H
theorem lit_i {h : Hp} {a : Addr} (l : List Int) (c : Cl h a (l.flatMap encI)) : RSl h (some a) l.length 1 (l.flatMap encI) := ⟨flat_len encI_len l, .inr ⟨a, rfl, c⟩⟩
theorem lit_rs {h : Hp} {a : Addr} (l : List Sp) (c : Cl h a (l.flatMap Sp.enc)) : RSl h (some a) l.length 2 (l.flatMap Sp.enc) := ⟨flat_len Sp.len l, .inr ⟨a, rfl, c⟩⟩
theorem lit_ru {h : Hp} {a : Addr} (l : List Rul) (c : Cl h a (l.flatMap Rul.enc)) : RSl h (some a) l.length 12 (l.flatMap Rul.enc) := ⟨flat_len Rul.enc_len l, .inr ⟨a, rfl, c⟩⟩
theorem HU_stC {t : TypeId} {b o : Nat} {T : TypeId} {cs us new : List Value} {v : Value} {h : Hp} {K : Hp → Prop} (hb : h[b]? = some (.cells cs.toArray T (0, 0))) (hv : v.cells = us.toArray) (hsz : (Tryz.prog.info? t).map (·.size) = some us.length)
    (hl : o + us.length ≤ cs.length) (hf : us.all flatV = true) (hn : cs.take o ++ us ++ cs.drop (o + us.length) = new) (H : ∀ h', h'[b]? = some (.cells new.toArray T (0, 0)) → Fr (fun k => k = b) h h' → h'.size = h.size → K h') : HU Tryz.prog (Instr.storeAt t (.pointer (some ⟨b, o, none⟩)) v) h K := by
  refine HU_st hb hv hsz hl hf ?_
  rw [hn]
  exact H _ (setB_get (lt_of_get hb)) (setB_fr rfl) setB_size
def awL : List Sp := [⟨3, 5⟩, ⟨0, 3⟩, ⟨0, 9⟩, ⟨4, 4⟩]
def awA : Rul := ⟨1, 0, 0, 0, 0, 0, 65535, 1, 6, 0, 0, 3⟩
def awB : Rul := ⟨2, 167772160, 8, 0, 0, 0, 65535, 1, 6, 0, 0, 3⟩
theorem aw_w : wrongB awL = false := by decide +kernel
theorem aw_levs : levs awL = [2, 1, 0, 1] := by decide +kernel
theorem aw_dep : dep awL = 3 := by decide +kernel
theorem aw_finds : finds awL 4 = [2, 3, 0] := by decide +kernel
theorem aw_list : listE [awA, awB] = 0 := by decide +kernel
theorem aw_prune : pruneN [awA, awB] = 3 := by decide +kernel
theorem aw_grid : gridN [awA, awB] = 3 := by decide +kernel
theorem aw_tuple : tupleN [awA, awB] = 8 := by decide +kernel
theorem aw_pairs : pairsN [awA, awB] ⟨167772161, 0, 0, 0, 0⟩ = 2 := by decide +kernel
theorem aw_ok : ∀ x ∈ [awA, awB], x.okP := by
  intro x hx
  simp only [List.mem_cons, List.not_mem_nil, or_false] at hx
  rcases hx with rfl | rfl <;> exact ⟨⟨by decide, by decide, by decide, by decide⟩, by decide, by decide, by decide, by decide⟩
end Go.Proofs.YtgahbkbmolfpnaaGreat.Fs
