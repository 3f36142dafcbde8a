/- NestSizes: the walk. -/
import Derived.Test.YtgahbkbmolfpnaaGreatRf14
import Derived.Test.YtgahbkbmolfpnaaGreatNePt
import Derived.Test.YtgahbkbmolfpnaaGreatNeKeep
import Derived.Test.YtgahbkbmolfpnaaGreatNeAwake
namespace Go.Proofs.YtgahbkbmolfpnaaGreat.Fs
open Go Go.RowKit Go.Proofs.YtgahbkbmolfpnaaGreat.Sx Go.Proofs.YtgahbkbmolfpnaaGreat.Sp Go.Proofs.YtgahbkbmolfpnaaGreat.Uq
set_option linter.unusedVariables false
set_option linter.unusedSimpArgs false
set_option maxRecDepth 10000
theorem refTuple_s {h0 : Hp} {A : Option Addr} {c : Nat} {l : List Rul} (r : RSl h0 A l.length 12 (l.flatMap Rul.enc)) (hl : l.length ≤ 1000000000) (hwf : ∀ x, x ∈ l → x.wf) (ok : ∀ x, x ∈ l → x.okP) {K : Value → Hp → Prop}
    (H : ∀ h', Ext h0 h' → K (.tuple #[.int .i64 (if listE l = 0 then (tupleN l : Int) else 0), .int .i64 (listE l)]) h') : CallsH Tryz.prog 11 #[.slice A l.length c] h0 K := by
  refine quintetref14_Tuple_ok _ _ _ ?_
  unfold quintetref14_Tuple
  refine refList_s (c := c) r hl hwf fun h1 e1 => ⟨_, rfl, br_i (fun u => ?_) (fun u => ?_)⟩
  · have u : listE l ≠ 0 := by simpa using u
    have := H h1 e1
    rw [if_neg u] at this
    exact this
  · have u : listE l = 0 := by simpa using u
    have hlen := listE_len u
    have hk0 := listE_chk u
    have key : ∀ d i h, i + d = l.length → Ext h1 h → quintetref14_Tuple_l1 A l.length c (fun x h => K (.tuple #[.int .i64 x, .int .i64 0]) h) (d + 1) ((((l.take i).map cells1).sum : Nat) : Int) (i : Int) h := by
      intro d
      induction d with
      | zero =>
        intro i h hi e
        unfold quintetref14_Tuple_l1
        refine br_f (by simp; omega) ?_
        rw [List.take_of_length_le (by omega)]
        have := H h (e1.trans e)
        rw [if_pos u, u] at this
        exact this
      | succ d ih =>
        intro i h hi e
        unfold quintetref14_Tuple_l1
        have hx : l[i]? = some (l[i]'(by omega)) := List.getElem?_eq_getElem (by omega)
        generalize l[i]'(by omega) = x at hx
        have hxm := List.mem_of_getElem? hx
        have hst := sum1 hx cells1
        have hb := sum_bd cells1 (30 * 30) (l.take i) fun y hy => cells1_le (ok y (List.mem_of_mem_take hy))
        have htl : (l.take i).length ≤ 64 := by rw [List.length_take]; omega
        have hb2 : (l.take i).length * (30 * 30) ≤ 64 * (30 * 30) := Nat.mul_le_mul_right _ htl
        have hcx := cells1_le (ok x hxm)
        obtain ⟨hs1, hs2⟩ := check_sp (hk0 x hxm)
        obtain ⟨a, hix, hcl⟩ := ixRu (c := c) (r.ext (e1.trans e)) hx
        refine br_t (by simp; omega) ⟨_, hix, _, _, ldS (Rul.cl_sp hcl) (by kernel_rfl), rCount_s x.sp (ok x hxm).1 fun h3 e3 => ⟨_, _, rfl, _, hix, _, _, ldS (Rul.cl_dp (hcl.ext e3)) (by kernel_rfl), rCount_s x.dp (ok x hxm).2 fun h4 e4 => ⟨_, _, rfl, ?_⟩⟩⟩
        have g1 : (cntT x.sp).1 = ((ofS x.sp).length : Int) := by rw [cntT, if_pos (show x.sp.lo ≤ x.sp.hi from hs1)]
        have g2 : (cntT x.dp).1 = ((ofS x.dp).length : Int) := by rw [cntT, if_pos (show x.dp.lo ≤ x.dp.hi from hs2)]
        rw [g1, g2]
        have g3 : ((ofS x.sp).length : Int) * ((ofS x.dp).length : Int) = ((cells1 x : Nat) : Int) := by unfold cells1; simp
        rw [g3, wrap_in (n := ((cells1 x : Nat) : Int)) (by omega) (by omega), wrapS (by omega), wrapN (by omega), ← hst]
        exact ih (i + 1) h4 (by omega) ((e.trans e3).trans e4)
    exact ⟨l.length + 1, key l.length 0 h1 (by omega) (Ext.refl _)⟩
theorem NestSizes_s {h0 : Hp} {A : Option Addr} {c : Nat} {l : List Rul} (r : RSl h0 A l.length 12 (l.flatMap Rul.enc)) (hc : l.length ≤ c) (hwf : ∀ x, x ∈ l → x.wf) (ok : ∀ x, x ∈ l → x.okP) (g : Hdr) (hg : U32 g.src ∧ U32 g.dst) {K : Value → Hp → Prop} (H : ∀ h', Ext h0 h' → K (.bool true) h') :
    CallsH Tryz.prog 3 #[.slice A l.length c, g.val] h0 K := by
  refine quintetlaw14_NestSizes_ok _ _ _ _ _ _ _ _ ?_
  unfold quintetlaw14_NestSizes
  refine newC_i (cs := g.enc) fun h1 e1 c1 b1 z1 => br_i (fun _ => awake_s fun h2 e2 => ⟨_, rfl, H h2 (e1.trans e2)⟩) (fun u => ?_)
  have hl : l.length ≤ 16777216 := by simp at u; omega
  refine Lend_s (c := c) (r.ext e1) (by omega) fun h2 gb e2 hgb r2 => ⟨_, _, _, rfl, ?_⟩
  have own : RSl h2 (some ⟨gb, 0, none⟩) l.length 12 (l.flatMap Rul.enc) := by
    have := rslTake Rul.enc_len r2.read rfl (n := l.length) (by simp)
    rwa [List.take_left] at this
  have e12 := e1.trans e2
  refine Prune_s (c := l.length + 2) own (by omega) (by omega) fun h3 e3 => ⟨_, _, rfl, ?_⟩
  refine refPrune_s (c := c) ((r.ext e12).ext e3) (by omega) hwf fun h4 e4 => ⟨_, _, rfl, ?_⟩
  have e24 := e3.trans e4
  refine Grid_s (c := l.length + 2) (own.ext e24) (by omega) (by omega) fun h5 e5 => ⟨_, _, rfl, ?_⟩
  have e25 := e24.trans e5
  refine refGrid_s (c := c) ((r.ext e12).ext e25) (by omega) hwf fun h6 e6 => ⟨_, _, rfl, ?_⟩
  have e26 := e25.trans e6
  refine Tuple_s (c := l.length + 2) (own.ext e26) (by omega) (by omega) ok fun h7 e7 => ⟨_, _, rfl, ?_⟩
  have e27 := e26.trans e7
  refine refTuple_s (c := c) ((r.ext e12).ext e27) (by omega) hwf ok fun h8 e8 => ⟨_, _, rfl, ?_⟩
  have e28 := e27.trans e8
  refine ⟨_, _, _, _, _, ldS (vs := g.enc) ((c1.ext e2).ext e28) (by kernel_rfl), ?_⟩
  refine Pairs_s (c := l.length + 2) g (own.ext e28) (by omega) fun h9 e9 => ⟨_, rfl, ?_⟩
  have e29 := e28.trans e9
  refine Back_s (c := c) (r2.ext e29) ((r.ext e12).ext e29) (by omega) fun h10 f10 => ⟨_, rfl, ?_⟩
  have e110 : Ext h1 h10 := extOwn (e2.trans e29) f10 fun k hk => by omega
  have e010 := e1.trans e110
  refine awake_s fun h11 e11 => ⟨_, rfl, br_t rfl (br_t (by simp) (br_t (by simp) (br_t (by simp) (br_t (by simp) (br_t (by simp) (br_t (by simp) ?_))))))⟩
  refine ⟨_, _, _, _, _, ldS (vs := g.enc) ((c1.ext e110).ext e11) (by kernel_rfl), ?_⟩
  refine refPairs_s (c := c) ((r.ext e010).ext e11) (by omega) hwf g hg fun h12 e12 => ⟨_, rfl, br_t (by simp) (H h12 ((e010.trans e11).trans e12))⟩
end Go.Proofs.YtgahbkbmolfpnaaGreat.Fs
