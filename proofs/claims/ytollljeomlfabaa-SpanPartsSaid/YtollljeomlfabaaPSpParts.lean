-- PRINTED by print.py (a twelfth state) out of the translation. Not trusted: Lean checks it.
import Derived.Test.YtollljeomlfabaaPSpx0
import Derived.Test.YtollljeomlfabaaPSpx2
import Derived.Test.YtollljeomlfabaaPSpx5
import Derived.Test.YtollljeomlfabaaPSpx6
namespace Go.Proofs.Ytollljeomlfabaa.PSp
open Go.RowKit Go.Proofs.YtollljeomlfabaaW.PrintWords Go.Proofs.YtollljeomlfabaaW.PrintLast Go.Proofs.YtollljeomlfabaaW.PrintMore
attribute [local go_sem] max2_int min2_int max_two min_two max_three min_three max_four min_four   -- for this text's walks alone
set_option linter.unusedVariables false
set_option linter.unusedSimpArgs false

/-! ### quintetlaw03_SpanParts: function 6 -/
mutual
def quintetlaw03_SpanParts.j0 : Nat → Int → List (S24) → Int → Int → Int → Int → Option (Bool)
  | 0, _, _, _, _, _, _ => none
  | k + 1, x2, x7, x10, x11, x277000, x277001 => quintetlaw03_SpanParts.l0 k x2 x7 x10 x11 0 x277000 x277001
def quintetlaw03_SpanParts.l0 : Nat → Int → List (S24) → Int → Int → Int → Int → Int → Option (Bool)
  | 0, _, _, _, _, _, _, _ => none
  | k + 1, x2, x7, x10, x11, x12, x277000, x277001 => if x12 < (x7.length : Int) then (if 0 ≤ x12 then ((span_Count.f ((rd_T24 x7 x12).f0) ((rd_T24 x7 x12).f1)).bind fun t291 => ((span_Has.f ((rd_T24 x7 x12).f0) ((rd_T24 x7 x12).f1) x2).bind fun t293 => (if t293 = true then (quintetlaw03_SpanParts.l0 k x2 x7 (wrap64 (x10 + t291)) (wrap64 (x11 + 1)) (wrap64 (x12 + 1)) x277000 x277001) else (quintetlaw03_SpanParts.l0 k x2 x7 (wrap64 (x10 + t291)) x11 (wrap64 (x12 + 1)) x277000 x277001)))) else (none)) else ((quintetlaw03_awake.f k).bind fun t287 => (if t287 = true then ((span_Count.f x277000 x277001).bind fun t288 => (if x10 = t288 then ((span_Has.f x277000 x277001 x2).bind fun t289 => (if ((x11 == 1) == t289) = true then (some (decide (x11 ≤ 1))) else (some false))) else (some false))) else (some false)))
end
def quintetlaw03_SpanParts.f (k : Nat) (a0_0 : Int) (a0_1 : Int) (a1_0 : Int) (a1_1 : Int) (a2 : Int) : Option (Bool) := (span_Less.f a0_0 a0_1 a1_0 a1_1).bind fun t278 => ((span_Meet.f a0_0 a0_1 a1_0 a1_1).bind fun bt281 => (if bt281.2.2 = true then ((span_Count.f bt281.1 bt281.2.1).bind fun t285 => ((span_Has.f bt281.1 bt281.2.1 a2).bind fun t286 => (if t286 = true then (quintetlaw03_SpanParts.j0 k a2 t278 t285 (0 + 1) a0_0 a0_1) else (quintetlaw03_SpanParts.j0 k a2 t278 t285 0 a0_0 a0_1)))) else (quintetlaw03_SpanParts.j0 k a2 t278 0 0 a0_0 a0_1)))
theorem quintetlaw03_SpanParts.mono_l : ∀ k, (∀ y0 y1 y2 y3 y4 y5, LeO (quintetlaw03_SpanParts.j0 k y0 y1 y2 y3 y4 y5) (quintetlaw03_SpanParts.j0 (k + 1) y0 y1 y2 y3 y4 y5)) ∧ (∀ y0 y1 y2 y3 y4 y5 y6, LeO (quintetlaw03_SpanParts.l0 k y0 y1 y2 y3 y4 y5 y6) (quintetlaw03_SpanParts.l0 (k + 1) y0 y1 y2 y3 y4 y5 y6))
  | 0 => ⟨fun _ _ _ _ _ _ r h => by simp [quintetlaw03_SpanParts.j0] at h, fun _ _ _ _ _ _ _ r h => by simp [quintetlaw03_SpanParts.l0] at h⟩
  | k + 1 => by
    obtain ⟨ih0, ih1⟩ := quintetlaw03_SpanParts.mono_l k
    refine ⟨?_, ?_⟩
    · intro y0 y1 y2 y3 y4 y5
      unfold quintetlaw03_SpanParts.j0
      repeat' first
      | (with_reducible exact ih0 _ _ _ _ _ _)
      | (with_reducible exact ih1 _ _ _ _ _ _ _)
      | (with_reducible exact quintetlaw03_awake.mono _)
      | (with_reducible exact LeO.refl _)
      | (with_reducible exact LeO.none _)
      | (with_reducible refine LeO.ite ?_ ?_)
      | (with_reducible refine LeO.bind ?_ (fun _ => ?_))
      | exact ih0 _ _ _ _ _ _
      | exact ih1 _ _ _ _ _ _ _
      | exact quintetlaw03_awake.mono _
      | exact LeO.none _
      | refine LeO.ite ?_ ?_
      | refine LeO.bind ?_ (fun _ => ?_)
    · intro y0 y1 y2 y3 y4 y5 y6
      unfold quintetlaw03_SpanParts.l0
      repeat' first
      | (with_reducible exact ih0 _ _ _ _ _ _)
      | (with_reducible exact ih1 _ _ _ _ _ _ _)
      | (with_reducible exact quintetlaw03_awake.mono _)
      | (with_reducible exact LeO.refl _)
      | (with_reducible exact LeO.none _)
      | (with_reducible refine LeO.ite ?_ ?_)
      | (with_reducible refine LeO.bind ?_ (fun _ => ?_))
      | exact ih0 _ _ _ _ _ _
      | exact ih1 _ _ _ _ _ _ _
      | exact quintetlaw03_awake.mono _
      | exact LeO.none _
      | refine LeO.ite ?_ ?_
      | refine LeO.bind ?_ (fun _ => ?_)
theorem quintetlaw03_SpanParts.mono : ∀ a0 a1 a2 a3 a4 k, LeO (quintetlaw03_SpanParts.f k a0 a1 a2 a3 a4) (quintetlaw03_SpanParts.f (k + 1) a0 a1 a2 a3 a4) := by
  intro a0 a1 a2 a3 a4 k
  obtain ⟨ih0, ih1⟩ := quintetlaw03_SpanParts.mono_l k
  unfold quintetlaw03_SpanParts.f
  repeat' first
      | (with_reducible exact ih0 _ _ _ _ _ _)
      | (with_reducible exact ih1 _ _ _ _ _ _ _)
      | (with_reducible exact quintetlaw03_awake.mono _)
      | (with_reducible exact LeO.refl _)
      | (with_reducible exact LeO.none _)
      | (with_reducible refine LeO.ite ?_ ?_)
      | (with_reducible refine LeO.bind ?_ (fun _ => ?_))
      | exact ih0 _ _ _ _ _ _
      | exact ih1 _ _ _ _ _ _ _
      | exact quintetlaw03_awake.mono _
      | exact LeO.none _
      | refine LeO.ite ?_ ?_
      | refine LeO.bind ?_ (fun _ => ?_)
set_option maxHeartbeats 8000000 in
set_option maxRecDepth 100000 in
theorem quintetlaw03_SpanParts.calls (k : Nat) (a0_0 : Int) (a0_1 : Int) (a1_0 : Int) (a1_1 : Int) (a2 : Int) (r : Bool) (w : World) (h : quintetlaw03_SpanParts.f k a0_0 a0_1 a1_0 a1_1 a2 = some r) :
    Calls Try.prog 6 #[.agg #[.int .u16 a0_0, .int .u16 a0_1], .agg #[.int .u16 a1_0, .int .u16 a1_1], .int .u16 a2] w fun e w' => e = .returned (.bool r) ∧ Below w.heap.size w w' := by
  have hu24 := Try.underlying24
  have HB := Aside0.mk (Below.refl w.heap.size w)
  have H : ((span_Less.f a0_0 a0_1 a1_0 a1_1).bind fun t278 => ((span_Meet.f a0_0 a0_1 a1_0 a1_1).bind fun bt281 => (if bt281.2.2 = true then ((span_Count.f bt281.1 bt281.2.1).bind fun t285 => ((span_Has.f bt281.1 bt281.2.1 a2).bind fun t286 => (if t286 = true then (quintetlaw03_SpanParts.j0 k a2 t278 t285 (0 + 1) a0_0 a0_1) else (quintetlaw03_SpanParts.j0 k a2 t278 t285 0 a0_0 a0_1)))) else (quintetlaw03_SpanParts.j0 k a2 t278 0 0 a0_0 a0_1)))) = some r := h
  clear h
  replace H := Option.bind_eq_some_iff.mp H
  obtain ⟨t278, A40, H⟩ := H
  replace H : ((span_Meet.f a0_0 a0_1 a1_0 a1_1).bind fun bt281 => (if bt281.2.2 = true then ((span_Count.f bt281.1 bt281.2.1).bind fun t285 => ((span_Has.f bt281.1 bt281.2.1 a2).bind fun t286 => (if t286 = true then (quintetlaw03_SpanParts.j0 k a2 t278 t285 (0 + 1) a0_0 a0_1) else (quintetlaw03_SpanParts.j0 k a2 t278 t285 0 a0_0 a0_1)))) else (quintetlaw03_SpanParts.j0 k a2 t278 0 0 a0_0 a0_1))) = some r := H
  have A4 := Aside0.mk A40
  clear A40
  replace H := Option.bind_eq_some_iff.mp H
  obtain ⟨⟨t281, t282, t283⟩, A50, H⟩ := H
  replace H : (if t283 = true then ((span_Count.f t281 t282).bind fun t285 => ((span_Has.f t281 t282 a2).bind fun t286 => (if t286 = true then (quintetlaw03_SpanParts.j0 k a2 t278 t285 (0 + 1) a0_0 a0_1) else (quintetlaw03_SpanParts.j0 k a2 t278 t285 0 a0_0 a0_1)))) else (quintetlaw03_SpanParts.j0 k a2 t278 0 0 a0_0 a0_1)) = some r := H
  have A5 := Aside0.mk A50
  clear A50
  have HC6 := Aside0.mk H
  clear H
  go_enter Try.func6, Try.ntmps6
  go_upto_if 22 with (first | ((with_reducible refine gate_dst (N := 3) rfl ?_); refine box_event ?hg (N := 3) ?hd (cs := #[.int .u16 a0_0, .int .u16 a0_1]) (t := 24) ?hr ?_; (case hd => rfl); (case hg => rfl); (case hr => first | (go_simp; done) | (go_simp; rfl)); intro gb276 hg w7 hbox hb; have n0_ := Aside0.mk (below_step (by repeat (first | (with_reducible first | exact HB.out | apply below_alloc | apply pw_below_drewN | apply below_drew1) | exact HB.out)) hb); have n1_ := Aside0.mk (hbox); have n2_ := Aside0.mk ((by rw [hg]; exact (below_size (by repeat (first | (with_reducible first | exact HB.out | apply below_alloc | apply pw_below_drewN | apply below_drew1) | exact HB.out))) : w.heap.size ≤ gb276)); have n3_ := Aside0.mk ((by rw [hg]; exact (below_size (by repeat (first | (with_reducible first | exact HB.out | apply below_alloc | apply pw_below_drewN | apply below_drew1) | exact HB.out))) : w.heap.size ≤ gb276)); clear HB; have HB := n0_; have BK276 := n1_; have GW276 := n2_; have GE276 := n3_; clear n0_ n1_ n2_ n3_; clear hb hbox hg) | ((with_reducible refine gate_dst (N := 4) rfl ?_); refine box_event ?hg (N := 4) ?hd (cs := #[.int .u16 a1_0, .int .u16 a1_1]) (t := 24) ?hr ?_; (case hd => rfl); (case hg => rfl); (case hr => first | (go_simp; done) | (go_simp; rfl)); intro gb277 hg w8 hbox hb; have n0_ := Aside0.mk (blk_below (g := gb276) (o := .cells #[.int .u16 a0_0, .int .u16 a0_1] 24 (0, 0)) (by (with_reducible repeat (first | refine blk_drewN ?_ _ | refine blk_drew ?_ | refine blk_alloc ?_ _)); exact BK276.out) hb); have n1_ := Aside0.mk (below_step (by repeat (first | (with_reducible first | exact HB.out | apply below_alloc | apply pw_below_drewN | apply below_drew1 | refine below_set ?_ GE276.out) | exact HB.out)) hb); have n2_ := Aside0.mk (hbox); have n3_ := Aside0.mk ((by rw [hg]; exact (below_size (by repeat (first | (with_reducible first | exact HB.out | apply below_alloc | apply pw_below_drewN | apply below_drew1 | refine below_set ?_ GE276.out) | exact HB.out))) : w.heap.size ≤ gb277)); have n4_ := Aside0.mk ((by rw [hg]; exact (below_size (by repeat (first | (with_reducible first | exact HB.out | apply below_alloc | apply pw_below_drewN | apply below_drew1 | refine below_set ?_ GE276.out) | exact HB.out))) : w.heap.size ≤ gb277)); have n5_ := Aside0.mk ((by rw [hg]; exact Nat.ne_of_lt (blk_lt (g := gb276) (o := .cells #[.int .u16 a0_0, .int .u16 a0_1] 24 (0, 0)) (by (with_reducible repeat (first | refine blk_drewN ?_ _ | refine blk_drew ?_ | refine blk_alloc ?_ _)); exact BK276.out)) : gb276 ≠ gb277)); have n6_ := Aside0.mk ((by rw [hg]; exact Nat.ne_of_gt (blk_lt (g := gb276) (o := .cells #[.int .u16 a0_0, .int .u16 a0_1] 24 (0, 0)) (by (with_reducible repeat (first | refine blk_drewN ?_ _ | refine blk_drew ?_ | refine blk_alloc ?_ _)); exact BK276.out)) : gb277 ≠ gb276)); clear BK276; clear HB; have BK276 := n0_; have HB := n1_; have BK277 := n2_; have GW277 := n3_; have GE277 := n4_; have NB276_277 := n5_; have NB277_276 := n6_; clear n0_ n1_ n2_ n3_ n4_ n5_ n6_; clear hb hbox hg; have hnb9 := NB276_277.out; have hnc9 := NB277_276.out; have hcz10_0 : w8.cell? ⟨gb276, 0, none⟩ = some (.int .u16 a0_0) := (blk_cell BK276.out 0).trans rfl; have hcz10_1 : w8.cell? ⟨gb276, 1, none⟩ = some (.int .u16 a0_1) := (blk_cell BK276.out 1).trans rfl; have hfz10_0 := blk_frozen BK276.out 0; have hfz10_1 := blk_frozen BK276.out 1; have hcz11_0 : w8.cell? ⟨gb277, 0, none⟩ = some (.int .u16 a1_0) := (blk_cell BK277.out 0).trans rfl; have hcz11_1 : w8.cell? ⟨gb277, 1, none⟩ = some (.int .u16 a1_1) := (blk_cell BK277.out 1).trans rfl; have hfz11_0 := blk_frozen BK277.out 0; have hfz11_1 := blk_frozen BK277.out 1) | ((with_reducible refine gate_callee (f := 24) rfl ?_); refine goesL_ (some 15) rfl rfl Try.func24 (by kernel_rfl) rfl #[.agg #[.int .u16 a0_0, .int .u16 a0_1], .agg #[.int .u16 a1_0, .int .u16 a1_1]] rfl (by (try simp only [List.map_toArray, List.map_cons, List.map_nil]); first | done | rfl | (simp only [List.length_drop, List.length_take]; rfl)) ?_; (with_reducible refine (span_Less.calls a0_0 a0_1 a1_0 a1_1 t278 _ A4.out).mono ?_); rintro e w12 ⟨v279, rfl, ho0, hb⟩; refine ⟨_, rfl, ?_⟩; have n0_ := Aside0.mk (Kd.R_lower (Kd.R_newB (Kd.R_newB ho0 (g := gb276) (o := .cells #[.int .u16 a0_0, .int .u16 a0_1] 24 (0, 0)) (by (with_reducible repeat (first | refine blk_drewN ?_ _ | refine blk_drew ?_ | refine blk_alloc ?_ _)); exact BK276.out)) (g := gb277) (o := .cells #[.int .u16 a1_0, .int .u16 a1_1] 24 (0, 0)) (by (with_reducible repeat (first | refine blk_drewN ?_ _ | refine blk_drew ?_ | refine blk_alloc ?_ _)); exact BK277.out)) (below_size (by repeat (first | (with_reducible first | exact HB.out | apply below_alloc | apply pw_below_drewN | apply below_drew1 | refine below_set ?_ GE276.out | refine below_set ?_ GE277.out) | exact HB.out)))); have n1_ := Aside0.mk (blk_below (g := gb276) (o := .cells #[.int .u16 a0_0, .int .u16 a0_1] 24 (0, 0)) (by (with_reducible repeat (first | refine blk_drewN ?_ _ | refine blk_drew ?_ | refine blk_alloc ?_ _)); exact BK276.out) hb); have n2_ := Aside0.mk (blk_below (g := gb277) (o := .cells #[.int .u16 a1_0, .int .u16 a1_1] 24 (0, 0)) (by (with_reducible repeat (first | refine blk_drewN ?_ _ | refine blk_drew ?_ | refine blk_alloc ?_ _)); exact BK277.out) hb); have n3_ := Aside0.mk (below_step (by repeat (first | (with_reducible first | exact HB.out | apply below_alloc | apply pw_below_drewN | apply below_drew1 | refine below_set ?_ GE276.out | refine below_set ?_ GE277.out) | exact HB.out)) hb); clear BK276; clear BK277; clear HB; have HO280 := n0_; have BK276 := n1_; have BK277 := n2_; have HB := n3_; clear n0_ n1_ n2_ n3_; (try clear hb); (try clear hb2); (try clear hk); (try clear hi); (try clear ho0); have hcz13_0 : w12.cell? ⟨gb276, 0, none⟩ = some (.int .u16 a0_0) := (blk_cell BK276.out 0).trans rfl; have hcz13_1 : w12.cell? ⟨gb276, 1, none⟩ = some (.int .u16 a0_1) := (blk_cell BK276.out 1).trans rfl; have hfz13_0 := blk_frozen BK276.out 0; have hfz13_1 := blk_frozen BK276.out 1; have hcz14_0 : w12.cell? ⟨gb277, 0, none⟩ = some (.int .u16 a1_0) := (blk_cell BK277.out 0).trans rfl; have hcz14_1 : w12.cell? ⟨gb277, 1, none⟩ = some (.int .u16 a1_1) := (blk_cell BK277.out 1).trans rfl; have hfz14_0 := blk_frozen BK277.out 0; have hfz14_1 := blk_frozen BK277.out 1) | ((with_reducible refine gate_callee (f := 18) rfl ?_); refine goesL_ (some 19) rfl rfl Try.func18 (by kernel_rfl) rfl #[.agg #[.int .u16 a0_0, .int .u16 a0_1], .agg #[.int .u16 a1_0, .int .u16 a1_1]] rfl (by (try simp only [List.map_toArray, List.map_cons, List.map_nil]); first | done | rfl | (simp only [List.length_drop, List.length_take]; rfl)) ?_; (with_reducible refine (span_Meet.calls a0_0 a0_1 a1_0 a1_1 t281 t282 t283 _ A5.out).mono ?_); rintro e w15 ⟨rfl, hb⟩; refine ⟨_, rfl, ?_⟩; have n0_ := Aside0.mk (Kd.R_below (by (with_reducible repeat (first | apply Kd.R_alloc | apply Kd.R_drewN | apply Kd.R_drew)); exact HO280.out) hb); have n1_ := Aside0.mk (blk_below (g := gb276) (o := .cells #[.int .u16 a0_0, .int .u16 a0_1] 24 (0, 0)) (by (with_reducible repeat (first | refine blk_drewN ?_ _ | refine blk_drew ?_ | refine blk_alloc ?_ _)); exact BK276.out) hb); have n2_ := Aside0.mk (blk_below (g := gb277) (o := .cells #[.int .u16 a1_0, .int .u16 a1_1] 24 (0, 0)) (by (with_reducible repeat (first | refine blk_drewN ?_ _ | refine blk_drew ?_ | refine blk_alloc ?_ _)); exact BK277.out) hb); have n3_ := Aside0.mk (below_step (by repeat (first | (with_reducible first | exact HB.out | apply below_alloc | apply pw_below_drewN | apply below_drew1 | refine below_set ?_ GE276.out | refine below_set ?_ GE277.out) | exact HB.out)) hb); clear HO280; clear BK276; clear BK277; clear HB; have HO280 := n0_; have BK276 := n1_; have BK277 := n2_; have HB := n3_; clear n0_ n1_ n2_ n3_; (try clear hb); (try clear hb2); (try clear hk); (try clear hi)) | ((with_reducible refine gate_dst (N := 8) rfl ?_); refine box_event ?hg (N := 8) ?hd (cs := #[.int .u16 0, .int .u16 0]) (t := 24) ?hr ?_; (case hd => rfl); (case hg => rfl); (case hr => first | (go_simp; done) | (go_simp; rfl)); intro gb284 hg w16 hbox hb; have n0_ := Aside0.mk (Kd.R_below (Kd.R_elderB (by (with_reducible repeat (first | apply Kd.R_alloc | apply Kd.R_drewN | apply Kd.R_drew)); exact HO280.out) gb284 (Nat.le_of_eq hg.symm)) hb); have n1_ := Aside0.mk (blk_below (g := gb276) (o := .cells #[.int .u16 a0_0, .int .u16 a0_1] 24 (0, 0)) (by (with_reducible repeat (first | refine blk_drewN ?_ _ | refine blk_drew ?_ | refine blk_alloc ?_ _)); exact BK276.out) hb); have n2_ := Aside0.mk (blk_below (g := gb277) (o := .cells #[.int .u16 a1_0, .int .u16 a1_1] 24 (0, 0)) (by (with_reducible repeat (first | refine blk_drewN ?_ _ | refine blk_drew ?_ | refine blk_alloc ?_ _)); exact BK277.out) hb); have n3_ := Aside0.mk (below_step (by repeat (first | (with_reducible first | exact HB.out | apply below_alloc | apply pw_below_drewN | apply below_drew1 | refine below_set ?_ GE276.out | refine below_set ?_ GE277.out) | exact HB.out)) hb); have n4_ := Aside0.mk (hbox); have n5_ := Aside0.mk ((by rw [hg]; exact (below_size (by repeat (first | (with_reducible first | exact HB.out | apply below_alloc | apply pw_below_drewN | apply below_drew1 | refine below_set ?_ GE276.out | refine below_set ?_ GE277.out) | exact HB.out))) : w.heap.size ≤ gb284)); have n6_ := Aside0.mk ((by rw [hg]; exact (below_size (by repeat (first | (with_reducible first | exact HB.out | apply below_alloc | apply pw_below_drewN | apply below_drew1 | refine below_set ?_ GE276.out | refine below_set ?_ GE277.out) | exact HB.out))) : w.heap.size ≤ gb284)); have n7_ := Aside0.mk ((by rw [hg]; exact Nat.ne_of_lt (blk_lt (g := gb276) (o := .cells #[.int .u16 a0_0, .int .u16 a0_1] 24 (0, 0)) (by (with_reducible repeat (first | refine blk_drewN ?_ _ | refine blk_drew ?_ | refine blk_alloc ?_ _)); exact BK276.out)) : gb276 ≠ gb284)); have n8_ := Aside0.mk ((by rw [hg]; exact Nat.ne_of_gt (blk_lt (g := gb276) (o := .cells #[.int .u16 a0_0, .int .u16 a0_1] 24 (0, 0)) (by (with_reducible repeat (first | refine blk_drewN ?_ _ | refine blk_drew ?_ | refine blk_alloc ?_ _)); exact BK276.out)) : gb284 ≠ gb276)); have n9_ := Aside0.mk ((by rw [hg]; exact Nat.ne_of_lt (blk_lt (g := gb277) (o := .cells #[.int .u16 a1_0, .int .u16 a1_1] 24 (0, 0)) (by (with_reducible repeat (first | refine blk_drewN ?_ _ | refine blk_drew ?_ | refine blk_alloc ?_ _)); exact BK277.out)) : gb277 ≠ gb284)); have n10_ := Aside0.mk ((by rw [hg]; exact Nat.ne_of_gt (blk_lt (g := gb277) (o := .cells #[.int .u16 a1_0, .int .u16 a1_1] 24 (0, 0)) (by (with_reducible repeat (first | refine blk_drewN ?_ _ | refine blk_drew ?_ | refine blk_alloc ?_ _)); exact BK277.out)) : gb284 ≠ gb277)); clear HO280; clear BK276; clear BK277; clear HB; have HO280 := n0_; have BK276 := n1_; have BK277 := n2_; have HB := n3_; have BK284 := n4_; have GW284 := n5_; have GE284 := n6_; have NB276_284 := n7_; have NB284_276 := n8_; have NB277_284 := n9_; have NB284_277 := n10_; clear n0_ n1_ n2_ n3_ n4_ n5_ n6_ n7_ n8_ n9_ n10_; clear hb hbox hg; have hnb17 := NB284_276.out; have hnc17 := NB276_284.out; have hnb18 := NB284_277.out; have hnc18 := NB277_284.out; have hcz19_0 : w16.cell? ⟨gb284, 0, none⟩ = some (.int .u16 0) := (blk_cell BK284.out 0).trans rfl; have hcz19_1 : w16.cell? ⟨gb284, 1, none⟩ = some (.int .u16 0) := (blk_cell BK284.out 1).trans rfl; have hfz19_0 := blk_frozen BK284.out 0; have hfz19_1 := blk_frozen BK284.out 1))
  (try simp only [Act.put, List.setIfInBounds_toArray, List.set_cons_zero, List.set_cons_succ])
  go_cut [10, 11] (fun v10 v11 wc => ∃ (kq : Nat) (x10_5 : Int) (x11_5 : Int), v10 = .int .i64 x10_5 ∧ v11 = .int .i64 x11_5 ∧ Aside0 (quintetlaw03_SpanParts.j0 kq a2 t278 x10_5 x11_5 a0_0 a0_1 = some r) ∧ Aside0 (kq ≤ k) ∧ Aside0 (Kd.R k24 24 wc w.heap.size (fun k_ => k_ ≠ gb276 ∧ k_ ≠ gb277 ∧ k_ ≠ gb284) v279 t278) ∧ Aside0 (wc.heap[gb276]? = some (.cells #[.int .u16 a0_0, .int .u16 a0_1] 24 (0, 0))) ∧ Aside0 (wc.heap[gb277]? = some (.cells #[.int .u16 a1_0, .int .u16 a1_1] 24 (0, 0))) ∧ Aside0 (wc.heap[gb284]? = some (.cells #[.int .u16 t281, .int .u16 t282] 24 (0, 0))) ∧ Aside0 (Below w.heap.size w wc))
  case first =>
    have H := HC6.out
    clear HC6
    by_cases c20 : t283 = true
    · subst c20
      have H1 : ((span_Count.f t281 t282).bind fun t285 => ((span_Has.f t281 t282 a2).bind fun t286 => (if t286 = true then (quintetlaw03_SpanParts.j0 k a2 t278 t285 (0 + 1) a0_0 a0_1) else (quintetlaw03_SpanParts.j0 k a2 t278 t285 0 a0_0 a0_1)))) = some r := by rw [if_pos rfl] at H; exact H
      clear H
      have H := H1
      clear H1
      replace H := Option.bind_eq_some_iff.mp H
      obtain ⟨t285, A210, H⟩ := H
      replace H : ((span_Has.f t281 t282 a2).bind fun t286 => (if t286 = true then (quintetlaw03_SpanParts.j0 k a2 t278 t285 (0 + 1) a0_0 a0_1) else (quintetlaw03_SpanParts.j0 k a2 t278 t285 0 a0_0 a0_1))) = some r := H
      have A21 := Aside0.mk A210
      clear A210
      replace H := Option.bind_eq_some_iff.mp H
      obtain ⟨t286, A220, H⟩ := H
      replace H : (if t286 = true then (quintetlaw03_SpanParts.j0 k a2 t278 t285 (0 + 1) a0_0 a0_1) else (quintetlaw03_SpanParts.j0 k a2 t278 t285 0 a0_0 a0_1)) = some r := H
      have A22 := Aside0.mk A220
      clear A220
      by_cases c23 : t286 = true
      · subst c23
        have H1 : (quintetlaw03_SpanParts.j0 k a2 t278 t285 (0 + 1) a0_0 a0_1) = some r := by rw [if_pos rfl] at H; exact H
        clear H
        have H := H1
        clear H1
        have H' := Aside0.mk H
        clear H
        have hnb24 := NB284_276.out
        have hnc24 := NB276_284.out
        have hnb25 := NB284_277.out
        have hnc25 := NB277_284.out
        have hcz26_0 : w16.cell? ⟨gb284, 0, none⟩ = some (.int .u16 0) := (blk_cell BK284.out 0).trans rfl
        have hcz26_1 : w16.cell? ⟨gb284, 1, none⟩ = some (.int .u16 0) := (blk_cell BK284.out 1).trans rfl
        have hfz26_0 := blk_frozen BK284.out 0
        have hfz26_1 := blk_frozen BK284.out 1
        go_wp2_with (first | ((with_reducible refine gate_callee (f := 16) rfl ?_); refine goesL_ (some 24) rfl rfl Try.func16 (by kernel_rfl) rfl #[.agg #[.int .u16 t281, .int .u16 t282]] rfl (by (try simp only [List.map_toArray, List.map_cons, List.map_nil]); first | done | rfl | (simp only [List.length_drop, List.length_take]; rfl)) ?_; (with_reducible refine (span_Count.calls t281 t282 t285 _ A21.out).mono ?_); rintro e w27 ⟨rfl, hb⟩; refine ⟨_, rfl, ?_⟩; have n0_ := Aside0.mk (Kd.R_below (by (with_reducible repeat (first | apply Kd.R_alloc | apply Kd.R_drewN | apply Kd.R_drew)); exact (Kd.R_mono (Kd.R_far (p := ⟨gb284, 1, none⟩) (Kd.R_far (p := ⟨gb284, 0, none⟩) (Kd.R_mono HO280.out (fun k_ hk => (⟨hk, hk.2⟩ : _ ∧ k_ ≠ gb284))) (fun _ hk => hk.2) (.int .u16 t281)) (fun _ hk => hk.2) (.int .u16 t282)) (fun _ h_ => h_.1))) hb); have n1_ := Aside0.mk (blk_below (g := gb276) (o := .cells #[.int .u16 a0_0, .int .u16 a0_1] 24 (0, 0)) (by (with_reducible repeat (first | refine blk_drewN ?_ _ | refine blk_drew ?_ | refine blk_alloc ?_ _)); refine blk_far ?_ NB276_284.out _; (with_reducible repeat (first | refine blk_drewN ?_ _ | refine blk_drew ?_ | refine blk_alloc ?_ _)); refine blk_far ?_ NB276_284.out _; (with_reducible repeat (first | refine blk_drewN ?_ _ | refine blk_drew ?_ | refine blk_alloc ?_ _)); exact BK276.out) hb); have n2_ := Aside0.mk (blk_below (g := gb277) (o := .cells #[.int .u16 a1_0, .int .u16 a1_1] 24 (0, 0)) (by (with_reducible repeat (first | refine blk_drewN ?_ _ | refine blk_drew ?_ | refine blk_alloc ?_ _)); refine blk_far ?_ NB277_284.out _; (with_reducible repeat (first | refine blk_drewN ?_ _ | refine blk_drew ?_ | refine blk_alloc ?_ _)); refine blk_far ?_ NB277_284.out _; (with_reducible repeat (first | refine blk_drewN ?_ _ | refine blk_drew ?_ | refine blk_alloc ?_ _)); exact BK277.out) hb); have n3_ := Aside0.mk (blk_below (g := gb284) (o := .cells #[.int .u16 t281, .int .u16 t282] 24 (0, 0)) (by (with_reducible repeat (first | refine blk_drewN ?_ _ | refine blk_drew ?_ | refine blk_alloc ?_ _)); refine blk_put (cs := #[.int .u16 t281, .int .u16 0]) ?_ 1 _ rfl; (with_reducible repeat (first | refine blk_drewN ?_ _ | refine blk_drew ?_ | refine blk_alloc ?_ _)); refine blk_put (cs := #[.int .u16 0, .int .u16 0]) ?_ 0 _ rfl; (with_reducible repeat (first | refine blk_drewN ?_ _ | refine blk_drew ?_ | refine blk_alloc ?_ _)); exact BK284.out) hb); have n4_ := Aside0.mk (below_step (by repeat (first | (with_reducible first | exact HB.out | apply below_alloc | apply pw_below_drewN | apply below_drew1 | refine below_set ?_ GE276.out | refine below_set ?_ GE277.out | refine below_set ?_ GE284.out) | exact HB.out)) hb); clear HO280; clear BK276; clear BK277; clear BK284; clear HB; have HO280 := n0_; have BK276 := n1_; have BK277 := n2_; have BK284 := n3_; have HB := n4_; clear n0_ n1_ n2_ n3_ n4_; (try clear hb); (try clear hb2); (try clear hk); (try clear hi); have hcz28_0 : w27.cell? ⟨gb284, 0, none⟩ = some (.int .u16 t281) := (blk_cell BK284.out 0).trans rfl; have hcz28_1 : w27.cell? ⟨gb284, 1, none⟩ = some (.int .u16 t282) := (blk_cell BK284.out 1).trans rfl; have hfz28_0 := blk_frozen BK284.out 0; have hfz28_1 := blk_frozen BK284.out 1) | ((with_reducible refine gate_callee (f := 14) rfl ?_); refine goesL_ (some 27) rfl rfl Try.func14 (by kernel_rfl) rfl #[.agg #[.int .u16 t281, .int .u16 t282], .int .u16 a2] rfl (by (try simp only [List.map_toArray, List.map_cons, List.map_nil]); first | done | rfl | (simp only [List.length_drop, List.length_take]; rfl)) ?_; (with_reducible refine (span_Has.calls t281 t282 a2 true _ A22.out).mono ?_); rintro e w29 ⟨rfl, hb⟩; refine ⟨_, rfl, ?_⟩; have n0_ := Aside0.mk (Kd.R_below (by (with_reducible repeat (first | apply Kd.R_alloc | apply Kd.R_drewN | apply Kd.R_drew)); exact HO280.out) hb); have n1_ := Aside0.mk (blk_below (g := gb276) (o := .cells #[.int .u16 a0_0, .int .u16 a0_1] 24 (0, 0)) (by (with_reducible repeat (first | refine blk_drewN ?_ _ | refine blk_drew ?_ | refine blk_alloc ?_ _)); exact BK276.out) hb); have n2_ := Aside0.mk (blk_below (g := gb277) (o := .cells #[.int .u16 a1_0, .int .u16 a1_1] 24 (0, 0)) (by (with_reducible repeat (first | refine blk_drewN ?_ _ | refine blk_drew ?_ | refine blk_alloc ?_ _)); exact BK277.out) hb); have n3_ := Aside0.mk (blk_below (g := gb284) (o := .cells #[.int .u16 t281, .int .u16 t282] 24 (0, 0)) (by (with_reducible repeat (first | refine blk_drewN ?_ _ | refine blk_drew ?_ | refine blk_alloc ?_ _)); exact BK284.out) hb); have n4_ := Aside0.mk (below_step (by repeat (first | (with_reducible first | exact HB.out | apply below_alloc | apply pw_below_drewN | apply below_drew1 | refine below_set ?_ GE276.out | refine below_set ?_ GE277.out | refine below_set ?_ GE284.out) | exact HB.out)) hb); clear HO280; clear BK276; clear BK277; clear BK284; clear HB; have HO280 := n0_; have BK276 := n1_; have BK277 := n2_; have BK284 := n3_; have HB := n4_; clear n0_ n1_ n2_ n3_ n4_; (try clear hb); (try clear hb2); (try clear hk); (try clear hi)))
        go_meet
        case rel => exact ⟨_, (t285), (0 + 1), (by first | rfl | (simp; done) | (simp [*]; done)), (by first | rfl | (simp; done) | (simp [*]; done)), H', ⟨by first | omega | exact Nat.le_refl _⟩, ⟨by (with_reducible repeat (first | apply Kd.R_alloc | apply Kd.R_drewN | apply Kd.R_drew)); exact Kd.R_mono HO280.out (fun _ hk => ⟨hk.1.1.2, ⟨hk.1.2, hk.2⟩⟩)⟩, ⟨by (with_reducible repeat (first | refine blk_drewN ?_ _ | refine blk_drew ?_ | refine blk_alloc ?_ _)); exact BK276.out⟩, ⟨by (with_reducible repeat (first | refine blk_drewN ?_ _ | refine blk_drew ?_ | refine blk_alloc ?_ _)); exact BK277.out⟩, ⟨by (with_reducible repeat (first | refine blk_drewN ?_ _ | refine blk_drew ?_ | refine blk_alloc ?_ _)); exact BK284.out⟩, ⟨by repeat (first | (with_reducible first | exact HB.out | apply below_alloc | apply pw_below_drewN | apply below_drew1 | refine below_set ?_ GE276.out | refine below_set ?_ GE277.out | refine below_set ?_ GE284.out) | exact HB.out)⟩⟩
      · replace c23 := Bool.eq_false_iff.mpr c23
        subst c23
        have H1 : (quintetlaw03_SpanParts.j0 k a2 t278 t285 0 a0_0 a0_1) = some r := by rw [if_neg (show ¬ (false = true) by decide)] at H; exact H
        clear H
        have H := H1
        clear H1
        have H' := Aside0.mk H
        clear H
        have hnb30 := NB284_276.out
        have hnc30 := NB276_284.out
        have hnb31 := NB284_277.out
        have hnc31 := NB277_284.out
        have hcz32_0 : w16.cell? ⟨gb284, 0, none⟩ = some (.int .u16 0) := (blk_cell BK284.out 0).trans rfl
        have hcz32_1 : w16.cell? ⟨gb284, 1, none⟩ = some (.int .u16 0) := (blk_cell BK284.out 1).trans rfl
        have hfz32_0 := blk_frozen BK284.out 0
        have hfz32_1 := blk_frozen BK284.out 1
        go_wp2_with (first | ((with_reducible refine gate_callee (f := 16) rfl ?_); refine goesL_ (some 24) rfl rfl Try.func16 (by kernel_rfl) rfl #[.agg #[.int .u16 t281, .int .u16 t282]] rfl (by (try simp only [List.map_toArray, List.map_cons, List.map_nil]); first | done | rfl | (simp only [List.length_drop, List.length_take]; rfl)) ?_; (with_reducible refine (span_Count.calls t281 t282 t285 _ A21.out).mono ?_); rintro e w33 ⟨rfl, hb⟩; refine ⟨_, rfl, ?_⟩; have n0_ := Aside0.mk (Kd.R_below (by (with_reducible repeat (first | apply Kd.R_alloc | apply Kd.R_drewN | apply Kd.R_drew)); exact (Kd.R_mono (Kd.R_far (p := ⟨gb284, 1, none⟩) (Kd.R_far (p := ⟨gb284, 0, none⟩) (Kd.R_mono HO280.out (fun k_ hk => (⟨hk, hk.2⟩ : _ ∧ k_ ≠ gb284))) (fun _ hk => hk.2) (.int .u16 t281)) (fun _ hk => hk.2) (.int .u16 t282)) (fun _ h_ => h_.1))) hb); have n1_ := Aside0.mk (blk_below (g := gb276) (o := .cells #[.int .u16 a0_0, .int .u16 a0_1] 24 (0, 0)) (by (with_reducible repeat (first | refine blk_drewN ?_ _ | refine blk_drew ?_ | refine blk_alloc ?_ _)); refine blk_far ?_ NB276_284.out _; (with_reducible repeat (first | refine blk_drewN ?_ _ | refine blk_drew ?_ | refine blk_alloc ?_ _)); refine blk_far ?_ NB276_284.out _; (with_reducible repeat (first | refine blk_drewN ?_ _ | refine blk_drew ?_ | refine blk_alloc ?_ _)); exact BK276.out) hb); have n2_ := Aside0.mk (blk_below (g := gb277) (o := .cells #[.int .u16 a1_0, .int .u16 a1_1] 24 (0, 0)) (by (with_reducible repeat (first | refine blk_drewN ?_ _ | refine blk_drew ?_ | refine blk_alloc ?_ _)); refine blk_far ?_ NB277_284.out _; (with_reducible repeat (first | refine blk_drewN ?_ _ | refine blk_drew ?_ | refine blk_alloc ?_ _)); refine blk_far ?_ NB277_284.out _; (with_reducible repeat (first | refine blk_drewN ?_ _ | refine blk_drew ?_ | refine blk_alloc ?_ _)); exact BK277.out) hb); have n3_ := Aside0.mk (blk_below (g := gb284) (o := .cells #[.int .u16 t281, .int .u16 t282] 24 (0, 0)) (by (with_reducible repeat (first | refine blk_drewN ?_ _ | refine blk_drew ?_ | refine blk_alloc ?_ _)); refine blk_put (cs := #[.int .u16 t281, .int .u16 0]) ?_ 1 _ rfl; (with_reducible repeat (first | refine blk_drewN ?_ _ | refine blk_drew ?_ | refine blk_alloc ?_ _)); refine blk_put (cs := #[.int .u16 0, .int .u16 0]) ?_ 0 _ rfl; (with_reducible repeat (first | refine blk_drewN ?_ _ | refine blk_drew ?_ | refine blk_alloc ?_ _)); exact BK284.out) hb); have n4_ := Aside0.mk (below_step (by repeat (first | (with_reducible first | exact HB.out | apply below_alloc | apply pw_below_drewN | apply below_drew1 | refine below_set ?_ GE276.out | refine below_set ?_ GE277.out | refine below_set ?_ GE284.out) | exact HB.out)) hb); clear HO280; clear BK276; clear BK277; clear BK284; clear HB; have HO280 := n0_; have BK276 := n1_; have BK277 := n2_; have BK284 := n3_; have HB := n4_; clear n0_ n1_ n2_ n3_ n4_; (try clear hb); (try clear hb2); (try clear hk); (try clear hi); have hcz34_0 : w33.cell? ⟨gb284, 0, none⟩ = some (.int .u16 t281) := (blk_cell BK284.out 0).trans rfl; have hcz34_1 : w33.cell? ⟨gb284, 1, none⟩ = some (.int .u16 t282) := (blk_cell BK284.out 1).trans rfl; have hfz34_0 := blk_frozen BK284.out 0; have hfz34_1 := blk_frozen BK284.out 1) | ((with_reducible refine gate_callee (f := 14) rfl ?_); refine goesL_ (some 27) rfl rfl Try.func14 (by kernel_rfl) rfl #[.agg #[.int .u16 t281, .int .u16 t282], .int .u16 a2] rfl (by (try simp only [List.map_toArray, List.map_cons, List.map_nil]); first | done | rfl | (simp only [List.length_drop, List.length_take]; rfl)) ?_; (with_reducible refine (span_Has.calls t281 t282 a2 false _ A22.out).mono ?_); rintro e w35 ⟨rfl, hb⟩; refine ⟨_, rfl, ?_⟩; have n0_ := Aside0.mk (Kd.R_below (by (with_reducible repeat (first | apply Kd.R_alloc | apply Kd.R_drewN | apply Kd.R_drew)); exact HO280.out) hb); have n1_ := Aside0.mk (blk_below (g := gb276) (o := .cells #[.int .u16 a0_0, .int .u16 a0_1] 24 (0, 0)) (by (with_reducible repeat (first | refine blk_drewN ?_ _ | refine blk_drew ?_ | refine blk_alloc ?_ _)); exact BK276.out) hb); have n2_ := Aside0.mk (blk_below (g := gb277) (o := .cells #[.int .u16 a1_0, .int .u16 a1_1] 24 (0, 0)) (by (with_reducible repeat (first | refine blk_drewN ?_ _ | refine blk_drew ?_ | refine blk_alloc ?_ _)); exact BK277.out) hb); have n3_ := Aside0.mk (blk_below (g := gb284) (o := .cells #[.int .u16 t281, .int .u16 t282] 24 (0, 0)) (by (with_reducible repeat (first | refine blk_drewN ?_ _ | refine blk_drew ?_ | refine blk_alloc ?_ _)); exact BK284.out) hb); have n4_ := Aside0.mk (below_step (by repeat (first | (with_reducible first | exact HB.out | apply below_alloc | apply pw_below_drewN | apply below_drew1 | refine below_set ?_ GE276.out | refine below_set ?_ GE277.out | refine below_set ?_ GE284.out) | exact HB.out)) hb); clear HO280; clear BK276; clear BK277; clear BK284; clear HB; have HO280 := n0_; have BK276 := n1_; have BK277 := n2_; have BK284 := n3_; have HB := n4_; clear n0_ n1_ n2_ n3_ n4_; (try clear hb); (try clear hb2); (try clear hk); (try clear hi)))
        go_meet
        case rel => exact ⟨_, (t285), (0), (by first | rfl | (simp; done) | (simp [*]; done)), (by first | rfl | (simp; done) | (simp [*]; done)), H', ⟨by first | omega | exact Nat.le_refl _⟩, ⟨by (with_reducible repeat (first | apply Kd.R_alloc | apply Kd.R_drewN | apply Kd.R_drew)); exact Kd.R_mono HO280.out (fun _ hk => ⟨hk.1.1.2, ⟨hk.1.2, hk.2⟩⟩)⟩, ⟨by (with_reducible repeat (first | refine blk_drewN ?_ _ | refine blk_drew ?_ | refine blk_alloc ?_ _)); exact BK276.out⟩, ⟨by (with_reducible repeat (first | refine blk_drewN ?_ _ | refine blk_drew ?_ | refine blk_alloc ?_ _)); exact BK277.out⟩, ⟨by (with_reducible repeat (first | refine blk_drewN ?_ _ | refine blk_drew ?_ | refine blk_alloc ?_ _)); exact BK284.out⟩, ⟨by repeat (first | (with_reducible first | exact HB.out | apply below_alloc | apply pw_below_drewN | apply below_drew1 | refine below_set ?_ GE276.out | refine below_set ?_ GE277.out | refine below_set ?_ GE284.out) | exact HB.out)⟩⟩
    · replace c20 := Bool.eq_false_iff.mpr c20
      subst c20
      have H1 : (quintetlaw03_SpanParts.j0 k a2 t278 0 0 a0_0 a0_1) = some r := by rw [if_neg (show ¬ (false = true) by decide)] at H; exact H
      clear H
      have H := H1
      clear H1
      have H' := Aside0.mk H
      clear H
      go_wp2
      go_meet
      case rel => exact ⟨_, (0), (0), (by first | rfl | (simp; done) | (simp [*]; done)), (by first | rfl | (simp; done) | (simp [*]; done)), H', ⟨by first | omega | exact Nat.le_refl _⟩, ⟨by (with_reducible repeat (first | apply Kd.R_alloc | apply Kd.R_drewN | apply Kd.R_drew)); exact Kd.R_mono (Kd.R_far (p := ⟨gb284, 1, none⟩) (Kd.R_far (p := ⟨gb284, 0, none⟩) (Kd.R_mono HO280.out (fun k_ hk => (⟨hk, hk.2⟩ : _ ∧ k_ ≠ gb284))) (fun _ hk => hk.2) (.int .u16 t281)) (fun _ hk => hk.2) (.int .u16 t282)) (fun _ hk => ⟨hk.1.1.1.2, ⟨hk.1.1.2, hk.1.2⟩⟩)⟩, ⟨by (with_reducible repeat (first | refine blk_drewN ?_ _ | refine blk_drew ?_ | refine blk_alloc ?_ _)); refine blk_far ?_ NB276_284.out _; (with_reducible repeat (first | refine blk_drewN ?_ _ | refine blk_drew ?_ | refine blk_alloc ?_ _)); refine blk_far ?_ NB276_284.out _; (with_reducible repeat (first | refine blk_drewN ?_ _ | refine blk_drew ?_ | refine blk_alloc ?_ _)); exact BK276.out⟩, ⟨by (with_reducible repeat (first | refine blk_drewN ?_ _ | refine blk_drew ?_ | refine blk_alloc ?_ _)); refine blk_far ?_ NB277_284.out _; (with_reducible repeat (first | refine blk_drewN ?_ _ | refine blk_drew ?_ | refine blk_alloc ?_ _)); refine blk_far ?_ NB277_284.out _; (with_reducible repeat (first | refine blk_drewN ?_ _ | refine blk_drew ?_ | refine blk_alloc ?_ _)); exact BK277.out⟩, ⟨by (with_reducible repeat (first | refine blk_drewN ?_ _ | refine blk_drew ?_ | refine blk_alloc ?_ _)); refine blk_put (cs := #[.int .u16 t281, .int .u16 0]) ?_ 1 _ rfl; (with_reducible repeat (first | refine blk_drewN ?_ _ | refine blk_drew ?_ | refine blk_alloc ?_ _)); refine blk_put (cs := #[.int .u16 0, .int .u16 0]) ?_ 0 _ rfl; (with_reducible repeat (first | refine blk_drewN ?_ _ | refine blk_drew ?_ | refine blk_alloc ?_ _)); exact BK284.out⟩, ⟨by repeat (first | (with_reducible first | exact HB.out | apply below_alloc | apply pw_below_drewN | apply below_drew1 | refine below_set ?_ GE276.out | refine below_set ?_ GE277.out | refine below_set ?_ GE284.out) | exact HB.out)⟩⟩
  case rest =>
    clear HC6
    try clear c1
    try clear c2
    try clear p2
    try clear c3
    try clear c6
    try clear c9
    try clear c14
    try clear c16
    try clear c17
    try clear c18
    try clear c20
    try clear c23
    try clear c24
    try clear c25
    try clear c30
    try clear c31
    try clear hcz10_0
    try clear hcz10_1
    try clear hcz11_0
    try clear hcz11_1
    try clear hcz13_0
    try clear hcz13_1
    try clear hcz14_0
    try clear hcz14_1
    try clear hcz19_0
    try clear hcz19_1
    try clear hcz26_0
    try clear hcz26_1
    try clear hcz28_0
    try clear hcz28_1
    try clear hcz32_0
    try clear hcz32_1
    try clear hcz34_0
    try clear hcz34_1
    try clear hfz10_0
    try clear hfz10_1
    try clear hfz11_0
    try clear hfz11_1
    try clear hfz13_0
    try clear hfz13_1
    try clear hfz14_0
    try clear hfz14_1
    try clear hfz19_0
    try clear hfz19_1
    try clear hfz26_0
    try clear hfz26_1
    try clear hfz28_0
    try clear hfz28_1
    try clear hfz32_0
    try clear hfz32_1
    try clear hfz34_0
    try clear hfz34_1
    obtain ⟨kq, x10_5, x11_5, rfl, rfl, HA, HJ5, HO_7, BK276, BK277, BK284, HB⟩ := hcut
    cases kq with
    | zero => exact absurd HA.out (by simp [quintetlaw03_SpanParts.j0])
    | succ kj5 =>
      have H := HA.out
      clear HA
      simp only [quintetlaw03_SpanParts.j0] at H
      have H' := Aside0.mk H
      clear H
      go_wp2
      go_loopg [10, 11, 12] kj5 (fun kq v10 v11 v12 w' => ∃ (x10_2 : Int) (x11_2 : Int) (x12_2 : Int), v10 = .int .i64 x10_2 ∧ v11 = .int .i64 x11_2 ∧ v12 = .int .i64 x12_2 ∧ Aside0 (quintetlaw03_SpanParts.l0 kq a2 t278 x10_2 x11_2 x12_2 a0_0 a0_1 = some r) ∧ Aside0 (kq ≤ kj5) ∧ Aside0 (Kd.R k24 24 w' w.heap.size (fun k_ => k_ ≠ gb276 ∧ k_ ≠ gb277 ∧ k_ ≠ gb284) v279 t278) ∧ Aside0 (w'.heap[gb276]? = some (.cells #[.int .u16 a0_0, .int .u16 a0_1] 24 (0, 0))) ∧ Aside0 (w'.heap[gb277]? = some (.cells #[.int .u16 a1_0, .int .u16 a1_1] 24 (0, 0))) ∧ Aside0 (w'.heap[gb284]? = some (.cells #[.int .u16 t281, .int .u16 t282] 24 (0, 0))) ∧ Aside0 (Below w.heap.size w w'))
      case atStart => exact ⟨(x10_5), (x11_5), (0), (by first | rfl | (simp; done) | (simp [*]; done)), (by first | rfl | (simp; done) | (simp [*]; done)), (by first | rfl | (simp; done) | (simp [*]; done)), H', ⟨Nat.le_refl _⟩, ⟨by (with_reducible repeat (first | apply Kd.R_alloc | apply Kd.R_drewN | apply Kd.R_drew)); exact HO_7.out⟩, ⟨by (with_reducible repeat (first | refine blk_drewN ?_ _ | refine blk_drew ?_ | refine blk_alloc ?_ _)); exact BK276.out⟩, ⟨by (with_reducible repeat (first | refine blk_drewN ?_ _ | refine blk_drew ?_ | refine blk_alloc ?_ _)); exact BK277.out⟩, ⟨by (with_reducible repeat (first | refine blk_drewN ?_ _ | refine blk_drew ?_ | refine blk_alloc ?_ _)); exact BK284.out⟩, ⟨by repeat (first | (with_reducible first | exact HB.out | apply below_alloc | apply pw_below_drewN | apply below_drew1 | refine below_set ?_ GE276.out | refine below_set ?_ GE277.out | refine below_set ?_ GE284.out) | exact HB.out)⟩⟩
      case round =>
        clear H'
        try clear c1
        try clear c2
        try clear p2
        try clear c3
        try clear c6
        try clear c9
        try clear c14
        try clear c16
        try clear c17
        try clear c18
        try clear c20
        try clear c23
        try clear c24
        try clear c25
        try clear c30
        try clear c31
        try clear hcz10_0
        try clear hcz10_1
        try clear hcz11_0
        try clear hcz11_1
        try clear hcz13_0
        try clear hcz13_1
        try clear hcz14_0
        try clear hcz14_1
        try clear hcz19_0
        try clear hcz19_1
        try clear hcz26_0
        try clear hcz26_1
        try clear hcz28_0
        try clear hcz28_1
        try clear hcz32_0
        try clear hcz32_1
        try clear hcz34_0
        try clear hcz34_1
        try clear hfz10_0
        try clear hfz10_1
        try clear hfz11_0
        try clear hfz11_1
        try clear hfz13_0
        try clear hfz13_1
        try clear hfz14_0
        try clear hfz14_1
        try clear hfz19_0
        try clear hfz19_1
        try clear hfz26_0
        try clear hfz26_1
        try clear hfz28_0
        try clear hfz28_1
        try clear hfz32_0
        try clear hfz32_1
        try clear hfz34_0
        try clear hfz34_1
        try clear p2
        obtain ⟨x10_2, x11_2, x12_2, rfl, rfl, rfl, HA, HK2, HO_7, BK276, BK277, BK284, HB⟩ := hrel
        cases gk with
        | zero => exact absurd HA.out (by simp [quintetlaw03_SpanParts.l0])
        | succ k2 =>
          have H := HA.out
          clear HA
          simp only [quintetlaw03_SpanParts.l0] at H
          by_cases c36 : x12_2 < (t278.length : Int)
          · rw [if_pos c36] at H
            have c36b0 : decide (x12_2 < (t278.length : Int)) = true := decide_eq_true c36
            clear c36
            by_cases c37 : 0 ≤ x12_2
            · rw [if_pos c37] at H
              have c37b0 : decide (0 ≤ x12_2) = true := decide_eq_true c37
              clear c37
              replace H := Option.bind_eq_some_iff.mp H
              obtain ⟨t291, A380, H⟩ := H
              replace H : ((span_Has.f ((rd_T24 t278 x12_2).f0) ((rd_T24 t278 x12_2).f1) a2).bind fun t293 => (if t293 = true then (quintetlaw03_SpanParts.l0 k2 a2 t278 (wrap64 (x10_2 + t291)) (wrap64 (x11_2 + 1)) (wrap64 (x12_2 + 1)) a0_0 a0_1) else (quintetlaw03_SpanParts.l0 k2 a2 t278 (wrap64 (x10_2 + t291)) x11_2 (wrap64 (x12_2 + 1)) a0_0 a0_1))) = some r := H
              have A38 := Aside0.mk A380
              clear A380
              replace H := Option.bind_eq_some_iff.mp H
              obtain ⟨t293, A390, H⟩ := H
              replace H : (if t293 = true then (quintetlaw03_SpanParts.l0 k2 a2 t278 (wrap64 (x10_2 + t291)) (wrap64 (x11_2 + 1)) (wrap64 (x12_2 + 1)) a0_0 a0_1) else (quintetlaw03_SpanParts.l0 k2 a2 t278 (wrap64 (x10_2 + t291)) x11_2 (wrap64 (x12_2 + 1)) a0_0 a0_1)) = some r := H
              have A39 := Aside0.mk A390
              clear A390
              by_cases c40 : t293 = true
              · subst c40
                have H1 : (quintetlaw03_SpanParts.l0 k2 a2 t278 (wrap64 (x10_2 + t291)) (wrap64 (x11_2 + 1)) (wrap64 (x12_2 + 1)) a0_0 a0_1) = some r := by rw [if_pos rfl] at H; exact H
                clear H
                have H := H1
                clear H1
                have H' := Aside0.mk H
                clear H
                obtain ⟨Ao41, co41, eo41⟩ := Kd.R_slice HO_7.out
                subst eo41
                have p290 : 0 ≤ (x12_2 : Int) := of_decide_eq_true (by first | (with_reducible assumption) | assumption)
                have q290 : x12_2 < (t278.length : Int) := of_decide_eq_true (by first | (with_reducible assumption) | assumption)
                obtain ⟨ad290, e290, hx290_0, hx290_1⟩ := at_T24 (Kd.R_reads' HO_7.out).2.2 x12_2 p290 q290
                cases e290
                replace p290 := eq_true p290
                replace q290 := eq_true q290
                go_wp2_with (first | ((with_reducible refine gate_callee (f := 16) rfl ?_); refine goesL_ (some 41) rfl rfl Try.func16 (by kernel_rfl) rfl #[.agg #[.int .u16 ((rd_T24 t278 x12_2).f0), .int .u16 ((rd_T24 t278 x12_2).f1)]] rfl (by (try simp only [List.map_toArray, List.map_cons, List.map_nil]); first | done | rfl | (simp only [List.length_drop, List.length_take]; rfl)) ?_; (with_reducible refine (span_Count.calls ((rd_T24 t278 x12_2).f0) ((rd_T24 t278 x12_2).f1) t291 _ A38.out).mono ?_); rintro e w42 ⟨rfl, hb⟩; refine ⟨_, rfl, ?_⟩; have n0_ := Aside0.mk (Kd.R_below (by (with_reducible repeat (first | apply Kd.R_alloc | apply Kd.R_drewN | apply Kd.R_drew)); exact HO_7.out) hb); have n1_ := Aside0.mk (blk_below (g := gb276) (o := .cells #[.int .u16 a0_0, .int .u16 a0_1] 24 (0, 0)) (by (with_reducible repeat (first | refine blk_drewN ?_ _ | refine blk_drew ?_ | refine blk_alloc ?_ _)); exact BK276.out) hb); have n2_ := Aside0.mk (blk_below (g := gb277) (o := .cells #[.int .u16 a1_0, .int .u16 a1_1] 24 (0, 0)) (by (with_reducible repeat (first | refine blk_drewN ?_ _ | refine blk_drew ?_ | refine blk_alloc ?_ _)); exact BK277.out) hb); have n3_ := Aside0.mk (blk_below (g := gb284) (o := .cells #[.int .u16 t281, .int .u16 t282] 24 (0, 0)) (by (with_reducible repeat (first | refine blk_drewN ?_ _ | refine blk_drew ?_ | refine blk_alloc ?_ _)); exact BK284.out) hb); have n4_ := Aside0.mk (below_step (by repeat (first | (with_reducible first | exact HB.out | apply below_alloc | apply pw_below_drewN | apply below_drew1 | refine below_set ?_ GE276.out | refine below_set ?_ GE277.out | refine below_set ?_ GE284.out) | exact HB.out)) hb); clear HO_7; clear BK276; clear BK277; clear BK284; clear HB; have HO_7 := n0_; have BK276 := n1_; have BK277 := n2_; have BK284 := n3_; have HB := n4_; clear n0_ n1_ n2_ n3_ n4_; (try clear hb); (try clear hb2); (try clear hk); (try clear hi); have p292 : 0 ≤ (x12_2 : Int) := of_decide_eq_true (by first | (with_reducible assumption) | assumption); have q292 : x12_2 < (t278.length : Int) := of_decide_eq_true (by first | (with_reducible assumption) | assumption); obtain ⟨ad292, e292, hx292_0, hx292_1⟩ := at_T24 (Kd.R_reads' HO_7.out).2.2 x12_2 p292 q292; obtain rfl : ad290 = ad292 := (by injection e292); replace p292 := eq_true p292; replace q292 := eq_true q292) | ((with_reducible refine gate_callee (f := 14) rfl ?_); refine goesL_ (some 48) rfl rfl Try.func14 (by kernel_rfl) rfl #[.agg #[.int .u16 ((rd_T24 t278 x12_2).f0), .int .u16 ((rd_T24 t278 x12_2).f1)], .int .u16 a2] rfl (by (try simp only [List.map_toArray, List.map_cons, List.map_nil]); first | done | rfl | (simp only [List.length_drop, List.length_take]; rfl)) ?_; (with_reducible refine (span_Has.calls ((rd_T24 t278 x12_2).f0) ((rd_T24 t278 x12_2).f1) a2 true _ A39.out).mono ?_); rintro e w43 ⟨rfl, hb⟩; refine ⟨_, rfl, ?_⟩; have n0_ := Aside0.mk (Kd.R_below (by (with_reducible repeat (first | apply Kd.R_alloc | apply Kd.R_drewN | apply Kd.R_drew)); exact HO_7.out) hb); have n1_ := Aside0.mk (blk_below (g := gb276) (o := .cells #[.int .u16 a0_0, .int .u16 a0_1] 24 (0, 0)) (by (with_reducible repeat (first | refine blk_drewN ?_ _ | refine blk_drew ?_ | refine blk_alloc ?_ _)); exact BK276.out) hb); have n2_ := Aside0.mk (blk_below (g := gb277) (o := .cells #[.int .u16 a1_0, .int .u16 a1_1] 24 (0, 0)) (by (with_reducible repeat (first | refine blk_drewN ?_ _ | refine blk_drew ?_ | refine blk_alloc ?_ _)); exact BK277.out) hb); have n3_ := Aside0.mk (blk_below (g := gb284) (o := .cells #[.int .u16 t281, .int .u16 t282] 24 (0, 0)) (by (with_reducible repeat (first | refine blk_drewN ?_ _ | refine blk_drew ?_ | refine blk_alloc ?_ _)); exact BK284.out) hb); have n4_ := Aside0.mk (below_step (by repeat (first | (with_reducible first | exact HB.out | apply below_alloc | apply pw_below_drewN | apply below_drew1 | refine below_set ?_ GE276.out | refine below_set ?_ GE277.out | refine below_set ?_ GE284.out) | exact HB.out)) hb); clear HO_7; clear BK276; clear BK277; clear BK284; clear HB; have HO_7 := n0_; have BK276 := n1_; have BK277 := n2_; have BK284 := n3_; have HB := n4_; clear n0_ n1_ n2_ n3_ n4_; (try clear hb); (try clear hb2); (try clear hk); (try clear hi)))
                go_roundg k2
                case measure => have := HJ5.out; have := HK2.out; omega
                case rel => exact ⟨(wrap64 (x10_2 + t291)), (wrap64 (x11_2 + 1)), (wrap64 (x12_2 + 1)), (by first | rfl | (simp; done) | (simp [*]; done)), (by first | rfl | (simp; done) | (simp [*]; done)), (by first | rfl | (simp; done) | (simp [*]; done)), H', ⟨by have := HJ5.out; have := HK2.out; omega⟩, ⟨by (with_reducible repeat (first | apply Kd.R_alloc | apply Kd.R_drewN | apply Kd.R_drew)); exact HO_7.out⟩, ⟨by (with_reducible repeat (first | refine blk_drewN ?_ _ | refine blk_drew ?_ | refine blk_alloc ?_ _)); exact BK276.out⟩, ⟨by (with_reducible repeat (first | refine blk_drewN ?_ _ | refine blk_drew ?_ | refine blk_alloc ?_ _)); exact BK277.out⟩, ⟨by (with_reducible repeat (first | refine blk_drewN ?_ _ | refine blk_drew ?_ | refine blk_alloc ?_ _)); exact BK284.out⟩, ⟨by repeat (first | (with_reducible first | exact HB.out | apply below_alloc | apply pw_below_drewN | apply below_drew1 | refine below_set ?_ GE276.out | refine below_set ?_ GE277.out | refine below_set ?_ GE284.out) | exact HB.out)⟩⟩
              · replace c40 := Bool.eq_false_iff.mpr c40
                subst c40
                have H1 : (quintetlaw03_SpanParts.l0 k2 a2 t278 (wrap64 (x10_2 + t291)) x11_2 (wrap64 (x12_2 + 1)) a0_0 a0_1) = some r := by rw [if_neg (show ¬ (false = true) by decide)] at H; exact H
                clear H
                have H := H1
                clear H1
                have H' := Aside0.mk H
                clear H
                obtain ⟨Ao44, co44, eo44⟩ := Kd.R_slice HO_7.out
                subst eo44
                have p290 : 0 ≤ (x12_2 : Int) := of_decide_eq_true (by first | (with_reducible assumption) | assumption)
                have q290 : x12_2 < (t278.length : Int) := of_decide_eq_true (by first | (with_reducible assumption) | assumption)
                obtain ⟨ad290, e290, hx290_0, hx290_1⟩ := at_T24 (Kd.R_reads' HO_7.out).2.2 x12_2 p290 q290
                cases e290
                replace p290 := eq_true p290
                replace q290 := eq_true q290
                go_wp2_with (first | ((with_reducible refine gate_callee (f := 16) rfl ?_); refine goesL_ (some 41) rfl rfl Try.func16 (by kernel_rfl) rfl #[.agg #[.int .u16 ((rd_T24 t278 x12_2).f0), .int .u16 ((rd_T24 t278 x12_2).f1)]] rfl (by (try simp only [List.map_toArray, List.map_cons, List.map_nil]); first | done | rfl | (simp only [List.length_drop, List.length_take]; rfl)) ?_; (with_reducible refine (span_Count.calls ((rd_T24 t278 x12_2).f0) ((rd_T24 t278 x12_2).f1) t291 _ A38.out).mono ?_); rintro e w45 ⟨rfl, hb⟩; refine ⟨_, rfl, ?_⟩; have n0_ := Aside0.mk (Kd.R_below (by (with_reducible repeat (first | apply Kd.R_alloc | apply Kd.R_drewN | apply Kd.R_drew)); exact HO_7.out) hb); have n1_ := Aside0.mk (blk_below (g := gb276) (o := .cells #[.int .u16 a0_0, .int .u16 a0_1] 24 (0, 0)) (by (with_reducible repeat (first | refine blk_drewN ?_ _ | refine blk_drew ?_ | refine blk_alloc ?_ _)); exact BK276.out) hb); have n2_ := Aside0.mk (blk_below (g := gb277) (o := .cells #[.int .u16 a1_0, .int .u16 a1_1] 24 (0, 0)) (by (with_reducible repeat (first | refine blk_drewN ?_ _ | refine blk_drew ?_ | refine blk_alloc ?_ _)); exact BK277.out) hb); have n3_ := Aside0.mk (blk_below (g := gb284) (o := .cells #[.int .u16 t281, .int .u16 t282] 24 (0, 0)) (by (with_reducible repeat (first | refine blk_drewN ?_ _ | refine blk_drew ?_ | refine blk_alloc ?_ _)); exact BK284.out) hb); have n4_ := Aside0.mk (below_step (by repeat (first | (with_reducible first | exact HB.out | apply below_alloc | apply pw_below_drewN | apply below_drew1 | refine below_set ?_ GE276.out | refine below_set ?_ GE277.out | refine below_set ?_ GE284.out) | exact HB.out)) hb); clear HO_7; clear BK276; clear BK277; clear BK284; clear HB; have HO_7 := n0_; have BK276 := n1_; have BK277 := n2_; have BK284 := n3_; have HB := n4_; clear n0_ n1_ n2_ n3_ n4_; (try clear hb); (try clear hb2); (try clear hk); (try clear hi); have p292 : 0 ≤ (x12_2 : Int) := of_decide_eq_true (by first | (with_reducible assumption) | assumption); have q292 : x12_2 < (t278.length : Int) := of_decide_eq_true (by first | (with_reducible assumption) | assumption); obtain ⟨ad292, e292, hx292_0, hx292_1⟩ := at_T24 (Kd.R_reads' HO_7.out).2.2 x12_2 p292 q292; obtain rfl : ad290 = ad292 := (by injection e292); replace p292 := eq_true p292; replace q292 := eq_true q292) | ((with_reducible refine gate_callee (f := 14) rfl ?_); refine goesL_ (some 48) rfl rfl Try.func14 (by kernel_rfl) rfl #[.agg #[.int .u16 ((rd_T24 t278 x12_2).f0), .int .u16 ((rd_T24 t278 x12_2).f1)], .int .u16 a2] rfl (by (try simp only [List.map_toArray, List.map_cons, List.map_nil]); first | done | rfl | (simp only [List.length_drop, List.length_take]; rfl)) ?_; (with_reducible refine (span_Has.calls ((rd_T24 t278 x12_2).f0) ((rd_T24 t278 x12_2).f1) a2 false _ A39.out).mono ?_); rintro e w46 ⟨rfl, hb⟩; refine ⟨_, rfl, ?_⟩; have n0_ := Aside0.mk (Kd.R_below (by (with_reducible repeat (first | apply Kd.R_alloc | apply Kd.R_drewN | apply Kd.R_drew)); exact HO_7.out) hb); have n1_ := Aside0.mk (blk_below (g := gb276) (o := .cells #[.int .u16 a0_0, .int .u16 a0_1] 24 (0, 0)) (by (with_reducible repeat (first | refine blk_drewN ?_ _ | refine blk_drew ?_ | refine blk_alloc ?_ _)); exact BK276.out) hb); have n2_ := Aside0.mk (blk_below (g := gb277) (o := .cells #[.int .u16 a1_0, .int .u16 a1_1] 24 (0, 0)) (by (with_reducible repeat (first | refine blk_drewN ?_ _ | refine blk_drew ?_ | refine blk_alloc ?_ _)); exact BK277.out) hb); have n3_ := Aside0.mk (blk_below (g := gb284) (o := .cells #[.int .u16 t281, .int .u16 t282] 24 (0, 0)) (by (with_reducible repeat (first | refine blk_drewN ?_ _ | refine blk_drew ?_ | refine blk_alloc ?_ _)); exact BK284.out) hb); have n4_ := Aside0.mk (below_step (by repeat (first | (with_reducible first | exact HB.out | apply below_alloc | apply pw_below_drewN | apply below_drew1 | refine below_set ?_ GE276.out | refine below_set ?_ GE277.out | refine below_set ?_ GE284.out) | exact HB.out)) hb); clear HO_7; clear BK276; clear BK277; clear BK284; clear HB; have HO_7 := n0_; have BK276 := n1_; have BK277 := n2_; have BK284 := n3_; have HB := n4_; clear n0_ n1_ n2_ n3_ n4_; (try clear hb); (try clear hb2); (try clear hk); (try clear hi)))
                go_roundg k2
                case measure => have := HJ5.out; have := HK2.out; omega
                case rel => exact ⟨(wrap64 (x10_2 + t291)), (x11_2), (wrap64 (x12_2 + 1)), (by first | rfl | (simp; done) | (simp [*]; done)), (by first | rfl | (simp; done) | (simp [*]; done)), (by first | rfl | (simp; done) | (simp [*]; done)), H', ⟨by have := HJ5.out; have := HK2.out; omega⟩, ⟨by (with_reducible repeat (first | apply Kd.R_alloc | apply Kd.R_drewN | apply Kd.R_drew)); exact HO_7.out⟩, ⟨by (with_reducible repeat (first | refine blk_drewN ?_ _ | refine blk_drew ?_ | refine blk_alloc ?_ _)); exact BK276.out⟩, ⟨by (with_reducible repeat (first | refine blk_drewN ?_ _ | refine blk_drew ?_ | refine blk_alloc ?_ _)); exact BK277.out⟩, ⟨by (with_reducible repeat (first | refine blk_drewN ?_ _ | refine blk_drew ?_ | refine blk_alloc ?_ _)); exact BK284.out⟩, ⟨by repeat (first | (with_reducible first | exact HB.out | apply below_alloc | apply pw_below_drewN | apply below_drew1 | refine below_set ?_ GE276.out | refine below_set ?_ GE277.out | refine below_set ?_ GE284.out) | exact HB.out)⟩⟩
            · rw [if_neg c37] at H
              exact absurd H (by simp)
          · rw [if_neg c36] at H
            have c36b0 : decide (x12_2 < (t278.length : Int)) = false := decide_eq_false c36
            clear c36
            replace H := Option.bind_eq_some_iff.mp H
            obtain ⟨t287, A470, H⟩ := H
            replace H : (if t287 = true then ((span_Count.f a0_0 a0_1).bind fun t288 => (if x10_2 = t288 then ((span_Has.f a0_0 a0_1 a2).bind fun t289 => (if ((x11_2 == 1) == t289) = true then (some (decide (x11_2 ≤ 1))) else (some false))) else (some false))) else (some false)) = some r := H
            have A47 := Aside0.mk A470
            clear A470
            by_cases c48 : t287 = true
            · subst c48
              have H1 : ((span_Count.f a0_0 a0_1).bind fun t288 => (if x10_2 = t288 then ((span_Has.f a0_0 a0_1 a2).bind fun t289 => (if ((x11_2 == 1) == t289) = true then (some (decide (x11_2 ≤ 1))) else (some false))) else (some false))) = some r := by rw [if_pos rfl] at H; exact H
              clear H
              have H := H1
              clear H1
              replace H := Option.bind_eq_some_iff.mp H
              obtain ⟨t288, A490, H⟩ := H
              replace H : (if x10_2 = t288 then ((span_Has.f a0_0 a0_1 a2).bind fun t289 => (if ((x11_2 == 1) == t289) = true then (some (decide (x11_2 ≤ 1))) else (some false))) else (some false)) = some r := H
              have A49 := Aside0.mk A490
              clear A490
              by_cases c50 : x10_2 = t288
              · rw [if_pos c50] at H
                have c50b0 : (x10_2 == t288) = true := beq_iff_eq.mpr c50
                have c50b1 : (x10_2 != t288) = false := bne_eq_false_iff_eq.mpr c50
                clear c50
                replace H := Option.bind_eq_some_iff.mp H
                obtain ⟨t289, A510, H⟩ := H
                replace H : (if ((x11_2 == 1) == t289) = true then (some (decide (x11_2 ≤ 1))) else (some false)) = some r := H
                have A51 := Aside0.mk A510
                clear A510
                by_cases c52 : ((x11_2 == 1) == t289) = true
                · rw [if_pos c52] at H
                  have c52b0 : ((x11_2 == 1) == t289) = true := c52
                  (try (have c52b1 : decide ((x11_2 == 1) = t289) = true := by simpa using c52))
                  (try (have c52b2 : ((x11_2 == 1) == t289) = true := by simpa using c52))
                  clear c52
                  obtain rfl := Option.some.inj H
                  obtain ⟨Ao53, co53, eo53⟩ := Kd.R_slice HO_7.out
                  subst eo53
                  go_wp2_with (first | ((with_reducible refine gate_callee (f := 11) rfl ?_); refine goesL_ (some 51) rfl rfl Try.func11 (by kernel_rfl) rfl #[] rfl (by (try simp only [List.map_toArray, List.map_cons, List.map_nil]); first | done | rfl | (simp only [List.length_drop, List.length_take]; rfl)) ?_; (with_reducible refine (quintetlaw03_awake.calls k2  true _ A47.out).mono ?_); rintro e w54 ⟨rfl, hb⟩; refine ⟨_, rfl, ?_⟩; have n0_ := Aside0.mk (Kd.R_below (by (with_reducible repeat (first | apply Kd.R_alloc | apply Kd.R_drewN | apply Kd.R_drew)); exact HO_7.out) hb); have n1_ := Aside0.mk (blk_below (g := gb276) (o := .cells #[.int .u16 a0_0, .int .u16 a0_1] 24 (0, 0)) (by (with_reducible repeat (first | refine blk_drewN ?_ _ | refine blk_drew ?_ | refine blk_alloc ?_ _)); exact BK276.out) hb); have n2_ := Aside0.mk (blk_below (g := gb277) (o := .cells #[.int .u16 a1_0, .int .u16 a1_1] 24 (0, 0)) (by (with_reducible repeat (first | refine blk_drewN ?_ _ | refine blk_drew ?_ | refine blk_alloc ?_ _)); exact BK277.out) hb); have n3_ := Aside0.mk (blk_below (g := gb284) (o := .cells #[.int .u16 t281, .int .u16 t282] 24 (0, 0)) (by (with_reducible repeat (first | refine blk_drewN ?_ _ | refine blk_drew ?_ | refine blk_alloc ?_ _)); exact BK284.out) hb); have n4_ := Aside0.mk (below_step (by repeat (first | (with_reducible first | exact HB.out | apply below_alloc | apply pw_below_drewN | apply below_drew1 | refine below_set ?_ GE276.out | refine below_set ?_ GE277.out | refine below_set ?_ GE284.out) | exact HB.out)) hb); clear HO_7; clear BK276; clear BK277; clear BK284; clear HB; have HO_7 := n0_; have BK276 := n1_; have BK277 := n2_; have BK284 := n3_; have HB := n4_; clear n0_ n1_ n2_ n3_ n4_; (try clear hb); (try clear hb2); (try clear hk); (try clear hi); have hnb55 := NB276_277.out; have hnc55 := NB277_276.out; have hnb56 := NB276_284.out; have hnc56 := NB284_276.out; have hcz57_0 : w54.cell? ⟨gb276, 0, none⟩ = some (.int .u16 a0_0) := (blk_cell BK276.out 0).trans rfl; have hcz57_1 : w54.cell? ⟨gb276, 1, none⟩ = some (.int .u16 a0_1) := (blk_cell BK276.out 1).trans rfl; have hfz57_0 := blk_frozen BK276.out 0; have hfz57_1 := blk_frozen BK276.out 1) | (go_at_call 16; (with_reducible refine (span_Count.calls a0_0 a0_1 t288 _ A49.out).mono ?_); rintro e w58 ⟨rfl, hb⟩; have n0_ := Aside0.mk (Kd.R_below (by (with_reducible repeat (first | apply Kd.R_alloc | apply Kd.R_drewN | apply Kd.R_drew)); exact HO_7.out) hb); have n1_ := Aside0.mk (blk_below (g := gb276) (o := .cells #[.int .u16 a0_0, .int .u16 a0_1] 24 (0, 0)) (by (with_reducible repeat (first | refine blk_drewN ?_ _ | refine blk_drew ?_ | refine blk_alloc ?_ _)); exact BK276.out) hb); have n2_ := Aside0.mk (blk_below (g := gb277) (o := .cells #[.int .u16 a1_0, .int .u16 a1_1] 24 (0, 0)) (by (with_reducible repeat (first | refine blk_drewN ?_ _ | refine blk_drew ?_ | refine blk_alloc ?_ _)); exact BK277.out) hb); have n3_ := Aside0.mk (blk_below (g := gb284) (o := .cells #[.int .u16 t281, .int .u16 t282] 24 (0, 0)) (by (with_reducible repeat (first | refine blk_drewN ?_ _ | refine blk_drew ?_ | refine blk_alloc ?_ _)); exact BK284.out) hb); have n4_ := Aside0.mk (below_step (by repeat (first | (with_reducible first | exact HB.out | apply below_alloc | apply pw_below_drewN | apply below_drew1 | refine below_set ?_ GE276.out | refine below_set ?_ GE277.out | refine below_set ?_ GE284.out) | exact HB.out)) hb); clear HO_7; clear BK276; clear BK277; clear BK284; clear HB; have HO_7 := n0_; have BK276 := n1_; have BK277 := n2_; have BK284 := n3_; have HB := n4_; clear n0_ n1_ n2_ n3_ n4_; (try clear hb); (try clear hb2); (try clear hk); (try clear hi); have hcz59_0 : w58.cell? ⟨gb276, 0, none⟩ = some (.int .u16 a0_0) := (blk_cell BK276.out 0).trans rfl; have hcz59_1 : w58.cell? ⟨gb276, 1, none⟩ = some (.int .u16 a0_1) := (blk_cell BK276.out 1).trans rfl; have hfz59_0 := blk_frozen BK276.out 0; have hfz59_1 := blk_frozen BK276.out 1) | (go_at_call 14; (with_reducible refine (span_Has.calls a0_0 a0_1 a2 t289 _ A51.out).mono ?_); rintro e w60 ⟨rfl, hb⟩; have n0_ := Aside0.mk (Kd.R_below (by (with_reducible repeat (first | apply Kd.R_alloc | apply Kd.R_drewN | apply Kd.R_drew)); exact HO_7.out) hb); have n1_ := Aside0.mk (blk_below (g := gb276) (o := .cells #[.int .u16 a0_0, .int .u16 a0_1] 24 (0, 0)) (by (with_reducible repeat (first | refine blk_drewN ?_ _ | refine blk_drew ?_ | refine blk_alloc ?_ _)); exact BK276.out) hb); have n2_ := Aside0.mk (blk_below (g := gb277) (o := .cells #[.int .u16 a1_0, .int .u16 a1_1] 24 (0, 0)) (by (with_reducible repeat (first | refine blk_drewN ?_ _ | refine blk_drew ?_ | refine blk_alloc ?_ _)); exact BK277.out) hb); have n3_ := Aside0.mk (blk_below (g := gb284) (o := .cells #[.int .u16 t281, .int .u16 t282] 24 (0, 0)) (by (with_reducible repeat (first | refine blk_drewN ?_ _ | refine blk_drew ?_ | refine blk_alloc ?_ _)); exact BK284.out) hb); have n4_ := Aside0.mk (below_step (by repeat (first | (with_reducible first | exact HB.out | apply below_alloc | apply pw_below_drewN | apply below_drew1 | refine below_set ?_ GE276.out | refine below_set ?_ GE277.out | refine below_set ?_ GE284.out) | exact HB.out)) hb); clear HO_7; clear BK276; clear BK277; clear BK284; clear HB; have HO_7 := n0_; have BK276 := n1_; have BK277 := n2_; have BK284 := n3_; have HB := n4_; clear n0_ n1_ n2_ n3_ n4_; (try clear hb); (try clear hb2); (try clear hk); (try clear hi)))
                  go_ret
                  exact ⟨by first | rfl | (simp [errW_none, errW_some] <;> rfl) | (simp [*, errW_none, errW_some] <;> rfl), by repeat (first | (with_reducible first | exact HB.out | apply below_alloc | apply pw_below_drewN | apply below_drew1 | refine below_set ?_ GE276.out | refine below_set ?_ GE277.out | refine below_set ?_ GE284.out) | exact HB.out)⟩
                · rw [if_neg c52] at H
                  have c52b0 : ((x11_2 == 1) == t289) = false := by simpa using c52
                  (try (have c52b1 : decide ((x11_2 == 1) = t289) = false := by simpa using c52))
                  (try (have c52b2 : ((x11_2 == 1) == t289) = false := by simpa using c52))
                  (try (have c52b3 : ¬ ((x11_2 == 1) = t289) := by simpa using c52))
                  clear c52
                  obtain rfl := Option.some.inj H
                  obtain ⟨Ao61, co61, eo61⟩ := Kd.R_slice HO_7.out
                  subst eo61
                  go_wp2_with (first | ((with_reducible refine gate_callee (f := 11) rfl ?_); refine goesL_ (some 51) rfl rfl Try.func11 (by kernel_rfl) rfl #[] rfl (by (try simp only [List.map_toArray, List.map_cons, List.map_nil]); first | done | rfl | (simp only [List.length_drop, List.length_take]; rfl)) ?_; (with_reducible refine (quintetlaw03_awake.calls k2  true _ A47.out).mono ?_); rintro e w62 ⟨rfl, hb⟩; refine ⟨_, rfl, ?_⟩; have n0_ := Aside0.mk (Kd.R_below (by (with_reducible repeat (first | apply Kd.R_alloc | apply Kd.R_drewN | apply Kd.R_drew)); exact HO_7.out) hb); have n1_ := Aside0.mk (blk_below (g := gb276) (o := .cells #[.int .u16 a0_0, .int .u16 a0_1] 24 (0, 0)) (by (with_reducible repeat (first | refine blk_drewN ?_ _ | refine blk_drew ?_ | refine blk_alloc ?_ _)); exact BK276.out) hb); have n2_ := Aside0.mk (blk_below (g := gb277) (o := .cells #[.int .u16 a1_0, .int .u16 a1_1] 24 (0, 0)) (by (with_reducible repeat (first | refine blk_drewN ?_ _ | refine blk_drew ?_ | refine blk_alloc ?_ _)); exact BK277.out) hb); have n3_ := Aside0.mk (blk_below (g := gb284) (o := .cells #[.int .u16 t281, .int .u16 t282] 24 (0, 0)) (by (with_reducible repeat (first | refine blk_drewN ?_ _ | refine blk_drew ?_ | refine blk_alloc ?_ _)); exact BK284.out) hb); have n4_ := Aside0.mk (below_step (by repeat (first | (with_reducible first | exact HB.out | apply below_alloc | apply pw_below_drewN | apply below_drew1 | refine below_set ?_ GE276.out | refine below_set ?_ GE277.out | refine below_set ?_ GE284.out) | exact HB.out)) hb); clear HO_7; clear BK276; clear BK277; clear BK284; clear HB; have HO_7 := n0_; have BK276 := n1_; have BK277 := n2_; have BK284 := n3_; have HB := n4_; clear n0_ n1_ n2_ n3_ n4_; (try clear hb); (try clear hb2); (try clear hk); (try clear hi); have hnb63 := NB276_277.out; have hnc63 := NB277_276.out; have hnb64 := NB276_284.out; have hnc64 := NB284_276.out; have hcz65_0 : w62.cell? ⟨gb276, 0, none⟩ = some (.int .u16 a0_0) := (blk_cell BK276.out 0).trans rfl; have hcz65_1 : w62.cell? ⟨gb276, 1, none⟩ = some (.int .u16 a0_1) := (blk_cell BK276.out 1).trans rfl; have hfz65_0 := blk_frozen BK276.out 0; have hfz65_1 := blk_frozen BK276.out 1) | (go_at_call 16; (with_reducible refine (span_Count.calls a0_0 a0_1 t288 _ A49.out).mono ?_); rintro e w66 ⟨rfl, hb⟩; have n0_ := Aside0.mk (Kd.R_below (by (with_reducible repeat (first | apply Kd.R_alloc | apply Kd.R_drewN | apply Kd.R_drew)); exact HO_7.out) hb); have n1_ := Aside0.mk (blk_below (g := gb276) (o := .cells #[.int .u16 a0_0, .int .u16 a0_1] 24 (0, 0)) (by (with_reducible repeat (first | refine blk_drewN ?_ _ | refine blk_drew ?_ | refine blk_alloc ?_ _)); exact BK276.out) hb); have n2_ := Aside0.mk (blk_below (g := gb277) (o := .cells #[.int .u16 a1_0, .int .u16 a1_1] 24 (0, 0)) (by (with_reducible repeat (first | refine blk_drewN ?_ _ | refine blk_drew ?_ | refine blk_alloc ?_ _)); exact BK277.out) hb); have n3_ := Aside0.mk (blk_below (g := gb284) (o := .cells #[.int .u16 t281, .int .u16 t282] 24 (0, 0)) (by (with_reducible repeat (first | refine blk_drewN ?_ _ | refine blk_drew ?_ | refine blk_alloc ?_ _)); exact BK284.out) hb); have n4_ := Aside0.mk (below_step (by repeat (first | (with_reducible first | exact HB.out | apply below_alloc | apply pw_below_drewN | apply below_drew1 | refine below_set ?_ GE276.out | refine below_set ?_ GE277.out | refine below_set ?_ GE284.out) | exact HB.out)) hb); clear HO_7; clear BK276; clear BK277; clear BK284; clear HB; have HO_7 := n0_; have BK276 := n1_; have BK277 := n2_; have BK284 := n3_; have HB := n4_; clear n0_ n1_ n2_ n3_ n4_; (try clear hb); (try clear hb2); (try clear hk); (try clear hi); have hcz67_0 : w66.cell? ⟨gb276, 0, none⟩ = some (.int .u16 a0_0) := (blk_cell BK276.out 0).trans rfl; have hcz67_1 : w66.cell? ⟨gb276, 1, none⟩ = some (.int .u16 a0_1) := (blk_cell BK276.out 1).trans rfl; have hfz67_0 := blk_frozen BK276.out 0; have hfz67_1 := blk_frozen BK276.out 1) | (go_at_call 14; (with_reducible refine (span_Has.calls a0_0 a0_1 a2 t289 _ A51.out).mono ?_); rintro e w68 ⟨rfl, hb⟩; have n0_ := Aside0.mk (Kd.R_below (by (with_reducible repeat (first | apply Kd.R_alloc | apply Kd.R_drewN | apply Kd.R_drew)); exact HO_7.out) hb); have n1_ := Aside0.mk (blk_below (g := gb276) (o := .cells #[.int .u16 a0_0, .int .u16 a0_1] 24 (0, 0)) (by (with_reducible repeat (first | refine blk_drewN ?_ _ | refine blk_drew ?_ | refine blk_alloc ?_ _)); exact BK276.out) hb); have n2_ := Aside0.mk (blk_below (g := gb277) (o := .cells #[.int .u16 a1_0, .int .u16 a1_1] 24 (0, 0)) (by (with_reducible repeat (first | refine blk_drewN ?_ _ | refine blk_drew ?_ | refine blk_alloc ?_ _)); exact BK277.out) hb); have n3_ := Aside0.mk (blk_below (g := gb284) (o := .cells #[.int .u16 t281, .int .u16 t282] 24 (0, 0)) (by (with_reducible repeat (first | refine blk_drewN ?_ _ | refine blk_drew ?_ | refine blk_alloc ?_ _)); exact BK284.out) hb); have n4_ := Aside0.mk (below_step (by repeat (first | (with_reducible first | exact HB.out | apply below_alloc | apply pw_below_drewN | apply below_drew1 | refine below_set ?_ GE276.out | refine below_set ?_ GE277.out | refine below_set ?_ GE284.out) | exact HB.out)) hb); clear HO_7; clear BK276; clear BK277; clear BK284; clear HB; have HO_7 := n0_; have BK276 := n1_; have BK277 := n2_; have BK284 := n3_; have HB := n4_; clear n0_ n1_ n2_ n3_ n4_; (try clear hb); (try clear hb2); (try clear hk); (try clear hi)))
                  go_ret
                  exact ⟨by first | rfl | (simp [errW_none, errW_some] <;> rfl) | (simp [*, errW_none, errW_some] <;> rfl), by repeat (first | (with_reducible first | exact HB.out | apply below_alloc | apply pw_below_drewN | apply below_drew1 | refine below_set ?_ GE276.out | refine below_set ?_ GE277.out | refine below_set ?_ GE284.out) | exact HB.out)⟩
              · rw [if_neg c50] at H
                have c50b0 : (x10_2 == t288) = false := beq_eq_false_iff_ne.mpr c50
                have c50b1 : (x10_2 != t288) = true := bne_iff_ne.mpr c50
                obtain rfl := Option.some.inj H
                obtain ⟨Ao69, co69, eo69⟩ := Kd.R_slice HO_7.out
                subst eo69
                go_wp2_with (first | ((with_reducible refine gate_callee (f := 11) rfl ?_); refine goesL_ (some 51) rfl rfl Try.func11 (by kernel_rfl) rfl #[] rfl (by (try simp only [List.map_toArray, List.map_cons, List.map_nil]); first | done | rfl | (simp only [List.length_drop, List.length_take]; rfl)) ?_; (with_reducible refine (quintetlaw03_awake.calls k2  true _ A47.out).mono ?_); rintro e w70 ⟨rfl, hb⟩; refine ⟨_, rfl, ?_⟩; have n0_ := Aside0.mk (Kd.R_below (by (with_reducible repeat (first | apply Kd.R_alloc | apply Kd.R_drewN | apply Kd.R_drew)); exact HO_7.out) hb); have n1_ := Aside0.mk (blk_below (g := gb276) (o := .cells #[.int .u16 a0_0, .int .u16 a0_1] 24 (0, 0)) (by (with_reducible repeat (first | refine blk_drewN ?_ _ | refine blk_drew ?_ | refine blk_alloc ?_ _)); exact BK276.out) hb); have n2_ := Aside0.mk (blk_below (g := gb277) (o := .cells #[.int .u16 a1_0, .int .u16 a1_1] 24 (0, 0)) (by (with_reducible repeat (first | refine blk_drewN ?_ _ | refine blk_drew ?_ | refine blk_alloc ?_ _)); exact BK277.out) hb); have n3_ := Aside0.mk (blk_below (g := gb284) (o := .cells #[.int .u16 t281, .int .u16 t282] 24 (0, 0)) (by (with_reducible repeat (first | refine blk_drewN ?_ _ | refine blk_drew ?_ | refine blk_alloc ?_ _)); exact BK284.out) hb); have n4_ := Aside0.mk (below_step (by repeat (first | (with_reducible first | exact HB.out | apply below_alloc | apply pw_below_drewN | apply below_drew1 | refine below_set ?_ GE276.out | refine below_set ?_ GE277.out | refine below_set ?_ GE284.out) | exact HB.out)) hb); clear HO_7; clear BK276; clear BK277; clear BK284; clear HB; have HO_7 := n0_; have BK276 := n1_; have BK277 := n2_; have BK284 := n3_; have HB := n4_; clear n0_ n1_ n2_ n3_ n4_; (try clear hb); (try clear hb2); (try clear hk); (try clear hi); have hnb71 := NB276_277.out; have hnc71 := NB277_276.out; have hnb72 := NB276_284.out; have hnc72 := NB284_276.out; have hcz73_0 : w70.cell? ⟨gb276, 0, none⟩ = some (.int .u16 a0_0) := (blk_cell BK276.out 0).trans rfl; have hcz73_1 : w70.cell? ⟨gb276, 1, none⟩ = some (.int .u16 a0_1) := (blk_cell BK276.out 1).trans rfl; have hfz73_0 := blk_frozen BK276.out 0; have hfz73_1 := blk_frozen BK276.out 1) | (go_at_call 16; (with_reducible refine (span_Count.calls a0_0 a0_1 t288 _ A49.out).mono ?_); rintro e w74 ⟨rfl, hb⟩; have n0_ := Aside0.mk (Kd.R_below (by (with_reducible repeat (first | apply Kd.R_alloc | apply Kd.R_drewN | apply Kd.R_drew)); exact HO_7.out) hb); have n1_ := Aside0.mk (blk_below (g := gb276) (o := .cells #[.int .u16 a0_0, .int .u16 a0_1] 24 (0, 0)) (by (with_reducible repeat (first | refine blk_drewN ?_ _ | refine blk_drew ?_ | refine blk_alloc ?_ _)); exact BK276.out) hb); have n2_ := Aside0.mk (blk_below (g := gb277) (o := .cells #[.int .u16 a1_0, .int .u16 a1_1] 24 (0, 0)) (by (with_reducible repeat (first | refine blk_drewN ?_ _ | refine blk_drew ?_ | refine blk_alloc ?_ _)); exact BK277.out) hb); have n3_ := Aside0.mk (blk_below (g := gb284) (o := .cells #[.int .u16 t281, .int .u16 t282] 24 (0, 0)) (by (with_reducible repeat (first | refine blk_drewN ?_ _ | refine blk_drew ?_ | refine blk_alloc ?_ _)); exact BK284.out) hb); have n4_ := Aside0.mk (below_step (by repeat (first | (with_reducible first | exact HB.out | apply below_alloc | apply pw_below_drewN | apply below_drew1 | refine below_set ?_ GE276.out | refine below_set ?_ GE277.out | refine below_set ?_ GE284.out) | exact HB.out)) hb); clear HO_7; clear BK276; clear BK277; clear BK284; clear HB; have HO_7 := n0_; have BK276 := n1_; have BK277 := n2_; have BK284 := n3_; have HB := n4_; clear n0_ n1_ n2_ n3_ n4_; (try clear hb); (try clear hb2); (try clear hk); (try clear hi)))
                go_ret
                exact ⟨by first | rfl | (simp [errW_none, errW_some] <;> rfl) | (simp [*, errW_none, errW_some] <;> rfl), by repeat (first | (with_reducible first | exact HB.out | apply below_alloc | apply pw_below_drewN | apply below_drew1 | refine below_set ?_ GE276.out | refine below_set ?_ GE277.out | refine below_set ?_ GE284.out) | exact HB.out)⟩
            · replace c48 := Bool.eq_false_iff.mpr c48
              subst c48
              have H1 : (some false) = some r := by rw [if_neg (show ¬ (false = true) by decide)] at H; exact H
              clear H
              have H := H1
              clear H1
              obtain rfl := Option.some.inj H
              obtain ⟨Ao75, co75, eo75⟩ := Kd.R_slice HO_7.out
              subst eo75
              go_wp2_with (first | ((with_reducible refine gate_callee (f := 11) rfl ?_); refine goesL_ (some 51) rfl rfl Try.func11 (by kernel_rfl) rfl #[] rfl (by (try simp only [List.map_toArray, List.map_cons, List.map_nil]); first | done | rfl | (simp only [List.length_drop, List.length_take]; rfl)) ?_; (with_reducible refine (quintetlaw03_awake.calls k2  false _ A47.out).mono ?_); rintro e w76 ⟨rfl, hb⟩; refine ⟨_, rfl, ?_⟩; have n0_ := Aside0.mk (Kd.R_below (by (with_reducible repeat (first | apply Kd.R_alloc | apply Kd.R_drewN | apply Kd.R_drew)); exact HO_7.out) hb); have n1_ := Aside0.mk (blk_below (g := gb276) (o := .cells #[.int .u16 a0_0, .int .u16 a0_1] 24 (0, 0)) (by (with_reducible repeat (first | refine blk_drewN ?_ _ | refine blk_drew ?_ | refine blk_alloc ?_ _)); exact BK276.out) hb); have n2_ := Aside0.mk (blk_below (g := gb277) (o := .cells #[.int .u16 a1_0, .int .u16 a1_1] 24 (0, 0)) (by (with_reducible repeat (first | refine blk_drewN ?_ _ | refine blk_drew ?_ | refine blk_alloc ?_ _)); exact BK277.out) hb); have n3_ := Aside0.mk (blk_below (g := gb284) (o := .cells #[.int .u16 t281, .int .u16 t282] 24 (0, 0)) (by (with_reducible repeat (first | refine blk_drewN ?_ _ | refine blk_drew ?_ | refine blk_alloc ?_ _)); exact BK284.out) hb); have n4_ := Aside0.mk (below_step (by repeat (first | (with_reducible first | exact HB.out | apply below_alloc | apply pw_below_drewN | apply below_drew1 | refine below_set ?_ GE276.out | refine below_set ?_ GE277.out | refine below_set ?_ GE284.out) | exact HB.out)) hb); clear HO_7; clear BK276; clear BK277; clear BK284; clear HB; have HO_7 := n0_; have BK276 := n1_; have BK277 := n2_; have BK284 := n3_; have HB := n4_; clear n0_ n1_ n2_ n3_ n4_; (try clear hb); (try clear hb2); (try clear hk); (try clear hi)))
              go_ret
              exact ⟨by first | rfl | (simp [errW_none, errW_some] <;> rfl) | (simp [*, errW_none, errW_some] <;> rfl), by repeat (first | (with_reducible first | exact HB.out | apply below_alloc | apply pw_below_drewN | apply below_drew1 | refine below_set ?_ GE276.out | refine below_set ?_ GE277.out | refine below_set ?_ GE284.out) | exact HB.out)⟩

end Go.Proofs.Ytollljeomlfabaa.PSp
