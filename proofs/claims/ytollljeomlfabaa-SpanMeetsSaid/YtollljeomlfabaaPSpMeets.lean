-- PRINTED by print.py (a twelfth state) out of the translation. Not trusted: Lean checks it.
import Derived.Test.YtollljeomlfabaaPSpx0
import Derived.Test.YtollljeomlfabaaPSpx1
import Derived.Test.YtollljeomlfabaaPSpx2
import Derived.Test.YtollljeomlfabaaPSpx5
import Derived.Test.YtollljeomlfabaaPSpRefMeet
namespace Go.Proofs.Ytollljeomlfabaa.PSp
open Go.RowKit Go.Proofs.YtollljeomlfabaaW.PrintWords Go.Proofs.YtollljeomlfabaaW.PrintLast Go.Proofs.YtollljeomlfabaaW.PrintMore
attribute [local go_sem] max2_int min2_int max_two min_two max_three min_three max_four min_four   -- for this text's walks alone
set_option linter.unusedVariables false
set_option linter.unusedSimpArgs false

attribute [local go_sem high] eqA24
/-! ### quintetlaw03_SpanMeets: function 4 -/
def quintetlaw03_SpanMeets.f (k : Nat) (a0_0 : Int) (a0_1 : Int) (a1_0 : Int) (a1_1 : Int) : Option (Bool) := (span_Meet.f a0_0 a0_1 a1_0 a1_1).bind fun bt253 => ((span_Meet.f a1_0 a1_1 a0_0 a0_1).bind fun bt257 => ((quintetref03_Meet.f k a0_0 a0_1 a1_0 a1_1).bind fun bt261 => ((quintetlaw03_awake.f k).bind fun t265 => (if t265 = true then (if (bt253.1 == bt261.1 && (bt253.2.1 == bt261.2.1)) = true then (if (bt257.1 == bt261.1 && (bt257.2.1 == bt261.2.1)) = true then (if (bt253.2.2 == bt261.2.2) = true then (if (bt257.2.2 == bt261.2.2) = true then ((span_Within.f a0_0 a0_1 a1_0 a1_1).bind fun t266 => ((quintetref03_Within.f a0_0 a0_1 a1_0 a1_1).bind fun t267 => (if (t266 == t267) = true then ((span_Within.f a1_0 a1_1 a0_0 a0_1).bind fun t268 => ((quintetref03_Within.f a1_0 a1_1 a0_0 a0_1).bind fun t269 => (some (t268 == t269)))) else (some false)))) else (some false)) else (some false)) else (some false)) else (some false)) else (some false)))))
theorem quintetlaw03_SpanMeets.mono : ∀ a0 a1 a2 a3 k, LeO (quintetlaw03_SpanMeets.f k a0 a1 a2 a3) (quintetlaw03_SpanMeets.f (k + 1) a0 a1 a2 a3) := by
  intro a0 a1 a2 a3 k
  unfold quintetlaw03_SpanMeets.f
  repeat' first
      | (with_reducible exact quintetlaw03_awake.mono _)
      | (with_reducible exact quintetref03_Meet.mono _ _ _ _ _)
      | (with_reducible exact LeO.refl _)
      | (with_reducible exact LeO.none _)
      | (with_reducible refine LeO.ite ?_ ?_)
      | (with_reducible refine LeO.bind ?_ (fun _ => ?_))
      | exact quintetlaw03_awake.mono _
      | exact quintetref03_Meet.mono _ _ _ _ _
      | exact LeO.none _
      | refine LeO.ite ?_ ?_
      | refine LeO.bind ?_ (fun _ => ?_)
def quintetlaw03_SpanMeets.T4 : Bool × List (List Nat × List Nat) := (true, [([], []), ([0, 0], [0]), ([1], [1]), ([1], [1]), ([2, 3, 1], [1, 2, 3]), ([1, 4], [1, 4]), ([5, 1], [5]), ([6], [6]), ([6], [6]), ([7, 8, 6], [6, 7, 8]), ([6, 9], [6, 9]), ([10, 6], [10]), ([11], [11]), ([11], [11]), ([12, 13, 11], [11, 12, 13]), ([11, 14], [11, 14]), ([15, 11], [15]), ([16], [16]), ([16], [16]), ([17, 18, 16], [16, 17, 18]), ([16, 19], [16, 19]), ([20, 16], [20]), ([21], [21]), ([21], [21]), ([22, 23, 21, 21], [21, 22, 23]), ([21], [21]), ([21], [21]), ([25, 26, 24, 21], [21, 25, 26]), ([24, 27, 21], [21, 24, 27]), ([21, 28], [21, 28]), ([29, 27], [29]), ([30], [30]), ([30], [30]), ([31, 32, 30, 30], [30, 31, 32]), ([30], [30]), ([30], [30]), ([34, 35, 33, 30], [30, 34, 35]), ([33, 36, 30], [30, 33, 36]), ([30, 37], [30, 37]), ([38, 36, 0, 1, 2, 3, 4, 5, 6, 7, 8, 9, 10, 11, 12, 13, 14, 15, 16, 17, 18, 19, 20, 21, 22, 23, 24, 25, 26, 27, 28, 29, 30, 31, 32, 33, 34, 35, 36, 37, 38], [38])])
def quintetlaw03_SpanMeets.B4 : List Nat := [0, 1, 3, 3, 15, 31, 63, 127, 127, 511, 1023, 2047, 4095, 4095, 16383, 32767, 65535, 131071, 131071, 524287, 1048575, 2097151, 4194303, 4194303, 16777215, 4194303, 4194303, 134217727, 268435455, 536870911, 1073741823, 2147483647, 2147483647, 8589934591, 2147483647, 2147483647, 68719476735, 137438953471, 274877906943, 549755813887]
theorem quintetlaw03_SpanMeets.tab4 : rtab .any (opsOf Try.f4 4) = quintetlaw03_SpanMeets.T4 := by kernel_rfl
theorem quintetlaw03_SpanMeets.bits4 : waitsOk quintetlaw03_SpanMeets.T4.2 quintetlaw03_SpanMeets.B4 = true := by kernel_rfl
set_option maxHeartbeats 8000000 in
set_option maxRecDepth 100000 in
theorem quintetlaw03_SpanMeets.calls (k : Nat) (a0_0 : Int) (a0_1 : Int) (a1_0 : Int) (a1_1 : Int) (r : Bool) (w : World) (hrt : r = true) (h : quintetlaw03_SpanMeets.f k a0_0 a0_1 a1_0 a1_1 = some r) :
    Calls Try.prog 4 #[.agg #[.int .u16 a0_0, .int .u16 a0_1], .agg #[.int .u16 a1_0, .int .u16 a1_1]] w fun e w' => e = .returned (.bool r) ∧ Below w.heap.size w w' := by
  have hu24 := Try.underlying24
  have HB := Aside0.mk (Below.refl w.heap.size w)
  have H : ((span_Meet.f a0_0 a0_1 a1_0 a1_1).bind fun bt253 => ((span_Meet.f a1_0 a1_1 a0_0 a0_1).bind fun bt257 => ((quintetref03_Meet.f k a0_0 a0_1 a1_0 a1_1).bind fun bt261 => ((quintetlaw03_awake.f k).bind fun t265 => (if t265 = true then (if (bt253.1 == bt261.1 && (bt253.2.1 == bt261.2.1)) = true then (if (bt257.1 == bt261.1 && (bt257.2.1 == bt261.2.1)) = true then (if (bt253.2.2 == bt261.2.2) = true then (if (bt257.2.2 == bt261.2.2) = true then ((span_Within.f a0_0 a0_1 a1_0 a1_1).bind fun t266 => ((quintetref03_Within.f a0_0 a0_1 a1_0 a1_1).bind fun t267 => (if (t266 == t267) = true then ((span_Within.f a1_0 a1_1 a0_0 a0_1).bind fun t268 => ((quintetref03_Within.f a1_0 a1_1 a0_0 a0_1).bind fun t269 => (some (t268 == t269)))) else (some false)))) else (some false)) else (some false)) else (some false)) else (some false)) else (some false)))))) = some r := h
  clear h
  replace H := Option.bind_eq_some_iff.mp H
  obtain ⟨⟨t253, t254, t255⟩, A30, H⟩ := H
  replace H : ((span_Meet.f a1_0 a1_1 a0_0 a0_1).bind fun bt257 => ((quintetref03_Meet.f k a0_0 a0_1 a1_0 a1_1).bind fun bt261 => ((quintetlaw03_awake.f k).bind fun t265 => (if t265 = true then (if (t253 == bt261.1 && (t254 == bt261.2.1)) = true then (if (bt257.1 == bt261.1 && (bt257.2.1 == bt261.2.1)) = true then (if (t255 == bt261.2.2) = true then (if (bt257.2.2 == bt261.2.2) = true then ((span_Within.f a0_0 a0_1 a1_0 a1_1).bind fun t266 => ((quintetref03_Within.f a0_0 a0_1 a1_0 a1_1).bind fun t267 => (if (t266 == t267) = true then ((span_Within.f a1_0 a1_1 a0_0 a0_1).bind fun t268 => ((quintetref03_Within.f a1_0 a1_1 a0_0 a0_1).bind fun t269 => (some (t268 == t269)))) else (some false)))) else (some false)) else (some false)) else (some false)) else (some false)) else (some false))))) = some r := H
  have A3 := Aside0.mk A30
  clear A30
  replace H := Option.bind_eq_some_iff.mp H
  obtain ⟨⟨t257, t258, t259⟩, A40, H⟩ := H
  replace H : ((quintetref03_Meet.f k a0_0 a0_1 a1_0 a1_1).bind fun bt261 => ((quintetlaw03_awake.f k).bind fun t265 => (if t265 = true then (if (t253 == bt261.1 && (t254 == bt261.2.1)) = true then (if (t257 == bt261.1 && (t258 == bt261.2.1)) = true then (if (t255 == bt261.2.2) = true then (if (t259 == bt261.2.2) = true then ((span_Within.f a0_0 a0_1 a1_0 a1_1).bind fun t266 => ((quintetref03_Within.f a0_0 a0_1 a1_0 a1_1).bind fun t267 => (if (t266 == t267) = true then ((span_Within.f a1_0 a1_1 a0_0 a0_1).bind fun t268 => ((quintetref03_Within.f a1_0 a1_1 a0_0 a0_1).bind fun t269 => (some (t268 == t269)))) else (some false)))) else (some false)) else (some false)) else (some false)) else (some false)) else (some false)))) = some r := H
  have A4 := Aside0.mk A40
  clear A40
  replace H := Option.bind_eq_some_iff.mp H
  obtain ⟨⟨t261, t262, t263⟩, A50, H⟩ := H
  replace H : ((quintetlaw03_awake.f k).bind fun t265 => (if t265 = true then (if (t253 == t261 && (t254 == t262)) = true then (if (t257 == t261 && (t258 == t262)) = true then (if (t255 == t263) = true then (if (t259 == t263) = true then ((span_Within.f a0_0 a0_1 a1_0 a1_1).bind fun t266 => ((quintetref03_Within.f a0_0 a0_1 a1_0 a1_1).bind fun t267 => (if (t266 == t267) = true then ((span_Within.f a1_0 a1_1 a0_0 a0_1).bind fun t268 => ((quintetref03_Within.f a1_0 a1_1 a0_0 a0_1).bind fun t269 => (some (t268 == t269)))) else (some false)))) else (some false)) else (some false)) else (some false)) else (some false)) else (some false))) = some r := H
  have A5 := Aside0.mk A50
  clear A50
  replace H := Option.bind_eq_some_iff.mp H
  obtain ⟨t265, A60, H⟩ := H
  replace H : (if t265 = true then (if (t253 == t261 && (t254 == t262)) = true then (if (t257 == t261 && (t258 == t262)) = true then (if (t255 == t263) = true then (if (t259 == t263) = true then ((span_Within.f a0_0 a0_1 a1_0 a1_1).bind fun t266 => ((quintetref03_Within.f a0_0 a0_1 a1_0 a1_1).bind fun t267 => (if (t266 == t267) = true then ((span_Within.f a1_0 a1_1 a0_0 a0_1).bind fun t268 => ((quintetref03_Within.f a1_0 a1_1 a0_0 a0_1).bind fun t269 => (some (t268 == t269)))) else (some false)))) else (some false)) else (some false)) else (some false)) else (some false)) else (some false)) = some r := H
  have A6 := Aside0.mk A60
  clear A60
  by_cases c7 : t265 = true
  · subst c7
    have H1 : (if (t253 == t261 && (t254 == t262)) = true then (if (t257 == t261 && (t258 == t262)) = true then (if (t255 == t263) = true then (if (t259 == t263) = true then ((span_Within.f a0_0 a0_1 a1_0 a1_1).bind fun t266 => ((quintetref03_Within.f a0_0 a0_1 a1_0 a1_1).bind fun t267 => (if (t266 == t267) = true then ((span_Within.f a1_0 a1_1 a0_0 a0_1).bind fun t268 => ((quintetref03_Within.f a1_0 a1_1 a0_0 a0_1).bind fun t269 => (some (t268 == t269)))) else (some false)))) else (some false)) else (some false)) else (some false)) else (some false)) = some r := by rw [if_pos rfl] at H; exact H
    clear H
    have H := H1
    clear H1
    by_cases c8 : (t253 == t261 && (t254 == t262)) = true
    · rw [if_pos c8] at H
      have c8b0 : (t253 == t261 && (t254 == t262)) = true := c8
      (try (have c8b1 : decide (t253 = t261 && (t254 == t262)) = true := by simpa using c8))
      (try (have c8b2 : (t253 == t261 && (t254 == t262)) = true := by simpa using c8))
      clear c8
      by_cases c9 : (t257 == t261 && (t258 == t262)) = true
      · rw [if_pos c9] at H
        have c9b0 : (t257 == t261 && (t258 == t262)) = true := c9
        (try (have c9b1 : decide (t257 = t261 && (t258 == t262)) = true := by simpa using c9))
        (try (have c9b2 : (t257 == t261 && (t258 == t262)) = true := by simpa using c9))
        clear c9
        by_cases c10 : (t255 == t263) = true
        · rw [if_pos c10] at H
          have c10b0 : (t255 == t263) = true := c10
          (try (have c10b1 : decide (t255 = t263) = true := by simpa using c10))
          (try (have c10b2 : (t255 == t263) = true := by simpa using c10))
          clear c10
          by_cases c11 : (t259 == t263) = true
          · rw [if_pos c11] at H
            have c11b0 : (t259 == t263) = true := c11
            (try (have c11b1 : decide (t259 = t263) = true := by simpa using c11))
            (try (have c11b2 : (t259 == t263) = true := by simpa using c11))
            clear c11
            replace H := Option.bind_eq_some_iff.mp H
            obtain ⟨t266, A120, H⟩ := H
            replace H : ((quintetref03_Within.f a0_0 a0_1 a1_0 a1_1).bind fun t267 => (if (t266 == t267) = true then ((span_Within.f a1_0 a1_1 a0_0 a0_1).bind fun t268 => ((quintetref03_Within.f a1_0 a1_1 a0_0 a0_1).bind fun t269 => (some (t268 == t269)))) else (some false))) = some r := H
            have A12 := Aside0.mk A120
            clear A120
            replace H := Option.bind_eq_some_iff.mp H
            obtain ⟨t267, A130, H⟩ := H
            replace H : (if (t266 == t267) = true then ((span_Within.f a1_0 a1_1 a0_0 a0_1).bind fun t268 => ((quintetref03_Within.f a1_0 a1_1 a0_0 a0_1).bind fun t269 => (some (t268 == t269)))) else (some false)) = some r := H
            have A13 := Aside0.mk A130
            clear A130
            by_cases c14 : (t266 == t267) = true
            · rw [if_pos c14] at H
              have c14b0 : (t266 == t267) = true := c14
              (try (have c14b1 : decide (t266 = t267) = true := by simpa using c14))
              (try (have c14b2 : (t266 == t267) = true := by simpa using c14))
              clear c14
              replace H := Option.bind_eq_some_iff.mp H
              obtain ⟨t268, A150, H⟩ := H
              replace H : ((quintetref03_Within.f a1_0 a1_1 a0_0 a0_1).bind fun t269 => (some (t268 == t269))) = some r := H
              have A15 := Aside0.mk A150
              clear A150
              replace H := Option.bind_eq_some_iff.mp H
              obtain ⟨t269, A160, H⟩ := H
              replace H : (some (t268 == t269)) = some r := H
              have A16 := Aside0.mk A160
              clear A160
              clear hrt
              obtain rfl := Option.some.inj H
              go_enter Try.func4, Try.ntmps4
              try go_wp2_with (first | ((with_reducible refine gate_dst (N := 2) rfl ?_); refine box_event ?hg (N := 2) ?hd (cs := #[.int .u16 a0_0, .int .u16 a0_1]) (t := 24) ?hr ?_; (case hd => rfl); (case hg => rfl); (case hr => first | (go_simp; done) | (go_simp; rfl)); intro gb251 hg w17 hbox hb; have n0_ := Aside0.mk (below_step (by repeat (first | (with_reducible first | exact HB.out | apply below_alloc | apply pw_below_drewN | apply below_drew1) | exact HB.out)) hb); have n1_ := Aside0.mk (hbox); have n2_ := Aside0.mk ((by rw [hg]; exact (below_size (by repeat (first | (with_reducible first | exact HB.out | apply below_alloc | apply pw_below_drewN | apply below_drew1) | exact HB.out))) : w.heap.size ≤ gb251)); have n3_ := Aside0.mk ((by rw [hg]; exact (below_size (by repeat (first | (with_reducible first | exact HB.out | apply below_alloc | apply pw_below_drewN | apply below_drew1) | exact HB.out))) : w.heap.size ≤ gb251)); clear HB; have HB := n0_; have BK251 := n1_; have GW251 := n2_; have GE251 := n3_; clear n0_ n1_ n2_ n3_; clear hb hbox hg) | ((with_reducible refine gate_dst (N := 3) rfl ?_); refine box_event ?hg (N := 3) ?hd (cs := #[.int .u16 a1_0, .int .u16 a1_1]) (t := 24) ?hr ?_; (case hd => rfl); (case hg => rfl); (case hr => first | (go_simp; done) | (go_simp; rfl)); intro gb252 hg w18 hbox hb; have n0_ := Aside0.mk (blk_below (g := gb251) (o := .cells #[.int .u16 a0_0, .int .u16 a0_1] 24 (0, 0)) (by (with_reducible repeat (first | refine blk_drewN ?_ _ | refine blk_drew ?_ | refine blk_alloc ?_ _)); exact BK251.out) hb); have n1_ := Aside0.mk (below_step (by repeat (first | (with_reducible first | exact HB.out | apply below_alloc | apply pw_below_drewN | apply below_drew1 | refine below_set ?_ GE251.out) | exact HB.out)) hb); have n2_ := Aside0.mk (hbox); have n3_ := Aside0.mk ((by rw [hg]; exact (below_size (by repeat (first | (with_reducible first | exact HB.out | apply below_alloc | apply pw_below_drewN | apply below_drew1 | refine below_set ?_ GE251.out) | exact HB.out))) : w.heap.size ≤ gb252)); have n4_ := Aside0.mk ((by rw [hg]; exact (below_size (by repeat (first | (with_reducible first | exact HB.out | apply below_alloc | apply pw_below_drewN | apply below_drew1 | refine below_set ?_ GE251.out) | exact HB.out))) : w.heap.size ≤ gb252)); have n5_ := Aside0.mk ((by rw [hg]; exact Nat.ne_of_lt (blk_lt (g := gb251) (o := .cells #[.int .u16 a0_0, .int .u16 a0_1] 24 (0, 0)) (by (with_reducible repeat (first | refine blk_drewN ?_ _ | refine blk_drew ?_ | refine blk_alloc ?_ _)); exact BK251.out)) : gb251 ≠ gb252)); have n6_ := Aside0.mk ((by rw [hg]; exact Nat.ne_of_gt (blk_lt (g := gb251) (o := .cells #[.int .u16 a0_0, .int .u16 a0_1] 24 (0, 0)) (by (with_reducible repeat (first | refine blk_drewN ?_ _ | refine blk_drew ?_ | refine blk_alloc ?_ _)); exact BK251.out)) : gb252 ≠ gb251)); clear BK251; clear HB; have BK251 := n0_; have HB := n1_; have BK252 := n2_; have GW252 := n3_; have GE252 := n4_; have NB251_252 := n5_; have NB252_251 := n6_; clear n0_ n1_ n2_ n3_ n4_ n5_ n6_; clear hb hbox hg; have hnb19 := NB251_252.out; have hnc19 := NB252_251.out; have hcz20_0 : w18.cell? ⟨gb251, 0, none⟩ = some (.int .u16 a0_0) := (blk_cell BK251.out 0).trans rfl; have hcz20_1 : w18.cell? ⟨gb251, 1, none⟩ = some (.int .u16 a0_1) := (blk_cell BK251.out 1).trans rfl; have hfz20_0 := blk_frozen BK251.out 0; have hfz20_1 := blk_frozen BK251.out 1; have hcz21_0 : w18.cell? ⟨gb252, 0, none⟩ = some (.int .u16 a1_0) := (blk_cell BK252.out 0).trans rfl; have hcz21_1 : w18.cell? ⟨gb252, 1, none⟩ = some (.int .u16 a1_1) := (blk_cell BK252.out 1).trans rfl; have hfz21_0 := blk_frozen BK252.out 0; have hfz21_1 := blk_frozen BK252.out 1) | ((with_reducible refine gate_callee (f := 18) rfl ?_); refine goesL_ (some 14) rfl rfl Try.func18 (by kernel_rfl) rfl #[.agg #[.int .u16 a0_0, .int .u16 a0_1], .agg #[.int .u16 a1_0, .int .u16 a1_1]] rfl (by (try simp only [List.map_toArray, List.map_cons, List.map_nil]); first | done | rfl | (simp only [List.length_drop, List.length_take]; rfl)) ?_; (with_reducible refine (span_Meet.calls a0_0 a0_1 a1_0 a1_1 t253 t254 t255 _ A3.out).mono ?_); rintro e w22 ⟨rfl, hb⟩; refine ⟨_, rfl, ?_⟩; have n0_ := Aside0.mk (blk_below (g := gb251) (o := .cells #[.int .u16 a0_0, .int .u16 a0_1] 24 (0, 0)) (by (with_reducible repeat (first | refine blk_drewN ?_ _ | refine blk_drew ?_ | refine blk_alloc ?_ _)); exact BK251.out) hb); have n1_ := Aside0.mk (blk_below (g := gb252) (o := .cells #[.int .u16 a1_0, .int .u16 a1_1] 24 (0, 0)) (by (with_reducible repeat (first | refine blk_drewN ?_ _ | refine blk_drew ?_ | refine blk_alloc ?_ _)); exact BK252.out) hb); have n2_ := Aside0.mk (below_step (by repeat (first | (with_reducible first | exact HB.out | apply below_alloc | apply pw_below_drewN | apply below_drew1 | refine below_set ?_ GE251.out | refine below_set ?_ GE252.out) | exact HB.out)) hb); clear BK251; clear BK252; clear HB; have BK251 := n0_; have BK252 := n1_; have HB := n2_; clear n0_ n1_ n2_; (try clear hb); (try clear hb2); (try clear hk); (try clear hi)) | ((with_reducible refine gate_dst (N := 5) rfl ?_); refine box_event ?hg (N := 5) ?hd (cs := #[.int .u16 0, .int .u16 0]) (t := 24) ?hr ?_; (case hd => rfl); (case hg => rfl); (case hr => first | (go_simp; done) | (go_simp; rfl)); intro gb256 hg w23 hbox hb; have n0_ := Aside0.mk (blk_below (g := gb251) (o := .cells #[.int .u16 a0_0, .int .u16 a0_1] 24 (0, 0)) (by (with_reducible repeat (first | refine blk_drewN ?_ _ | refine blk_drew ?_ | refine blk_alloc ?_ _)); exact BK251.out) hb); have n1_ := Aside0.mk (blk_below (g := gb252) (o := .cells #[.int .u16 a1_0, .int .u16 a1_1] 24 (0, 0)) (by (with_reducible repeat (first | refine blk_drewN ?_ _ | refine blk_drew ?_ | refine blk_alloc ?_ _)); exact BK252.out) hb); have n2_ := Aside0.mk (below_step (by repeat (first | (with_reducible first | exact HB.out | apply below_alloc | apply pw_below_drewN | apply below_drew1 | refine below_set ?_ GE251.out | refine below_set ?_ GE252.out) | exact HB.out)) hb); have n3_ := Aside0.mk (hbox); have n4_ := Aside0.mk ((by rw [hg]; exact (below_size (by repeat (first | (with_reducible first | exact HB.out | apply below_alloc | apply pw_below_drewN | apply below_drew1 | refine below_set ?_ GE251.out | refine below_set ?_ GE252.out) | exact HB.out))) : w.heap.size ≤ gb256)); have n5_ := Aside0.mk ((by rw [hg]; exact (below_size (by repeat (first | (with_reducible first | exact HB.out | apply below_alloc | apply pw_below_drewN | apply below_drew1 | refine below_set ?_ GE251.out | refine below_set ?_ GE252.out) | exact HB.out))) : w.heap.size ≤ gb256)); have n6_ := Aside0.mk ((by rw [hg]; exact Nat.ne_of_lt (blk_lt (g := gb251) (o := .cells #[.int .u16 a0_0, .int .u16 a0_1] 24 (0, 0)) (by (with_reducible repeat (first | refine blk_drewN ?_ _ | refine blk_drew ?_ | refine blk_alloc ?_ _)); exact BK251.out)) : gb251 ≠ gb256)); have n7_ := Aside0.mk ((by rw [hg]; exact Nat.ne_of_gt (blk_lt (g := gb251) (o := .cells #[.int .u16 a0_0, .int .u16 a0_1] 24 (0, 0)) (by (with_reducible repeat (first | refine blk_drewN ?_ _ | refine blk_drew ?_ | refine blk_alloc ?_ _)); exact BK251.out)) : gb256 ≠ gb251)); have n8_ := Aside0.mk ((by rw [hg]; exact Nat.ne_of_lt (blk_lt (g := gb252) (o := .cells #[.int .u16 a1_0, .int .u16 a1_1] 24 (0, 0)) (by (with_reducible repeat (first | refine blk_drewN ?_ _ | refine blk_drew ?_ | refine blk_alloc ?_ _)); exact BK252.out)) : gb252 ≠ gb256)); have n9_ := Aside0.mk ((by rw [hg]; exact Nat.ne_of_gt (blk_lt (g := gb252) (o := .cells #[.int .u16 a1_0, .int .u16 a1_1] 24 (0, 0)) (by (with_reducible repeat (first | refine blk_drewN ?_ _ | refine blk_drew ?_ | refine blk_alloc ?_ _)); exact BK252.out)) : gb256 ≠ gb252)); clear BK251; clear BK252; clear HB; have BK251 := n0_; have BK252 := n1_; have HB := n2_; have BK256 := n3_; have GW256 := n4_; have GE256 := n5_; have NB251_256 := n6_; have NB256_251 := n7_; have NB252_256 := n8_; have NB256_252 := n9_; clear n0_ n1_ n2_ n3_ n4_ n5_ n6_ n7_ n8_ n9_; clear hb hbox hg; have hnb24 := NB256_251.out; have hnc24 := NB251_256.out; have hnb25 := NB256_252.out; have hnc25 := NB252_256.out; have hcz26_0 : w23.cell? ⟨gb256, 0, none⟩ = some (.int .u16 0) := (blk_cell BK256.out 0).trans rfl; have hcz26_1 : w23.cell? ⟨gb256, 1, none⟩ = some (.int .u16 0) := (blk_cell BK256.out 1).trans rfl; have hfz26_0 := blk_frozen BK256.out 0; have hfz26_1 := blk_frozen BK256.out 1; have hcz27_0 : w23.cell? ⟨gb252, 0, none⟩ = some (.int .u16 a1_0) := (blk_cell BK252.out 0).trans rfl; have hcz27_1 : w23.cell? ⟨gb252, 1, none⟩ = some (.int .u16 a1_1) := (blk_cell BK252.out 1).trans rfl; have hfz27_0 := blk_frozen BK252.out 0; have hfz27_1 := blk_frozen BK252.out 1; have hcz28_0 : w23.cell? ⟨gb251, 0, none⟩ = some (.int .u16 a0_0) := (blk_cell BK251.out 0).trans rfl; have hcz28_1 : w23.cell? ⟨gb251, 1, none⟩ = some (.int .u16 a0_1) := (blk_cell BK251.out 1).trans rfl; have hfz28_0 := blk_frozen BK251.out 0; have hfz28_1 := blk_frozen BK251.out 1) | ((with_reducible refine gate_callee (f := 18) rfl ?_); refine goesL_ (some 20) rfl rfl Try.func18 (by kernel_rfl) rfl #[.agg #[.int .u16 a1_0, .int .u16 a1_1], .agg #[.int .u16 a0_0, .int .u16 a0_1]] rfl (by (try simp only [List.map_toArray, List.map_cons, List.map_nil]); first | done | rfl | (simp only [List.length_drop, List.length_take]; rfl)) ?_; (with_reducible refine (span_Meet.calls a1_0 a1_1 a0_0 a0_1 t257 t258 t259 _ A4.out).mono ?_); rintro e w29 ⟨rfl, hb⟩; refine ⟨_, rfl, ?_⟩; have n0_ := Aside0.mk (blk_below (g := gb251) (o := .cells #[.int .u16 a0_0, .int .u16 a0_1] 24 (0, 0)) (by (with_reducible repeat (first | refine blk_drewN ?_ _ | refine blk_drew ?_ | refine blk_alloc ?_ _)); refine blk_far ?_ NB251_256.out _; (with_reducible repeat (first | refine blk_drewN ?_ _ | refine blk_drew ?_ | refine blk_alloc ?_ _)); refine blk_far ?_ NB251_256.out _; (with_reducible repeat (first | refine blk_drewN ?_ _ | refine blk_drew ?_ | refine blk_alloc ?_ _)); exact BK251.out) hb); have n1_ := Aside0.mk (blk_below (g := gb252) (o := .cells #[.int .u16 a1_0, .int .u16 a1_1] 24 (0, 0)) (by (with_reducible repeat (first | refine blk_drewN ?_ _ | refine blk_drew ?_ | refine blk_alloc ?_ _)); refine blk_far ?_ NB252_256.out _; (with_reducible repeat (first | refine blk_drewN ?_ _ | refine blk_drew ?_ | refine blk_alloc ?_ _)); refine blk_far ?_ NB252_256.out _; (with_reducible repeat (first | refine blk_drewN ?_ _ | refine blk_drew ?_ | refine blk_alloc ?_ _)); exact BK252.out) hb); have n2_ := Aside0.mk (blk_below (g := gb256) (o := .cells #[.int .u16 t253, .int .u16 t254] 24 (0, 0)) (by (with_reducible repeat (first | refine blk_drewN ?_ _ | refine blk_drew ?_ | refine blk_alloc ?_ _)); refine blk_put (cs := #[.int .u16 t253, .int .u16 0]) ?_ 1 _ rfl; (with_reducible repeat (first | refine blk_drewN ?_ _ | refine blk_drew ?_ | refine blk_alloc ?_ _)); refine blk_put (cs := #[.int .u16 0, .int .u16 0]) ?_ 0 _ rfl; (with_reducible repeat (first | refine blk_drewN ?_ _ | refine blk_drew ?_ | refine blk_alloc ?_ _)); exact BK256.out) hb); have n3_ := Aside0.mk (below_step (by repeat (first | (with_reducible first | exact HB.out | apply below_alloc | apply pw_below_drewN | apply below_drew1 | refine below_set ?_ GE251.out | refine below_set ?_ GE252.out | refine below_set ?_ GE256.out) | exact HB.out)) hb); clear BK251; clear BK252; clear BK256; clear HB; have BK251 := n0_; have BK252 := n1_; have BK256 := n2_; have HB := n3_; clear n0_ n1_ n2_ n3_; (try clear hb); (try clear hb2); (try clear hk); (try clear hi)) | ((with_reducible refine gate_dst (N := 7) rfl ?_); refine box_event ?hg (N := 7) ?hd (cs := #[.int .u16 0, .int .u16 0]) (t := 24) ?hr ?_; (case hd => rfl); (case hg => rfl); (case hr => first | (go_simp; done) | (go_simp; rfl)); intro gb260 hg w30 hbox hb; have n0_ := Aside0.mk (blk_below (g := gb251) (o := .cells #[.int .u16 a0_0, .int .u16 a0_1] 24 (0, 0)) (by (with_reducible repeat (first | refine blk_drewN ?_ _ | refine blk_drew ?_ | refine blk_alloc ?_ _)); exact BK251.out) hb); have n1_ := Aside0.mk (blk_below (g := gb252) (o := .cells #[.int .u16 a1_0, .int .u16 a1_1] 24 (0, 0)) (by (with_reducible repeat (first | refine blk_drewN ?_ _ | refine blk_drew ?_ | refine blk_alloc ?_ _)); exact BK252.out) hb); have n2_ := Aside0.mk (blk_below (g := gb256) (o := .cells #[.int .u16 t253, .int .u16 t254] 24 (0, 0)) (by (with_reducible repeat (first | refine blk_drewN ?_ _ | refine blk_drew ?_ | refine blk_alloc ?_ _)); exact BK256.out) hb); have n3_ := Aside0.mk (below_step (by repeat (first | (with_reducible first | exact HB.out | apply below_alloc | apply pw_below_drewN | apply below_drew1 | refine below_set ?_ GE251.out | refine below_set ?_ GE252.out | refine below_set ?_ GE256.out) | exact HB.out)) hb); have n4_ := Aside0.mk (hbox); have n5_ := Aside0.mk ((by rw [hg]; exact (below_size (by repeat (first | (with_reducible first | exact HB.out | apply below_alloc | apply pw_below_drewN | apply below_drew1 | refine below_set ?_ GE251.out | refine below_set ?_ GE252.out | refine below_set ?_ GE256.out) | exact HB.out))) : w.heap.size ≤ gb260)); have n6_ := Aside0.mk ((by rw [hg]; exact (below_size (by repeat (first | (with_reducible first | exact HB.out | apply below_alloc | apply pw_below_drewN | apply below_drew1 | refine below_set ?_ GE251.out | refine below_set ?_ GE252.out | refine below_set ?_ GE256.out) | exact HB.out))) : w.heap.size ≤ gb260)); have n7_ := Aside0.mk ((by rw [hg]; exact Nat.ne_of_lt (blk_lt (g := gb251) (o := .cells #[.int .u16 a0_0, .int .u16 a0_1] 24 (0, 0)) (by (with_reducible repeat (first | refine blk_drewN ?_ _ | refine blk_drew ?_ | refine blk_alloc ?_ _)); exact BK251.out)) : gb251 ≠ gb260)); have n8_ := Aside0.mk ((by rw [hg]; exact Nat.ne_of_gt (blk_lt (g := gb251) (o := .cells #[.int .u16 a0_0, .int .u16 a0_1] 24 (0, 0)) (by (with_reducible repeat (first | refine blk_drewN ?_ _ | refine blk_drew ?_ | refine blk_alloc ?_ _)); exact BK251.out)) : gb260 ≠ gb251)); have n9_ := Aside0.mk ((by rw [hg]; exact Nat.ne_of_lt (blk_lt (g := gb252) (o := .cells #[.int .u16 a1_0, .int .u16 a1_1] 24 (0, 0)) (by (with_reducible repeat (first | refine blk_drewN ?_ _ | refine blk_drew ?_ | refine blk_alloc ?_ _)); exact BK252.out)) : gb252 ≠ gb260)); have n10_ := Aside0.mk ((by rw [hg]; exact Nat.ne_of_gt (blk_lt (g := gb252) (o := .cells #[.int .u16 a1_0, .int .u16 a1_1] 24 (0, 0)) (by (with_reducible repeat (first | refine blk_drewN ?_ _ | refine blk_drew ?_ | refine blk_alloc ?_ _)); exact BK252.out)) : gb260 ≠ gb252)); have n11_ := Aside0.mk ((by rw [hg]; exact Nat.ne_of_lt (blk_lt (g := gb256) (o := .cells #[.int .u16 t253, .int .u16 t254] 24 (0, 0)) (by (with_reducible repeat (first | refine blk_drewN ?_ _ | refine blk_drew ?_ | refine blk_alloc ?_ _)); exact BK256.out)) : gb256 ≠ gb260)); have n12_ := Aside0.mk ((by rw [hg]; exact Nat.ne_of_gt (blk_lt (g := gb256) (o := .cells #[.int .u16 t253, .int .u16 t254] 24 (0, 0)) (by (with_reducible repeat (first | refine blk_drewN ?_ _ | refine blk_drew ?_ | refine blk_alloc ?_ _)); exact BK256.out)) : gb260 ≠ gb256)); clear BK251; clear BK252; clear BK256; clear HB; have BK251 := n0_; have BK252 := n1_; have BK256 := n2_; have HB := n3_; have BK260 := n4_; have GW260 := n5_; have GE260 := n6_; have NB251_260 := n7_; have NB260_251 := n8_; have NB252_260 := n9_; have NB260_252 := n10_; have NB256_260 := n11_; have NB260_256 := n12_; clear n0_ n1_ n2_ n3_ n4_ n5_ n6_ n7_ n8_ n9_ n10_ n11_ n12_; clear hb hbox hg; have hnb31 := NB260_251.out; have hnc31 := NB251_260.out; have hnb32 := NB260_252.out; have hnc32 := NB252_260.out; have hnb33 := NB260_256.out; have hnc33 := NB256_260.out; have hcz34_0 : w30.cell? ⟨gb260, 0, none⟩ = some (.int .u16 0) := (blk_cell BK260.out 0).trans rfl; have hcz34_1 : w30.cell? ⟨gb260, 1, none⟩ = some (.int .u16 0) := (blk_cell BK260.out 1).trans rfl; have hfz34_0 := blk_frozen BK260.out 0; have hfz34_1 := blk_frozen BK260.out 1; have hcz35_0 : w30.cell? ⟨gb251, 0, none⟩ = some (.int .u16 a0_0) := (blk_cell BK251.out 0).trans rfl; have hcz35_1 : w30.cell? ⟨gb251, 1, none⟩ = some (.int .u16 a0_1) := (blk_cell BK251.out 1).trans rfl; have hfz35_0 := blk_frozen BK251.out 0; have hfz35_1 := blk_frozen BK251.out 1; have hcz36_0 : w30.cell? ⟨gb252, 0, none⟩ = some (.int .u16 a1_0) := (blk_cell BK252.out 0).trans rfl; have hcz36_1 : w30.cell? ⟨gb252, 1, none⟩ = some (.int .u16 a1_1) := (blk_cell BK252.out 1).trans rfl; have hfz36_0 := blk_frozen BK252.out 0; have hfz36_1 := blk_frozen BK252.out 1) | ((with_reducible refine gate_callee (f := 19) rfl ?_); refine goesL_ (some 26) rfl rfl Try.func19 (by kernel_rfl) rfl #[.agg #[.int .u16 a0_0, .int .u16 a0_1], .agg #[.int .u16 a1_0, .int .u16 a1_1]] rfl (by (try simp only [List.map_toArray, List.map_cons, List.map_nil]); first | done | rfl | (simp only [List.length_drop, List.length_take]; rfl)) ?_; (with_reducible refine (quintetref03_Meet.calls k a0_0 a0_1 a1_0 a1_1 t261 t262 t263 _ A5.out).mono ?_); rintro e w37 ⟨rfl, hb⟩; refine ⟨_, rfl, ?_⟩; have n0_ := Aside0.mk (blk_below (g := gb251) (o := .cells #[.int .u16 a0_0, .int .u16 a0_1] 24 (0, 0)) (by (with_reducible repeat (first | refine blk_drewN ?_ _ | refine blk_drew ?_ | refine blk_alloc ?_ _)); refine blk_far ?_ NB251_260.out _; (with_reducible repeat (first | refine blk_drewN ?_ _ | refine blk_drew ?_ | refine blk_alloc ?_ _)); refine blk_far ?_ NB251_260.out _; (with_reducible repeat (first | refine blk_drewN ?_ _ | refine blk_drew ?_ | refine blk_alloc ?_ _)); exact BK251.out) hb); have n1_ := Aside0.mk (blk_below (g := gb252) (o := .cells #[.int .u16 a1_0, .int .u16 a1_1] 24 (0, 0)) (by (with_reducible repeat (first | refine blk_drewN ?_ _ | refine blk_drew ?_ | refine blk_alloc ?_ _)); refine blk_far ?_ NB252_260.out _; (with_reducible repeat (first | refine blk_drewN ?_ _ | refine blk_drew ?_ | refine blk_alloc ?_ _)); refine blk_far ?_ NB252_260.out _; (with_reducible repeat (first | refine blk_drewN ?_ _ | refine blk_drew ?_ | refine blk_alloc ?_ _)); exact BK252.out) hb); have n2_ := Aside0.mk (blk_below (g := gb256) (o := .cells #[.int .u16 t253, .int .u16 t254] 24 (0, 0)) (by (with_reducible repeat (first | refine blk_drewN ?_ _ | refine blk_drew ?_ | refine blk_alloc ?_ _)); refine blk_far ?_ NB256_260.out _; (with_reducible repeat (first | refine blk_drewN ?_ _ | refine blk_drew ?_ | refine blk_alloc ?_ _)); refine blk_far ?_ NB256_260.out _; (with_reducible repeat (first | refine blk_drewN ?_ _ | refine blk_drew ?_ | refine blk_alloc ?_ _)); exact BK256.out) hb); have n3_ := Aside0.mk (blk_below (g := gb260) (o := .cells #[.int .u16 t257, .int .u16 t258] 24 (0, 0)) (by (with_reducible repeat (first | refine blk_drewN ?_ _ | refine blk_drew ?_ | refine blk_alloc ?_ _)); refine blk_put (cs := #[.int .u16 t257, .int .u16 0]) ?_ 1 _ rfl; (with_reducible repeat (first | refine blk_drewN ?_ _ | refine blk_drew ?_ | refine blk_alloc ?_ _)); refine blk_put (cs := #[.int .u16 0, .int .u16 0]) ?_ 0 _ rfl; (with_reducible repeat (first | refine blk_drewN ?_ _ | refine blk_drew ?_ | refine blk_alloc ?_ _)); exact BK260.out) hb); have n4_ := Aside0.mk (below_step (by repeat (first | (with_reducible first | exact HB.out | apply below_alloc | apply pw_below_drewN | apply below_drew1 | refine below_set ?_ GE251.out | refine below_set ?_ GE252.out | refine below_set ?_ GE256.out | refine below_set ?_ GE260.out) | exact HB.out)) hb); clear BK251; clear BK252; clear BK256; clear BK260; clear HB; have BK251 := n0_; have BK252 := n1_; have BK256 := n2_; have BK260 := n3_; have HB := n4_; clear n0_ n1_ n2_ n3_ n4_; (try clear hb); (try clear hb2); (try clear hk); (try clear hi)) | ((with_reducible refine gate_dst (N := 9) rfl ?_); refine box_event ?hg (N := 9) ?hd (cs := #[.int .u16 0, .int .u16 0]) (t := 24) ?hr ?_; (case hd => rfl); (case hg => rfl); (case hr => first | (go_simp; done) | (go_simp; rfl)); intro gb264 hg w38 hbox hb; have n0_ := Aside0.mk (blk_below (g := gb251) (o := .cells #[.int .u16 a0_0, .int .u16 a0_1] 24 (0, 0)) (by (with_reducible repeat (first | refine blk_drewN ?_ _ | refine blk_drew ?_ | refine blk_alloc ?_ _)); exact BK251.out) hb); have n1_ := Aside0.mk (blk_below (g := gb252) (o := .cells #[.int .u16 a1_0, .int .u16 a1_1] 24 (0, 0)) (by (with_reducible repeat (first | refine blk_drewN ?_ _ | refine blk_drew ?_ | refine blk_alloc ?_ _)); exact BK252.out) hb); have n2_ := Aside0.mk (blk_below (g := gb256) (o := .cells #[.int .u16 t253, .int .u16 t254] 24 (0, 0)) (by (with_reducible repeat (first | refine blk_drewN ?_ _ | refine blk_drew ?_ | refine blk_alloc ?_ _)); exact BK256.out) hb); have n3_ := Aside0.mk (blk_below (g := gb260) (o := .cells #[.int .u16 t257, .int .u16 t258] 24 (0, 0)) (by (with_reducible repeat (first | refine blk_drewN ?_ _ | refine blk_drew ?_ | refine blk_alloc ?_ _)); exact BK260.out) hb); have n4_ := Aside0.mk (below_step (by repeat (first | (with_reducible first | exact HB.out | apply below_alloc | apply pw_below_drewN | apply below_drew1 | refine below_set ?_ GE251.out | refine below_set ?_ GE252.out | refine below_set ?_ GE256.out | refine below_set ?_ GE260.out) | exact HB.out)) hb); have n5_ := Aside0.mk (hbox); have n6_ := Aside0.mk ((by rw [hg]; exact (below_size (by repeat (first | (with_reducible first | exact HB.out | apply below_alloc | apply pw_below_drewN | apply below_drew1 | refine below_set ?_ GE251.out | refine below_set ?_ GE252.out | refine below_set ?_ GE256.out | refine below_set ?_ GE260.out) | exact HB.out))) : w.heap.size ≤ gb264)); have n7_ := Aside0.mk ((by rw [hg]; exact (below_size (by repeat (first | (with_reducible first | exact HB.out | apply below_alloc | apply pw_below_drewN | apply below_drew1 | refine below_set ?_ GE251.out | refine below_set ?_ GE252.out | refine below_set ?_ GE256.out | refine below_set ?_ GE260.out) | exact HB.out))) : w.heap.size ≤ gb264)); have n8_ := Aside0.mk ((by rw [hg]; exact Nat.ne_of_lt (blk_lt (g := gb251) (o := .cells #[.int .u16 a0_0, .int .u16 a0_1] 24 (0, 0)) (by (with_reducible repeat (first | refine blk_drewN ?_ _ | refine blk_drew ?_ | refine blk_alloc ?_ _)); exact BK251.out)) : gb251 ≠ gb264)); have n9_ := Aside0.mk ((by rw [hg]; exact Nat.ne_of_gt (blk_lt (g := gb251) (o := .cells #[.int .u16 a0_0, .int .u16 a0_1] 24 (0, 0)) (by (with_reducible repeat (first | refine blk_drewN ?_ _ | refine blk_drew ?_ | refine blk_alloc ?_ _)); exact BK251.out)) : gb264 ≠ gb251)); have n10_ := Aside0.mk ((by rw [hg]; exact Nat.ne_of_lt (blk_lt (g := gb252) (o := .cells #[.int .u16 a1_0, .int .u16 a1_1] 24 (0, 0)) (by (with_reducible repeat (first | refine blk_drewN ?_ _ | refine blk_drew ?_ | refine blk_alloc ?_ _)); exact BK252.out)) : gb252 ≠ gb264)); have n11_ := Aside0.mk ((by rw [hg]; exact Nat.ne_of_gt (blk_lt (g := gb252) (o := .cells #[.int .u16 a1_0, .int .u16 a1_1] 24 (0, 0)) (by (with_reducible repeat (first | refine blk_drewN ?_ _ | refine blk_drew ?_ | refine blk_alloc ?_ _)); exact BK252.out)) : gb264 ≠ gb252)); have n12_ := Aside0.mk ((by rw [hg]; exact Nat.ne_of_lt (blk_lt (g := gb256) (o := .cells #[.int .u16 t253, .int .u16 t254] 24 (0, 0)) (by (with_reducible repeat (first | refine blk_drewN ?_ _ | refine blk_drew ?_ | refine blk_alloc ?_ _)); exact BK256.out)) : gb256 ≠ gb264)); have n13_ := Aside0.mk ((by rw [hg]; exact Nat.ne_of_gt (blk_lt (g := gb256) (o := .cells #[.int .u16 t253, .int .u16 t254] 24 (0, 0)) (by (with_reducible repeat (first | refine blk_drewN ?_ _ | refine blk_drew ?_ | refine blk_alloc ?_ _)); exact BK256.out)) : gb264 ≠ gb256)); have n14_ := Aside0.mk ((by rw [hg]; exact Nat.ne_of_lt (blk_lt (g := gb260) (o := .cells #[.int .u16 t257, .int .u16 t258] 24 (0, 0)) (by (with_reducible repeat (first | refine blk_drewN ?_ _ | refine blk_drew ?_ | refine blk_alloc ?_ _)); exact BK260.out)) : gb260 ≠ gb264)); have n15_ := Aside0.mk ((by rw [hg]; exact Nat.ne_of_gt (blk_lt (g := gb260) (o := .cells #[.int .u16 t257, .int .u16 t258] 24 (0, 0)) (by (with_reducible repeat (first | refine blk_drewN ?_ _ | refine blk_drew ?_ | refine blk_alloc ?_ _)); exact BK260.out)) : gb264 ≠ gb260)); clear BK251; clear BK252; clear BK256; clear BK260; clear HB; have BK251 := n0_; have BK252 := n1_; have BK256 := n2_; have BK260 := n3_; have HB := n4_; have BK264 := n5_; have GW264 := n6_; have GE264 := n7_; have NB251_264 := n8_; have NB264_251 := n9_; have NB252_264 := n10_; have NB264_252 := n11_; have NB256_264 := n12_; have NB264_256 := n13_; have NB260_264 := n14_; have NB264_260 := n15_; clear n0_ n1_ n2_ n3_ n4_ n5_ n6_ n7_ n8_ n9_ n10_ n11_ n12_ n13_ n14_ n15_; clear hb hbox hg; have hnb39 := NB264_251.out; have hnc39 := NB251_264.out; have hnb40 := NB264_252.out; have hnc40 := NB252_264.out; have hnb41 := NB264_256.out; have hnc41 := NB256_264.out; have hnb42 := NB264_260.out; have hnc42 := NB260_264.out; have hcz43_0 : w38.cell? ⟨gb264, 0, none⟩ = some (.int .u16 0) := (blk_cell BK264.out 0).trans rfl; have hcz43_1 : w38.cell? ⟨gb264, 1, none⟩ = some (.int .u16 0) := (blk_cell BK264.out 1).trans rfl; have hfz43_0 := blk_frozen BK264.out 0; have hfz43_1 := blk_frozen BK264.out 1))
              have n0_ : Aside0 (((w38.setCell ⟨gb264, 0, none⟩ (.int .u16 t261)).setCell ⟨gb264, 1, none⟩ (.int .u16 t262)).heap[gb251]? = some (.cells #[.int .u16 a0_0, .int .u16 a0_1] 24 (0, 0))) := ⟨by (with_reducible repeat (first | refine blk_drewN ?_ _ | refine blk_drew ?_ | refine blk_alloc ?_ _)); refine blk_far ?_ NB251_264.out _; (with_reducible repeat (first | refine blk_drewN ?_ _ | refine blk_drew ?_ | refine blk_alloc ?_ _)); refine blk_far ?_ NB251_264.out _; (with_reducible repeat (first | refine blk_drewN ?_ _ | refine blk_drew ?_ | refine blk_alloc ?_ _)); exact BK251.out⟩
              have n1_ : Aside0 (((w38.setCell ⟨gb264, 0, none⟩ (.int .u16 t261)).setCell ⟨gb264, 1, none⟩ (.int .u16 t262)).heap[gb252]? = some (.cells #[.int .u16 a1_0, .int .u16 a1_1] 24 (0, 0))) := ⟨by (with_reducible repeat (first | refine blk_drewN ?_ _ | refine blk_drew ?_ | refine blk_alloc ?_ _)); refine blk_far ?_ NB252_264.out _; (with_reducible repeat (first | refine blk_drewN ?_ _ | refine blk_drew ?_ | refine blk_alloc ?_ _)); refine blk_far ?_ NB252_264.out _; (with_reducible repeat (first | refine blk_drewN ?_ _ | refine blk_drew ?_ | refine blk_alloc ?_ _)); exact BK252.out⟩
              have n2_ : Aside0 (((w38.setCell ⟨gb264, 0, none⟩ (.int .u16 t261)).setCell ⟨gb264, 1, none⟩ (.int .u16 t262)).heap[gb256]? = some (.cells #[.int .u16 t253, .int .u16 t254] 24 (0, 0))) := ⟨by (with_reducible repeat (first | refine blk_drewN ?_ _ | refine blk_drew ?_ | refine blk_alloc ?_ _)); refine blk_far ?_ NB256_264.out _; (with_reducible repeat (first | refine blk_drewN ?_ _ | refine blk_drew ?_ | refine blk_alloc ?_ _)); refine blk_far ?_ NB256_264.out _; (with_reducible repeat (first | refine blk_drewN ?_ _ | refine blk_drew ?_ | refine blk_alloc ?_ _)); exact BK256.out⟩
              have n3_ : Aside0 (((w38.setCell ⟨gb264, 0, none⟩ (.int .u16 t261)).setCell ⟨gb264, 1, none⟩ (.int .u16 t262)).heap[gb260]? = some (.cells #[.int .u16 t257, .int .u16 t258] 24 (0, 0))) := ⟨by (with_reducible repeat (first | refine blk_drewN ?_ _ | refine blk_drew ?_ | refine blk_alloc ?_ _)); refine blk_far ?_ NB260_264.out _; (with_reducible repeat (first | refine blk_drewN ?_ _ | refine blk_drew ?_ | refine blk_alloc ?_ _)); refine blk_far ?_ NB260_264.out _; (with_reducible repeat (first | refine blk_drewN ?_ _ | refine blk_drew ?_ | refine blk_alloc ?_ _)); exact BK260.out⟩
              have n4_ : Aside0 (((w38.setCell ⟨gb264, 0, none⟩ (.int .u16 t261)).setCell ⟨gb264, 1, none⟩ (.int .u16 t262)).heap[gb264]? = some (.cells #[.int .u16 t261, .int .u16 t262] 24 (0, 0))) := ⟨by (with_reducible repeat (first | refine blk_drewN ?_ _ | refine blk_drew ?_ | refine blk_alloc ?_ _)); refine blk_put (cs := #[.int .u16 t261, .int .u16 0]) ?_ 1 _ rfl; (with_reducible repeat (first | refine blk_drewN ?_ _ | refine blk_drew ?_ | refine blk_alloc ?_ _)); refine blk_put (cs := #[.int .u16 0, .int .u16 0]) ?_ 0 _ rfl; (with_reducible repeat (first | refine blk_drewN ?_ _ | refine blk_drew ?_ | refine blk_alloc ?_ _)); exact BK264.out⟩
              have n5_ : Aside0 (Below w.heap.size w ((w38.setCell ⟨gb264, 0, none⟩ (.int .u16 t261)).setCell ⟨gb264, 1, none⟩ (.int .u16 t262))) := ⟨by repeat (first | (with_reducible first | exact HB.out | apply below_alloc | apply pw_below_drewN | apply below_drew1 | refine below_set ?_ GE251.out | refine below_set ?_ GE252.out | refine below_set ?_ GE256.out | refine below_set ?_ GE260.out | refine below_set ?_ GE264.out) | exact HB.out)⟩
              (try clear BK251)
              (try clear BK252)
              (try clear BK256)
              (try clear BK260)
              (try clear BK264)
              (try clear HB)
              generalize ((w38.setCell ⟨gb264, 0, none⟩ (.int .u16 t261)).setCell ⟨gb264, 1, none⟩ (.int .u16 t262)) = w44 at n0_ n1_ n2_ n3_ n4_ n5_ ⊢
              have BK251 := n0_
              have BK252 := n1_
              have BK256 := n2_
              have BK260 := n3_
              have BK264 := n4_
              have HB := n5_
              clear n0_ n1_ n2_ n3_ n4_ n5_
              have n0_ := Aside0.mk (blk_drew BK251.out)
              have n1_ := Aside0.mk (blk_drew BK252.out)
              have n2_ := Aside0.mk (blk_drew BK256.out)
              have n3_ := Aside0.mk (blk_drew BK260.out)
              have n4_ := Aside0.mk (blk_drew BK264.out)
              have n5_ := Aside0.mk (below_drew1 HB.out)
              clear BK251
              clear BK252
              clear BK256
              clear BK260
              clear BK264
              clear HB
              have BK251 := n0_
              have BK252 := n1_
              have BK256 := n2_
              have BK260 := n3_
              have BK264 := n4_
              have HB := n5_
              clear n0_ n1_ n2_ n3_ n4_ n5_
              refine start_ (n := 40) (S := fun w' => w'.cell? ⟨gb256, 0, none⟩ = some (.int .u16 t253) ∧ w'.cell? ⟨gb256, 1, none⟩ = some (.int .u16 t254) ∧ w'.cell? ⟨gb264, 0, none⟩ = some (.int .u16 t261) ∧ w'.cell? ⟨gb264, 1, none⟩ = some (.int .u16 t262) ∧ w'.cell? ⟨gb260, 0, none⟩ = some (.int .u16 t257) ∧ w'.cell? ⟨gb260, 1, none⟩ = some (.int .u16 t258) ∧ w'.cell? ⟨gb251, 0, none⟩ = some (.int .u16 a0_0) ∧ w'.cell? ⟨gb251, 1, none⟩ = some (.int .u16 a0_1) ∧ w'.cell? ⟨gb252, 0, none⟩ = some (.int .u16 a1_0) ∧ w'.cell? ⟨gb252, 1, none⟩ = some (.int .u16 a1_1)) (ds := []) #[false, false, false, false, false, false, false, false, false, false, false, false, false, false, false, false, false, false, false, false, false, false, false, false, false, false, false, false, false, false, false, false, false, false, false, false, false, false, false, false] (by kernel_rfl) rfl rfl ⟨(blk_cell BK256.out 0).trans rfl, (blk_cell BK256.out 1).trans rfl, (blk_cell BK264.out 0).trans rfl, (blk_cell BK264.out 1).trans rfl, (blk_cell BK260.out 0).trans rfl, (blk_cell BK260.out 1).trans rfl, (blk_cell BK251.out 0).trans rfl, (blk_cell BK251.out 1).trans rfl, (blk_cell BK252.out 0).trans rfl, (blk_cell BK252.out 1).trans rfl⟩ (fun hHeld => ?_); refine with_tabW quintetlaw03_SpanMeets.tab4 quintetlaw03_SpanMeets.bits4 (fun HT_ HW_ => ?_)
              generalize w44.drew = w45 at BK251 BK252 BK256 BK260 BK264 HB hHeld ⊢
              refine one_ (i := 0) (N := some 29) #[true, false, false, false, false, false, false, false, false, false, false, false, false, false, false, false, false, false, false, false, false, false, false, false, false, false, false, false, false, false, false, false, false, false, false, false, false, false, false, false] rfl rfl (one_of HT_.out (by kernel_rfl)) (by decide) (fun K hK => ?_)
              refine goes_ Try.func11 (by kernel_rfl) rfl #[] (by rfl) rfl rfl (by (try simp only [List.map_toArray, List.map_cons, List.map_nil]); first | done | rfl | (simp only [List.length_drop, List.length_take]; rfl)) ?_
              with_reducible refine (quintetlaw03_awake.calls k  true _ A6.out).mono ?_
              rintro e w46 ⟨rfl, hb⟩
              refine ⟨_, rfl, ?_⟩
              have n0_ := Aside0.mk (blk_below (g := gb251) (o := .cells #[.int .u16 a0_0, .int .u16 a0_1] 24 (0, 0)) (by (with_reducible repeat (first | refine blk_drewN ?_ _ | refine blk_drew ?_ | refine blk_alloc ?_ _)); exact BK251.out) hb)
              have n1_ := Aside0.mk (blk_below (g := gb252) (o := .cells #[.int .u16 a1_0, .int .u16 a1_1] 24 (0, 0)) (by (with_reducible repeat (first | refine blk_drewN ?_ _ | refine blk_drew ?_ | refine blk_alloc ?_ _)); exact BK252.out) hb)
              have n2_ := Aside0.mk (blk_below (g := gb256) (o := .cells #[.int .u16 t253, .int .u16 t254] 24 (0, 0)) (by (with_reducible repeat (first | refine blk_drewN ?_ _ | refine blk_drew ?_ | refine blk_alloc ?_ _)); exact BK256.out) hb)
              have n3_ := Aside0.mk (blk_below (g := gb260) (o := .cells #[.int .u16 t257, .int .u16 t258] 24 (0, 0)) (by (with_reducible repeat (first | refine blk_drewN ?_ _ | refine blk_drew ?_ | refine blk_alloc ?_ _)); exact BK260.out) hb)
              have n4_ := Aside0.mk (blk_below (g := gb264) (o := .cells #[.int .u16 t261, .int .u16 t262] 24 (0, 0)) (by (with_reducible repeat (first | refine blk_drewN ?_ _ | refine blk_drew ?_ | refine blk_alloc ?_ _)); exact BK264.out) hb)
              have n5_ := Aside0.mk (below_step (by repeat (first | (with_reducible first | exact HB.out | apply below_alloc | apply pw_below_drewN | apply below_drew1 | refine below_set ?_ GE251.out | refine below_set ?_ GE252.out | refine below_set ?_ GE256.out | refine below_set ?_ GE260.out | refine below_set ?_ GE264.out) | exact HB.out)) hb)
              clear BK251
              clear BK252
              clear BK256
              clear BK260
              clear BK264
              clear HB
              have BK251 := n0_
              have BK252 := n1_
              have BK256 := n2_
              have BK260 := n3_
              have BK264 := n4_
              have HB := n5_
              clear n0_ n1_ n2_ n3_ n4_ n5_
              (try clear hb)
              (try clear hb2)
              (try clear hk)
              (try clear hi)
              refine hK.out _ _ ⟨(blk_cell BK256.out 0).trans rfl, (blk_cell BK256.out 1).trans rfl, (blk_cell BK264.out 0).trans rfl, (blk_cell BK264.out 1).trans rfl, (blk_cell BK260.out 0).trans rfl, (blk_cell BK260.out 1).trans rfl, (blk_cell BK251.out 0).trans rfl, (blk_cell BK251.out 1).trans rfl, (blk_cell BK252.out 0).trans rfl, (blk_cell BK252.out 1).trans rfl⟩ (fun hHeld => ?_)
              clear hK K
              refine norm_ (a' := ?_) ?_ ?_
              rotate_left
              · show Act.put _ (some 29) _ = _
                simp only [Act.put, List.setIfInBounds_toArray, List.set_cons_zero, List.set_cons_succ, i64_w, i32_w]
                rfl
              refine pure_ (i := 1) (N := some 30) (v := ?_) (a' := ?_) #[true, true, false, false, false, false, false, false, false, false, false, false, false, false, false, false, false, false, false, false, false, false, false, false, false, false, false, false, false, false, false, false, false, false, false, false, false, false, false, false] rfl rfl (any_of HT_.out (by kernel_rfl)) (fun _ _ _ h => h) (Or.inl ⟨by rfl, ?_⟩) ?_ ?_
              rotate_left
              · intro w'
                go_simp
                with_reducible rfl
              rotate_left
              · simp only [Act.put, List.setIfInBounds_toArray, List.set_cons_zero, List.set_cons_succ, i64_w, i32_w]
                rfl
              refine take_ (i := 2) (N := some 31) (v := ?_) (a' := ?_) #[true, true, true, false, false, false, false, false, false, false, false, false, false, false, false, false, false, false, false, false, false, false, false, false, false, false, false, false, false, false, false, false, false, false, false, false, false, false, false, false] rfl rfl (take_ofW HT_.out HW_.out (by kernel_rfl)) (fun _ _ _ h => h) (Or.inl ⟨by rfl, ?_⟩) hHeld ?_ ?_
              rotate_left
              · rintro w' ⟨s0, s1, s2, s3, s4, s5, s6, s7, s8, s9⟩
                go_simp
                with_reducible rfl
              rotate_left
              · simp only [Act.put, List.setIfInBounds_toArray, List.set_cons_zero, List.set_cons_succ, i64_w, i32_w]
                rfl
              refine take_ (i := 3) (N := some 32) (v := ?_) (a' := ?_) #[true, true, true, true, false, false, false, false, false, false, false, false, false, false, false, false, false, false, false, false, false, false, false, false, false, false, false, false, false, false, false, false, false, false, false, false, false, false, false, false] rfl rfl (take_ofW HT_.out HW_.out (by kernel_rfl)) (fun _ _ _ h => h) (Or.inl ⟨by rfl, ?_⟩) hHeld ?_ ?_
              rotate_left
              · rintro w' ⟨s0, s1, s2, s3, s4, s5, s6, s7, s8, s9⟩
                go_simp
                with_reducible rfl
              rotate_left
              · simp only [Act.put, List.setIfInBounds_toArray, List.set_cons_zero, List.set_cons_succ, i64_w, i32_w]
                rfl
              refine pure_ (i := 4) (N := some 33) (v := ?_) (a' := ?_) #[true, true, true, true, true, false, false, false, false, false, false, false, false, false, false, false, false, false, false, false, false, false, false, false, false, false, false, false, false, false, false, false, false, false, false, false, false, false, false, false] rfl rfl (any_of HT_.out (by kernel_rfl)) (fun _ _ _ h => h) (Or.inl ⟨by rfl, ?_⟩) ?_ ?_
              rotate_left
              · intro w'
                go_simp
                with_reducible rfl
              rotate_left
              · simp only [Act.put, List.setIfInBounds_toArray, List.set_cons_zero, List.set_cons_succ, i64_w, i32_w]
                rfl
              refine pure_ (i := 5) (N := some 34) (v := ?_) (a' := ?_) #[true, true, true, true, true, true, false, false, false, false, false, false, false, false, false, false, false, false, false, false, false, false, false, false, false, false, false, false, false, false, false, false, false, false, false, false, false, false, false, false] rfl rfl (any_of HT_.out (by kernel_rfl)) (fun _ _ _ h => h) (Or.inl ⟨by rfl, ?_⟩) ?_ ?_
              rotate_left
              · intro w'
                go_simp
                with_reducible rfl
              rotate_left
              · simp only [Act.put, List.setIfInBounds_toArray, List.set_cons_zero, List.set_cons_succ, i64_w, i32_w]
                rfl
              refine pure_ (i := 6) (N := some 35) (v := ?_) (a' := ?_) #[true, true, true, true, true, true, true, false, false, false, false, false, false, false, false, false, false, false, false, false, false, false, false, false, false, false, false, false, false, false, false, false, false, false, false, false, false, false, false, false] rfl rfl (any_of HT_.out (by kernel_rfl)) (fun _ _ _ h => h) (Or.inl ⟨by rfl, ?_⟩) ?_ ?_
              rotate_left
              · intro w'
                go_simp
                with_reducible rfl
              rotate_left
              · simp only [Act.put, List.setIfInBounds_toArray, List.set_cons_zero, List.set_cons_succ, i64_w, i32_w]
                rfl
              refine take_ (i := 7) (N := some 36) (v := ?_) (a' := ?_) #[true, true, true, true, true, true, true, true, false, false, false, false, false, false, false, false, false, false, false, false, false, false, false, false, false, false, false, false, false, false, false, false, false, false, false, false, false, false, false, false] rfl rfl (take_ofW HT_.out HW_.out (by kernel_rfl)) (fun _ _ _ h => h) (Or.inl ⟨by rfl, ?_⟩) hHeld ?_ ?_
              rotate_left
              · rintro w' ⟨s0, s1, s2, s3, s4, s5, s6, s7, s8, s9⟩
                go_simp
                with_reducible rfl
              rotate_left
              · simp only [Act.put, List.setIfInBounds_toArray, List.set_cons_zero, List.set_cons_succ, i64_w, i32_w]
                rfl
              refine take_ (i := 8) (N := some 37) (v := ?_) (a' := ?_) #[true, true, true, true, true, true, true, true, true, false, false, false, false, false, false, false, false, false, false, false, false, false, false, false, false, false, false, false, false, false, false, false, false, false, false, false, false, false, false, false] rfl rfl (take_ofW HT_.out HW_.out (by kernel_rfl)) (fun _ _ _ h => h) (Or.inl ⟨by rfl, ?_⟩) hHeld ?_ ?_
              rotate_left
              · rintro w' ⟨s0, s1, s2, s3, s4, s5, s6, s7, s8, s9⟩
                go_simp
                with_reducible rfl
              rotate_left
              · simp only [Act.put, List.setIfInBounds_toArray, List.set_cons_zero, List.set_cons_succ, i64_w, i32_w]
                rfl
              refine pure_ (i := 9) (N := some 38) (v := ?_) (a' := ?_) #[true, true, true, true, true, true, true, true, true, true, false, false, false, false, false, false, false, false, false, false, false, false, false, false, false, false, false, false, false, false, false, false, false, false, false, false, false, false, false, false] rfl rfl (any_of HT_.out (by kernel_rfl)) (fun _ _ _ h => h) (Or.inl ⟨by rfl, ?_⟩) ?_ ?_
              rotate_left
              · intro w'
                go_simp
                with_reducible rfl
              rotate_left
              · simp only [Act.put, List.setIfInBounds_toArray, List.set_cons_zero, List.set_cons_succ, i64_w, i32_w]
                rfl
              refine pure_ (i := 10) (N := some 39) (v := ?_) (a' := ?_) #[true, true, true, true, true, true, true, true, true, true, true, false, false, false, false, false, false, false, false, false, false, false, false, false, false, false, false, false, false, false, false, false, false, false, false, false, false, false, false, false] rfl rfl (any_of HT_.out (by kernel_rfl)) (fun _ _ _ h => h) (Or.inl ⟨by rfl, ?_⟩) ?_ ?_
              rotate_left
              · intro w'
                go_simp
                with_reducible rfl
              rotate_left
              · simp only [Act.put, List.setIfInBounds_toArray, List.set_cons_zero, List.set_cons_succ, i64_w, i32_w]
                rfl
              refine pure_ (i := 11) (N := some 40) (v := ?_) (a' := ?_) #[true, true, true, true, true, true, true, true, true, true, true, true, false, false, false, false, false, false, false, false, false, false, false, false, false, false, false, false, false, false, false, false, false, false, false, false, false, false, false, false] rfl rfl (any_of HT_.out (by kernel_rfl)) (fun _ _ _ h => h) (Or.inl ⟨by rfl, ?_⟩) ?_ ?_
              rotate_left
              · intro w'
                go_simp
                with_reducible rfl
              rotate_left
              · simp only [Act.put, List.setIfInBounds_toArray, List.set_cons_zero, List.set_cons_succ, i64_w, i32_w]
                rfl
              refine pure_ (i := 12) (N := some 41) (v := ?_) (a' := ?_) #[true, true, true, true, true, true, true, true, true, true, true, true, true, false, false, false, false, false, false, false, false, false, false, false, false, false, false, false, false, false, false, false, false, false, false, false, false, false, false, false] rfl rfl (any_of HT_.out (by kernel_rfl)) (fun _ _ _ h => h) (Or.inl ⟨by rfl, ?_⟩) ?_ ?_
              rotate_left
              · intro w'
                go_simp
                with_reducible rfl
              rotate_left
              · simp only [Act.put, List.setIfInBounds_toArray, List.set_cons_zero, List.set_cons_succ, i64_w, i32_w]
                rfl
              refine pure_ (i := 13) (N := some 42) (v := ?_) (a' := ?_) #[true, true, true, true, true, true, true, true, true, true, true, true, true, true, false, false, false, false, false, false, false, false, false, false, false, false, false, false, false, false, false, false, false, false, false, false, false, false, false, false] rfl rfl (any_of HT_.out (by kernel_rfl)) (fun _ _ _ h => h) (Or.inl ⟨by rfl, ?_⟩) ?_ ?_
              rotate_left
              · intro w'
                go_simp
                with_reducible rfl
              rotate_left
              · simp only [Act.put, List.setIfInBounds_toArray, List.set_cons_zero, List.set_cons_succ, i64_w, i32_w]
                rfl
              refine pure_ (i := 14) (N := some 43) (v := ?_) (a' := ?_) #[true, true, true, true, true, true, true, true, true, true, true, true, true, true, true, false, false, false, false, false, false, false, false, false, false, false, false, false, false, false, false, false, false, false, false, false, false, false, false, false] rfl rfl (any_of HT_.out (by kernel_rfl)) (fun _ _ _ h => h) (Or.inl ⟨by rfl, ?_⟩) ?_ ?_
              rotate_left
              · intro w'
                go_simp
                with_reducible rfl
              rotate_left
              · simp only [Act.put, List.setIfInBounds_toArray, List.set_cons_zero, List.set_cons_succ, i64_w, i32_w]
                rfl
              refine pure_ (i := 15) (N := some 44) (v := ?_) (a' := ?_) #[true, true, true, true, true, true, true, true, true, true, true, true, true, true, true, true, false, false, false, false, false, false, false, false, false, false, false, false, false, false, false, false, false, false, false, false, false, false, false, false] rfl rfl (any_of HT_.out (by kernel_rfl)) (fun _ _ _ h => h) (Or.inl ⟨by rfl, ?_⟩) ?_ ?_
              rotate_left
              · intro w'
                go_simp
                with_reducible rfl
              rotate_left
              · simp only [Act.put, List.setIfInBounds_toArray, List.set_cons_zero, List.set_cons_succ, i64_w, i32_w]
                rfl
              refine pure_ (i := 16) (N := some 45) (v := ?_) (a' := ?_) #[true, true, true, true, true, true, true, true, true, true, true, true, true, true, true, true, true, false, false, false, false, false, false, false, false, false, false, false, false, false, false, false, false, false, false, false, false, false, false, false] rfl rfl (any_of HT_.out (by kernel_rfl)) (fun _ _ _ h => h) (Or.inl ⟨by rfl, ?_⟩) ?_ ?_
              rotate_left
              · intro w'
                go_simp
                with_reducible rfl
              rotate_left
              · simp only [Act.put, List.setIfInBounds_toArray, List.set_cons_zero, List.set_cons_succ, i64_w, i32_w]
                rfl
              refine pure_ (i := 17) (N := some 46) (v := ?_) (a' := ?_) #[true, true, true, true, true, true, true, true, true, true, true, true, true, true, true, true, true, true, false, false, false, false, false, false, false, false, false, false, false, false, false, false, false, false, false, false, false, false, false, false] rfl rfl (any_of HT_.out (by kernel_rfl)) (fun _ _ _ h => h) (Or.inl ⟨by rfl, ?_⟩) ?_ ?_
              rotate_left
              · intro w'
                go_simp
                with_reducible rfl
              rotate_left
              · simp only [Act.put, List.setIfInBounds_toArray, List.set_cons_zero, List.set_cons_succ, i64_w, i32_w]
                rfl
              refine pure_ (i := 18) (N := some 47) (v := ?_) (a' := ?_) #[true, true, true, true, true, true, true, true, true, true, true, true, true, true, true, true, true, true, true, false, false, false, false, false, false, false, false, false, false, false, false, false, false, false, false, false, false, false, false, false] rfl rfl (any_of HT_.out (by kernel_rfl)) (fun _ _ _ h => h) (Or.inl ⟨by rfl, ?_⟩) ?_ ?_
              rotate_left
              · intro w'
                go_simp
                with_reducible rfl
              rotate_left
              · simp only [Act.put, List.setIfInBounds_toArray, List.set_cons_zero, List.set_cons_succ, i64_w, i32_w]
                rfl
              refine pure_ (i := 19) (N := some 48) (v := ?_) (a' := ?_) #[true, true, true, true, true, true, true, true, true, true, true, true, true, true, true, true, true, true, true, true, false, false, false, false, false, false, false, false, false, false, false, false, false, false, false, false, false, false, false, false] rfl rfl (any_of HT_.out (by kernel_rfl)) (fun _ _ _ h => h) (Or.inl ⟨by rfl, ?_⟩) ?_ ?_
              rotate_left
              · intro w'
                go_simp
                with_reducible rfl
              rotate_left
              · simp only [Act.put, List.setIfInBounds_toArray, List.set_cons_zero, List.set_cons_succ, i64_w, i32_w]
                rfl
              refine pure_ (i := 20) (N := some 49) (v := ?_) (a' := ?_) #[true, true, true, true, true, true, true, true, true, true, true, true, true, true, true, true, true, true, true, true, true, false, false, false, false, false, false, false, false, false, false, false, false, false, false, false, false, false, false, false] rfl rfl (any_of HT_.out (by kernel_rfl)) (fun _ _ _ h => h) (Or.inl ⟨by rfl, ?_⟩) ?_ ?_
              rotate_left
              · intro w'
                go_simp
                with_reducible rfl
              rotate_left
              · simp only [Act.put, List.setIfInBounds_toArray, List.set_cons_zero, List.set_cons_succ, i64_w, i32_w]
                rfl
              refine pure_ (i := 21) (N := some 50) (v := ?_) (a' := ?_) #[true, true, true, true, true, true, true, true, true, true, true, true, true, true, true, true, true, true, true, true, true, true, false, false, false, false, false, false, false, false, false, false, false, false, false, false, false, false, false, false] rfl rfl (any_of HT_.out (by kernel_rfl)) (fun _ _ _ h => h) (Or.inl ⟨by rfl, ?_⟩) ?_ ?_
              rotate_left
              · intro w'
                go_simp
                with_reducible rfl
              rotate_left
              · simp only [Act.put, List.setIfInBounds_toArray, List.set_cons_zero, List.set_cons_succ, i64_w, i32_w]
                rfl
              refine take_ (i := 22) (N := some 51) (v := ?_) (a' := ?_) #[true, true, true, true, true, true, true, true, true, true, true, true, true, true, true, true, true, true, true, true, true, true, true, false, false, false, false, false, false, false, false, false, false, false, false, false, false, false, false, false] rfl rfl (take_ofW HT_.out HW_.out (by kernel_rfl)) (fun _ _ _ h => h) (Or.inl ⟨by rfl, ?_⟩) hHeld ?_ ?_
              rotate_left
              · rintro w' ⟨s0, s1, s2, s3, s4, s5, s6, s7, s8, s9⟩
                go_simp
                with_reducible rfl
              rotate_left
              · simp only [Act.put, List.setIfInBounds_toArray, List.set_cons_zero, List.set_cons_succ, i64_w, i32_w]
                rfl
              refine take_ (i := 23) (N := some 52) (v := ?_) (a' := ?_) #[true, true, true, true, true, true, true, true, true, true, true, true, true, true, true, true, true, true, true, true, true, true, true, true, false, false, false, false, false, false, false, false, false, false, false, false, false, false, false, false] rfl rfl (take_ofW HT_.out HW_.out (by kernel_rfl)) (fun _ _ _ h => h) (Or.inl ⟨by rfl, ?_⟩) hHeld ?_ ?_
              rotate_left
              · rintro w' ⟨s0, s1, s2, s3, s4, s5, s6, s7, s8, s9⟩
                go_simp
                with_reducible rfl
              rotate_left
              · simp only [Act.put, List.setIfInBounds_toArray, List.set_cons_zero, List.set_cons_succ, i64_w, i32_w]
                rfl
              refine take_ (i := 25) (N := some 54) (v := ?_) (a' := ?_) #[true, true, true, true, true, true, true, true, true, true, true, true, true, true, true, true, true, true, true, true, true, true, true, true, false, true, false, false, false, false, false, false, false, false, false, false, false, false, false, false] rfl rfl (take_ofW HT_.out HW_.out (by kernel_rfl)) (fun _ _ _ h => h) (Or.inl ⟨by rfl, ?_⟩) hHeld ?_ ?_
              rotate_left
              · rintro w' ⟨s0, s1, s2, s3, s4, s5, s6, s7, s8, s9⟩
                go_simp
                with_reducible rfl
              rotate_left
              · simp only [Act.put, List.setIfInBounds_toArray, List.set_cons_zero, List.set_cons_succ, i64_w, i32_w]
                rfl
              refine take_ (i := 26) (N := some 55) (v := ?_) (a' := ?_) #[true, true, true, true, true, true, true, true, true, true, true, true, true, true, true, true, true, true, true, true, true, true, true, true, false, true, true, false, false, false, false, false, false, false, false, false, false, false, false, false] rfl rfl (take_ofW HT_.out HW_.out (by kernel_rfl)) (fun _ _ _ h => h) (Or.inl ⟨by rfl, ?_⟩) hHeld ?_ ?_
              rotate_left
              · rintro w' ⟨s0, s1, s2, s3, s4, s5, s6, s7, s8, s9⟩
                go_simp
                with_reducible rfl
              rotate_left
              · simp only [Act.put, List.setIfInBounds_toArray, List.set_cons_zero, List.set_cons_succ, i64_w, i32_w]
                rfl
              refine one_ (i := 24) (N := some 53) #[true, true, true, true, true, true, true, true, true, true, true, true, true, true, true, true, true, true, true, true, true, true, true, true, true, true, true, false, false, false, false, false, false, false, false, false, false, false, false, false] rfl rfl (one_of HT_.out (by kernel_rfl)) (by decide) (fun K hK => ?_)
              refine goes_ Try.func20 (by kernel_rfl) rfl #[.agg #[.int .u16 a0_0, .int .u16 a0_1], .agg #[.int .u16 a1_0, .int .u16 a1_1]] (by rfl) rfl rfl (by (try simp only [List.map_toArray, List.map_cons, List.map_nil]); first | done | rfl | (simp only [List.length_drop, List.length_take]; rfl)) ?_
              with_reducible refine (span_Within.calls a0_0 a0_1 a1_0 a1_1 t266 _ A12.out).mono ?_
              rintro e w47 ⟨rfl, hb⟩
              refine ⟨_, rfl, ?_⟩
              have n0_ := Aside0.mk (blk_below (g := gb251) (o := .cells #[.int .u16 a0_0, .int .u16 a0_1] 24 (0, 0)) (by (with_reducible repeat (first | refine blk_drewN ?_ _ | refine blk_drew ?_ | refine blk_alloc ?_ _)); exact BK251.out) hb)
              have n1_ := Aside0.mk (blk_below (g := gb252) (o := .cells #[.int .u16 a1_0, .int .u16 a1_1] 24 (0, 0)) (by (with_reducible repeat (first | refine blk_drewN ?_ _ | refine blk_drew ?_ | refine blk_alloc ?_ _)); exact BK252.out) hb)
              have n2_ := Aside0.mk (blk_below (g := gb256) (o := .cells #[.int .u16 t253, .int .u16 t254] 24 (0, 0)) (by (with_reducible repeat (first | refine blk_drewN ?_ _ | refine blk_drew ?_ | refine blk_alloc ?_ _)); exact BK256.out) hb)
              have n3_ := Aside0.mk (blk_below (g := gb260) (o := .cells #[.int .u16 t257, .int .u16 t258] 24 (0, 0)) (by (with_reducible repeat (first | refine blk_drewN ?_ _ | refine blk_drew ?_ | refine blk_alloc ?_ _)); exact BK260.out) hb)
              have n4_ := Aside0.mk (blk_below (g := gb264) (o := .cells #[.int .u16 t261, .int .u16 t262] 24 (0, 0)) (by (with_reducible repeat (first | refine blk_drewN ?_ _ | refine blk_drew ?_ | refine blk_alloc ?_ _)); exact BK264.out) hb)
              have n5_ := Aside0.mk (below_step (by repeat (first | (with_reducible first | exact HB.out | apply below_alloc | apply pw_below_drewN | apply below_drew1 | refine below_set ?_ GE251.out | refine below_set ?_ GE252.out | refine below_set ?_ GE256.out | refine below_set ?_ GE260.out | refine below_set ?_ GE264.out) | exact HB.out)) hb)
              clear BK251
              clear BK252
              clear BK256
              clear BK260
              clear BK264
              clear HB
              have BK251 := n0_
              have BK252 := n1_
              have BK256 := n2_
              have BK260 := n3_
              have BK264 := n4_
              have HB := n5_
              clear n0_ n1_ n2_ n3_ n4_ n5_
              (try clear hb)
              (try clear hb2)
              (try clear hk)
              (try clear hi)
              refine hK.out _ _ ⟨(blk_cell BK256.out 0).trans rfl, (blk_cell BK256.out 1).trans rfl, (blk_cell BK264.out 0).trans rfl, (blk_cell BK264.out 1).trans rfl, (blk_cell BK260.out 0).trans rfl, (blk_cell BK260.out 1).trans rfl, (blk_cell BK251.out 0).trans rfl, (blk_cell BK251.out 1).trans rfl, (blk_cell BK252.out 0).trans rfl, (blk_cell BK252.out 1).trans rfl⟩ (fun hHeld => ?_)
              clear hK K
              refine norm_ (a' := ?_) ?_ ?_
              rotate_left
              · show Act.put _ (some 53) _ = _
                simp only [Act.put, List.setIfInBounds_toArray, List.set_cons_zero, List.set_cons_succ, i64_w, i32_w]
                rfl
              refine one_ (i := 27) (N := some 56) #[true, true, true, true, true, true, true, true, true, true, true, true, true, true, true, true, true, true, true, true, true, true, true, true, true, true, true, true, false, false, false, false, false, false, false, false, false, false, false, false] rfl rfl (one_of HT_.out (by kernel_rfl)) (by decide) (fun K hK => ?_)
              refine goes_ Try.func21 (by kernel_rfl) rfl #[.agg #[.int .u16 a0_0, .int .u16 a0_1], .agg #[.int .u16 a1_0, .int .u16 a1_1]] (by rfl) rfl rfl (by (try simp only [List.map_toArray, List.map_cons, List.map_nil]); first | done | rfl | (simp only [List.length_drop, List.length_take]; rfl)) ?_
              with_reducible refine (quintetref03_Within.calls a0_0 a0_1 a1_0 a1_1 t267 _ A13.out).mono ?_
              rintro e w48 ⟨rfl, hb⟩
              refine ⟨_, rfl, ?_⟩
              have n0_ := Aside0.mk (blk_below (g := gb251) (o := .cells #[.int .u16 a0_0, .int .u16 a0_1] 24 (0, 0)) (by (with_reducible repeat (first | refine blk_drewN ?_ _ | refine blk_drew ?_ | refine blk_alloc ?_ _)); exact BK251.out) hb)
              have n1_ := Aside0.mk (blk_below (g := gb252) (o := .cells #[.int .u16 a1_0, .int .u16 a1_1] 24 (0, 0)) (by (with_reducible repeat (first | refine blk_drewN ?_ _ | refine blk_drew ?_ | refine blk_alloc ?_ _)); exact BK252.out) hb)
              have n2_ := Aside0.mk (blk_below (g := gb256) (o := .cells #[.int .u16 t253, .int .u16 t254] 24 (0, 0)) (by (with_reducible repeat (first | refine blk_drewN ?_ _ | refine blk_drew ?_ | refine blk_alloc ?_ _)); exact BK256.out) hb)
              have n3_ := Aside0.mk (blk_below (g := gb260) (o := .cells #[.int .u16 t257, .int .u16 t258] 24 (0, 0)) (by (with_reducible repeat (first | refine blk_drewN ?_ _ | refine blk_drew ?_ | refine blk_alloc ?_ _)); exact BK260.out) hb)
              have n4_ := Aside0.mk (blk_below (g := gb264) (o := .cells #[.int .u16 t261, .int .u16 t262] 24 (0, 0)) (by (with_reducible repeat (first | refine blk_drewN ?_ _ | refine blk_drew ?_ | refine blk_alloc ?_ _)); exact BK264.out) hb)
              have n5_ := Aside0.mk (below_step (by repeat (first | (with_reducible first | exact HB.out | apply below_alloc | apply pw_below_drewN | apply below_drew1 | refine below_set ?_ GE251.out | refine below_set ?_ GE252.out | refine below_set ?_ GE256.out | refine below_set ?_ GE260.out | refine below_set ?_ GE264.out) | exact HB.out)) hb)
              clear BK251
              clear BK252
              clear BK256
              clear BK260
              clear BK264
              clear HB
              have BK251 := n0_
              have BK252 := n1_
              have BK256 := n2_
              have BK260 := n3_
              have BK264 := n4_
              have HB := n5_
              clear n0_ n1_ n2_ n3_ n4_ n5_
              (try clear hb)
              (try clear hb2)
              (try clear hk)
              (try clear hi)
              refine hK.out _ _ ⟨(blk_cell BK256.out 0).trans rfl, (blk_cell BK256.out 1).trans rfl, (blk_cell BK264.out 0).trans rfl, (blk_cell BK264.out 1).trans rfl, (blk_cell BK260.out 0).trans rfl, (blk_cell BK260.out 1).trans rfl, (blk_cell BK251.out 0).trans rfl, (blk_cell BK251.out 1).trans rfl, (blk_cell BK252.out 0).trans rfl, (blk_cell BK252.out 1).trans rfl⟩ (fun hHeld => ?_)
              clear hK K
              refine norm_ (a' := ?_) ?_ ?_
              rotate_left
              · show Act.put _ (some 56) _ = _
                simp only [Act.put, List.setIfInBounds_toArray, List.set_cons_zero, List.set_cons_succ, i64_w, i32_w]
                rfl
              refine pure_ (i := 28) (N := some 57) (v := ?_) (a' := ?_) #[true, true, true, true, true, true, true, true, true, true, true, true, true, true, true, true, true, true, true, true, true, true, true, true, true, true, true, true, true, false, false, false, false, false, false, false, false, false, false, false] rfl rfl (any_of HT_.out (by kernel_rfl)) (fun _ _ _ h => h) (Or.inl ⟨by rfl, ?_⟩) ?_ ?_
              rotate_left
              · intro w'
                go_simp
                with_reducible rfl
              rotate_left
              · simp only [Act.put, List.setIfInBounds_toArray, List.set_cons_zero, List.set_cons_succ, i64_w, i32_w]
                rfl
              refine pure_ (i := 29) (N := some 58) (v := ?_) (a' := ?_) #[true, true, true, true, true, true, true, true, true, true, true, true, true, true, true, true, true, true, true, true, true, true, true, true, true, true, true, true, true, true, false, false, false, false, false, false, false, false, false, false] rfl rfl (any_of HT_.out (by kernel_rfl)) (fun _ _ _ h => h) (Or.inl ⟨by rfl, ?_⟩) ?_ ?_
              rotate_left
              · intro w'
                go_simp
                with_reducible rfl
              rotate_left
              · simp only [Act.put, List.setIfInBounds_toArray, List.set_cons_zero, List.set_cons_succ, i64_w, i32_w]
                rfl
              refine pure_ (i := 30) (N := some 59) (v := ?_) (a' := ?_) #[true, true, true, true, true, true, true, true, true, true, true, true, true, true, true, true, true, true, true, true, true, true, true, true, true, true, true, true, true, true, true, false, false, false, false, false, false, false, false, false] rfl rfl (any_of HT_.out (by kernel_rfl)) (fun _ _ _ h => h) (Or.inl ⟨by rfl, ?_⟩) ?_ ?_
              rotate_left
              · intro w'
                go_simp
                with_reducible rfl
              rotate_left
              · simp only [Act.put, List.setIfInBounds_toArray, List.set_cons_zero, List.set_cons_succ, i64_w, i32_w]
                rfl
              refine take_ (i := 31) (N := some 60) (v := ?_) (a' := ?_) #[true, true, true, true, true, true, true, true, true, true, true, true, true, true, true, true, true, true, true, true, true, true, true, true, true, true, true, true, true, true, true, true, false, false, false, false, false, false, false, false] rfl rfl (take_ofW HT_.out HW_.out (by kernel_rfl)) (fun _ _ _ h => h) (Or.inl ⟨by rfl, ?_⟩) hHeld ?_ ?_
              rotate_left
              · rintro w' ⟨s0, s1, s2, s3, s4, s5, s6, s7, s8, s9⟩
                go_simp
                with_reducible rfl
              rotate_left
              · simp only [Act.put, List.setIfInBounds_toArray, List.set_cons_zero, List.set_cons_succ, i64_w, i32_w]
                rfl
              refine take_ (i := 32) (N := some 61) (v := ?_) (a' := ?_) #[true, true, true, true, true, true, true, true, true, true, true, true, true, true, true, true, true, true, true, true, true, true, true, true, true, true, true, true, true, true, true, true, true, false, false, false, false, false, false, false] rfl rfl (take_ofW HT_.out HW_.out (by kernel_rfl)) (fun _ _ _ h => h) (Or.inl ⟨by rfl, ?_⟩) hHeld ?_ ?_
              rotate_left
              · rintro w' ⟨s0, s1, s2, s3, s4, s5, s6, s7, s8, s9⟩
                go_simp
                with_reducible rfl
              rotate_left
              · simp only [Act.put, List.setIfInBounds_toArray, List.set_cons_zero, List.set_cons_succ, i64_w, i32_w]
                rfl
              refine take_ (i := 34) (N := some 63) (v := ?_) (a' := ?_) #[true, true, true, true, true, true, true, true, true, true, true, true, true, true, true, true, true, true, true, true, true, true, true, true, true, true, true, true, true, true, true, true, true, false, true, false, false, false, false, false] rfl rfl (take_ofW HT_.out HW_.out (by kernel_rfl)) (fun _ _ _ h => h) (Or.inl ⟨by rfl, ?_⟩) hHeld ?_ ?_
              rotate_left
              · rintro w' ⟨s0, s1, s2, s3, s4, s5, s6, s7, s8, s9⟩
                go_simp
                with_reducible rfl
              rotate_left
              · simp only [Act.put, List.setIfInBounds_toArray, List.set_cons_zero, List.set_cons_succ, i64_w, i32_w]
                rfl
              refine take_ (i := 35) (N := some 64) (v := ?_) (a' := ?_) #[true, true, true, true, true, true, true, true, true, true, true, true, true, true, true, true, true, true, true, true, true, true, true, true, true, true, true, true, true, true, true, true, true, false, true, true, false, false, false, false] rfl rfl (take_ofW HT_.out HW_.out (by kernel_rfl)) (fun _ _ _ h => h) (Or.inl ⟨by rfl, ?_⟩) hHeld ?_ ?_
              rotate_left
              · rintro w' ⟨s0, s1, s2, s3, s4, s5, s6, s7, s8, s9⟩
                go_simp
                with_reducible rfl
              rotate_left
              · simp only [Act.put, List.setIfInBounds_toArray, List.set_cons_zero, List.set_cons_succ, i64_w, i32_w]
                rfl
              refine one_ (i := 33) (N := some 62) #[true, true, true, true, true, true, true, true, true, true, true, true, true, true, true, true, true, true, true, true, true, true, true, true, true, true, true, true, true, true, true, true, true, true, true, true, false, false, false, false] rfl rfl (one_of HT_.out (by kernel_rfl)) (by decide) (fun K hK => ?_)
              refine goes_ Try.func20 (by kernel_rfl) rfl #[.agg #[.int .u16 a1_0, .int .u16 a1_1], .agg #[.int .u16 a0_0, .int .u16 a0_1]] (by rfl) rfl rfl (by (try simp only [List.map_toArray, List.map_cons, List.map_nil]); first | done | rfl | (simp only [List.length_drop, List.length_take]; rfl)) ?_
              with_reducible refine (span_Within.calls a1_0 a1_1 a0_0 a0_1 t268 _ A15.out).mono ?_
              rintro e w49 ⟨rfl, hb⟩
              refine ⟨_, rfl, ?_⟩
              have n0_ := Aside0.mk (blk_below (g := gb251) (o := .cells #[.int .u16 a0_0, .int .u16 a0_1] 24 (0, 0)) (by (with_reducible repeat (first | refine blk_drewN ?_ _ | refine blk_drew ?_ | refine blk_alloc ?_ _)); exact BK251.out) hb)
              have n1_ := Aside0.mk (blk_below (g := gb252) (o := .cells #[.int .u16 a1_0, .int .u16 a1_1] 24 (0, 0)) (by (with_reducible repeat (first | refine blk_drewN ?_ _ | refine blk_drew ?_ | refine blk_alloc ?_ _)); exact BK252.out) hb)
              have n2_ := Aside0.mk (blk_below (g := gb256) (o := .cells #[.int .u16 t253, .int .u16 t254] 24 (0, 0)) (by (with_reducible repeat (first | refine blk_drewN ?_ _ | refine blk_drew ?_ | refine blk_alloc ?_ _)); exact BK256.out) hb)
              have n3_ := Aside0.mk (blk_below (g := gb260) (o := .cells #[.int .u16 t257, .int .u16 t258] 24 (0, 0)) (by (with_reducible repeat (first | refine blk_drewN ?_ _ | refine blk_drew ?_ | refine blk_alloc ?_ _)); exact BK260.out) hb)
              have n4_ := Aside0.mk (blk_below (g := gb264) (o := .cells #[.int .u16 t261, .int .u16 t262] 24 (0, 0)) (by (with_reducible repeat (first | refine blk_drewN ?_ _ | refine blk_drew ?_ | refine blk_alloc ?_ _)); exact BK264.out) hb)
              have n5_ := Aside0.mk (below_step (by repeat (first | (with_reducible first | exact HB.out | apply below_alloc | apply pw_below_drewN | apply below_drew1 | refine below_set ?_ GE251.out | refine below_set ?_ GE252.out | refine below_set ?_ GE256.out | refine below_set ?_ GE260.out | refine below_set ?_ GE264.out) | exact HB.out)) hb)
              clear BK251
              clear BK252
              clear BK256
              clear BK260
              clear BK264
              clear HB
              have BK251 := n0_
              have BK252 := n1_
              have BK256 := n2_
              have BK260 := n3_
              have BK264 := n4_
              have HB := n5_
              clear n0_ n1_ n2_ n3_ n4_ n5_
              (try clear hb)
              (try clear hb2)
              (try clear hk)
              (try clear hi)
              refine hK.out _ _ ⟨(blk_cell BK256.out 0).trans rfl, (blk_cell BK256.out 1).trans rfl, (blk_cell BK264.out 0).trans rfl, (blk_cell BK264.out 1).trans rfl, (blk_cell BK260.out 0).trans rfl, (blk_cell BK260.out 1).trans rfl, (blk_cell BK251.out 0).trans rfl, (blk_cell BK251.out 1).trans rfl, (blk_cell BK252.out 0).trans rfl, (blk_cell BK252.out 1).trans rfl⟩ (fun hHeld => ?_)
              clear hK K
              refine norm_ (a' := ?_) ?_ ?_
              rotate_left
              · show Act.put _ (some 62) _ = _
                simp only [Act.put, List.setIfInBounds_toArray, List.set_cons_zero, List.set_cons_succ, i64_w, i32_w]
                rfl
              refine one_ (i := 36) (N := some 65) #[true, true, true, true, true, true, true, true, true, true, true, true, true, true, true, true, true, true, true, true, true, true, true, true, true, true, true, true, true, true, true, true, true, true, true, true, true, false, false, false] rfl rfl (one_of HT_.out (by kernel_rfl)) (by decide) (fun K hK => ?_)
              refine goes_ Try.func21 (by kernel_rfl) rfl #[.agg #[.int .u16 a1_0, .int .u16 a1_1], .agg #[.int .u16 a0_0, .int .u16 a0_1]] (by rfl) rfl rfl (by (try simp only [List.map_toArray, List.map_cons, List.map_nil]); first | done | rfl | (simp only [List.length_drop, List.length_take]; rfl)) ?_
              with_reducible refine (quintetref03_Within.calls a1_0 a1_1 a0_0 a0_1 t269 _ A16.out).mono ?_
              rintro e w50 ⟨rfl, hb⟩
              refine ⟨_, rfl, ?_⟩
              have n0_ := Aside0.mk (blk_below (g := gb251) (o := .cells #[.int .u16 a0_0, .int .u16 a0_1] 24 (0, 0)) (by (with_reducible repeat (first | refine blk_drewN ?_ _ | refine blk_drew ?_ | refine blk_alloc ?_ _)); exact BK251.out) hb)
              have n1_ := Aside0.mk (blk_below (g := gb252) (o := .cells #[.int .u16 a1_0, .int .u16 a1_1] 24 (0, 0)) (by (with_reducible repeat (first | refine blk_drewN ?_ _ | refine blk_drew ?_ | refine blk_alloc ?_ _)); exact BK252.out) hb)
              have n2_ := Aside0.mk (blk_below (g := gb256) (o := .cells #[.int .u16 t253, .int .u16 t254] 24 (0, 0)) (by (with_reducible repeat (first | refine blk_drewN ?_ _ | refine blk_drew ?_ | refine blk_alloc ?_ _)); exact BK256.out) hb)
              have n3_ := Aside0.mk (blk_below (g := gb260) (o := .cells #[.int .u16 t257, .int .u16 t258] 24 (0, 0)) (by (with_reducible repeat (first | refine blk_drewN ?_ _ | refine blk_drew ?_ | refine blk_alloc ?_ _)); exact BK260.out) hb)
              have n4_ := Aside0.mk (blk_below (g := gb264) (o := .cells #[.int .u16 t261, .int .u16 t262] 24 (0, 0)) (by (with_reducible repeat (first | refine blk_drewN ?_ _ | refine blk_drew ?_ | refine blk_alloc ?_ _)); exact BK264.out) hb)
              have n5_ := Aside0.mk (below_step (by repeat (first | (with_reducible first | exact HB.out | apply below_alloc | apply pw_below_drewN | apply below_drew1 | refine below_set ?_ GE251.out | refine below_set ?_ GE252.out | refine below_set ?_ GE256.out | refine below_set ?_ GE260.out | refine below_set ?_ GE264.out) | exact HB.out)) hb)
              clear BK251
              clear BK252
              clear BK256
              clear BK260
              clear BK264
              clear HB
              have BK251 := n0_
              have BK252 := n1_
              have BK256 := n2_
              have BK260 := n3_
              have BK264 := n4_
              have HB := n5_
              clear n0_ n1_ n2_ n3_ n4_ n5_
              (try clear hb)
              (try clear hb2)
              (try clear hk)
              (try clear hi)
              refine hK.out _ _ ⟨(blk_cell BK256.out 0).trans rfl, (blk_cell BK256.out 1).trans rfl, (blk_cell BK264.out 0).trans rfl, (blk_cell BK264.out 1).trans rfl, (blk_cell BK260.out 0).trans rfl, (blk_cell BK260.out 1).trans rfl, (blk_cell BK251.out 0).trans rfl, (blk_cell BK251.out 1).trans rfl, (blk_cell BK252.out 0).trans rfl, (blk_cell BK252.out 1).trans rfl⟩ (fun hHeld => ?_)
              clear hK K
              refine norm_ (a' := ?_) ?_ ?_
              rotate_left
              · show Act.put _ (some 65) _ = _
                simp only [Act.put, List.setIfInBounds_toArray, List.set_cons_zero, List.set_cons_succ, i64_w, i32_w]
                rfl
              refine pure_ (i := 37) (N := some 66) (v := ?_) (a' := ?_) #[true, true, true, true, true, true, true, true, true, true, true, true, true, true, true, true, true, true, true, true, true, true, true, true, true, true, true, true, true, true, true, true, true, true, true, true, true, true, false, false] rfl rfl (any_of HT_.out (by kernel_rfl)) (fun _ _ _ h => h) (Or.inl ⟨by rfl, ?_⟩) ?_ ?_
              rotate_left
              · intro w'
                go_simp
                with_reducible rfl
              rotate_left
              · simp only [Act.put, List.setIfInBounds_toArray, List.set_cons_zero, List.set_cons_succ, i64_w, i32_w]
                rfl
              refine pure_ (i := 38) (N := some 67) (v := ?_) (a' := ?_) #[true, true, true, true, true, true, true, true, true, true, true, true, true, true, true, true, true, true, true, true, true, true, true, true, true, true, true, true, true, true, true, true, true, true, true, true, true, true, true, false] rfl rfl (any_of HT_.out (by kernel_rfl)) (fun _ _ _ h => h) (Or.inl ⟨by rfl, ?_⟩) ?_ ?_
              rotate_left
              · intro w'
                go_simp
                with_reducible rfl
              rotate_left
              · simp only [Act.put, List.setIfInBounds_toArray, List.set_cons_zero, List.set_cons_succ, i64_w, i32_w]
                rfl
              refine pure_ (i := 39) (N := some 4) (v := ?_) (a' := ?_) #[true, true, true, true, true, true, true, true, true, true, true, true, true, true, true, true, true, true, true, true, true, true, true, true, true, true, true, true, true, true, true, true, true, true, true, true, true, true, true, true] rfl rfl (any_of HT_.out (by kernel_rfl)) (fun _ _ _ h => h) (Or.inl ⟨by rfl, ?_⟩) ?_ ?_
              rotate_left
              · intro w'
                go_simp
                with_reducible rfl
              rotate_left
              · simp only [Act.put, List.setIfInBounds_toArray, List.set_cons_zero, List.set_cons_succ, i64_w, i32_w]
                rfl
              refine done_ (done_of HT_.out (by kernel_rfl)) ?_
              try go_wp2
              go_ret
              exact ⟨by first | rfl | (simp [errW_none, errW_some] <;> rfl) | (simp [*, errW_none, errW_some] <;> rfl), by repeat (first | (with_reducible first | exact HB.out | apply below_alloc | apply pw_below_drewN | apply below_drew1 | refine below_set ?_ GE251.out | refine below_set ?_ GE252.out | refine below_set ?_ GE256.out | refine below_set ?_ GE260.out | refine below_set ?_ GE264.out) | exact HB.out)⟩
            · rw [if_neg c14] at H
              have c14b0 : (t266 == t267) = false := by simpa using c14
              (try (have c14b1 : decide (t266 = t267) = false := by simpa using c14))
              (try (have c14b2 : (t266 == t267) = false := by simpa using c14))
              (try (have c14b3 : ¬ (t266 = t267) := by simpa using c14))
              clear c14
              exact absurd (H.trans (congrArg some hrt)) (by simp)
          · rw [if_neg c11] at H
            have c11b0 : (t259 == t263) = false := by simpa using c11
            (try (have c11b1 : decide (t259 = t263) = false := by simpa using c11))
            (try (have c11b2 : (t259 == t263) = false := by simpa using c11))
            (try (have c11b3 : ¬ (t259 = t263) := by simpa using c11))
            clear c11
            exact absurd (H.trans (congrArg some hrt)) (by simp)
        · rw [if_neg c10] at H
          have c10b0 : (t255 == t263) = false := by simpa using c10
          (try (have c10b1 : decide (t255 = t263) = false := by simpa using c10))
          (try (have c10b2 : (t255 == t263) = false := by simpa using c10))
          (try (have c10b3 : ¬ (t255 = t263) := by simpa using c10))
          clear c10
          exact absurd (H.trans (congrArg some hrt)) (by simp)
      · rw [if_neg c9] at H
        have c9b0 : (t257 == t261 && (t258 == t262)) = false := by simpa using c9
        (try (have c9b1 : decide (t257 = t261 && (t258 == t262)) = false := by simpa using c9))
        (try (have c9b2 : (t257 == t261 && (t258 == t262)) = false := by simpa using c9))
        (try (have c9b3 : ¬ (t257 = t261 && (t258 == t262)) := by simpa using c9))
        clear c9
        exact absurd (H.trans (congrArg some hrt)) (by simp)
    · rw [if_neg c8] at H
      have c8b0 : (t253 == t261 && (t254 == t262)) = false := by simpa using c8
      (try (have c8b1 : decide (t253 = t261 && (t254 == t262)) = false := by simpa using c8))
      (try (have c8b2 : (t253 == t261 && (t254 == t262)) = false := by simpa using c8))
      (try (have c8b3 : ¬ (t253 = t261 && (t254 == t262)) := by simpa using c8))
      clear c8
      exact absurd (H.trans (congrArg some hrt)) (by simp)
  · replace c7 := Bool.eq_false_iff.mpr c7
    subst c7
    have H1 : (some false) = some r := by rw [if_neg (show ¬ (false = true) by decide)] at H; exact H
    clear H
    have H := H1
    clear H1
    exact absurd (H.trans (congrArg some hrt)) (by simp)
end Go.Proofs.Ytollljeomlfabaa.PSp
