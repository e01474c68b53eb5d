/- Functions of the program as plain Lean functions, what their calls do, and what follows of it. Conditions: each theorem's own. -/
import Derived.Test.YtfimhaodgekkgaaDoorCTreeDoes2
namespace Go.Proofs.YtfimhaodgekkgaaDoor.QTre
open Go.RowKit Go.Proofs.YtfimhaodgekkgaaDoorW.PrintWords Go.Proofs.YtfimhaodgekkgaaDoorW.PrintLast Go.Proofs.YtfimhaodgekkgaaDoorW.PrintMore
attribute [local go_sem] max2_int min2_int max_two min_two max_three min_three max_four min_four
set_option linter.unusedVariables false
set_option linter.unusedSimpArgs false
def kissgateref10_Best.l0 : Nat → Int → Int → List (S59) → Int → Int → Int → Int → Int → Int → Option (Int × Int × Int × Int × Int)
  | 0, _, _, _, _, _, _, _, _, _ => none
  | k + 1, x0, x7, x14, x15, x16, x284000, x284001, x284002, x284003 => if x16 < x15 then (if 0 ≤ x16 then (if x16 < (x14.length : Int) then ((kissgateref10_Sum.f ((rd_T59 x14 x16).f0.f1) ((rd_T59 x14 x16).f2)).bind fun t286 => ((kissgateref10_Use.f ((rd_T59 x14 x16).f0.f0) ((rd_T59 x14 x16).f0.f1) ((rd_T59 x14 x16).f0.f2) ((rd_T59 x14 x16).f0.f3) ((rd_T59 x14 x16).f1) ((rd_T59 x14 x16).f2) ((rd_T59 x14 x16).f3) x0).bind fun t288 => (if t288 = true then (if ((rd_T59 x14 x16).f0.f0) < x0 then ((kissgateref10_Better.f ((rd_T59 x14 x16).f0.f0) t286 ((rd_T59 x14 x16).f0.f2) ((rd_T59 x14 x16).f0.f3) x284000 x284001 x284002 x284003).bind fun t289 => (if t289 = true then (kissgateref10_Best.l0 k x0 x16 x14 x15 (wrap64 (x16 + 1)) ((rd_T59 x14 x16).f0.f0) t286 ((rd_T59 x14 x16).f0.f2) ((rd_T59 x14 x16).f0.f3)) else (kissgateref10_Best.l0 k x0 x7 x14 x15 (wrap64 (x16 + 1)) x284000 x284001 x284002 x284003))) else (kissgateref10_Best.l0 k x0 x7 x14 x15 (wrap64 (x16 + 1)) x284000 x284001 x284002 x284003)) else (kissgateref10_Best.l0 k x0 x7 x14 x15 (wrap64 (x16 + 1)) x284000 x284001 x284002 x284003)))) else (none)) else (none)) else (some (x284000, x284001, x284002, x284003, x7))
def kissgateref10_Best.f (k : Nat) (a0 : Int) (l1 : List (S59)) : Option (Int × Int × Int × Int × Int) := kissgateref10_Best.l0 k a0 (-1) l1 (l1.length : Int) 0 a0 0 a0 0
def kissgateref10_Best.T6 : Bool × List (List Nat × List Nat) := (true, [([], []), ([0], [0]), ([1], [1]), ([], []), ([3], [3]), ([4], [4]), ([], []), ([6], [6]), ([5, 7], [5, 7]), ([], []), ([9], [9]), ([10], [10]), ([], []), ([12], [12]), ([13], [13]), ([2, 8, 11, 14], [2, 8, 11, 14]), ([], []), ([16, 15, 8, 0, 1, 2, 3, 4, 5, 6, 7, 8, 9, 10, 11, 12, 13, 14, 15, 16], [15, 16])])
def kissgateref10_Best.B6 : List Nat := [0, 1, 3, 0, 8, 24, 0, 64, 248, 0, 512, 1536, 0, 4096, 12288, 32767, 0, 131071]
theorem kissgateref10_Best.tab6 : rtab .any (opsOf Tryd.f56 6) = kissgateref10_Best.T6 := by kernel_rfl
theorem kissgateref10_Best.bits6 : waitsOk kissgateref10_Best.T6.2 kissgateref10_Best.B6 = true := by kernel_rfl
set_option maxHeartbeats 8000000 in
set_option maxRecDepth 100000 in
theorem kissgateref10_Best.calls (k : Nat) (a0 : Int) (A1 : Option Addr) (c1 : Nat) (l1 : List (S59)) (r1 : Int) (r2 : Int) (r3 : Int) (r4 : Int) (r5 : Int) (w : World) (hr1 : Kd.C k59 w A1 l1.length l1) (hc1 : l1.length ≤ c1) (h : kissgateref10_Best.f k a0 l1 = some (r1, r2, r3, r4, r5)) :
    Calls Tryd.prog 56 #[.int .i64 a0, .slice A1 l1.length c1] w fun e w' => e = .returned (.tuple #[.agg #[.int .i64 r1, .int .i64 r2, .int .i64 r3, .int .i64 r4], .int .i64 r5]) ∧ Below w.heap.size w w' := by
  have hu36 := Tryd.underlying36
  have hu59 := Tryd.underlying59
  have HR1 := Aside0.mk hr1
  have HC1 := Aside0.mk hc1
  clear hr1 hc1
  have HB := Aside0.mk (Below.refl w.heap.size w)
  have H : (kissgateref10_Best.l0 k a0 (-1) l1 (l1.length : Int) 0 a0 0 a0 0) = some (r1, r2, r3, r4, r5) := h
  clear h
  have H' := Aside0.mk H
  clear H
  go_enter Tryd.func56, Tryd.ntmps56
  go_wp2_with (first | ((with_reducible refine gate_dst (N := 4) rfl ?_); refine box_event ?hg (N := 4) ?hd (cs := #[.int .i64 0, .int .i64 0, .int .i64 0, .int .i64 0]) (t := 36) ?hr ?_; (case hd => rfl); (case hg => rfl); (case hr => first | (go_simp; done) | (go_simp; rfl)); intro gb282 hg w3 hbox hb; have n0_ := Aside0.mk (below_step (by repeat (first | (with_reducible first | exact HB.out | apply below_alloc | apply pw_below_drewN | apply below_drew1) | exact HB.out)) hb); have n1_ := Aside0.mk (hbox); have n2_ := Aside0.mk ((by rw [hg]; exact (below_size (by repeat (first | (with_reducible first | exact HB.out | apply below_alloc | apply pw_below_drewN | apply below_drew1) | exact HB.out))) : w.heap.size ≤ gb282)); have n3_ := Aside0.mk ((by rw [hg]; exact (below_size (by repeat (first | (with_reducible first | exact HB.out | apply below_alloc | apply pw_below_drewN | apply below_drew1) | exact HB.out))) : w.heap.size ≤ gb282)); clear HB; have HB := n0_; have BK282 := n1_; have GW282 := n2_; have GE282 := n3_; clear n0_ n1_ n2_ n3_; clear hb hbox hg) | ((with_reducible refine gate_dst (N := 6) rfl ?_); refine box_event ?hg (N := 6) ?hd (cs := #[.int .i64 0, .int .i64 0, .int .i64 0, .int .i64 0]) (t := 36) ?hr ?_; (case hd => rfl); (case hg => rfl); (case hr => first | (go_simp; done) | (go_simp; rfl)); intro gb283 hg w4 hbox hb; have n0_ := Aside0.mk (blk_below (g := gb282) (o := .cells #[.int .i64 0, .int .i64 0, .int .i64 0, .int .i64 0] 36 (0, 0)) (by (with_reducible repeat (first | refine blk_drewN ?_ _ | refine blk_drew ?_ | refine blk_alloc ?_ _)); exact BK282.out) hb); have n1_ := Aside0.mk (below_step (by repeat (first | (with_reducible first | exact HB.out | apply below_alloc | apply pw_below_drewN | apply below_drew1 | refine below_set ?_ GE282.out) | exact HB.out)) hb); have n2_ := Aside0.mk (hbox); have n3_ := Aside0.mk ((by rw [hg]; exact (below_size (by repeat (first | (with_reducible first | exact HB.out | apply below_alloc | apply pw_below_drewN | apply below_drew1 | refine below_set ?_ GE282.out) | exact HB.out))) : w.heap.size ≤ gb283)); have n4_ := Aside0.mk ((by rw [hg]; exact (below_size (by repeat (first | (with_reducible first | exact HB.out | apply below_alloc | apply pw_below_drewN | apply below_drew1 | refine below_set ?_ GE282.out) | exact HB.out))) : w.heap.size ≤ gb283)); have n5_ := Aside0.mk ((by rw [hg]; exact Nat.ne_of_lt (blk_lt (g := gb282) (o := .cells #[.int .i64 0, .int .i64 0, .int .i64 0, .int .i64 0] 36 (0, 0)) (by (with_reducible repeat (first | refine blk_drewN ?_ _ | refine blk_drew ?_ | refine blk_alloc ?_ _)); exact BK282.out)) : gb282 ≠ gb283)); have n6_ := Aside0.mk ((by rw [hg]; exact Nat.ne_of_gt (blk_lt (g := gb282) (o := .cells #[.int .i64 0, .int .i64 0, .int .i64 0, .int .i64 0] 36 (0, 0)) (by (with_reducible repeat (first | refine blk_drewN ?_ _ | refine blk_drew ?_ | refine blk_alloc ?_ _)); exact BK282.out)) : gb283 ≠ gb282)); clear BK282; clear HB; have BK282 := n0_; have HB := n1_; have BK283 := n2_; have GW283 := n3_; have GE283 := n4_; have NB282_283 := n5_; have NB283_282 := n6_; clear n0_ n1_ n2_ n3_ n4_ n5_ n6_; clear hb hbox hg; have hnb5 := NB283_282.out; have hnc5 := NB282_283.out; have hcz6_0 : w4.cell? ⟨gb283, 0, none⟩ = some (.int .i64 0) := (blk_cell BK283.out 0).trans rfl; have hcz6_1 : w4.cell? ⟨gb283, 1, none⟩ = some (.int .i64 0) := (blk_cell BK283.out 1).trans rfl; have hcz6_2 : w4.cell? ⟨gb283, 2, none⟩ = some (.int .i64 0) := (blk_cell BK283.out 2).trans rfl; have hcz6_3 : w4.cell? ⟨gb283, 3, none⟩ = some (.int .i64 0) := (blk_cell BK283.out 3).trans rfl; have hfz6_0 := blk_frozen BK283.out 0; have hfz6_1 := blk_frozen BK283.out 1; have hfz6_2 := blk_frozen BK283.out 2; have hfz6_3 := blk_frozen BK283.out 3))
  go_loopg [7, 16] k (fun kq v7 v16 w' => ∃ (x7_1 : Int) (x16_1 : Int) (x284000_1 : Int) (x284001_1 : Int) (x284002_1 : Int) (x284003_1 : Int), v7 = .int .i64 x7_1 ∧ v16 = .int .i64 x16_1 ∧ Aside0 (kissgateref10_Best.l0 kq a0 x7_1 l1 (l1.length : Int) x16_1 x284000_1 x284001_1 x284002_1 x284003_1 = some (r1, r2, r3, r4, r5)) ∧ Aside0 (kq ≤ k) ∧ Aside0 (w'.heap[gb282]? = some (.cells #[.int .i64 0, .int .i64 0, .int .i64 0, .int .i64 0] 36 (0, 0))) ∧ Aside0 (w'.heap[gb283]? = some (.cells #[.int .i64 x284000_1, .int .i64 x284001_1, .int .i64 x284002_1, .int .i64 x284003_1] 36 (0, 0))) ∧ Aside0 (Below w.heap.size w w'))
  case atStart => exact ⟨((-1)), (0), (a0), (0), (a0), (0), (by first | rfl | (simp; done) | (simp [*]; done)), (by first | rfl | (simp; done) | (simp [*]; done)), H', ⟨Nat.le_refl _⟩, ⟨by (with_reducible repeat (first | refine blk_drewN ?_ _ | refine blk_drew ?_ | refine blk_alloc ?_ _)); refine blk_far ?_ NB282_283.out _; (with_reducible repeat (first | refine blk_drewN ?_ _ | refine blk_drew ?_ | refine blk_alloc ?_ _)); refine blk_far ?_ NB282_283.out _; (with_reducible repeat (first | refine blk_drewN ?_ _ | refine blk_drew ?_ | refine blk_alloc ?_ _)); refine blk_far ?_ NB282_283.out _; (with_reducible repeat (first | refine blk_drewN ?_ _ | refine blk_drew ?_ | refine blk_alloc ?_ _)); refine blk_far ?_ NB282_283.out _; (with_reducible repeat (first | refine blk_drewN ?_ _ | refine blk_drew ?_ | refine blk_alloc ?_ _)); exact BK282.out⟩, ⟨by (with_reducible repeat (first | refine blk_drewN ?_ _ | refine blk_drew ?_ | refine blk_alloc ?_ _)); refine blk_put (cs := #[.int .i64 a0, .int .i64 0, .int .i64 a0, .int .i64 0]) ?_ 3 _ rfl; (with_reducible repeat (first | refine blk_drewN ?_ _ | refine blk_drew ?_ | refine blk_alloc ?_ _)); refine blk_put (cs := #[.int .i64 a0, .int .i64 0, .int .i64 0, .int .i64 0]) ?_ 2 _ rfl; (with_reducible repeat (first | refine blk_drewN ?_ _ | refine blk_drew ?_ | refine blk_alloc ?_ _)); refine blk_put (cs := #[.int .i64 a0, .int .i64 0, .int .i64 0, .int .i64 0]) ?_ 1 _ rfl; (with_reducible repeat (first | refine blk_drewN ?_ _ | refine blk_drew ?_ | refine blk_alloc ?_ _)); refine blk_put (cs := #[.int .i64 0, .int .i64 0, .int .i64 0, .int .i64 0]) ?_ 0 _ rfl; (with_reducible repeat (first | refine blk_drewN ?_ _ | refine blk_drew ?_ | refine blk_alloc ?_ _)); exact BK283.out⟩, ⟨by repeat (first | (with_reducible first | exact HB.out | apply below_alloc | apply pw_below_drewN | apply below_drew1 | refine below_set ?_ GE282.out | refine below_set ?_ GE283.out) | exact HB.out)⟩⟩
  case round =>
    clear H'
    try clear c1
    try clear p2
    try clear c5
    try clear hcz6_0
    try clear hcz6_1
    try clear hcz6_2
    try clear hcz6_3
    try clear hfz6_0
    try clear hfz6_1
    try clear hfz6_2
    try clear hfz6_3
    obtain ⟨x7_1, x16_1, x284000_1, x284001_1, x284002_1, x284003_1, rfl, rfl, HA, HK1, BK282, BK283, HB⟩ := hrel
    cases gk with
    | zero => exact absurd HA.out (by simp [kissgateref10_Best.l0])
    | succ k1 =>
      have H := HA.out
      clear HA
      simp only [kissgateref10_Best.l0] at H
      by_cases c7 : x16_1 < (l1.length : Int)
      · rw [if_pos c7] at H
        have c7b0 : decide (x16_1 < (l1.length : Int)) = true := decide_eq_true c7
        clear c7
        by_cases c8 : 0 ≤ x16_1
        · rw [if_pos c8] at H
          have c8b0 : decide (0 ≤ x16_1) = true := decide_eq_true c8
          clear c8
          by_cases c9 : x16_1 < (l1.length : Int)
          · rw [if_pos c9] at H
            have c9b0 : decide (x16_1 < (l1.length : Int)) = true := decide_eq_true c9
            clear c9
            replace H := Option.bind_eq_some_iff.mp H
            obtain ⟨t286, A100, H⟩ := H
            replace H : ((kissgateref10_Use.f ((rd_T59 l1 x16_1).f0.f0) ((rd_T59 l1 x16_1).f0.f1) ((rd_T59 l1 x16_1).f0.f2) ((rd_T59 l1 x16_1).f0.f3) ((rd_T59 l1 x16_1).f1) ((rd_T59 l1 x16_1).f2) ((rd_T59 l1 x16_1).f3) a0).bind fun t288 => (if t288 = true then (if ((rd_T59 l1 x16_1).f0.f0) < a0 then ((kissgateref10_Better.f ((rd_T59 l1 x16_1).f0.f0) t286 ((rd_T59 l1 x16_1).f0.f2) ((rd_T59 l1 x16_1).f0.f3) x284000_1 x284001_1 x284002_1 x284003_1).bind fun t289 => (if t289 = true then (kissgateref10_Best.l0 k1 a0 x16_1 l1 (l1.length : Int) (wrap64 (x16_1 + 1)) ((rd_T59 l1 x16_1).f0.f0) t286 ((rd_T59 l1 x16_1).f0.f2) ((rd_T59 l1 x16_1).f0.f3)) else (kissgateref10_Best.l0 k1 a0 x7_1 l1 (l1.length : Int) (wrap64 (x16_1 + 1)) x284000_1 x284001_1 x284002_1 x284003_1))) else (kissgateref10_Best.l0 k1 a0 x7_1 l1 (l1.length : Int) (wrap64 (x16_1 + 1)) x284000_1 x284001_1 x284002_1 x284003_1)) else (kissgateref10_Best.l0 k1 a0 x7_1 l1 (l1.length : Int) (wrap64 (x16_1 + 1)) x284000_1 x284001_1 x284002_1 x284003_1))) = some (r1, r2, r3, r4, r5) := H
            have A10 := Aside0.mk A100
            clear A100
            have HS_ := Aside0.mk H
            clear H
            have p284 : 0 ≤ (x16_1 : Int) := of_decide_eq_true (by first | (with_reducible assumption) | assumption)
            have q284 : x16_1 < (l1.length : Int) := of_decide_eq_true (by first | (with_reducible assumption) | assumption)
            obtain ⟨ad284, e284, hx284_0, hx284_1, hx284_2, hx284_3, hx284_4, hx284_5, hx284_6⟩ := at_T59 HR1.out x16_1 p284 q284
            cases e284
            replace hx284_0 := (HB.out.cell (World.block_lt_of_cell? w _ hx284_0)).trans hx284_0
            replace hx284_1 := (HB.out.cell (World.block_lt_of_cell? w _ hx284_1)).trans hx284_1
            replace hx284_2 := (HB.out.cell (World.block_lt_of_cell? w _ hx284_2)).trans hx284_2
            replace hx284_3 := (HB.out.cell (World.block_lt_of_cell? w _ hx284_3)).trans hx284_3
            replace hx284_4 := (HB.out.cell (World.block_lt_of_cell? w _ hx284_4)).trans hx284_4
            replace hx284_5 := (HB.out.cell (World.block_lt_of_cell? w _ hx284_5)).trans hx284_5
            replace hx284_6 := (HB.out.cell (World.block_lt_of_cell? w _ hx284_6)).trans hx284_6
            replace p284 := eq_true p284
            replace q284 := eq_true q284
            try go_wp2_with (first | ((with_reducible refine gate_dst (N := 9) rfl ?_); refine box_event ?hg (N := 9) ?hd (cs := #[.int .i64 0, .int .i64 0, .int .i64 0, .int .i64 0, .int .i64 0, .int .i64 0, .bool false]) (t := 59) ?hr ?_; (case hd => rfl); (case hg => rfl); (case hr => first | (go_simp; done) | (go_simp; rfl)); intro gb285 hg w16 hbox hb; have n0_ := Aside0.mk (blk_below (g := gb282) (o := .cells #[.int .i64 0, .int .i64 0, .int .i64 0, .int .i64 0] 36 (0, 0)) (by (with_reducible repeat (first | refine blk_drewN ?_ _ | refine blk_drew ?_ | refine blk_alloc ?_ _)); exact BK282.out) hb); have n1_ := Aside0.mk (blk_below (g := gb283) (o := .cells #[.int .i64 x284000_1, .int .i64 x284001_1, .int .i64 x284002_1, .int .i64 x284003_1] 36 (0, 0)) (by (with_reducible repeat (first | refine blk_drewN ?_ _ | refine blk_drew ?_ | refine blk_alloc ?_ _)); exact BK283.out) hb); have n2_ := Aside0.mk (below_step (by repeat (first | (with_reducible first | exact HB.out | apply below_alloc | apply pw_below_drewN | apply below_drew1 | refine below_set ?_ GE282.out | refine below_set ?_ GE283.out) | exact HB.out)) hb); have n3_ := Aside0.mk (hbox); have n4_ := Aside0.mk ((by rw [hg]; exact (below_size (by repeat (first | (with_reducible first | exact HB.out | apply below_alloc | apply pw_below_drewN | apply below_drew1 | refine below_set ?_ GE282.out | refine below_set ?_ GE283.out) | exact HB.out))) : w.heap.size ≤ gb285)); have n5_ := Aside0.mk ((by rw [hg]; exact (below_size (by repeat (first | (with_reducible first | exact HB.out | apply below_alloc | apply pw_below_drewN | apply below_drew1 | refine below_set ?_ GE282.out | refine below_set ?_ GE283.out) | exact HB.out))) : w.heap.size ≤ gb285)); have n6_ := Aside0.mk ((by rw [hg]; exact Nat.ne_of_lt (blk_lt (g := gb282) (o := .cells #[.int .i64 0, .int .i64 0, .int .i64 0, .int .i64 0] 36 (0, 0)) (by (with_reducible repeat (first | refine blk_drewN ?_ _ | refine blk_drew ?_ | refine blk_alloc ?_ _)); exact BK282.out)) : gb282 ≠ gb285)); have n7_ := Aside0.mk ((by rw [hg]; exact Nat.ne_of_gt (blk_lt (g := gb282) (o := .cells #[.int .i64 0, .int .i64 0, .int .i64 0, .int .i64 0] 36 (0, 0)) (by (with_reducible repeat (first | refine blk_drewN ?_ _ | refine blk_drew ?_ | refine blk_alloc ?_ _)); exact BK282.out)) : gb285 ≠ gb282)); have n8_ := Aside0.mk ((by rw [hg]; exact Nat.ne_of_lt (blk_lt (g := gb283) (o := .cells #[.int .i64 x284000_1, .int .i64 x284001_1, .int .i64 x284002_1, .int .i64 x284003_1] 36 (0, 0)) (by (with_reducible repeat (first | refine blk_drewN ?_ _ | refine blk_drew ?_ | refine blk_alloc ?_ _)); exact BK283.out)) : gb283 ≠ gb285)); have n9_ := Aside0.mk ((by rw [hg]; exact Nat.ne_of_gt (blk_lt (g := gb283) (o := .cells #[.int .i64 x284000_1, .int .i64 x284001_1, .int .i64 x284002_1, .int .i64 x284003_1] 36 (0, 0)) (by (with_reducible repeat (first | refine blk_drewN ?_ _ | refine blk_drew ?_ | refine blk_alloc ?_ _)); exact BK283.out)) : gb285 ≠ gb283)); clear BK282; clear BK283; clear HB; have BK282 := n0_; have BK283 := n1_; have HB := n2_; have BK285 := n3_; have GW285 := n4_; have GE285 := n5_; have NB282_285 := n6_; have NB285_282 := n7_; have NB283_285 := n8_; have NB285_283 := n9_; clear n0_ n1_ n2_ n3_ n4_ n5_ n6_ n7_ n8_ n9_; clear hb hbox hg; have hnb17 := NB285_282.out; have hnc17 := NB282_285.out; have hnb18 := NB285_283.out; have hnc18 := NB283_285.out; have hcz19_0 : w16.cell? ⟨gb285, 0, none⟩ = some (.int .i64 0) := (blk_cell BK285.out 0).trans rfl; have hcz19_1 : w16.cell? ⟨gb285, 1, none⟩ = some (.int .i64 0) := (blk_cell BK285.out 1).trans rfl; have hcz19_2 : w16.cell? ⟨gb285, 2, none⟩ = some (.int .i64 0) := (blk_cell BK285.out 2).trans rfl; have hcz19_3 : w16.cell? ⟨gb285, 3, none⟩ = some (.int .i64 0) := (blk_cell BK285.out 3).trans rfl; have hcz19_4 : w16.cell? ⟨gb285, 4, none⟩ = some (.int .i64 0) := (blk_cell BK285.out 4).trans rfl; have hcz19_5 : w16.cell? ⟨gb285, 5, none⟩ = some (.int .i64 0) := (blk_cell BK285.out 5).trans rfl; have hcz19_6 : w16.cell? ⟨gb285, 6, none⟩ = some (.bool false) := (blk_cell BK285.out 6).trans rfl; have hfz19_0 := blk_frozen BK285.out 0; have hfz19_1 := blk_frozen BK285.out 1; have hfz19_2 := blk_frozen BK285.out 2; have hfz19_3 := blk_frozen BK285.out 3; have hfz19_4 := blk_frozen BK285.out 4; have hfz19_5 := blk_frozen BK285.out 5; have hfz19_6 := blk_frozen BK285.out 6))
            have n0_ : Aside0 ((((((((w16.setCell ⟨gb285, 0, none⟩ (.int .i64 ((rd_T59 l1 x16_1).f0.f0))).setCell ⟨gb285, 1, none⟩ (.int .i64 ((rd_T59 l1 x16_1).f0.f1))).setCell ⟨gb285, 2, none⟩ (.int .i64 ((rd_T59 l1 x16_1).f0.f2))).setCell ⟨gb285, 3, none⟩ (.int .i64 ((rd_T59 l1 x16_1).f0.f3))).setCell ⟨gb285, 4, none⟩ (.int .i64 ((rd_T59 l1 x16_1).f1))).setCell ⟨gb285, 5, none⟩ (.int .i64 ((rd_T59 l1 x16_1).f2))).setCell ⟨gb285, 6, none⟩ (.bool ((rd_T59 l1 x16_1).f3))).heap[gb282]? = some (.cells #[.int .i64 0, .int .i64 0, .int .i64 0, .int .i64 0] 36 (0, 0))) := ⟨by (with_reducible repeat (first | refine blk_drewN ?_ _ | refine blk_drew ?_ | refine blk_alloc ?_ _)); refine blk_far ?_ NB282_285.out _; (with_reducible repeat (first | refine blk_drewN ?_ _ | refine blk_drew ?_ | refine blk_alloc ?_ _)); refine blk_far ?_ NB282_285.out _; (with_reducible repeat (first | refine blk_drewN ?_ _ | refine blk_drew ?_ | refine blk_alloc ?_ _)); refine blk_far ?_ NB282_285.out _; (with_reducible repeat (first | refine blk_drewN ?_ _ | refine blk_drew ?_ | refine blk_alloc ?_ _)); refine blk_far ?_ NB282_285.out _; (with_reducible repeat (first | refine blk_drewN ?_ _ | refine blk_drew ?_ | refine blk_alloc ?_ _)); refine blk_far ?_ NB282_285.out _; (with_reducible repeat (first | refine blk_drewN ?_ _ | refine blk_drew ?_ | refine blk_alloc ?_ _)); refine blk_far ?_ NB282_285.out _; (with_reducible repeat (first | refine blk_drewN ?_ _ | refine blk_drew ?_ | refine blk_alloc ?_ _)); refine blk_far ?_ NB282_285.out _; (with_reducible repeat (first | refine blk_drewN ?_ _ | refine blk_drew ?_ | refine blk_alloc ?_ _)); exact BK282.out⟩
            have n1_ : Aside0 ((((((((w16.setCell ⟨gb285, 0, none⟩ (.int .i64 ((rd_T59 l1 x16_1).f0.f0))).setCell ⟨gb285, 1, none⟩ (.int .i64 ((rd_T59 l1 x16_1).f0.f1))).setCell ⟨gb285, 2, none⟩ (.int .i64 ((rd_T59 l1 x16_1).f0.f2))).setCell ⟨gb285, 3, none⟩ (.int .i64 ((rd_T59 l1 x16_1).f0.f3))).setCell ⟨gb285, 4, none⟩ (.int .i64 ((rd_T59 l1 x16_1).f1))).setCell ⟨gb285, 5, none⟩ (.int .i64 ((rd_T59 l1 x16_1).f2))).setCell ⟨gb285, 6, none⟩ (.bool ((rd_T59 l1 x16_1).f3))).heap[gb283]? = some (.cells #[.int .i64 x284000_1, .int .i64 x284001_1, .int .i64 x284002_1, .int .i64 x284003_1] 36 (0, 0))) := ⟨by (with_reducible repeat (first | refine blk_drewN ?_ _ | refine blk_drew ?_ | refine blk_alloc ?_ _)); refine blk_far ?_ NB283_285.out _; (with_reducible repeat (first | refine blk_drewN ?_ _ | refine blk_drew ?_ | refine blk_alloc ?_ _)); refine blk_far ?_ NB283_285.out _; (with_reducible repeat (first | refine blk_drewN ?_ _ | refine blk_drew ?_ | refine blk_alloc ?_ _)); refine blk_far ?_ NB283_285.out _; (with_reducible repeat (first | refine blk_drewN ?_ _ | refine blk_drew ?_ | refine blk_alloc ?_ _)); refine blk_far ?_ NB283_285.out _; (with_reducible repeat (first | refine blk_drewN ?_ _ | refine blk_drew ?_ | refine blk_alloc ?_ _)); refine blk_far ?_ NB283_285.out _; (with_reducible repeat (first | refine blk_drewN ?_ _ | refine blk_drew ?_ | refine blk_alloc ?_ _)); refine blk_far ?_ NB283_285.out _; (with_reducible repeat (first | refine blk_drewN ?_ _ | refine blk_drew ?_ | refine blk_alloc ?_ _)); refine blk_far ?_ NB283_285.out _; (with_reducible repeat (first | refine blk_drewN ?_ _ | refine blk_drew ?_ | refine blk_alloc ?_ _)); exact BK283.out⟩
            have n2_ : Aside0 ((((((((w16.setCell ⟨gb285, 0, none⟩ (.int .i64 ((rd_T59 l1 x16_1).f0.f0))).setCell ⟨gb285, 1, none⟩ (.int .i64 ((rd_T59 l1 x16_1).f0.f1))).setCell ⟨gb285, 2, none⟩ (.int .i64 ((rd_T59 l1 x16_1).f0.f2))).setCell ⟨gb285, 3, none⟩ (.int .i64 ((rd_T59 l1 x16_1).f0.f3))).setCell ⟨gb285, 4, none⟩ (.int .i64 ((rd_T59 l1 x16_1).f1))).setCell ⟨gb285, 5, none⟩ (.int .i64 ((rd_T59 l1 x16_1).f2))).setCell ⟨gb285, 6, none⟩ (.bool ((rd_T59 l1 x16_1).f3))).heap[gb285]? = some (.cells #[.int .i64 ((rd_T59 l1 x16_1).f0.f0), .int .i64 ((rd_T59 l1 x16_1).f0.f1), .int .i64 ((rd_T59 l1 x16_1).f0.f2), .int .i64 ((rd_T59 l1 x16_1).f0.f3), .int .i64 ((rd_T59 l1 x16_1).f1), .int .i64 ((rd_T59 l1 x16_1).f2), .bool ((rd_T59 l1 x16_1).f3)] 59 (0, 0))) := ⟨by (with_reducible repeat (first | refine blk_drewN ?_ _ | refine blk_drew ?_ | refine blk_alloc ?_ _)); refine blk_put (cs := #[.int .i64 ((rd_T59 l1 x16_1).f0.f0), .int .i64 ((rd_T59 l1 x16_1).f0.f1), .int .i64 ((rd_T59 l1 x16_1).f0.f2), .int .i64 ((rd_T59 l1 x16_1).f0.f3), .int .i64 ((rd_T59 l1 x16_1).f1), .int .i64 ((rd_T59 l1 x16_1).f2), .bool false]) ?_ 6 _ rfl; (with_reducible repeat (first | refine blk_drewN ?_ _ | refine blk_drew ?_ | refine blk_alloc ?_ _)); refine blk_put (cs := #[.int .i64 ((rd_T59 l1 x16_1).f0.f0), .int .i64 ((rd_T59 l1 x16_1).f0.f1), .int .i64 ((rd_T59 l1 x16_1).f0.f2), .int .i64 ((rd_T59 l1 x16_1).f0.f3), .int .i64 ((rd_T59 l1 x16_1).f1), .int .i64 0, .bool false]) ?_ 5 _ rfl; (with_reducible repeat (first | refine blk_drewN ?_ _ | refine blk_drew ?_ | refine blk_alloc ?_ _)); refine blk_put (cs := #[.int .i64 ((rd_T59 l1 x16_1).f0.f0), .int .i64 ((rd_T59 l1 x16_1).f0.f1), .int .i64 ((rd_T59 l1 x16_1).f0.f2), .int .i64 ((rd_T59 l1 x16_1).f0.f3), .int .i64 0, .int .i64 0, .bool false]) ?_ 4 _ rfl; (with_reducible repeat (first | refine blk_drewN ?_ _ | refine blk_drew ?_ | refine blk_alloc ?_ _)); refine blk_put (cs := #[.int .i64 ((rd_T59 l1 x16_1).f0.f0), .int .i64 ((rd_T59 l1 x16_1).f0.f1), .int .i64 ((rd_T59 l1 x16_1).f0.f2), .int .i64 0, .int .i64 0, .int .i64 0, .bool false]) ?_ 3 _ rfl; (with_reducible repeat (first | refine blk_drewN ?_ _ | refine blk_drew ?_ | refine blk_alloc ?_ _)); refine blk_put (cs := #[.int .i64 ((rd_T59 l1 x16_1).f0.f0), .int .i64 ((rd_T59 l1 x16_1).f0.f1), .int .i64 0, .int .i64 0, .int .i64 0, .int .i64 0, .bool false]) ?_ 2 _ rfl; (with_reducible repeat (first | refine blk_drewN ?_ _ | refine blk_drew ?_ | refine blk_alloc ?_ _)); refine blk_put (cs := #[.int .i64 ((rd_T59 l1 x16_1).f0.f0), .int .i64 0, .int .i64 0, .int .i64 0, .int .i64 0, .int .i64 0, .bool false]) ?_ 1 _ rfl; (with_reducible repeat (first | refine blk_drewN ?_ _ | refine blk_drew ?_ | refine blk_alloc ?_ _)); refine blk_put (cs := #[.int .i64 0, .int .i64 0, .int .i64 0, .int .i64 0, .int .i64 0, .int .i64 0, .bool false]) ?_ 0 _ rfl; (with_reducible repeat (first | refine blk_drewN ?_ _ | refine blk_drew ?_ | refine blk_alloc ?_ _)); exact BK285.out⟩
            have n3_ : Aside0 (Below w.heap.size w (((((((w16.setCell ⟨gb285, 0, none⟩ (.int .i64 ((rd_T59 l1 x16_1).f0.f0))).setCell ⟨gb285, 1, none⟩ (.int .i64 ((rd_T59 l1 x16_1).f0.f1))).setCell ⟨gb285, 2, none⟩ (.int .i64 ((rd_T59 l1 x16_1).f0.f2))).setCell ⟨gb285, 3, none⟩ (.int .i64 ((rd_T59 l1 x16_1).f0.f3))).setCell ⟨gb285, 4, none⟩ (.int .i64 ((rd_T59 l1 x16_1).f1))).setCell ⟨gb285, 5, none⟩ (.int .i64 ((rd_T59 l1 x16_1).f2))).setCell ⟨gb285, 6, none⟩ (.bool ((rd_T59 l1 x16_1).f3)))) := ⟨by repeat (first | (with_reducible first | exact HB.out | apply below_alloc | apply pw_below_drewN | apply below_drew1 | refine below_set ?_ GE282.out | refine below_set ?_ GE283.out | refine below_set ?_ GE285.out) | exact HB.out)⟩
            (try clear BK282)
            (try clear BK283)
            (try clear BK285)
            (try clear HB)
            generalize (((((((w16.setCell ⟨gb285, 0, none⟩ (.int .i64 ((rd_T59 l1 x16_1).f0.f0))).setCell ⟨gb285, 1, none⟩ (.int .i64 ((rd_T59 l1 x16_1).f0.f1))).setCell ⟨gb285, 2, none⟩ (.int .i64 ((rd_T59 l1 x16_1).f0.f2))).setCell ⟨gb285, 3, none⟩ (.int .i64 ((rd_T59 l1 x16_1).f0.f3))).setCell ⟨gb285, 4, none⟩ (.int .i64 ((rd_T59 l1 x16_1).f1))).setCell ⟨gb285, 5, none⟩ (.int .i64 ((rd_T59 l1 x16_1).f2))).setCell ⟨gb285, 6, none⟩ (.bool ((rd_T59 l1 x16_1).f3))) = w20 at n0_ n1_ n2_ n3_ ⊢
            have BK282 := n0_
            have BK283 := n1_
            have BK285 := n2_
            have HB := n3_
            clear n0_ n1_ n2_ n3_
            have n0_ := Aside0.mk (blk_drew BK282.out)
            have n1_ := Aside0.mk (blk_drew BK283.out)
            have n2_ := Aside0.mk (blk_drew BK285.out)
            have n3_ := Aside0.mk (below_drew1 HB.out)
            clear BK282
            clear BK283
            clear BK285
            clear HB
            have BK282 := n0_
            have BK283 := n1_
            have BK285 := n2_
            have HB := n3_
            clear n0_ n1_ n2_ n3_
            refine start_ (n := 18) (S := fun w' => w'.cell? ⟨gb285, 0, none⟩ = some (.int .i64 ((rd_T59 l1 x16_1).f0.f0)) ∧ w'.cell? ⟨gb285, 1, none⟩ = some (.int .i64 ((rd_T59 l1 x16_1).f0.f1)) ∧ w'.cell? ⟨gb285, 2, none⟩ = some (.int .i64 ((rd_T59 l1 x16_1).f0.f2)) ∧ w'.cell? ⟨gb285, 3, none⟩ = some (.int .i64 ((rd_T59 l1 x16_1).f0.f3)) ∧ w'.cell? ⟨gb285, 4, none⟩ = some (.int .i64 ((rd_T59 l1 x16_1).f1)) ∧ w'.cell? ⟨gb285, 5, none⟩ = some (.int .i64 ((rd_T59 l1 x16_1).f2)) ∧ w'.cell? ⟨gb285, 6, none⟩ = some (.bool ((rd_T59 l1 x16_1).f3))) (ds := []) #[false, false, false, false, false, false, false, false, false, false, false, false, false, false, false, false, false, false] (by kernel_rfl) rfl rfl ⟨(blk_cell BK285.out 0).trans rfl, (blk_cell BK285.out 1).trans rfl, (blk_cell BK285.out 2).trans rfl, (blk_cell BK285.out 3).trans rfl, (blk_cell BK285.out 4).trans rfl, (blk_cell BK285.out 5).trans rfl, (blk_cell BK285.out 6).trans rfl⟩ (fun hHeld => ?_); refine with_tabW kissgateref10_Best.tab6 kissgateref10_Best.bits6 (fun HT_ HW_ => ?_)
            generalize w20.drew = w21 at BK282 BK283 BK285 HB hHeld ⊢
            refine pure_ (i := 0) (N := some 21) (v := ?_) (a' := ?_) #[true, false, false, false, false, false, false, false, false, false, false, false, false, false, false, false, false, false] rfl rfl (any_of HT_.out (by kernel_rfl)) (fun _ _ _ h => h) (Or.inl ⟨by rfl, ?_⟩) ?_ ?_
            rotate_left
            · intro w'
              go_simp
              with_reducible rfl
            rotate_left
            · simp only [Act.put, List.setIfInBounds_toArray, List.set_cons_zero, List.set_cons_succ, i64_w, i32_w]
              rfl
            refine pure_ (i := 1) (N := some 22) (v := ?_) (a' := ?_) #[true, true, false, false, false, false, false, false, false, false, false, false, false, false, false, false, false, false] rfl rfl (any_of HT_.out (by kernel_rfl)) (fun _ _ _ h => h) (Or.inl ⟨by rfl, ?_⟩) ?_ ?_
            rotate_left
            · intro w'
              go_simp
              with_reducible rfl
            rotate_left
            · simp only [Act.put, List.setIfInBounds_toArray, List.set_cons_zero, List.set_cons_succ, i64_w, i32_w]
              rfl
            refine pure_ (i := 3) (N := some 24) (v := ?_) (a' := ?_) #[true, true, false, true, false, false, false, false, false, false, false, false, false, false, false, false, false, false] rfl rfl (any_of HT_.out (by kernel_rfl)) (fun _ _ _ h => h) (Or.inl ⟨by rfl, ?_⟩) ?_ ?_
            rotate_left
            · intro w'
              go_simp
              with_reducible rfl
            rotate_left
            · simp only [Act.put, List.setIfInBounds_toArray, List.set_cons_zero, List.set_cons_succ, i64_w, i32_w]
              rfl
            refine pure_ (i := 4) (N := some 25) (v := ?_) (a' := ?_) #[true, true, false, true, true, false, false, false, false, false, false, false, false, false, false, false, false, false] rfl rfl (any_of HT_.out (by kernel_rfl)) (fun _ _ _ h => h) (Or.inl ⟨by rfl, ?_⟩) ?_ ?_
            rotate_left
            · intro w'
              go_simp
              with_reducible rfl
            rotate_left
            · simp only [Act.put, List.setIfInBounds_toArray, List.set_cons_zero, List.set_cons_succ, i64_w, i32_w]
              rfl
            refine pure_ (i := 6) (N := some 27) (v := ?_) (a' := ?_) #[true, true, false, true, true, false, true, false, false, false, false, false, false, false, false, false, false, false] rfl rfl (any_of HT_.out (by kernel_rfl)) (fun _ _ _ h => h) (Or.inl ⟨by rfl, ?_⟩) ?_ ?_
            rotate_left
            · intro w'
              go_simp
              with_reducible rfl
            rotate_left
            · simp only [Act.put, List.setIfInBounds_toArray, List.set_cons_zero, List.set_cons_succ, i64_w, i32_w]
              rfl
            refine pure_ (i := 9) (N := some 30) (v := ?_) (a' := ?_) #[true, true, false, true, true, false, true, false, false, true, false, false, false, false, false, false, false, false] rfl rfl (any_of HT_.out (by kernel_rfl)) (fun _ _ _ h => h) (Or.inl ⟨by rfl, ?_⟩) ?_ ?_
            rotate_left
            · intro w'
              go_simp
              with_reducible rfl
            rotate_left
            · simp only [Act.put, List.setIfInBounds_toArray, List.set_cons_zero, List.set_cons_succ, i64_w, i32_w]
              rfl
            refine pure_ (i := 10) (N := some 31) (v := ?_) (a' := ?_) #[true, true, false, true, true, false, true, false, false, true, true, false, false, false, false, false, false, false] rfl rfl (any_of HT_.out (by kernel_rfl)) (fun _ _ _ h => h) (Or.inl ⟨by rfl, ?_⟩) ?_ ?_
            rotate_left
            · intro w'
              go_simp
              with_reducible rfl
            rotate_left
            · simp only [Act.put, List.setIfInBounds_toArray, List.set_cons_zero, List.set_cons_succ, i64_w, i32_w]
              rfl
            refine pure_ (i := 12) (N := some 33) (v := ?_) (a' := ?_) #[true, true, false, true, true, false, true, false, false, true, true, false, true, false, false, false, false, false] rfl rfl (any_of HT_.out (by kernel_rfl)) (fun _ _ _ h => h) (Or.inl ⟨by rfl, ?_⟩) ?_ ?_
            rotate_left
            · intro w'
              go_simp
              with_reducible rfl
            rotate_left
            · simp only [Act.put, List.setIfInBounds_toArray, List.set_cons_zero, List.set_cons_succ, i64_w, i32_w]
              rfl
            refine pure_ (i := 13) (N := some 34) (v := ?_) (a' := ?_) #[true, true, false, true, true, false, true, false, false, true, true, false, true, true, false, false, false, false] rfl rfl (any_of HT_.out (by kernel_rfl)) (fun _ _ _ h => h) (Or.inl ⟨by rfl, ?_⟩) ?_ ?_
            rotate_left
            · intro w'
              go_simp
              with_reducible rfl
            rotate_left
            · simp only [Act.put, List.setIfInBounds_toArray, List.set_cons_zero, List.set_cons_succ, i64_w, i32_w]
              rfl
            refine take_ (i := 2) (N := some 23) (v := ?_) (a' := ?_) #[true, true, true, true, true, false, true, false, false, true, true, false, true, true, false, false, false, false] rfl rfl (take_ofW HT_.out HW_.out (by kernel_rfl)) (fun _ _ _ h => h) (Or.inl ⟨by rfl, ?_⟩) hHeld ?_ ?_
            rotate_left
            · rintro w' ⟨s0, s1, s2, s3, s4, s5, s6⟩
              go_simp
              with_reducible rfl
            rotate_left
            · simp only [Act.put, List.setIfInBounds_toArray, List.set_cons_zero, List.set_cons_succ, i64_w, i32_w]
              rfl
            refine take_ (i := 5) (N := some 26) (v := ?_) (a' := ?_) #[true, true, true, true, true, true, true, false, false, true, true, false, true, true, false, false, false, false] rfl rfl (take_ofW HT_.out HW_.out (by kernel_rfl)) (fun _ _ _ h => h) (Or.inl ⟨by rfl, ?_⟩) hHeld ?_ ?_
            rotate_left
            · rintro w' ⟨s0, s1, s2, s3, s4, s5, s6⟩
              go_simp
              with_reducible rfl
            rotate_left
            · simp only [Act.put, List.setIfInBounds_toArray, List.set_cons_zero, List.set_cons_succ, i64_w, i32_w]
              rfl
            refine take_ (i := 7) (N := some 28) (v := ?_) (a' := ?_) #[true, true, true, true, true, true, true, true, false, true, true, false, true, true, false, false, false, false] rfl rfl (take_ofW HT_.out HW_.out (by kernel_rfl)) (fun _ _ _ h => h) (Or.inl ⟨by rfl, ?_⟩) hHeld ?_ ?_
            rotate_left
            · rintro w' ⟨s0, s1, s2, s3, s4, s5, s6⟩
              go_simp
              with_reducible rfl
            rotate_left
            · simp only [Act.put, List.setIfInBounds_toArray, List.set_cons_zero, List.set_cons_succ, i64_w, i32_w]
              rfl
            refine take_ (i := 11) (N := some 32) (v := ?_) (a' := ?_) #[true, true, true, true, true, true, true, true, false, true, true, true, true, true, false, false, false, false] rfl rfl (take_ofW HT_.out HW_.out (by kernel_rfl)) (fun _ _ _ h => h) (Or.inl ⟨by rfl, ?_⟩) hHeld ?_ ?_
            rotate_left
            · rintro w' ⟨s0, s1, s2, s3, s4, s5, s6⟩
              go_simp
              with_reducible rfl
            rotate_left
            · simp only [Act.put, List.setIfInBounds_toArray, List.set_cons_zero, List.set_cons_succ, i64_w, i32_w]
              rfl
            refine take_ (i := 14) (N := some 35) (v := ?_) (a' := ?_) #[true, true, true, true, true, true, true, true, false, true, true, true, true, true, true, false, false, false] rfl rfl (take_ofW HT_.out HW_.out (by kernel_rfl)) (fun _ _ _ h => h) (Or.inl ⟨by rfl, ?_⟩) hHeld ?_ ?_
            rotate_left
            · rintro w' ⟨s0, s1, s2, s3, s4, s5, s6⟩
              go_simp
              with_reducible rfl
            rotate_left
            · simp only [Act.put, List.setIfInBounds_toArray, List.set_cons_zero, List.set_cons_succ, i64_w, i32_w]
              rfl
            refine join_ (σ := Nat) 1 #[true, true, true, true, true, true, true, true, true, true, true, true, true, true, true, true, true, false] (fun s_ => [(29, .int .i64 t286), (10, .pointer (some ⟨s_, 0, none⟩)), (36, .agg #[.int .i64 ((rd_T59 l1 x16_1).f0.f0), .int .i64 t286, .int .i64 ((rd_T59 l1 x16_1).f0.f2), .int .i64 ((rd_T59 l1 x16_1).f0.f3)])]) (fun s_ w' => (w'.cell? ⟨gb285, 0, none⟩ = some (.int .i64 ((rd_T59 l1 x16_1).f0.f0)) ∧ w'.cell? ⟨gb285, 1, none⟩ = some (.int .i64 ((rd_T59 l1 x16_1).f0.f1)) ∧ w'.cell? ⟨gb285, 2, none⟩ = some (.int .i64 ((rd_T59 l1 x16_1).f0.f2)) ∧ w'.cell? ⟨gb285, 3, none⟩ = some (.int .i64 ((rd_T59 l1 x16_1).f0.f3)) ∧ w'.cell? ⟨gb285, 4, none⟩ = some (.int .i64 ((rd_T59 l1 x16_1).f1)) ∧ w'.cell? ⟨gb285, 5, none⟩ = some (.int .i64 ((rd_T59 l1 x16_1).f2)) ∧ w'.cell? ⟨gb285, 6, none⟩ = some (.bool ((rd_T59 l1 x16_1).f3))) ∧ (w'.heap[gb282]? = some (.cells #[.int .i64 0, .int .i64 0, .int .i64 0, .int .i64 0] 36 (0, 0))) ∧ (w'.heap[gb283]? = some (.cells #[.int .i64 x284000_1, .int .i64 x284001_1, .int .i64 x284002_1, .int .i64 x284003_1] 36 (0, 0))) ∧ (w'.heap[gb285]? = some (.cells #[.int .i64 ((rd_T59 l1 x16_1).f0.f0), .int .i64 ((rd_T59 l1 x16_1).f0.f1), .int .i64 ((rd_T59 l1 x16_1).f0.f2), .int .i64 ((rd_T59 l1 x16_1).f0.f3), .int .i64 ((rd_T59 l1 x16_1).f1), .int .i64 ((rd_T59 l1 x16_1).f2), .bool ((rd_T59 l1 x16_1).f3)] 59 (0, 0))) ∧ (w'.heap[s_]? = some (.cells #[.int .i64 0, .int .i64 0, .int .i64 0, .int .i64 0] 36 (0, 0))) ∧ (w.heap.size ≤ s_) ∧ (w.heap.size ≤ s_) ∧ (gb282 ≠ s_) ∧ (s_ ≠ gb282) ∧ (gb283 ≠ s_) ∧ (s_ ≠ gb283) ∧ (gb285 ≠ s_) ∧ (s_ ≠ gb285) ∧ (Below w.heap.size w w')) ?_ ?_
            rotate_left
            · intro hCont
              refine two_ (i := 8) (j := 16) (Ni := some 29) (Nj := some 10) #[true, true, true, true, true, true, true, true, true, true, true, true, true, true, true, false, false, false] #[true, true, true, true, true, true, true, true, false, true, true, true, true, true, true, false, true, false] rfl rfl rfl rfl (two_of HT_.out (by kernel_rfl)) (by decide) (by decide) (fun K hK => ?_) (fun K hK => ?_)
              · skip
                refine goes_ Tryd.func63 (by kernel_rfl) rfl #[.int .i64 ((rd_T59 l1 x16_1).f0.f1), .int .i64 ((rd_T59 l1 x16_1).f2)] (by rfl) rfl rfl (by (try simp only [List.map_toArray, List.map_cons, List.map_nil]); first | done | rfl | (simp only [List.length_drop, List.length_take]; rfl)) ?_
                with_reducible refine (kissgateref10_Sum.calls ((rd_T59 l1 x16_1).f0.f1) ((rd_T59 l1 x16_1).f2) t286 _ A10.out).mono ?_
                rintro e w22 ⟨rfl, hb⟩
                refine ⟨_, rfl, ?_⟩
                have n0_ := Aside0.mk (blk_below (g := gb282) (o := .cells #[.int .i64 0, .int .i64 0, .int .i64 0, .int .i64 0] 36 (0, 0)) (by (with_reducible repeat (first | refine blk_drewN ?_ _ | refine blk_drew ?_ | refine blk_alloc ?_ _)); exact BK282.out) hb)
                have n1_ := Aside0.mk (blk_below (g := gb283) (o := .cells #[.int .i64 x284000_1, .int .i64 x284001_1, .int .i64 x284002_1, .int .i64 x284003_1] 36 (0, 0)) (by (with_reducible repeat (first | refine blk_drewN ?_ _ | refine blk_drew ?_ | refine blk_alloc ?_ _)); exact BK283.out) hb)
                have n2_ := Aside0.mk (blk_below (g := gb285) (o := .cells #[.int .i64 ((rd_T59 l1 x16_1).f0.f0), .int .i64 ((rd_T59 l1 x16_1).f0.f1), .int .i64 ((rd_T59 l1 x16_1).f0.f2), .int .i64 ((rd_T59 l1 x16_1).f0.f3), .int .i64 ((rd_T59 l1 x16_1).f1), .int .i64 ((rd_T59 l1 x16_1).f2), .bool ((rd_T59 l1 x16_1).f3)] 59 (0, 0)) (by (with_reducible repeat (first | refine blk_drewN ?_ _ | refine blk_drew ?_ | refine blk_alloc ?_ _)); exact BK285.out) hb)
                have n3_ := Aside0.mk (below_step (by repeat (first | (with_reducible first | exact HB.out | apply below_alloc | apply pw_below_drewN | apply below_drew1 | refine below_set ?_ GE282.out | refine below_set ?_ GE283.out | refine below_set ?_ GE285.out) | exact HB.out)) hb)
                clear BK282
                clear BK283
                clear BK285
                clear HB
                have BK282 := n0_
                have BK283 := n1_
                have BK285 := n2_
                have HB := n3_
                clear n0_ n1_ n2_ n3_
                (try clear hb)
                (try clear hb2)
                (try clear hk)
                (try clear hi)
                refine hK.out _ _ ⟨(blk_cell BK285.out 0).trans rfl, (blk_cell BK285.out 1).trans rfl, (blk_cell BK285.out 2).trans rfl, (blk_cell BK285.out 3).trans rfl, (blk_cell BK285.out 4).trans rfl, (blk_cell BK285.out 5).trans rfl, (blk_cell BK285.out 6).trans rfl⟩ (fun hHeld => ?_)
                clear hK K
                refine norm_ (a' := ?_) ?_ ?_
                rotate_left
                · show Act.put _ (some 29) _ = _
                  simp only [Act.put, List.setIfInBounds_toArray, List.set_cons_zero, List.set_cons_succ, i64_w, i32_w]
                  rfl
                refine pure_ (i := 15) (N := some 36) (v := ?_) (a' := ?_) #[true, true, true, true, true, true, true, true, true, true, true, true, true, true, true, true, false, false] rfl rfl (any_of HT_.out (by kernel_rfl)) (fun _ _ _ h => h) (Or.inl ⟨by rfl, ?_⟩) ?_ ?_
                rotate_left
                · intro w'
                  go_simp
                  with_reducible rfl
                rotate_left
                · simp only [Act.put, List.setIfInBounds_toArray, List.set_cons_zero, List.set_cons_succ, i64_w, i32_w]
                  rfl
                refine one_ (i := 16) (N := some 10) #[true, true, true, true, true, true, true, true, true, true, true, true, true, true, true, true, true, false] rfl rfl (one_of HT_.out (by kernel_rfl)) (by decide) (fun K hK => ?_)
                refine box_step ?hg (N := 10) ?hd (cs := #[.int .i64 0, .int .i64 0, .int .i64 0, .int .i64 0]) (t := 36) ?hr ?_; (case hd => rfl); (case hg => rfl); (case hr => first | (go_simp; done) | (go_simp; rfl))
                intro gb287 hg w23 hbox hb
                have n0_ := Aside0.mk (blk_below (g := gb282) (o := .cells #[.int .i64 0, .int .i64 0, .int .i64 0, .int .i64 0] 36 (0, 0)) (by (with_reducible repeat (first | refine blk_drewN ?_ _ | refine blk_drew ?_ | refine blk_alloc ?_ _)); exact BK282.out) hb)
                have n1_ := Aside0.mk (blk_below (g := gb283) (o := .cells #[.int .i64 x284000_1, .int .i64 x284001_1, .int .i64 x284002_1, .int .i64 x284003_1] 36 (0, 0)) (by (with_reducible repeat (first | refine blk_drewN ?_ _ | refine blk_drew ?_ | refine blk_alloc ?_ _)); exact BK283.out) hb)
                have n2_ := Aside0.mk (blk_below (g := gb285) (o := .cells #[.int .i64 ((rd_T59 l1 x16_1).f0.f0), .int .i64 ((rd_T59 l1 x16_1).f0.f1), .int .i64 ((rd_T59 l1 x16_1).f0.f2), .int .i64 ((rd_T59 l1 x16_1).f0.f3), .int .i64 ((rd_T59 l1 x16_1).f1), .int .i64 ((rd_T59 l1 x16_1).f2), .bool ((rd_T59 l1 x16_1).f3)] 59 (0, 0)) (by (with_reducible repeat (first | refine blk_drewN ?_ _ | refine blk_drew ?_ | refine blk_alloc ?_ _)); exact BK285.out) hb)
                have n3_ := Aside0.mk (below_step (by repeat (first | (with_reducible first | exact HB.out | apply below_alloc | apply pw_below_drewN | apply below_drew1 | refine below_set ?_ GE282.out | refine below_set ?_ GE283.out | refine below_set ?_ GE285.out) | exact HB.out)) hb)
                have n4_ := Aside0.mk (hbox)
                have n5_ := Aside0.mk ((by rw [hg]; exact (below_size (by repeat (first | (with_reducible first | exact HB.out | apply below_alloc | apply pw_below_drewN | apply below_drew1 | refine below_set ?_ GE282.out | refine below_set ?_ GE283.out | refine below_set ?_ GE285.out) | exact HB.out))) : w.heap.size ≤ gb287))
                have n6_ := Aside0.mk ((by rw [hg]; exact (below_size (by repeat (first | (with_reducible first | exact HB.out | apply below_alloc | apply pw_below_drewN | apply below_drew1 | refine below_set ?_ GE282.out | refine below_set ?_ GE283.out | refine below_set ?_ GE285.out) | exact HB.out))) : w.heap.size ≤ gb287))
                have n7_ := Aside0.mk ((by rw [hg]; exact Nat.ne_of_lt (blk_lt (g := gb282) (o := .cells #[.int .i64 0, .int .i64 0, .int .i64 0, .int .i64 0] 36 (0, 0)) (by (with_reducible repeat (first | refine blk_drewN ?_ _ | refine blk_drew ?_ | refine blk_alloc ?_ _)); exact BK282.out)) : gb282 ≠ gb287))
                have n8_ := Aside0.mk ((by rw [hg]; exact Nat.ne_of_gt (blk_lt (g := gb282) (o := .cells #[.int .i64 0, .int .i64 0, .int .i64 0, .int .i64 0] 36 (0, 0)) (by (with_reducible repeat (first | refine blk_drewN ?_ _ | refine blk_drew ?_ | refine blk_alloc ?_ _)); exact BK282.out)) : gb287 ≠ gb282))
                have n9_ := Aside0.mk ((by rw [hg]; exact Nat.ne_of_lt (blk_lt (g := gb283) (o := .cells #[.int .i64 x284000_1, .int .i64 x284001_1, .int .i64 x284002_1, .int .i64 x284003_1] 36 (0, 0)) (by (with_reducible repeat (first | refine blk_drewN ?_ _ | refine blk_drew ?_ | refine blk_alloc ?_ _)); exact BK283.out)) : gb283 ≠ gb287))
                have n10_ := Aside0.mk ((by rw [hg]; exact Nat.ne_of_gt (blk_lt (g := gb283) (o := .cells #[.int .i64 x284000_1, .int .i64 x284001_1, .int .i64 x284002_1, .int .i64 x284003_1] 36 (0, 0)) (by (with_reducible repeat (first | refine blk_drewN ?_ _ | refine blk_drew ?_ | refine blk_alloc ?_ _)); exact BK283.out)) : gb287 ≠ gb283))
                have n11_ := Aside0.mk ((by rw [hg]; exact Nat.ne_of_lt (blk_lt (g := gb285) (o := .cells #[.int .i64 ((rd_T59 l1 x16_1).f0.f0), .int .i64 ((rd_T59 l1 x16_1).f0.f1), .int .i64 ((rd_T59 l1 x16_1).f0.f2), .int .i64 ((rd_T59 l1 x16_1).f0.f3), .int .i64 ((rd_T59 l1 x16_1).f1), .int .i64 ((rd_T59 l1 x16_1).f2), .bool ((rd_T59 l1 x16_1).f3)] 59 (0, 0)) (by (with_reducible repeat (first | refine blk_drewN ?_ _ | refine blk_drew ?_ | refine blk_alloc ?_ _)); exact BK285.out)) : gb285 ≠ gb287))
                have n12_ := Aside0.mk ((by rw [hg]; exact Nat.ne_of_gt (blk_lt (g := gb285) (o := .cells #[.int .i64 ((rd_T59 l1 x16_1).f0.f0), .int .i64 ((rd_T59 l1 x16_1).f0.f1), .int .i64 ((rd_T59 l1 x16_1).f0.f2), .int .i64 ((rd_T59 l1 x16_1).f0.f3), .int .i64 ((rd_T59 l1 x16_1).f1), .int .i64 ((rd_T59 l1 x16_1).f2), .bool ((rd_T59 l1 x16_1).f3)] 59 (0, 0)) (by (with_reducible repeat (first | refine blk_drewN ?_ _ | refine blk_drew ?_ | refine blk_alloc ?_ _)); exact BK285.out)) : gb287 ≠ gb285))
                clear BK282
                clear BK283
                clear BK285
                clear HB
                have BK282 := n0_
                have BK283 := n1_
                have BK285 := n2_
                have HB := n3_
                have BK287 := n4_
                have GW287 := n5_
                have GE287 := n6_
                have NB282_287 := n7_
                have NB287_282 := n8_
                have NB283_287 := n9_
                have NB287_283 := n10_
                have NB285_287 := n11_
                have NB287_285 := n12_
                clear n0_ n1_ n2_ n3_ n4_ n5_ n6_ n7_ n8_ n9_ n10_ n11_ n12_
                clear hb hbox hg
                refine hK.out _ _ ⟨(blk_cell BK285.out 0).trans rfl, (blk_cell BK285.out 1).trans rfl, (blk_cell BK285.out 2).trans rfl, (blk_cell BK285.out 3).trans rfl, (blk_cell BK285.out 4).trans rfl, (blk_cell BK285.out 5).trans rfl, (blk_cell BK285.out 6).trans rfl⟩ (fun hHeld => ?_)
                clear hK K
                refine norm_ (a' := ?_) ?_ ?_
                rotate_left
                · show Act.put _ (some 10) _ = _
                  simp only [Act.put, List.setIfInBounds_toArray, List.set_cons_zero, List.set_cons_succ, i64_w, i32_w]
                  rfl
                exact norm_ (by simp only [putAll, Act.put, List.setIfInBounds_toArray, List.set_cons_zero, List.set_cons_succ]) (hCont (gb287) _ ⟨hHeld, (by (with_reducible repeat (first | refine blk_drewN ?_ _ | refine blk_drew ?_ | refine blk_alloc ?_ _)); exact BK282.out), (by (with_reducible repeat (first | refine blk_drewN ?_ _ | refine blk_drew ?_ | refine blk_alloc ?_ _)); exact BK283.out), (by (with_reducible repeat (first | refine blk_drewN ?_ _ | refine blk_drew ?_ | refine blk_alloc ?_ _)); exact BK285.out), (by (with_reducible repeat (first | refine blk_drewN ?_ _ | refine blk_drew ?_ | refine blk_alloc ?_ _)); exact BK287.out), GW287.out, GE287.out, NB282_287.out, NB287_282.out, NB283_287.out, NB287_283.out, NB285_287.out, NB287_285.out, (by repeat (first | (with_reducible first | exact HB.out | apply below_alloc | apply pw_below_drewN | apply below_drew1 | refine below_set ?_ GE282.out | refine below_set ?_ GE283.out | refine below_set ?_ GE285.out | refine below_set ?_ GE287.out) | exact HB.out))⟩)
              · skip
                refine box_step ?hg (N := 10) ?hd (cs := #[.int .i64 0, .int .i64 0, .int .i64 0, .int .i64 0]) (t := 36) ?hr ?_; (case hd => rfl); (case hg => rfl); (case hr => first | (go_simp; done) | (go_simp; rfl))
                intro gb287 hg w22 hbox hb
                have n0_ := Aside0.mk (blk_below (g := gb282) (o := .cells #[.int .i64 0, .int .i64 0, .int .i64 0, .int .i64 0] 36 (0, 0)) (by (with_reducible repeat (first | refine blk_drewN ?_ _ | refine blk_drew ?_ | refine blk_alloc ?_ _)); exact BK282.out) hb)
                have n1_ := Aside0.mk (blk_below (g := gb283) (o := .cells #[.int .i64 x284000_1, .int .i64 x284001_1, .int .i64 x284002_1, .int .i64 x284003_1] 36 (0, 0)) (by (with_reducible repeat (first | refine blk_drewN ?_ _ | refine blk_drew ?_ | refine blk_alloc ?_ _)); exact BK283.out) hb)
                have n2_ := Aside0.mk (blk_below (g := gb285) (o := .cells #[.int .i64 ((rd_T59 l1 x16_1).f0.f0), .int .i64 ((rd_T59 l1 x16_1).f0.f1), .int .i64 ((rd_T59 l1 x16_1).f0.f2), .int .i64 ((rd_T59 l1 x16_1).f0.f3), .int .i64 ((rd_T59 l1 x16_1).f1), .int .i64 ((rd_T59 l1 x16_1).f2), .bool ((rd_T59 l1 x16_1).f3)] 59 (0, 0)) (by (with_reducible repeat (first | refine blk_drewN ?_ _ | refine blk_drew ?_ | refine blk_alloc ?_ _)); exact BK285.out) hb)
                have n3_ := Aside0.mk (below_step (by repeat (first | (with_reducible first | exact HB.out | apply below_alloc | apply pw_below_drewN | apply below_drew1 | refine below_set ?_ GE282.out | refine below_set ?_ GE283.out | refine below_set ?_ GE285.out) | exact HB.out)) hb)
                have n4_ := Aside0.mk (hbox)
                have n5_ := Aside0.mk ((by rw [hg]; exact (below_size (by repeat (first | (with_reducible first | exact HB.out | apply below_alloc | apply pw_below_drewN | apply below_drew1 | refine below_set ?_ GE282.out | refine below_set ?_ GE283.out | refine below_set ?_ GE285.out) | exact HB.out))) : w.heap.size ≤ gb287))
                have n6_ := Aside0.mk ((by rw [hg]; exact (below_size (by repeat (first | (with_reducible first | exact HB.out | apply below_alloc | apply pw_below_drewN | apply below_drew1 | refine below_set ?_ GE282.out | refine below_set ?_ GE283.out | refine below_set ?_ GE285.out) | exact HB.out))) : w.heap.size ≤ gb287))
                have n7_ := Aside0.mk ((by rw [hg]; exact Nat.ne_of_lt (blk_lt (g := gb282) (o := .cells #[.int .i64 0, .int .i64 0, .int .i64 0, .int .i64 0] 36 (0, 0)) (by (with_reducible repeat (first | refine blk_drewN ?_ _ | refine blk_drew ?_ | refine blk_alloc ?_ _)); exact BK282.out)) : gb282 ≠ gb287))
                have n8_ := Aside0.mk ((by rw [hg]; exact Nat.ne_of_gt (blk_lt (g := gb282) (o := .cells #[.int .i64 0, .int .i64 0, .int .i64 0, .int .i64 0] 36 (0, 0)) (by (with_reducible repeat (first | refine blk_drewN ?_ _ | refine blk_drew ?_ | refine blk_alloc ?_ _)); exact BK282.out)) : gb287 ≠ gb282))
                have n9_ := Aside0.mk ((by rw [hg]; exact Nat.ne_of_lt (blk_lt (g := gb283) (o := .cells #[.int .i64 x284000_1, .int .i64 x284001_1, .int .i64 x284002_1, .int .i64 x284003_1] 36 (0, 0)) (by (with_reducible repeat (first | refine blk_drewN ?_ _ | refine blk_drew ?_ | refine blk_alloc ?_ _)); exact BK283.out)) : gb283 ≠ gb287))
                have n10_ := Aside0.mk ((by rw [hg]; exact Nat.ne_of_gt (blk_lt (g := gb283) (o := .cells #[.int .i64 x284000_1, .int .i64 x284001_1, .int .i64 x284002_1, .int .i64 x284003_1] 36 (0, 0)) (by (with_reducible repeat (first | refine blk_drewN ?_ _ | refine blk_drew ?_ | refine blk_alloc ?_ _)); exact BK283.out)) : gb287 ≠ gb283))
                have n11_ := Aside0.mk ((by rw [hg]; exact Nat.ne_of_lt (blk_lt (g := gb285) (o := .cells #[.int .i64 ((rd_T59 l1 x16_1).f0.f0), .int .i64 ((rd_T59 l1 x16_1).f0.f1), .int .i64 ((rd_T59 l1 x16_1).f0.f2), .int .i64 ((rd_T59 l1 x16_1).f0.f3), .int .i64 ((rd_T59 l1 x16_1).f1), .int .i64 ((rd_T59 l1 x16_1).f2), .bool ((rd_T59 l1 x16_1).f3)] 59 (0, 0)) (by (with_reducible repeat (first | refine blk_drewN ?_ _ | refine blk_drew ?_ | refine blk_alloc ?_ _)); exact BK285.out)) : gb285 ≠ gb287))
                have n12_ := Aside0.mk ((by rw [hg]; exact Nat.ne_of_gt (blk_lt (g := gb285) (o := .cells #[.int .i64 ((rd_T59 l1 x16_1).f0.f0), .int .i64 ((rd_T59 l1 x16_1).f0.f1), .int .i64 ((rd_T59 l1 x16_1).f0.f2), .int .i64 ((rd_T59 l1 x16_1).f0.f3), .int .i64 ((rd_T59 l1 x16_1).f1), .int .i64 ((rd_T59 l1 x16_1).f2), .bool ((rd_T59 l1 x16_1).f3)] 59 (0, 0)) (by (with_reducible repeat (first | refine blk_drewN ?_ _ | refine blk_drew ?_ | refine blk_alloc ?_ _)); exact BK285.out)) : gb287 ≠ gb285))
                clear BK282
                clear BK283
                clear BK285
                clear HB
                have BK282 := n0_
                have BK283 := n1_
                have BK285 := n2_
                have HB := n3_
                have BK287 := n4_
                have GW287 := n5_
                have GE287 := n6_
                have NB282_287 := n7_
                have NB287_282 := n8_
                have NB283_287 := n9_
                have NB287_283 := n10_
                have NB285_287 := n11_
                have NB287_285 := n12_
                clear n0_ n1_ n2_ n3_ n4_ n5_ n6_ n7_ n8_ n9_ n10_ n11_ n12_
                clear hb hbox hg
                refine hK.out _ _ ⟨(blk_cell BK285.out 0).trans rfl, (blk_cell BK285.out 1).trans rfl, (blk_cell BK285.out 2).trans rfl, (blk_cell BK285.out 3).trans rfl, (blk_cell BK285.out 4).trans rfl, (blk_cell BK285.out 5).trans rfl, (blk_cell BK285.out 6).trans rfl⟩ (fun hHeld => ?_)
                clear hK K
                refine norm_ (a' := ?_) ?_ ?_
                rotate_left
                · show Act.put _ (some 10) _ = _
                  simp only [Act.put, List.setIfInBounds_toArray, List.set_cons_zero, List.set_cons_succ, i64_w, i32_w]
                  rfl
                refine one_ (i := 8) (N := some 29) #[true, true, true, true, true, true, true, true, true, true, true, true, true, true, true, false, true, false] rfl rfl (one_of HT_.out (by kernel_rfl)) (by decide) (fun K hK => ?_)
                refine goes_ Tryd.func63 (by kernel_rfl) rfl #[.int .i64 ((rd_T59 l1 x16_1).f0.f1), .int .i64 ((rd_T59 l1 x16_1).f2)] (by rfl) rfl rfl (by (try simp only [List.map_toArray, List.map_cons, List.map_nil]); first | done | rfl | (simp only [List.length_drop, List.length_take]; rfl)) ?_
                with_reducible refine (kissgateref10_Sum.calls ((rd_T59 l1 x16_1).f0.f1) ((rd_T59 l1 x16_1).f2) t286 _ A10.out).mono ?_
                rintro e w23 ⟨rfl, hb⟩
                refine ⟨_, rfl, ?_⟩
                have n0_ := Aside0.mk (blk_below (g := gb282) (o := .cells #[.int .i64 0, .int .i64 0, .int .i64 0, .int .i64 0] 36 (0, 0)) (by (with_reducible repeat (first | refine blk_drewN ?_ _ | refine blk_drew ?_ | refine blk_alloc ?_ _)); exact BK282.out) hb)
                have n1_ := Aside0.mk (blk_below (g := gb283) (o := .cells #[.int .i64 x284000_1, .int .i64 x284001_1, .int .i64 x284002_1, .int .i64 x284003_1] 36 (0, 0)) (by (with_reducible repeat (first | refine blk_drewN ?_ _ | refine blk_drew ?_ | refine blk_alloc ?_ _)); exact BK283.out) hb)
                have n2_ := Aside0.mk (blk_below (g := gb285) (o := .cells #[.int .i64 ((rd_T59 l1 x16_1).f0.f0), .int .i64 ((rd_T59 l1 x16_1).f0.f1), .int .i64 ((rd_T59 l1 x16_1).f0.f2), .int .i64 ((rd_T59 l1 x16_1).f0.f3), .int .i64 ((rd_T59 l1 x16_1).f1), .int .i64 ((rd_T59 l1 x16_1).f2), .bool ((rd_T59 l1 x16_1).f3)] 59 (0, 0)) (by (with_reducible repeat (first | refine blk_drewN ?_ _ | refine blk_drew ?_ | refine blk_alloc ?_ _)); exact BK285.out) hb)
                have n3_ := Aside0.mk (blk_below (g := gb287) (o := .cells #[.int .i64 0, .int .i64 0, .int .i64 0, .int .i64 0] 36 (0, 0)) (by (with_reducible repeat (first | refine blk_drewN ?_ _ | refine blk_drew ?_ | refine blk_alloc ?_ _)); exact BK287.out) hb)
                have n4_ := Aside0.mk (below_step (by repeat (first | (with_reducible first | exact HB.out | apply below_alloc | apply pw_below_drewN | apply below_drew1 | refine below_set ?_ GE282.out | refine below_set ?_ GE283.out | refine below_set ?_ GE285.out | refine below_set ?_ GE287.out) | exact HB.out)) hb)
                clear BK282
                clear BK283
                clear BK285
                clear BK287
                clear HB
                have BK282 := n0_
                have BK283 := n1_
                have BK285 := n2_
                have BK287 := n3_
                have HB := n4_
                clear n0_ n1_ n2_ n3_ n4_
                (try clear hb)
                (try clear hb2)
                (try clear hk)
                (try clear hi)
                refine hK.out _ _ ⟨(blk_cell BK285.out 0).trans rfl, (blk_cell BK285.out 1).trans rfl, (blk_cell BK285.out 2).trans rfl, (blk_cell BK285.out 3).trans rfl, (blk_cell BK285.out 4).trans rfl, (blk_cell BK285.out 5).trans rfl, (blk_cell BK285.out 6).trans rfl⟩ (fun hHeld => ?_)
                clear hK K
                refine norm_ (a' := ?_) ?_ ?_
                rotate_left
                · show Act.put _ (some 29) _ = _
                  simp only [Act.put, List.setIfInBounds_toArray, List.set_cons_zero, List.set_cons_succ, i64_w, i32_w]
                  rfl
                refine pure_ (i := 15) (N := some 36) (v := ?_) (a' := ?_) #[true, true, true, true, true, true, true, true, true, true, true, true, true, true, true, true, true, false] rfl rfl (any_of HT_.out (by kernel_rfl)) (fun _ _ _ h => h) (Or.inl ⟨by rfl, ?_⟩) ?_ ?_
                rotate_left
                · intro w'
                  go_simp
                  with_reducible rfl
                rotate_left
                · simp only [Act.put, List.setIfInBounds_toArray, List.set_cons_zero, List.set_cons_succ, i64_w, i32_w]
                  rfl
                exact norm_ (by simp only [putAll, Act.put, List.setIfInBounds_toArray, List.set_cons_zero, List.set_cons_succ]) (hCont (gb287) _ ⟨hHeld, (by (with_reducible repeat (first | refine blk_drewN ?_ _ | refine blk_drew ?_ | refine blk_alloc ?_ _)); exact BK282.out), (by (with_reducible repeat (first | refine blk_drewN ?_ _ | refine blk_drew ?_ | refine blk_alloc ?_ _)); exact BK283.out), (by (with_reducible repeat (first | refine blk_drewN ?_ _ | refine blk_drew ?_ | refine blk_alloc ?_ _)); exact BK285.out), (by (with_reducible repeat (first | refine blk_drewN ?_ _ | refine blk_drew ?_ | refine blk_alloc ?_ _)); exact BK287.out), GW287.out, GE287.out, NB282_287.out, NB287_282.out, NB283_287.out, NB287_283.out, NB285_287.out, NB287_285.out, (by repeat (first | (with_reducible first | exact HB.out | apply below_alloc | apply pw_below_drewN | apply below_drew1 | refine below_set ?_ GE282.out | refine below_set ?_ GE283.out | refine below_set ?_ GE285.out | refine below_set ?_ GE287.out) | exact HB.out))⟩)
            rintro gb287 w24 ⟨hS_, h0_, h1_, h2_, h3_, h4_, h5_, h6_, h7_, h8_, h9_, h10_, h11_, h12_⟩
            have n0_ : Aside0 (w24.heap[gb282]? = some (.cells #[.int .i64 0, .int .i64 0, .int .i64 0, .int .i64 0] 36 (0, 0))) := ⟨h0_⟩
            have n1_ : Aside0 (w24.heap[gb283]? = some (.cells #[.int .i64 x284000_1, .int .i64 x284001_1, .int .i64 x284002_1, .int .i64 x284003_1] 36 (0, 0))) := ⟨h1_⟩
            have n2_ : Aside0 (w24.heap[gb285]? = some (.cells #[.int .i64 ((rd_T59 l1 x16_1).f0.f0), .int .i64 ((rd_T59 l1 x16_1).f0.f1), .int .i64 ((rd_T59 l1 x16_1).f0.f2), .int .i64 ((rd_T59 l1 x16_1).f0.f3), .int .i64 ((rd_T59 l1 x16_1).f1), .int .i64 ((rd_T59 l1 x16_1).f2), .bool ((rd_T59 l1 x16_1).f3)] 59 (0, 0))) := ⟨h2_⟩
            have n3_ : Aside0 (w24.heap[gb287]? = some (.cells #[.int .i64 0, .int .i64 0, .int .i64 0, .int .i64 0] 36 (0, 0))) := ⟨h3_⟩
            have n4_ : Aside0 (w.heap.size ≤ gb287) := ⟨h4_⟩
            have n5_ : Aside0 (w.heap.size ≤ gb287) := ⟨h5_⟩
            have n6_ : Aside0 (gb282 ≠ gb287) := ⟨h6_⟩
            have n7_ : Aside0 (gb287 ≠ gb282) := ⟨h7_⟩
            have n8_ : Aside0 (gb283 ≠ gb287) := ⟨h8_⟩
            have n9_ : Aside0 (gb287 ≠ gb283) := ⟨h9_⟩
            have n10_ : Aside0 (gb285 ≠ gb287) := ⟨h10_⟩
            have n11_ : Aside0 (gb287 ≠ gb285) := ⟨h11_⟩
            have n12_ : Aside0 (Below w.heap.size w w24) := ⟨h12_⟩
            clear BK282
            clear BK283
            clear BK285
            clear HB
            clear h0_ h1_ h2_ h3_ h4_ h5_ h6_ h7_ h8_ h9_ h10_ h11_ h12_
            have BK282 := n0_
            have BK283 := n1_
            have BK285 := n2_
            have BK287 := n3_
            have GW287 := n4_
            have GE287 := n5_
            have NB282_287 := n6_
            have NB287_282 := n7_
            have NB283_287 := n8_
            have NB287_283 := n9_
            have NB285_287 := n10_
            have NB287_285 := n11_
            have HB := n12_
            clear n0_ n1_ n2_ n3_ n4_ n5_ n6_ n7_ n8_ n9_ n10_ n11_ n12_
            have hHeld : w24.cell? ⟨gb285, 0, none⟩ = some (.int .i64 ((rd_T59 l1 x16_1).f0.f0)) ∧ w24.cell? ⟨gb285, 1, none⟩ = some (.int .i64 ((rd_T59 l1 x16_1).f0.f1)) ∧ w24.cell? ⟨gb285, 2, none⟩ = some (.int .i64 ((rd_T59 l1 x16_1).f0.f2)) ∧ w24.cell? ⟨gb285, 3, none⟩ = some (.int .i64 ((rd_T59 l1 x16_1).f0.f3)) ∧ w24.cell? ⟨gb285, 4, none⟩ = some (.int .i64 ((rd_T59 l1 x16_1).f1)) ∧ w24.cell? ⟨gb285, 5, none⟩ = some (.int .i64 ((rd_T59 l1 x16_1).f2)) ∧ w24.cell? ⟨gb285, 6, none⟩ = some (.bool ((rd_T59 l1 x16_1).f3)) := hS_
            refine norm_ (a' := ?_) ?_ ?_
            rotate_left
            · simp only [putAll, Act.put, List.setIfInBounds_toArray, List.set_cons_zero, List.set_cons_succ]
              rfl
            refine one_ (i := 17) (N := none) #[true, true, true, true, true, true, true, true, true, true, true, true, true, true, true, true, true, true] rfl rfl (one_of HT_.out (by kernel_rfl)) (by decide) (fun K hK => ?_)
            have hs25 : w24.cell? ⟨gb287, 0, none⟩ = some (.int .i64 0) := (blk_cell BK287.out 0).trans rfl
            have hfs25 := blk_frozen BK287.out 0
            have hns25_0 := NB282_287.out
            have hns25_1 := NB283_287.out
            have hns25_2 := NB285_287.out
            have hms25_0 := NB287_282.out
            have hms25_1 := NB287_283.out
            have hms25_2 := NB287_285.out
            have hs26 : w24.cell? ⟨gb287, 1, none⟩ = some (.int .i64 0) := (blk_cell BK287.out 1).trans rfl
            have hfs26 := blk_frozen BK287.out 1
            have hns26_0 := NB282_287.out
            have hns26_1 := NB283_287.out
            have hns26_2 := NB285_287.out
            have hms26_0 := NB287_282.out
            have hms26_1 := NB287_283.out
            have hms26_2 := NB287_285.out
            have hs27 : w24.cell? ⟨gb287, 2, none⟩ = some (.int .i64 0) := (blk_cell BK287.out 2).trans rfl
            have hfs27 := blk_frozen BK287.out 2
            have hns27_0 := NB282_287.out
            have hns27_1 := NB283_287.out
            have hns27_2 := NB285_287.out
            have hms27_0 := NB287_282.out
            have hms27_1 := NB287_283.out
            have hms27_2 := NB287_285.out
            have hs28 : w24.cell? ⟨gb287, 3, none⟩ = some (.int .i64 0) := (blk_cell BK287.out 3).trans rfl
            have hfs28 := blk_frozen BK287.out 3
            have hns28_0 := NB282_287.out
            have hns28_1 := NB283_287.out
            have hns28_2 := NB285_287.out
            have hms28_0 := NB287_282.out
            have hms28_1 := NB287_283.out
            have hms28_2 := NB287_285.out
            refine skip_ (w1 := ?_) (by rfl) rfl ?_ ?_
            rotate_left
            · go_simp
              rfl
            refine hK.out _ _ ⟨((cell_far (p := ⟨gb287, _, none⟩) NB285_287.out _).trans (((cell_far (p := ⟨gb287, _, none⟩) NB285_287.out _).trans (((cell_far (p := ⟨gb287, _, none⟩) NB285_287.out _).trans (((cell_far (p := ⟨gb287, _, none⟩) NB285_287.out _).trans (hHeld.1)))))))), ((cell_far (p := ⟨gb287, _, none⟩) NB285_287.out _).trans (((cell_far (p := ⟨gb287, _, none⟩) NB285_287.out _).trans (((cell_far (p := ⟨gb287, _, none⟩) NB285_287.out _).trans (((cell_far (p := ⟨gb287, _, none⟩) NB285_287.out _).trans (hHeld.2.1)))))))), ((cell_far (p := ⟨gb287, _, none⟩) NB285_287.out _).trans (((cell_far (p := ⟨gb287, _, none⟩) NB285_287.out _).trans (((cell_far (p := ⟨gb287, _, none⟩) NB285_287.out _).trans (((cell_far (p := ⟨gb287, _, none⟩) NB285_287.out _).trans (hHeld.2.2.1)))))))), ((cell_far (p := ⟨gb287, _, none⟩) NB285_287.out _).trans (((cell_far (p := ⟨gb287, _, none⟩) NB285_287.out _).trans (((cell_far (p := ⟨gb287, _, none⟩) NB285_287.out _).trans (((cell_far (p := ⟨gb287, _, none⟩) NB285_287.out _).trans (hHeld.2.2.2.1)))))))), ((cell_far (p := ⟨gb287, _, none⟩) NB285_287.out _).trans (((cell_far (p := ⟨gb287, _, none⟩) NB285_287.out _).trans (((cell_far (p := ⟨gb287, _, none⟩) NB285_287.out _).trans (((cell_far (p := ⟨gb287, _, none⟩) NB285_287.out _).trans (hHeld.2.2.2.2.1)))))))), ((cell_far (p := ⟨gb287, _, none⟩) NB285_287.out _).trans (((cell_far (p := ⟨gb287, _, none⟩) NB285_287.out _).trans (((cell_far (p := ⟨gb287, _, none⟩) NB285_287.out _).trans (((cell_far (p := ⟨gb287, _, none⟩) NB285_287.out _).trans (hHeld.2.2.2.2.2.1)))))))), ((cell_far (p := ⟨gb287, _, none⟩) NB285_287.out _).trans (((cell_far (p := ⟨gb287, _, none⟩) NB285_287.out _).trans (((cell_far (p := ⟨gb287, _, none⟩) NB285_287.out _).trans (((cell_far (p := ⟨gb287, _, none⟩) NB285_287.out _).trans (hHeld.2.2.2.2.2.2))))))))⟩ (fun hHeld => ?_)
            clear hK K
            refine done_ (done_of HT_.out (by kernel_rfl)) ?_
            have hnb29 := NB285_287.out
            have hnc29 := NB287_285.out
            have hcz30_0 : w24.cell? ⟨gb285, 0, none⟩ = some (.int .i64 ((rd_T59 l1 x16_1).f0.f0)) := (blk_cell BK285.out 0).trans rfl
            have hcz30_1 : w24.cell? ⟨gb285, 1, none⟩ = some (.int .i64 ((rd_T59 l1 x16_1).f0.f1)) := (blk_cell BK285.out 1).trans rfl
            have hcz30_2 : w24.cell? ⟨gb285, 2, none⟩ = some (.int .i64 ((rd_T59 l1 x16_1).f0.f2)) := (blk_cell BK285.out 2).trans rfl
            have hcz30_3 : w24.cell? ⟨gb285, 3, none⟩ = some (.int .i64 ((rd_T59 l1 x16_1).f0.f3)) := (blk_cell BK285.out 3).trans rfl
            have hcz30_4 : w24.cell? ⟨gb285, 4, none⟩ = some (.int .i64 ((rd_T59 l1 x16_1).f1)) := (blk_cell BK285.out 4).trans rfl
            have hcz30_5 : w24.cell? ⟨gb285, 5, none⟩ = some (.int .i64 ((rd_T59 l1 x16_1).f2)) := (blk_cell BK285.out 5).trans rfl
            have hcz30_6 : w24.cell? ⟨gb285, 6, none⟩ = some (.bool ((rd_T59 l1 x16_1).f3)) := (blk_cell BK285.out 6).trans rfl
            have hfz30_0 := blk_frozen BK285.out 0
            have hfz30_1 := blk_frozen BK285.out 1
            have hfz30_2 := blk_frozen BK285.out 2
            have hfz30_3 := blk_frozen BK285.out 3
            have hfz30_4 := blk_frozen BK285.out 4
            have hfz30_5 := blk_frozen BK285.out 5
            have hfz30_6 := blk_frozen BK285.out 6
            have H := HS_.out
            clear HS_
            replace H := Option.bind_eq_some_iff.mp H
            obtain ⟨t288, A110, H⟩ := H
            replace H : (if t288 = true then (if ((rd_T59 l1 x16_1).f0.f0) < a0 then ((kissgateref10_Better.f ((rd_T59 l1 x16_1).f0.f0) t286 ((rd_T59 l1 x16_1).f0.f2) ((rd_T59 l1 x16_1).f0.f3) x284000_1 x284001_1 x284002_1 x284003_1).bind fun t289 => (if t289 = true then (kissgateref10_Best.l0 k1 a0 x16_1 l1 (l1.length : Int) (wrap64 (x16_1 + 1)) ((rd_T59 l1 x16_1).f0.f0) t286 ((rd_T59 l1 x16_1).f0.f2) ((rd_T59 l1 x16_1).f0.f3)) else (kissgateref10_Best.l0 k1 a0 x7_1 l1 (l1.length : Int) (wrap64 (x16_1 + 1)) x284000_1 x284001_1 x284002_1 x284003_1))) else (kissgateref10_Best.l0 k1 a0 x7_1 l1 (l1.length : Int) (wrap64 (x16_1 + 1)) x284000_1 x284001_1 x284002_1 x284003_1)) else (kissgateref10_Best.l0 k1 a0 x7_1 l1 (l1.length : Int) (wrap64 (x16_1 + 1)) x284000_1 x284001_1 x284002_1 x284003_1)) = some (r1, r2, r3, r4, r5) := H
            have A11 := Aside0.mk A110
            clear A110
            by_cases c12 : t288 = true
            · subst c12
              have H1 : (if ((rd_T59 l1 x16_1).f0.f0) < a0 then ((kissgateref10_Better.f ((rd_T59 l1 x16_1).f0.f0) t286 ((rd_T59 l1 x16_1).f0.f2) ((rd_T59 l1 x16_1).f0.f3) x284000_1 x284001_1 x284002_1 x284003_1).bind fun t289 => (if t289 = true then (kissgateref10_Best.l0 k1 a0 x16_1 l1 (l1.length : Int) (wrap64 (x16_1 + 1)) ((rd_T59 l1 x16_1).f0.f0) t286 ((rd_T59 l1 x16_1).f0.f2) ((rd_T59 l1 x16_1).f0.f3)) else (kissgateref10_Best.l0 k1 a0 x7_1 l1 (l1.length : Int) (wrap64 (x16_1 + 1)) x284000_1 x284001_1 x284002_1 x284003_1))) else (kissgateref10_Best.l0 k1 a0 x7_1 l1 (l1.length : Int) (wrap64 (x16_1 + 1)) x284000_1 x284001_1 x284002_1 x284003_1)) = some (r1, r2, r3, r4, r5) := by rw [if_pos rfl] at H; exact H
              clear H
              have H := H1
              clear H1
              by_cases c13 : ((rd_T59 l1 x16_1).f0.f0) < a0
              · rw [if_pos c13] at H
                have c13b0 : decide (((rd_T59 l1 x16_1).f0.f0) < a0) = true := decide_eq_true c13
                clear c13
                replace H := Option.bind_eq_some_iff.mp H
                obtain ⟨t289, A140, H⟩ := H
                replace H : (if t289 = true then (kissgateref10_Best.l0 k1 a0 x16_1 l1 (l1.length : Int) (wrap64 (x16_1 + 1)) ((rd_T59 l1 x16_1).f0.f0) t286 ((rd_T59 l1 x16_1).f0.f2) ((rd_T59 l1 x16_1).f0.f3)) else (kissgateref10_Best.l0 k1 a0 x7_1 l1 (l1.length : Int) (wrap64 (x16_1 + 1)) x284000_1 x284001_1 x284002_1 x284003_1)) = some (r1, r2, r3, r4, r5) := H
                have A14 := Aside0.mk A140
                clear A140
                by_cases c15 : t289 = true
                · subst c15
                  have H1 : (kissgateref10_Best.l0 k1 a0 x16_1 l1 (l1.length : Int) (wrap64 (x16_1 + 1)) ((rd_T59 l1 x16_1).f0.f0) t286 ((rd_T59 l1 x16_1).f0.f2) ((rd_T59 l1 x16_1).f0.f3)) = some (r1, r2, r3, r4, r5) := by rw [if_pos rfl] at H; exact H
                  clear H
                  have H := H1
                  clear H1
                  have H' := Aside0.mk H
                  clear H
                  try go_wp2_with (first | ((with_reducible refine gate_callee (f := 62) rfl ?_); refine goesL_ (some 39) rfl rfl Tryd.func62 (by kernel_rfl) rfl #[.agg #[.int .i64 ((rd_T59 l1 x16_1).f0.f0), .int .i64 ((rd_T59 l1 x16_1).f0.f1), .int .i64 ((rd_T59 l1 x16_1).f0.f2), .int .i64 ((rd_T59 l1 x16_1).f0.f3), .int .i64 ((rd_T59 l1 x16_1).f1), .int .i64 ((rd_T59 l1 x16_1).f2), .bool ((rd_T59 l1 x16_1).f3)], .int .i64 a0] rfl (by (try simp only [List.map_toArray, List.map_cons, List.map_nil]); first | done | rfl | (simp only [List.length_drop, List.length_take]; rfl)) ?_; (with_reducible refine (kissgateref10_Use.calls ((rd_T59 l1 x16_1).f0.f0) ((rd_T59 l1 x16_1).f0.f1) ((rd_T59 l1 x16_1).f0.f2) ((rd_T59 l1 x16_1).f0.f3) ((rd_T59 l1 x16_1).f1) ((rd_T59 l1 x16_1).f2) ((rd_T59 l1 x16_1).f3) a0 true _ A11.out).mono ?_); rintro e w31 ⟨rfl, hb⟩; refine ⟨_, rfl, ?_⟩; have n0_ := Aside0.mk (blk_below (g := gb282) (o := .cells #[.int .i64 0, .int .i64 0, .int .i64 0, .int .i64 0] 36 (0, 0)) (by (with_reducible repeat (first | refine blk_drewN ?_ _ | refine blk_drew ?_ | refine blk_alloc ?_ _)); refine blk_far ?_ NB282_287.out _; (with_reducible repeat (first | refine blk_drewN ?_ _ | refine blk_drew ?_ | refine blk_alloc ?_ _)); refine blk_far ?_ NB282_287.out _; (with_reducible repeat (first | refine blk_drewN ?_ _ | refine blk_drew ?_ | refine blk_alloc ?_ _)); refine blk_far ?_ NB282_287.out _; (with_reducible repeat (first | refine blk_drewN ?_ _ | refine blk_drew ?_ | refine blk_alloc ?_ _)); refine blk_far ?_ NB282_287.out _; (with_reducible repeat (first | refine blk_drewN ?_ _ | refine blk_drew ?_ | refine blk_alloc ?_ _)); exact BK282.out) hb); have n1_ := Aside0.mk (blk_below (g := gb283) (o := .cells #[.int .i64 x284000_1, .int .i64 x284001_1, .int .i64 x284002_1, .int .i64 x284003_1] 36 (0, 0)) (by (with_reducible repeat (first | refine blk_drewN ?_ _ | refine blk_drew ?_ | refine blk_alloc ?_ _)); refine blk_far ?_ NB283_287.out _; (with_reducible repeat (first | refine blk_drewN ?_ _ | refine blk_drew ?_ | refine blk_alloc ?_ _)); refine blk_far ?_ NB283_287.out _; (with_reducible repeat (first | refine blk_drewN ?_ _ | refine blk_drew ?_ | refine blk_alloc ?_ _)); refine blk_far ?_ NB283_287.out _; (with_reducible repeat (first | refine blk_drewN ?_ _ | refine blk_drew ?_ | refine blk_alloc ?_ _)); refine blk_far ?_ NB283_287.out _; (with_reducible repeat (first | refine blk_drewN ?_ _ | refine blk_drew ?_ | refine blk_alloc ?_ _)); exact BK283.out) hb); have n2_ := Aside0.mk (blk_below (g := gb285) (o := .cells #[.int .i64 ((rd_T59 l1 x16_1).f0.f0), .int .i64 ((rd_T59 l1 x16_1).f0.f1), .int .i64 ((rd_T59 l1 x16_1).f0.f2), .int .i64 ((rd_T59 l1 x16_1).f0.f3), .int .i64 ((rd_T59 l1 x16_1).f1), .int .i64 ((rd_T59 l1 x16_1).f2), .bool ((rd_T59 l1 x16_1).f3)] 59 (0, 0)) (by (with_reducible repeat (first | refine blk_drewN ?_ _ | refine blk_drew ?_ | refine blk_alloc ?_ _)); refine blk_far ?_ NB285_287.out _; (with_reducible repeat (first | refine blk_drewN ?_ _ | refine blk_drew ?_ | refine blk_alloc ?_ _)); refine blk_far ?_ NB285_287.out _; (with_reducible repeat (first | refine blk_drewN ?_ _ | refine blk_drew ?_ | refine blk_alloc ?_ _)); refine blk_far ?_ NB285_287.out _; (with_reducible repeat (first | refine blk_drewN ?_ _ | refine blk_drew ?_ | refine blk_alloc ?_ _)); refine blk_far ?_ NB285_287.out _; (with_reducible repeat (first | refine blk_drewN ?_ _ | refine blk_drew ?_ | refine blk_alloc ?_ _)); exact BK285.out) hb); have n3_ := Aside0.mk (blk_below (g := gb287) (o := .cells #[.int .i64 ((rd_T59 l1 x16_1).f0.f0), .int .i64 t286, .int .i64 ((rd_T59 l1 x16_1).f0.f2), .int .i64 ((rd_T59 l1 x16_1).f0.f3)] 36 (0, 0)) (by (with_reducible repeat (first | refine blk_drewN ?_ _ | refine blk_drew ?_ | refine blk_alloc ?_ _)); refine blk_put (cs := #[.int .i64 ((rd_T59 l1 x16_1).f0.f0), .int .i64 t286, .int .i64 ((rd_T59 l1 x16_1).f0.f2), .int .i64 0]) ?_ 3 _ rfl; (with_reducible repeat (first | refine blk_drewN ?_ _ | refine blk_drew ?_ | refine blk_alloc ?_ _)); refine blk_put (cs := #[.int .i64 ((rd_T59 l1 x16_1).f0.f0), .int .i64 t286, .int .i64 0, .int .i64 0]) ?_ 2 _ rfl; (with_reducible repeat (first | refine blk_drewN ?_ _ | refine blk_drew ?_ | refine blk_alloc ?_ _)); refine blk_put (cs := #[.int .i64 ((rd_T59 l1 x16_1).f0.f0), .int .i64 0, .int .i64 0, .int .i64 0]) ?_ 1 _ rfl; (with_reducible repeat (first | refine blk_drewN ?_ _ | refine blk_drew ?_ | refine blk_alloc ?_ _)); refine blk_put (cs := #[.int .i64 0, .int .i64 0, .int .i64 0, .int .i64 0]) ?_ 0 _ rfl; (with_reducible repeat (first | refine blk_drewN ?_ _ | refine blk_drew ?_ | refine blk_alloc ?_ _)); exact BK287.out) hb); have n4_ := Aside0.mk (below_step (by repeat (first | (with_reducible first | exact HB.out | apply below_alloc | apply pw_below_drewN | apply below_drew1 | refine below_set ?_ GE282.out | refine below_set ?_ GE283.out | refine below_set ?_ GE285.out | refine below_set ?_ GE287.out) | exact HB.out)) hb); clear BK282; clear BK283; clear BK285; clear BK287; clear HB; have BK282 := n0_; have BK283 := n1_; have BK285 := n2_; have BK287 := n3_; have HB := n4_; clear n0_ n1_ n2_ n3_ n4_; (try clear hb); (try clear hb2); (try clear hk); (try clear hi); have hnb32 := NB287_282.out; have hnc32 := NB282_287.out; have hnb33 := NB287_283.out; have hnc33 := NB283_287.out; have hcz34_0 : w31.cell? ⟨gb287, 0, none⟩ = some (.int .i64 ((rd_T59 l1 x16_1).f0.f0)) := (blk_cell BK287.out 0).trans rfl; have hcz34_1 : w31.cell? ⟨gb287, 1, none⟩ = some (.int .i64 t286) := (blk_cell BK287.out 1).trans rfl; have hcz34_2 : w31.cell? ⟨gb287, 2, none⟩ = some (.int .i64 ((rd_T59 l1 x16_1).f0.f2)) := (blk_cell BK287.out 2).trans rfl; have hcz34_3 : w31.cell? ⟨gb287, 3, none⟩ = some (.int .i64 ((rd_T59 l1 x16_1).f0.f3)) := (blk_cell BK287.out 3).trans rfl; have hfz34_0 := blk_frozen BK287.out 0; have hfz34_1 := blk_frozen BK287.out 1; have hfz34_2 := blk_frozen BK287.out 2; have hfz34_3 := blk_frozen BK287.out 3; have hnb35 := NB283_282.out; have hnc35 := NB282_283.out; have hcz36_0 : w31.cell? ⟨gb283, 0, none⟩ = some (.int .i64 x284000_1) := (blk_cell BK283.out 0).trans rfl; have hcz36_1 : w31.cell? ⟨gb283, 1, none⟩ = some (.int .i64 x284001_1) := (blk_cell BK283.out 1).trans rfl; have hcz36_2 : w31.cell? ⟨gb283, 2, none⟩ = some (.int .i64 x284002_1) := (blk_cell BK283.out 2).trans rfl; have hcz36_3 : w31.cell? ⟨gb283, 3, none⟩ = some (.int .i64 x284003_1) := (blk_cell BK283.out 3).trans rfl; have hfz36_0 := blk_frozen BK283.out 0; have hfz36_1 := blk_frozen BK283.out 1; have hfz36_2 := blk_frozen BK283.out 2; have hfz36_3 := blk_frozen BK283.out 3) | (go_at_call 57; (with_reducible refine (kissgateref10_Better.calls ((rd_T59 l1 x16_1).f0.f0) t286 ((rd_T59 l1 x16_1).f0.f2) ((rd_T59 l1 x16_1).f0.f3) x284000_1 x284001_1 x284002_1 x284003_1 true _ A14.out).mono ?_); rintro e w37 ⟨rfl, hb⟩; have n0_ := Aside0.mk (blk_below (g := gb282) (o := .cells #[.int .i64 0, .int .i64 0, .int .i64 0, .int .i64 0] 36 (0, 0)) (by (with_reducible repeat (first | refine blk_drewN ?_ _ | refine blk_drew ?_ | refine blk_alloc ?_ _)); exact BK282.out) hb); have n1_ := Aside0.mk (blk_below (g := gb283) (o := .cells #[.int .i64 x284000_1, .int .i64 x284001_1, .int .i64 x284002_1, .int .i64 x284003_1] 36 (0, 0)) (by (with_reducible repeat (first | refine blk_drewN ?_ _ | refine blk_drew ?_ | refine blk_alloc ?_ _)); exact BK283.out) hb); have n2_ := Aside0.mk (blk_below (g := gb285) (o := .cells #[.int .i64 ((rd_T59 l1 x16_1).f0.f0), .int .i64 ((rd_T59 l1 x16_1).f0.f1), .int .i64 ((rd_T59 l1 x16_1).f0.f2), .int .i64 ((rd_T59 l1 x16_1).f0.f3), .int .i64 ((rd_T59 l1 x16_1).f1), .int .i64 ((rd_T59 l1 x16_1).f2), .bool ((rd_T59 l1 x16_1).f3)] 59 (0, 0)) (by (with_reducible repeat (first | refine blk_drewN ?_ _ | refine blk_drew ?_ | refine blk_alloc ?_ _)); exact BK285.out) hb); have n3_ := Aside0.mk (blk_below (g := gb287) (o := .cells #[.int .i64 ((rd_T59 l1 x16_1).f0.f0), .int .i64 t286, .int .i64 ((rd_T59 l1 x16_1).f0.f2), .int .i64 ((rd_T59 l1 x16_1).f0.f3)] 36 (0, 0)) (by (with_reducible repeat (first | refine blk_drewN ?_ _ | refine blk_drew ?_ | refine blk_alloc ?_ _)); exact BK287.out) hb); have n4_ := Aside0.mk (below_step (by repeat (first | (with_reducible first | exact HB.out | apply below_alloc | apply pw_below_drewN | apply below_drew1 | refine below_set ?_ GE282.out | refine below_set ?_ GE283.out | refine below_set ?_ GE285.out | refine below_set ?_ GE287.out) | exact HB.out)) hb); clear BK282; clear BK283; clear BK285; clear BK287; clear HB; have BK282 := n0_; have BK283 := n1_; have BK285 := n2_; have BK287 := n3_; have HB := n4_; clear n0_ n1_ n2_ n3_ n4_; (try clear hb); (try clear hb2); (try clear hk); (try clear hi); have hcz38_0 : w37.cell? ⟨gb287, 0, none⟩ = some (.int .i64 ((rd_T59 l1 x16_1).f0.f0)) := (blk_cell BK287.out 0).trans rfl; have hcz38_1 : w37.cell? ⟨gb287, 1, none⟩ = some (.int .i64 t286) := (blk_cell BK287.out 1).trans rfl; have hcz38_2 : w37.cell? ⟨gb287, 2, none⟩ = some (.int .i64 ((rd_T59 l1 x16_1).f0.f2)) := (blk_cell BK287.out 2).trans rfl; have hcz38_3 : w37.cell? ⟨gb287, 3, none⟩ = some (.int .i64 ((rd_T59 l1 x16_1).f0.f3)) := (blk_cell BK287.out 3).trans rfl; have hfz38_0 := blk_frozen BK287.out 0; have hfz38_1 := blk_frozen BK287.out 1; have hfz38_2 := blk_frozen BK287.out 2; have hfz38_3 := blk_frozen BK287.out 3; have hcz39_0 : w37.cell? ⟨gb283, 0, none⟩ = some (.int .i64 x284000_1) := (blk_cell BK283.out 0).trans rfl; have hcz39_1 : w37.cell? ⟨gb283, 1, none⟩ = some (.int .i64 x284001_1) := (blk_cell BK283.out 1).trans rfl; have hcz39_2 : w37.cell? ⟨gb283, 2, none⟩ = some (.int .i64 x284002_1) := (blk_cell BK283.out 2).trans rfl; have hcz39_3 : w37.cell? ⟨gb283, 3, none⟩ = some (.int .i64 x284003_1) := (blk_cell BK283.out 3).trans rfl; have hfz39_0 := blk_frozen BK283.out 0; have hfz39_1 := blk_frozen BK283.out 1; have hfz39_2 := blk_frozen BK283.out 2; have hfz39_3 := blk_frozen BK283.out 3))
                  go_roundg k1
                  case measure => have := HK1.out; omega
                  case rel => exact ⟨(x16_1), (wrap64 (x16_1 + 1)), ((rd_T59 l1 x16_1).f0.f0), (t286), ((rd_T59 l1 x16_1).f0.f2), ((rd_T59 l1 x16_1).f0.f3), (by first | rfl | (simp; done) | (simp [*]; done)), (by first | rfl | (simp; done) | (simp [*]; done)), H', ⟨by have := HK1.out; omega⟩, ⟨by (with_reducible repeat (first | refine blk_drewN ?_ _ | refine blk_drew ?_ | refine blk_alloc ?_ _)); refine blk_far ?_ NB282_283.out _; (with_reducible repeat (first | refine blk_drewN ?_ _ | refine blk_drew ?_ | refine blk_alloc ?_ _)); refine blk_far ?_ NB282_283.out _; (with_reducible repeat (first | refine blk_drewN ?_ _ | refine blk_drew ?_ | refine blk_alloc ?_ _)); refine blk_far ?_ NB282_283.out _; (with_reducible repeat (first | refine blk_drewN ?_ _ | refine blk_drew ?_ | refine blk_alloc ?_ _)); refine blk_far ?_ NB282_283.out _; (with_reducible repeat (first | refine blk_drewN ?_ _ | refine blk_drew ?_ | refine blk_alloc ?_ _)); exact BK282.out⟩, ⟨by (with_reducible repeat (first | refine blk_drewN ?_ _ | refine blk_drew ?_ | refine blk_alloc ?_ _)); refine blk_put (cs := #[.int .i64 ((rd_T59 l1 x16_1).f0.f0), .int .i64 t286, .int .i64 ((rd_T59 l1 x16_1).f0.f2), .int .i64 x284003_1]) ?_ 3 _ rfl; (with_reducible repeat (first | refine blk_drewN ?_ _ | refine blk_drew ?_ | refine blk_alloc ?_ _)); refine blk_put (cs := #[.int .i64 ((rd_T59 l1 x16_1).f0.f0), .int .i64 t286, .int .i64 x284002_1, .int .i64 x284003_1]) ?_ 2 _ rfl; (with_reducible repeat (first | refine blk_drewN ?_ _ | refine blk_drew ?_ | refine blk_alloc ?_ _)); refine blk_put (cs := #[.int .i64 ((rd_T59 l1 x16_1).f0.f0), .int .i64 x284001_1, .int .i64 x284002_1, .int .i64 x284003_1]) ?_ 1 _ rfl; (with_reducible repeat (first | refine blk_drewN ?_ _ | refine blk_drew ?_ | refine blk_alloc ?_ _)); refine blk_put (cs := #[.int .i64 x284000_1, .int .i64 x284001_1, .int .i64 x284002_1, .int .i64 x284003_1]) ?_ 0 _ rfl; (with_reducible repeat (first | refine blk_drewN ?_ _ | refine blk_drew ?_ | refine blk_alloc ?_ _)); exact BK283.out⟩, ⟨by repeat (first | (with_reducible first | exact HB.out | apply below_alloc | apply pw_below_drewN | apply below_drew1 | refine below_set ?_ GE282.out | refine below_set ?_ GE283.out | refine below_set ?_ GE285.out | refine below_set ?_ GE287.out) | exact HB.out)⟩⟩
                · replace c15 := Bool.eq_false_iff.mpr c15
                  subst c15
                  have H1 : (kissgateref10_Best.l0 k1 a0 x7_1 l1 (l1.length : Int) (wrap64 (x16_1 + 1)) x284000_1 x284001_1 x284002_1 x284003_1) = some (r1, r2, r3, r4, r5) := by rw [if_neg (show ¬ (false = true) by decide)] at H; exact H
                  clear H
                  have H := H1
                  clear H1
                  have H' := Aside0.mk H
                  clear H
                  try go_wp2_with (first | ((with_reducible refine gate_callee (f := 62) rfl ?_); refine goesL_ (some 39) rfl rfl Tryd.func62 (by kernel_rfl) rfl #[.agg #[.int .i64 ((rd_T59 l1 x16_1).f0.f0), .int .i64 ((rd_T59 l1 x16_1).f0.f1), .int .i64 ((rd_T59 l1 x16_1).f0.f2), .int .i64 ((rd_T59 l1 x16_1).f0.f3), .int .i64 ((rd_T59 l1 x16_1).f1), .int .i64 ((rd_T59 l1 x16_1).f2), .bool ((rd_T59 l1 x16_1).f3)], .int .i64 a0] rfl (by (try simp only [List.map_toArray, List.map_cons, List.map_nil]); first | done | rfl | (simp only [List.length_drop, List.length_take]; rfl)) ?_; (with_reducible refine (kissgateref10_Use.calls ((rd_T59 l1 x16_1).f0.f0) ((rd_T59 l1 x16_1).f0.f1) ((rd_T59 l1 x16_1).f0.f2) ((rd_T59 l1 x16_1).f0.f3) ((rd_T59 l1 x16_1).f1) ((rd_T59 l1 x16_1).f2) ((rd_T59 l1 x16_1).f3) a0 true _ A11.out).mono ?_); rintro e w55 ⟨rfl, hb⟩; refine ⟨_, rfl, ?_⟩; have n0_ := Aside0.mk (blk_below (g := gb282) (o := .cells #[.int .i64 0, .int .i64 0, .int .i64 0, .int .i64 0] 36 (0, 0)) (by (with_reducible repeat (first | refine blk_drewN ?_ _ | refine blk_drew ?_ | refine blk_alloc ?_ _)); refine blk_far ?_ NB282_287.out _; (with_reducible repeat (first | refine blk_drewN ?_ _ | refine blk_drew ?_ | refine blk_alloc ?_ _)); refine blk_far ?_ NB282_287.out _; (with_reducible repeat (first | refine blk_drewN ?_ _ | refine blk_drew ?_ | refine blk_alloc ?_ _)); refine blk_far ?_ NB282_287.out _; (with_reducible repeat (first | refine blk_drewN ?_ _ | refine blk_drew ?_ | refine blk_alloc ?_ _)); refine blk_far ?_ NB282_287.out _; (with_reducible repeat (first | refine blk_drewN ?_ _ | refine blk_drew ?_ | refine blk_alloc ?_ _)); exact BK282.out) hb); have n1_ := Aside0.mk (blk_below (g := gb283) (o := .cells #[.int .i64 x284000_1, .int .i64 x284001_1, .int .i64 x284002_1, .int .i64 x284003_1] 36 (0, 0)) (by (with_reducible repeat (first | refine blk_drewN ?_ _ | refine blk_drew ?_ | refine blk_alloc ?_ _)); refine blk_far ?_ NB283_287.out _; (with_reducible repeat (first | refine blk_drewN ?_ _ | refine blk_drew ?_ | refine blk_alloc ?_ _)); refine blk_far ?_ NB283_287.out _; (with_reducible repeat (first | refine blk_drewN ?_ _ | refine blk_drew ?_ | refine blk_alloc ?_ _)); refine blk_far ?_ NB283_287.out _; (with_reducible repeat (first | refine blk_drewN ?_ _ | refine blk_drew ?_ | refine blk_alloc ?_ _)); refine blk_far ?_ NB283_287.out _; (with_reducible repeat (first | refine blk_drewN ?_ _ | refine blk_drew ?_ | refine blk_alloc ?_ _)); exact BK283.out) hb); have n2_ := Aside0.mk (blk_below (g := gb285) (o := .cells #[.int .i64 ((rd_T59 l1 x16_1).f0.f0), .int .i64 ((rd_T59 l1 x16_1).f0.f1), .int .i64 ((rd_T59 l1 x16_1).f0.f2), .int .i64 ((rd_T59 l1 x16_1).f0.f3), .int .i64 ((rd_T59 l1 x16_1).f1), .int .i64 ((rd_T59 l1 x16_1).f2), .bool ((rd_T59 l1 x16_1).f3)] 59 (0, 0)) (by (with_reducible repeat (first | refine blk_drewN ?_ _ | refine blk_drew ?_ | refine blk_alloc ?_ _)); refine blk_far ?_ NB285_287.out _; (with_reducible repeat (first | refine blk_drewN ?_ _ | refine blk_drew ?_ | refine blk_alloc ?_ _)); refine blk_far ?_ NB285_287.out _; (with_reducible repeat (first | refine blk_drewN ?_ _ | refine blk_drew ?_ | refine blk_alloc ?_ _)); refine blk_far ?_ NB285_287.out _; (with_reducible repeat (first | refine blk_drewN ?_ _ | refine blk_drew ?_ | refine blk_alloc ?_ _)); refine blk_far ?_ NB285_287.out _; (with_reducible repeat (first | refine blk_drewN ?_ _ | refine blk_drew ?_ | refine blk_alloc ?_ _)); exact BK285.out) hb); have n3_ := Aside0.mk (blk_below (g := gb287) (o := .cells #[.int .i64 ((rd_T59 l1 x16_1).f0.f0), .int .i64 t286, .int .i64 ((rd_T59 l1 x16_1).f0.f2), .int .i64 ((rd_T59 l1 x16_1).f0.f3)] 36 (0, 0)) (by (with_reducible repeat (first | refine blk_drewN ?_ _ | refine blk_drew ?_ | refine blk_alloc ?_ _)); refine blk_put (cs := #[.int .i64 ((rd_T59 l1 x16_1).f0.f0), .int .i64 t286, .int .i64 ((rd_T59 l1 x16_1).f0.f2), .int .i64 0]) ?_ 3 _ rfl; (with_reducible repeat (first | refine blk_drewN ?_ _ | refine blk_drew ?_ | refine blk_alloc ?_ _)); refine blk_put (cs := #[.int .i64 ((rd_T59 l1 x16_1).f0.f0), .int .i64 t286, .int .i64 0, .int .i64 0]) ?_ 2 _ rfl; (with_reducible repeat (first | refine blk_drewN ?_ _ | refine blk_drew ?_ | refine blk_alloc ?_ _)); refine blk_put (cs := #[.int .i64 ((rd_T59 l1 x16_1).f0.f0), .int .i64 0, .int .i64 0, .int .i64 0]) ?_ 1 _ rfl; (with_reducible repeat (first | refine blk_drewN ?_ _ | refine blk_drew ?_ | refine blk_alloc ?_ _)); refine blk_put (cs := #[.int .i64 0, .int .i64 0, .int .i64 0, .int .i64 0]) ?_ 0 _ rfl; (with_reducible repeat (first | refine blk_drewN ?_ _ | refine blk_drew ?_ | refine blk_alloc ?_ _)); exact BK287.out) hb); have n4_ := Aside0.mk (below_step (by repeat (first | (with_reducible first | exact HB.out | apply below_alloc | apply pw_below_drewN | apply below_drew1 | refine below_set ?_ GE282.out | refine below_set ?_ GE283.out | refine below_set ?_ GE285.out | refine below_set ?_ GE287.out) | exact HB.out)) hb); clear BK282; clear BK283; clear BK285; clear BK287; clear HB; have BK282 := n0_; have BK283 := n1_; have BK285 := n2_; have BK287 := n3_; have HB := n4_; clear n0_ n1_ n2_ n3_ n4_; (try clear hb); (try clear hb2); (try clear hk); (try clear hi); have hnb56 := NB287_282.out; have hnc56 := NB282_287.out; have hnb57 := NB287_283.out; have hnc57 := NB283_287.out; have hcz58_0 : w55.cell? ⟨gb287, 0, none⟩ = some (.int .i64 ((rd_T59 l1 x16_1).f0.f0)) := (blk_cell BK287.out 0).trans rfl; have hcz58_1 : w55.cell? ⟨gb287, 1, none⟩ = some (.int .i64 t286) := (blk_cell BK287.out 1).trans rfl; have hcz58_2 : w55.cell? ⟨gb287, 2, none⟩ = some (.int .i64 ((rd_T59 l1 x16_1).f0.f2)) := (blk_cell BK287.out 2).trans rfl; have hcz58_3 : w55.cell? ⟨gb287, 3, none⟩ = some (.int .i64 ((rd_T59 l1 x16_1).f0.f3)) := (blk_cell BK287.out 3).trans rfl; have hfz58_0 := blk_frozen BK287.out 0; have hfz58_1 := blk_frozen BK287.out 1; have hfz58_2 := blk_frozen BK287.out 2; have hfz58_3 := blk_frozen BK287.out 3; have hnb59 := NB283_282.out; have hnc59 := NB282_283.out; have hcz60_0 : w55.cell? ⟨gb283, 0, none⟩ = some (.int .i64 x284000_1) := (blk_cell BK283.out 0).trans rfl; have hcz60_1 : w55.cell? ⟨gb283, 1, none⟩ = some (.int .i64 x284001_1) := (blk_cell BK283.out 1).trans rfl; have hcz60_2 : w55.cell? ⟨gb283, 2, none⟩ = some (.int .i64 x284002_1) := (blk_cell BK283.out 2).trans rfl; have hcz60_3 : w55.cell? ⟨gb283, 3, none⟩ = some (.int .i64 x284003_1) := (blk_cell BK283.out 3).trans rfl; have hfz60_0 := blk_frozen BK283.out 0; have hfz60_1 := blk_frozen BK283.out 1; have hfz60_2 := blk_frozen BK283.out 2; have hfz60_3 := blk_frozen BK283.out 3) | (go_at_call 57; (with_reducible refine (kissgateref10_Better.calls ((rd_T59 l1 x16_1).f0.f0) t286 ((rd_T59 l1 x16_1).f0.f2) ((rd_T59 l1 x16_1).f0.f3) x284000_1 x284001_1 x284002_1 x284003_1 false _ A14.out).mono ?_); rintro e w61 ⟨rfl, hb⟩; have n0_ := Aside0.mk (blk_below (g := gb282) (o := .cells #[.int .i64 0, .int .i64 0, .int .i64 0, .int .i64 0] 36 (0, 0)) (by (with_reducible repeat (first | refine blk_drewN ?_ _ | refine blk_drew ?_ | refine blk_alloc ?_ _)); exact BK282.out) hb); have n1_ := Aside0.mk (blk_below (g := gb283) (o := .cells #[.int .i64 x284000_1, .int .i64 x284001_1, .int .i64 x284002_1, .int .i64 x284003_1] 36 (0, 0)) (by (with_reducible repeat (first | refine blk_drewN ?_ _ | refine blk_drew ?_ | refine blk_alloc ?_ _)); exact BK283.out) hb); have n2_ := Aside0.mk (blk_below (g := gb285) (o := .cells #[.int .i64 ((rd_T59 l1 x16_1).f0.f0), .int .i64 ((rd_T59 l1 x16_1).f0.f1), .int .i64 ((rd_T59 l1 x16_1).f0.f2), .int .i64 ((rd_T59 l1 x16_1).f0.f3), .int .i64 ((rd_T59 l1 x16_1).f1), .int .i64 ((rd_T59 l1 x16_1).f2), .bool ((rd_T59 l1 x16_1).f3)] 59 (0, 0)) (by (with_reducible repeat (first | refine blk_drewN ?_ _ | refine blk_drew ?_ | refine blk_alloc ?_ _)); exact BK285.out) hb); have n3_ := Aside0.mk (blk_below (g := gb287) (o := .cells #[.int .i64 ((rd_T59 l1 x16_1).f0.f0), .int .i64 t286, .int .i64 ((rd_T59 l1 x16_1).f0.f2), .int .i64 ((rd_T59 l1 x16_1).f0.f3)] 36 (0, 0)) (by (with_reducible repeat (first | refine blk_drewN ?_ _ | refine blk_drew ?_ | refine blk_alloc ?_ _)); exact BK287.out) hb); have n4_ := Aside0.mk (below_step (by repeat (first | (with_reducible first | exact HB.out | apply below_alloc | apply pw_below_drewN | apply below_drew1 | refine below_set ?_ GE282.out | refine below_set ?_ GE283.out | refine below_set ?_ GE285.out | refine below_set ?_ GE287.out) | exact HB.out)) hb); clear BK282; clear BK283; clear BK285; clear BK287; clear HB; have BK282 := n0_; have BK283 := n1_; have BK285 := n2_; have BK287 := n3_; have HB := n4_; clear n0_ n1_ n2_ n3_ n4_; (try clear hb); (try clear hb2); (try clear hk); (try clear hi)))
                  go_roundg k1
                  case measure => have := HK1.out; omega
                  case rel => exact ⟨(x7_1), (wrap64 (x16_1 + 1)), (x284000_1), (x284001_1), (x284002_1), (x284003_1), (by first | rfl | (simp; done) | (simp [*]; done)), (by first | rfl | (simp; done) | (simp [*]; done)), H', ⟨by have := HK1.out; omega⟩, ⟨by (with_reducible repeat (first | refine blk_drewN ?_ _ | refine blk_drew ?_ | refine blk_alloc ?_ _)); exact BK282.out⟩, ⟨by (with_reducible repeat (first | refine blk_drewN ?_ _ | refine blk_drew ?_ | refine blk_alloc ?_ _)); exact BK283.out⟩, ⟨by repeat (first | (with_reducible first | exact HB.out | apply below_alloc | apply pw_below_drewN | apply below_drew1 | refine below_set ?_ GE282.out | refine below_set ?_ GE283.out | refine below_set ?_ GE285.out | refine below_set ?_ GE287.out) | exact HB.out)⟩⟩
              · rw [if_neg c13] at H
                have c13b0 : decide (((rd_T59 l1 x16_1).f0.f0) < a0) = false := decide_eq_false c13
                clear c13
                have H' := Aside0.mk H
                clear H
                try go_wp2_with (first | ((with_reducible refine gate_callee (f := 62) rfl ?_); refine goesL_ (some 39) rfl rfl Tryd.func62 (by kernel_rfl) rfl #[.agg #[.int .i64 ((rd_T59 l1 x16_1).f0.f0), .int .i64 ((rd_T59 l1 x16_1).f0.f1), .int .i64 ((rd_T59 l1 x16_1).f0.f2), .int .i64 ((rd_T59 l1 x16_1).f0.f3), .int .i64 ((rd_T59 l1 x16_1).f1), .int .i64 ((rd_T59 l1 x16_1).f2), .bool ((rd_T59 l1 x16_1).f3)], .int .i64 a0] rfl (by (try simp only [List.map_toArray, List.map_cons, List.map_nil]); first | done | rfl | (simp only [List.length_drop, List.length_take]; rfl)) ?_; (with_reducible refine (kissgateref10_Use.calls ((rd_T59 l1 x16_1).f0.f0) ((rd_T59 l1 x16_1).f0.f1) ((rd_T59 l1 x16_1).f0.f2) ((rd_T59 l1 x16_1).f0.f3) ((rd_T59 l1 x16_1).f1) ((rd_T59 l1 x16_1).f2) ((rd_T59 l1 x16_1).f3) a0 true _ A11.out).mono ?_); rintro e w77 ⟨rfl, hb⟩; refine ⟨_, rfl, ?_⟩; have n0_ := Aside0.mk (blk_below (g := gb282) (o := .cells #[.int .i64 0, .int .i64 0, .int .i64 0, .int .i64 0] 36 (0, 0)) (by (with_reducible repeat (first | refine blk_drewN ?_ _ | refine blk_drew ?_ | refine blk_alloc ?_ _)); refine blk_far ?_ NB282_287.out _; (with_reducible repeat (first | refine blk_drewN ?_ _ | refine blk_drew ?_ | refine blk_alloc ?_ _)); refine blk_far ?_ NB282_287.out _; (with_reducible repeat (first | refine blk_drewN ?_ _ | refine blk_drew ?_ | refine blk_alloc ?_ _)); refine blk_far ?_ NB282_287.out _; (with_reducible repeat (first | refine blk_drewN ?_ _ | refine blk_drew ?_ | refine blk_alloc ?_ _)); refine blk_far ?_ NB282_287.out _; (with_reducible repeat (first | refine blk_drewN ?_ _ | refine blk_drew ?_ | refine blk_alloc ?_ _)); exact BK282.out) hb); have n1_ := Aside0.mk (blk_below (g := gb283) (o := .cells #[.int .i64 x284000_1, .int .i64 x284001_1, .int .i64 x284002_1, .int .i64 x284003_1] 36 (0, 0)) (by (with_reducible repeat (first | refine blk_drewN ?_ _ | refine blk_drew ?_ | refine blk_alloc ?_ _)); refine blk_far ?_ NB283_287.out _; (with_reducible repeat (first | refine blk_drewN ?_ _ | refine blk_drew ?_ | refine blk_alloc ?_ _)); refine blk_far ?_ NB283_287.out _; (with_reducible repeat (first | refine blk_drewN ?_ _ | refine blk_drew ?_ | refine blk_alloc ?_ _)); refine blk_far ?_ NB283_287.out _; (with_reducible repeat (first | refine blk_drewN ?_ _ | refine blk_drew ?_ | refine blk_alloc ?_ _)); refine blk_far ?_ NB283_287.out _; (with_reducible repeat (first | refine blk_drewN ?_ _ | refine blk_drew ?_ | refine blk_alloc ?_ _)); exact BK283.out) hb); have n2_ := Aside0.mk (blk_below (g := gb285) (o := .cells #[.int .i64 ((rd_T59 l1 x16_1).f0.f0), .int .i64 ((rd_T59 l1 x16_1).f0.f1), .int .i64 ((rd_T59 l1 x16_1).f0.f2), .int .i64 ((rd_T59 l1 x16_1).f0.f3), .int .i64 ((rd_T59 l1 x16_1).f1), .int .i64 ((rd_T59 l1 x16_1).f2), .bool ((rd_T59 l1 x16_1).f3)] 59 (0, 0)) (by (with_reducible repeat (first | refine blk_drewN ?_ _ | refine blk_drew ?_ | refine blk_alloc ?_ _)); refine blk_far ?_ NB285_287.out _; (with_reducible repeat (first | refine blk_drewN ?_ _ | refine blk_drew ?_ | refine blk_alloc ?_ _)); refine blk_far ?_ NB285_287.out _; (with_reducible repeat (first | refine blk_drewN ?_ _ | refine blk_drew ?_ | refine blk_alloc ?_ _)); refine blk_far ?_ NB285_287.out _; (with_reducible repeat (first | refine blk_drewN ?_ _ | refine blk_drew ?_ | refine blk_alloc ?_ _)); refine blk_far ?_ NB285_287.out _; (with_reducible repeat (first | refine blk_drewN ?_ _ | refine blk_drew ?_ | refine blk_alloc ?_ _)); exact BK285.out) hb); have n3_ := Aside0.mk (blk_below (g := gb287) (o := .cells #[.int .i64 ((rd_T59 l1 x16_1).f0.f0), .int .i64 t286, .int .i64 ((rd_T59 l1 x16_1).f0.f2), .int .i64 ((rd_T59 l1 x16_1).f0.f3)] 36 (0, 0)) (by (with_reducible repeat (first | refine blk_drewN ?_ _ | refine blk_drew ?_ | refine blk_alloc ?_ _)); refine blk_put (cs := #[.int .i64 ((rd_T59 l1 x16_1).f0.f0), .int .i64 t286, .int .i64 ((rd_T59 l1 x16_1).f0.f2), .int .i64 0]) ?_ 3 _ rfl; (with_reducible repeat (first | refine blk_drewN ?_ _ | refine blk_drew ?_ | refine blk_alloc ?_ _)); refine blk_put (cs := #[.int .i64 ((rd_T59 l1 x16_1).f0.f0), .int .i64 t286, .int .i64 0, .int .i64 0]) ?_ 2 _ rfl; (with_reducible repeat (first | refine blk_drewN ?_ _ | refine blk_drew ?_ | refine blk_alloc ?_ _)); refine blk_put (cs := #[.int .i64 ((rd_T59 l1 x16_1).f0.f0), .int .i64 0, .int .i64 0, .int .i64 0]) ?_ 1 _ rfl; (with_reducible repeat (first | refine blk_drewN ?_ _ | refine blk_drew ?_ | refine blk_alloc ?_ _)); refine blk_put (cs := #[.int .i64 0, .int .i64 0, .int .i64 0, .int .i64 0]) ?_ 0 _ rfl; (with_reducible repeat (first | refine blk_drewN ?_ _ | refine blk_drew ?_ | refine blk_alloc ?_ _)); exact BK287.out) hb); have n4_ := Aside0.mk (below_step (by repeat (first | (with_reducible first | exact HB.out | apply below_alloc | apply pw_below_drewN | apply below_drew1 | refine below_set ?_ GE282.out | refine below_set ?_ GE283.out | refine below_set ?_ GE285.out | refine below_set ?_ GE287.out) | exact HB.out)) hb); clear BK282; clear BK283; clear BK285; clear BK287; clear HB; have BK282 := n0_; have BK283 := n1_; have BK285 := n2_; have BK287 := n3_; have HB := n4_; clear n0_ n1_ n2_ n3_ n4_; (try clear hb); (try clear hb2); (try clear hk); (try clear hi); have hnb78 := NB287_282.out; have hnc78 := NB282_287.out; have hnb79 := NB287_283.out; have hnc79 := NB283_287.out; have hcz80_0 : w77.cell? ⟨gb287, 0, none⟩ = some (.int .i64 ((rd_T59 l1 x16_1).f0.f0)) := (blk_cell BK287.out 0).trans rfl; have hcz80_1 : w77.cell? ⟨gb287, 1, none⟩ = some (.int .i64 t286) := (blk_cell BK287.out 1).trans rfl; have hcz80_2 : w77.cell? ⟨gb287, 2, none⟩ = some (.int .i64 ((rd_T59 l1 x16_1).f0.f2)) := (blk_cell BK287.out 2).trans rfl; have hcz80_3 : w77.cell? ⟨gb287, 3, none⟩ = some (.int .i64 ((rd_T59 l1 x16_1).f0.f3)) := (blk_cell BK287.out 3).trans rfl; have hfz80_0 := blk_frozen BK287.out 0; have hfz80_1 := blk_frozen BK287.out 1; have hfz80_2 := blk_frozen BK287.out 2; have hfz80_3 := blk_frozen BK287.out 3))
                go_roundg k1
                case measure => have := HK1.out; omega
                case rel => exact ⟨(x7_1), (wrap64 (x16_1 + 1)), (x284000_1), (x284001_1), (x284002_1), (x284003_1), (by first | rfl | (simp; done) | (simp [*]; done)), (by first | rfl | (simp; done) | (simp [*]; done)), H', ⟨by have := HK1.out; omega⟩, ⟨by (with_reducible repeat (first | refine blk_drewN ?_ _ | refine blk_drew ?_ | refine blk_alloc ?_ _)); exact BK282.out⟩, ⟨by (with_reducible repeat (first | refine blk_drewN ?_ _ | refine blk_drew ?_ | refine blk_alloc ?_ _)); exact BK283.out⟩, ⟨by repeat (first | (with_reducible first | exact HB.out | apply below_alloc | apply pw_below_drewN | apply below_drew1 | refine below_set ?_ GE282.out | refine below_set ?_ GE283.out | refine below_set ?_ GE285.out | refine below_set ?_ GE287.out) | exact HB.out)⟩⟩
            · replace c12 := Bool.eq_false_iff.mpr c12
              subst c12
              have H1 : (kissgateref10_Best.l0 k1 a0 x7_1 l1 (l1.length : Int) (wrap64 (x16_1 + 1)) x284000_1 x284001_1 x284002_1 x284003_1) = some (r1, r2, r3, r4, r5) := by rw [if_neg (show ¬ (false = true) by decide)] at H; exact H
              clear H
              have H := H1
              clear H1
              have H' := Aside0.mk H
              clear H
              try go_wp2_with (first | ((with_reducible refine gate_callee (f := 62) rfl ?_); refine goesL_ (some 39) rfl rfl Tryd.func62 (by kernel_rfl) rfl #[.agg #[.int .i64 ((rd_T59 l1 x16_1).f0.f0), .int .i64 ((rd_T59 l1 x16_1).f0.f1), .int .i64 ((rd_T59 l1 x16_1).f0.f2), .int .i64 ((rd_T59 l1 x16_1).f0.f3), .int .i64 ((rd_T59 l1 x16_1).f1), .int .i64 ((rd_T59 l1 x16_1).f2), .bool ((rd_T59 l1 x16_1).f3)], .int .i64 a0] rfl (by (try simp only [List.map_toArray, List.map_cons, List.map_nil]); first | done | rfl | (simp only [List.length_drop, List.length_take]; rfl)) ?_; (with_reducible refine (kissgateref10_Use.calls ((rd_T59 l1 x16_1).f0.f0) ((rd_T59 l1 x16_1).f0.f1) ((rd_T59 l1 x16_1).f0.f2) ((rd_T59 l1 x16_1).f0.f3) ((rd_T59 l1 x16_1).f1) ((rd_T59 l1 x16_1).f2) ((rd_T59 l1 x16_1).f3) a0 false _ A11.out).mono ?_); rintro e w96 ⟨rfl, hb⟩; refine ⟨_, rfl, ?_⟩; have n0_ := Aside0.mk (blk_below (g := gb282) (o := .cells #[.int .i64 0, .int .i64 0, .int .i64 0, .int .i64 0] 36 (0, 0)) (by (with_reducible repeat (first | refine blk_drewN ?_ _ | refine blk_drew ?_ | refine blk_alloc ?_ _)); refine blk_far ?_ NB282_287.out _; (with_reducible repeat (first | refine blk_drewN ?_ _ | refine blk_drew ?_ | refine blk_alloc ?_ _)); refine blk_far ?_ NB282_287.out _; (with_reducible repeat (first | refine blk_drewN ?_ _ | refine blk_drew ?_ | refine blk_alloc ?_ _)); refine blk_far ?_ NB282_287.out _; (with_reducible repeat (first | refine blk_drewN ?_ _ | refine blk_drew ?_ | refine blk_alloc ?_ _)); refine blk_far ?_ NB282_287.out _; (with_reducible repeat (first | refine blk_drewN ?_ _ | refine blk_drew ?_ | refine blk_alloc ?_ _)); exact BK282.out) hb); have n1_ := Aside0.mk (blk_below (g := gb283) (o := .cells #[.int .i64 x284000_1, .int .i64 x284001_1, .int .i64 x284002_1, .int .i64 x284003_1] 36 (0, 0)) (by (with_reducible repeat (first | refine blk_drewN ?_ _ | refine blk_drew ?_ | refine blk_alloc ?_ _)); refine blk_far ?_ NB283_287.out _; (with_reducible repeat (first | refine blk_drewN ?_ _ | refine blk_drew ?_ | refine blk_alloc ?_ _)); refine blk_far ?_ NB283_287.out _; (with_reducible repeat (first | refine blk_drewN ?_ _ | refine blk_drew ?_ | refine blk_alloc ?_ _)); refine blk_far ?_ NB283_287.out _; (with_reducible repeat (first | refine blk_drewN ?_ _ | refine blk_drew ?_ | refine blk_alloc ?_ _)); refine blk_far ?_ NB283_287.out _; (with_reducible repeat (first | refine blk_drewN ?_ _ | refine blk_drew ?_ | refine blk_alloc ?_ _)); exact BK283.out) hb); have n2_ := Aside0.mk (blk_below (g := gb285) (o := .cells #[.int .i64 ((rd_T59 l1 x16_1).f0.f0), .int .i64 ((rd_T59 l1 x16_1).f0.f1), .int .i64 ((rd_T59 l1 x16_1).f0.f2), .int .i64 ((rd_T59 l1 x16_1).f0.f3), .int .i64 ((rd_T59 l1 x16_1).f1), .int .i64 ((rd_T59 l1 x16_1).f2), .bool ((rd_T59 l1 x16_1).f3)] 59 (0, 0)) (by (with_reducible repeat (first | refine blk_drewN ?_ _ | refine blk_drew ?_ | refine blk_alloc ?_ _)); refine blk_far ?_ NB285_287.out _; (with_reducible repeat (first | refine blk_drewN ?_ _ | refine blk_drew ?_ | refine blk_alloc ?_ _)); refine blk_far ?_ NB285_287.out _; (with_reducible repeat (first | refine blk_drewN ?_ _ | refine blk_drew ?_ | refine blk_alloc ?_ _)); refine blk_far ?_ NB285_287.out _; (with_reducible repeat (first | refine blk_drewN ?_ _ | refine blk_drew ?_ | refine blk_alloc ?_ _)); refine blk_far ?_ NB285_287.out _; (with_reducible repeat (first | refine blk_drewN ?_ _ | refine blk_drew ?_ | refine blk_alloc ?_ _)); exact BK285.out) hb); have n3_ := Aside0.mk (blk_below (g := gb287) (o := .cells #[.int .i64 ((rd_T59 l1 x16_1).f0.f0), .int .i64 t286, .int .i64 ((rd_T59 l1 x16_1).f0.f2), .int .i64 ((rd_T59 l1 x16_1).f0.f3)] 36 (0, 0)) (by (with_reducible repeat (first | refine blk_drewN ?_ _ | refine blk_drew ?_ | refine blk_alloc ?_ _)); refine blk_put (cs := #[.int .i64 ((rd_T59 l1 x16_1).f0.f0), .int .i64 t286, .int .i64 ((rd_T59 l1 x16_1).f0.f2), .int .i64 0]) ?_ 3 _ rfl; (with_reducible repeat (first | refine blk_drewN ?_ _ | refine blk_drew ?_ | refine blk_alloc ?_ _)); refine blk_put (cs := #[.int .i64 ((rd_T59 l1 x16_1).f0.f0), .int .i64 t286, .int .i64 0, .int .i64 0]) ?_ 2 _ rfl; (with_reducible repeat (first | refine blk_drewN ?_ _ | refine blk_drew ?_ | refine blk_alloc ?_ _)); refine blk_put (cs := #[.int .i64 ((rd_T59 l1 x16_1).f0.f0), .int .i64 0, .int .i64 0, .int .i64 0]) ?_ 1 _ rfl; (with_reducible repeat (first | refine blk_drewN ?_ _ | refine blk_drew ?_ | refine blk_alloc ?_ _)); refine blk_put (cs := #[.int .i64 0, .int .i64 0, .int .i64 0, .int .i64 0]) ?_ 0 _ rfl; (with_reducible repeat (first | refine blk_drewN ?_ _ | refine blk_drew ?_ | refine blk_alloc ?_ _)); exact BK287.out) hb); have n4_ := Aside0.mk (below_step (by repeat (first | (with_reducible first | exact HB.out | apply below_alloc | apply pw_below_drewN | apply below_drew1 | refine below_set ?_ GE282.out | refine below_set ?_ GE283.out | refine below_set ?_ GE285.out | refine below_set ?_ GE287.out) | exact HB.out)) hb); clear BK282; clear BK283; clear BK285; clear BK287; clear HB; have BK282 := n0_; have BK283 := n1_; have BK285 := n2_; have BK287 := n3_; have HB := n4_; clear n0_ n1_ n2_ n3_ n4_; (try clear hb); (try clear hb2); (try clear hk); (try clear hi)))
              go_roundg k1
              case measure => have := HK1.out; omega
              case rel => exact ⟨(x7_1), (wrap64 (x16_1 + 1)), (x284000_1), (x284001_1), (x284002_1), (x284003_1), (by first | rfl | (simp; done) | (simp [*]; done)), (by first | rfl | (simp; done) | (simp [*]; done)), H', ⟨by have := HK1.out; omega⟩, ⟨by (with_reducible repeat (first | refine blk_drewN ?_ _ | refine blk_drew ?_ | refine blk_alloc ?_ _)); exact BK282.out⟩, ⟨by (with_reducible repeat (first | refine blk_drewN ?_ _ | refine blk_drew ?_ | refine blk_alloc ?_ _)); exact BK283.out⟩, ⟨by repeat (first | (with_reducible first | exact HB.out | apply below_alloc | apply pw_below_drewN | apply below_drew1 | refine below_set ?_ GE282.out | refine below_set ?_ GE283.out | refine below_set ?_ GE285.out | refine below_set ?_ GE287.out) | exact HB.out)⟩⟩
          · rw [if_neg c9] at H
            exact absurd H (by simp)
        · rw [if_neg c8] at H
          exact absurd H (by simp)
      · rw [if_neg c7] at H
        have c7b0 : decide (x16_1 < (l1.length : Int)) = false := decide_eq_false c7
        clear c7
        simp only [Option.some.injEq, Prod.mk.injEq] at H
        obtain ⟨rfl, rfl, rfl, rfl, rfl⟩ := H
        have hnb97 := NB283_282.out
        have hnc97 := NB282_283.out
        have hcz98_0 : wr.cell? ⟨gb283, 0, none⟩ = some (.int .i64 x284000_1) := (blk_cell BK283.out 0).trans rfl
        have hcz98_1 : wr.cell? ⟨gb283, 1, none⟩ = some (.int .i64 x284001_1) := (blk_cell BK283.out 1).trans rfl
        have hcz98_2 : wr.cell? ⟨gb283, 2, none⟩ = some (.int .i64 x284002_1) := (blk_cell BK283.out 2).trans rfl
        have hcz98_3 : wr.cell? ⟨gb283, 3, none⟩ = some (.int .i64 x284003_1) := (blk_cell BK283.out 3).trans rfl
        have hfz98_0 := blk_frozen BK283.out 0
        have hfz98_1 := blk_frozen BK283.out 1
        have hfz98_2 := blk_frozen BK283.out 2
        have hfz98_3 := blk_frozen BK283.out 3
        have hcz99_0 : wr.cell? ⟨gb282, 0, none⟩ = some (.int .i64 0) := (blk_cell BK282.out 0).trans rfl
        have hcz99_1 : wr.cell? ⟨gb282, 1, none⟩ = some (.int .i64 0) := (blk_cell BK282.out 1).trans rfl
        have hcz99_2 : wr.cell? ⟨gb282, 2, none⟩ = some (.int .i64 0) := (blk_cell BK282.out 2).trans rfl
        have hcz99_3 : wr.cell? ⟨gb282, 3, none⟩ = some (.int .i64 0) := (blk_cell BK282.out 3).trans rfl
        have hfz99_0 := blk_frozen BK282.out 0
        have hfz99_1 := blk_frozen BK282.out 1
        have hfz99_2 := blk_frozen BK282.out 2
        have hfz99_3 := blk_frozen BK282.out 3
        go_wp2
        refine bodyPost_ret (results_ct rfl _ _ gb282 36 #[.int .i64 x284000_1, .int .i64 x284001_1, .int .i64 x284002_1, .int .i64 x284003_1] (0, 0) _ rfl (by (with_reducible repeat (first | refine blk_drewN ?_ _ | refine blk_drew ?_ | refine blk_alloc ?_ _)); refine blk_put (cs := #[.int .i64 x284000_1, .int .i64 x284001_1, .int .i64 x284002_1, .int .i64 0]) ?_ 3 _ rfl; (with_reducible repeat (first | refine blk_drewN ?_ _ | refine blk_drew ?_ | refine blk_alloc ?_ _)); refine blk_put (cs := #[.int .i64 x284000_1, .int .i64 x284001_1, .int .i64 0, .int .i64 0]) ?_ 2 _ rfl; (with_reducible repeat (first | refine blk_drewN ?_ _ | refine blk_drew ?_ | refine blk_alloc ?_ _)); refine blk_put (cs := #[.int .i64 x284000_1, .int .i64 0, .int .i64 0, .int .i64 0]) ?_ 1 _ rfl; (with_reducible repeat (first | refine blk_drewN ?_ _ | refine blk_drew ?_ | refine blk_alloc ?_ _)); refine blk_put (cs := #[.int .i64 0, .int .i64 0, .int .i64 0, .int .i64 0]) ?_ 0 _ rfl; (with_reducible repeat (first | refine blk_drewN ?_ _ | refine blk_drew ?_ | refine blk_alloc ?_ _)); exact BK282.out) Tryd.underlying36 rfl (by kernel_rfl)) rfl ?_
        exact ⟨by first | rfl | (simp [errW_none, errW_some] <;> rfl) | (simp [*, errW_none, errW_some] <;> rfl), by repeat (first | (with_reducible first | exact HB.out | apply below_alloc | apply pw_below_drewN | apply below_drew1 | refine below_set ?_ GE282.out | refine below_set ?_ GE283.out) | exact HB.out)⟩
end Go.Proofs.YtfimhaodgekkgaaDoor.QTre
namespace Go.Proofs.YtfimhaodgekkgaaDoor.QTre
open Go.RowKit Go.Proofs.YtfimhaodgekkgaaDoorW.PrintWords Go.Proofs.YtfimhaodgekkgaaDoorW.PrintLast Go.Proofs.YtfimhaodgekkgaaDoorW.PrintMore
attribute [local go_sem] max2_int min2_int max_two min_two max_three min_three max_four min_four
set_option linter.unusedVariables false
set_option linter.unusedSimpArgs false
def kissgateref10_Role.f (k : Nat) (a0 : Int) (l1 : List (S59)) (a2 : Int) : Option (Int) := (kissgateref10_Best.f k a0 l1).bind fun bt290 => (if a2 = bt290.2.2.2.2 then (some 1) else (if 0 ≤ a2 then (if a2 < (l1.length : Int) then ((kissgateref10_Use.f ((rd_T59 l1 a2).f0.f0) ((rd_T59 l1 a2).f0.f1) ((rd_T59 l1 a2).f0.f2) ((rd_T59 l1 a2).f0.f3) ((rd_T59 l1 a2).f1) ((rd_T59 l1 a2).f2) ((rd_T59 l1 a2).f3) a0).bind fun t298 => (if t298 = true then ((kissgateref10_Better.f bt290.1 bt290.2.1 a0 a2 ((rd_T59 l1 a2).f0.f0) ((rd_T59 l1 a2).f0.f1) ((rd_T59 l1 a2).f0.f2) ((rd_T59 l1 a2).f0.f3)).bind fun t300 => (if t300 = true then (some 2) else (some 3))) else (some 2))) else (none)) else (none)))
def kissgateref10_Role.T5 : Bool × List (List Nat × List Nat) := (true, [([], []), ([], []), ([0, 1], [0, 1]), ([2], [2]), ([], []), ([3, 4], [3, 4]), ([5], [5]), ([6, 5], [6]), ([7], [7]), ([7], [7]), ([7], [7]), ([9, 10, 7], [7, 9, 10]), ([11, 7], [7, 11]), ([12, 7], [7, 12]), ([8, 13, 7, 7], [7, 8, 13]), ([7, 14], [7, 14])])
def kissgateref10_Role.B5 : List Nat := [0, 0, 3, 7, 0, 31, 63, 127, 255, 255, 255, 1791, 3839, 7935, 16383, 32767]
theorem kissgateref10_Role.tab5 : rtab .any (opsOf Tryd.f53 5) = kissgateref10_Role.T5 := by kernel_rfl
theorem kissgateref10_Role.bits5 : waitsOk kissgateref10_Role.T5.2 kissgateref10_Role.B5 = true := by kernel_rfl
set_option maxHeartbeats 8000000 in
set_option maxRecDepth 100000 in
theorem kissgateref10_Role.calls (k : Nat) (a0 : Int) (A1 : Option Addr) (c1 : Nat) (l1 : List (S59)) (a2 : Int) (r : Int) (w : World) (hr1 : Kd.C k59 w A1 l1.length l1) (hc1 : l1.length ≤ c1) (h : kissgateref10_Role.f k a0 l1 a2 = some r) :
    Calls Tryd.prog 53 #[.int .i64 a0, .slice A1 l1.length c1, .int .i64 a2] w fun e w' => e = .returned (.int .i64 r) ∧ Below w.heap.size w w' := by
  have hu36 := Tryd.underlying36
  have hu59 := Tryd.underlying59
  have HR1 := Aside0.mk hr1
  have HC1 := Aside0.mk hc1
  clear hr1 hc1
  have HB := Aside0.mk (Below.refl w.heap.size w)
  have H : ((kissgateref10_Best.f k a0 l1).bind fun bt290 => (if a2 = bt290.2.2.2.2 then (some 1) else (if 0 ≤ a2 then (if a2 < (l1.length : Int) then ((kissgateref10_Use.f ((rd_T59 l1 a2).f0.f0) ((rd_T59 l1 a2).f0.f1) ((rd_T59 l1 a2).f0.f2) ((rd_T59 l1 a2).f0.f3) ((rd_T59 l1 a2).f1) ((rd_T59 l1 a2).f2) ((rd_T59 l1 a2).f3) a0).bind fun t298 => (if t298 = true then ((kissgateref10_Better.f bt290.1 bt290.2.1 a0 a2 ((rd_T59 l1 a2).f0.f0) ((rd_T59 l1 a2).f0.f1) ((rd_T59 l1 a2).f0.f2) ((rd_T59 l1 a2).f0.f3)).bind fun t300 => (if t300 = true then (some 2) else (some 3))) else (some 2))) else (none)) else (none)))) = some r := h
  clear h
  replace H := Option.bind_eq_some_iff.mp H
  obtain ⟨⟨t290, t291, t292, t293, t294⟩, A40, H⟩ := H
  replace H : (if a2 = t294 then (some 1) else (if 0 ≤ a2 then (if a2 < (l1.length : Int) then ((kissgateref10_Use.f ((rd_T59 l1 a2).f0.f0) ((rd_T59 l1 a2).f0.f1) ((rd_T59 l1 a2).f0.f2) ((rd_T59 l1 a2).f0.f3) ((rd_T59 l1 a2).f1) ((rd_T59 l1 a2).f2) ((rd_T59 l1 a2).f3) a0).bind fun t298 => (if t298 = true then ((kissgateref10_Better.f t290 t291 a0 a2 ((rd_T59 l1 a2).f0.f0) ((rd_T59 l1 a2).f0.f1) ((rd_T59 l1 a2).f0.f2) ((rd_T59 l1 a2).f0.f3)).bind fun t300 => (if t300 = true then (some 2) else (some 3))) else (some 2))) else (none)) else (none))) = some r := H
  have A4 := Aside0.mk A40
  clear A40
  by_cases c5 : a2 = t294
  · rw [if_pos c5] at H
    have c5b0 : (a2 == t294) = true := beq_iff_eq.mpr c5
    have c5b1 : (a2 != t294) = false := bne_eq_false_iff_eq.mpr c5
    clear c5
    obtain rfl := Option.some.inj H
    go_enter Tryd.func53, Tryd.ntmps53
    go_wp2_with (first | ((with_reducible refine gate_callee (f := 56) rfl ?_); refine goesL_ (some 13) rfl rfl Tryd.func56 (by kernel_rfl) rfl #[.int .i64 a0, .slice A1 l1.length c1] rfl (by (try simp only [List.map_toArray, List.map_cons, List.map_nil]); first | done | rfl | (simp only [List.length_drop, List.length_take]; rfl)) ?_; (with_reducible refine (kissgateref10_Best.calls k a0 _ _ l1 t290 t291 t292 t293 t294 _ ?side1 ?side2 A4.out).mono ?_); (case side1 => repeat (first | exact HR1.out | (with_reducible refine Kd.C_alloc ?_ _) | (with_reducible refine Kd.C_drewN ?_ _) | (with_reducible refine Kd.C_drew ?_))); (case side2 => exact HC1.out); rintro e w6 ⟨rfl, hb⟩; refine ⟨_, rfl, ?_⟩; have n0_ := Aside0.mk (below_step (by repeat (first | (with_reducible first | exact HB.out | apply below_alloc | apply pw_below_drewN | apply below_drew1) | exact HB.out)) hb); clear HB; have HB := n0_; clear n0_; (try clear hb); (try clear hb2); (try clear hk); (try clear hi)) | ((with_reducible refine gate_dst (N := 7) rfl ?_); refine box_event ?hg (N := 7) ?hd (cs := #[.int .i64 0, .int .i64 0, .int .i64 0, .int .i64 0]) (t := 36) ?hr ?_; (case hd => rfl); (case hg => rfl); (case hr => first | (go_simp; done) | (go_simp; rfl)); intro gb295 hg w7 hbox hb; have n0_ := Aside0.mk (below_step (by repeat (first | (with_reducible first | exact HB.out | apply below_alloc | apply pw_below_drewN | apply below_drew1) | exact HB.out)) hb); have n1_ := Aside0.mk (hbox); have n2_ := Aside0.mk ((by rw [hg]; exact (below_size (by repeat (first | (with_reducible first | exact HB.out | apply below_alloc | apply pw_below_drewN | apply below_drew1) | exact HB.out))) : w.heap.size ≤ gb295)); have n3_ := Aside0.mk ((by rw [hg]; exact (below_size (by repeat (first | (with_reducible first | exact HB.out | apply below_alloc | apply pw_below_drewN | apply below_drew1) | exact HB.out))) : w.heap.size ≤ gb295)); clear HB; have HB := n0_; have BK295 := n1_; have GW295 := n2_; have GE295 := n3_; clear n0_ n1_ n2_ n3_; clear hb hbox hg; have hcz8_0 : w7.cell? ⟨gb295, 0, none⟩ = some (.int .i64 0) := (blk_cell BK295.out 0).trans rfl; have hcz8_1 : w7.cell? ⟨gb295, 1, none⟩ = some (.int .i64 0) := (blk_cell BK295.out 1).trans rfl; have hcz8_2 : w7.cell? ⟨gb295, 2, none⟩ = some (.int .i64 0) := (blk_cell BK295.out 2).trans rfl; have hcz8_3 : w7.cell? ⟨gb295, 3, none⟩ = some (.int .i64 0) := (blk_cell BK295.out 3).trans rfl; have hfz8_0 := blk_frozen BK295.out 0; have hfz8_1 := blk_frozen BK295.out 1; have hfz8_2 := blk_frozen BK295.out 2; have hfz8_3 := blk_frozen BK295.out 3))
    go_ret
    exact ⟨by first | rfl | (simp [errW_none, errW_some] <;> rfl) | (simp [*, errW_none, errW_some] <;> rfl), by repeat (first | (with_reducible first | exact HB.out | apply below_alloc | apply pw_below_drewN | apply below_drew1 | refine below_set ?_ GE295.out) | exact HB.out)⟩
  · rw [if_neg c5] at H
    have c5b0 : (a2 == t294) = false := beq_eq_false_iff_ne.mpr c5
    have c5b1 : (a2 != t294) = true := bne_iff_ne.mpr c5
    by_cases c9 : 0 ≤ a2
    · rw [if_pos c9] at H
      have c9b0 : decide (0 ≤ a2) = true := decide_eq_true c9
      clear c9
      by_cases c10 : a2 < (l1.length : Int)
      · rw [if_pos c10] at H
        have c10b0 : decide (a2 < (l1.length : Int)) = true := decide_eq_true c10
        clear c10
        replace H := Option.bind_eq_some_iff.mp H
        obtain ⟨t298, A110, H⟩ := H
        replace H : (if t298 = true then ((kissgateref10_Better.f t290 t291 a0 a2 ((rd_T59 l1 a2).f0.f0) ((rd_T59 l1 a2).f0.f1) ((rd_T59 l1 a2).f0.f2) ((rd_T59 l1 a2).f0.f3)).bind fun t300 => (if t300 = true then (some 2) else (some 3))) else (some 2)) = some r := H
        have A11 := Aside0.mk A110
        clear A110
        by_cases c12 : t298 = true
        · subst c12
          have H1 : ((kissgateref10_Better.f t290 t291 a0 a2 ((rd_T59 l1 a2).f0.f0) ((rd_T59 l1 a2).f0.f1) ((rd_T59 l1 a2).f0.f2) ((rd_T59 l1 a2).f0.f3)).bind fun t300 => (if t300 = true then (some 2) else (some 3))) = some r := by rw [if_pos rfl] at H; exact H
          clear H
          have H := H1
          clear H1
          replace H := Option.bind_eq_some_iff.mp H
          obtain ⟨t300, A130, H⟩ := H
          replace H : (if t300 = true then (some 2) else (some 3)) = some r := H
          have A13 := Aside0.mk A130
          clear A130
          by_cases c14 : t300 = true
          · subst c14
            have H1 : (some 2) = some r := by rw [if_pos rfl] at H; exact H
            clear H
            have H := H1
            clear H1
            obtain rfl := Option.some.inj H
            go_enter Tryd.func53, Tryd.ntmps53
            try go_wp2_with (first | ((with_reducible refine gate_callee (f := 56) rfl ?_); refine goesL_ (some 13) rfl rfl Tryd.func56 (by kernel_rfl) rfl #[.int .i64 a0, .slice A1 l1.length c1] rfl (by (try simp only [List.map_toArray, List.map_cons, List.map_nil]); first | done | rfl | (simp only [List.length_drop, List.length_take]; rfl)) ?_; (with_reducible refine (kissgateref10_Best.calls k a0 _ _ l1 t290 t291 t292 t293 t294 _ ?side1 ?side2 A4.out).mono ?_); (case side1 => repeat (first | exact HR1.out | (with_reducible refine Kd.C_alloc ?_ _) | (with_reducible refine Kd.C_drewN ?_ _) | (with_reducible refine Kd.C_drew ?_))); (case side2 => exact HC1.out); rintro e w15 ⟨rfl, hb⟩; refine ⟨_, rfl, ?_⟩; have n0_ := Aside0.mk (below_step (by repeat (first | (with_reducible first | exact HB.out | apply below_alloc | apply pw_below_drewN | apply below_drew1) | exact HB.out)) hb); clear HB; have HB := n0_; clear n0_; (try clear hb); (try clear hb2); (try clear hk); (try clear hi)) | ((with_reducible refine gate_dst (N := 7) rfl ?_); refine box_event ?hg (N := 7) ?hd (cs := #[.int .i64 0, .int .i64 0, .int .i64 0, .int .i64 0]) (t := 36) ?hr ?_; (case hd => rfl); (case hg => rfl); (case hr => first | (go_simp; done) | (go_simp; rfl)); intro gb295 hg w16 hbox hb; have n0_ := Aside0.mk (below_step (by repeat (first | (with_reducible first | exact HB.out | apply below_alloc | apply pw_below_drewN | apply below_drew1) | exact HB.out)) hb); have n1_ := Aside0.mk (hbox); have n2_ := Aside0.mk ((by rw [hg]; exact (below_size (by repeat (first | (with_reducible first | exact HB.out | apply below_alloc | apply pw_below_drewN | apply below_drew1) | exact HB.out))) : w.heap.size ≤ gb295)); have n3_ := Aside0.mk ((by rw [hg]; exact (below_size (by repeat (first | (with_reducible first | exact HB.out | apply below_alloc | apply pw_below_drewN | apply below_drew1) | exact HB.out))) : w.heap.size ≤ gb295)); clear HB; have HB := n0_; have BK295 := n1_; have GW295 := n2_; have GE295 := n3_; clear n0_ n1_ n2_ n3_; clear hb hbox hg; have hcz17_0 : w16.cell? ⟨gb295, 0, none⟩ = some (.int .i64 0) := (blk_cell BK295.out 0).trans rfl; have hcz17_1 : w16.cell? ⟨gb295, 1, none⟩ = some (.int .i64 0) := (blk_cell BK295.out 1).trans rfl; have hcz17_2 : w16.cell? ⟨gb295, 2, none⟩ = some (.int .i64 0) := (blk_cell BK295.out 2).trans rfl; have hcz17_3 : w16.cell? ⟨gb295, 3, none⟩ = some (.int .i64 0) := (blk_cell BK295.out 3).trans rfl; have hfz17_0 := blk_frozen BK295.out 0; have hfz17_1 := blk_frozen BK295.out 1; have hfz17_2 := blk_frozen BK295.out 2; have hfz17_3 := blk_frozen BK295.out 3) | ((with_reducible refine gate_dst (N := 9) rfl ?_); refine box_event ?hg (N := 9) ?hd (cs := #[.int .i64 0, .int .i64 0, .int .i64 0, .int .i64 0]) (t := 36) ?hr ?_; (case hd => rfl); (case hg => rfl); (case hr => first | (go_simp; done) | (go_simp; rfl)); intro gb296 hg w18 hbox hb; have n0_ := Aside0.mk (blk_below (g := gb295) (o := .cells #[.int .i64 t290, .int .i64 t291, .int .i64 t292, .int .i64 t293] 36 (0, 0)) (by (with_reducible repeat (first | refine blk_drewN ?_ _ | refine blk_drew ?_ | refine blk_alloc ?_ _)); refine blk_put (cs := #[.int .i64 t290, .int .i64 t291, .int .i64 t292, .int .i64 0]) ?_ 3 _ rfl; (with_reducible repeat (first | refine blk_drewN ?_ _ | refine blk_drew ?_ | refine blk_alloc ?_ _)); refine blk_put (cs := #[.int .i64 t290, .int .i64 t291, .int .i64 0, .int .i64 0]) ?_ 2 _ rfl; (with_reducible repeat (first | refine blk_drewN ?_ _ | refine blk_drew ?_ | refine blk_alloc ?_ _)); refine blk_put (cs := #[.int .i64 t290, .int .i64 0, .int .i64 0, .int .i64 0]) ?_ 1 _ rfl; (with_reducible repeat (first | refine blk_drewN ?_ _ | refine blk_drew ?_ | refine blk_alloc ?_ _)); refine blk_put (cs := #[.int .i64 0, .int .i64 0, .int .i64 0, .int .i64 0]) ?_ 0 _ rfl; (with_reducible repeat (first | refine blk_drewN ?_ _ | refine blk_drew ?_ | refine blk_alloc ?_ _)); exact BK295.out) hb); have n1_ := Aside0.mk (below_step (by repeat (first | (with_reducible first | exact HB.out | apply below_alloc | apply pw_below_drewN | apply below_drew1 | refine below_set ?_ GE295.out) | exact HB.out)) hb); have n2_ := Aside0.mk (hbox); have n3_ := Aside0.mk ((by rw [hg]; exact (below_size (by repeat (first | (with_reducible first | exact HB.out | apply below_alloc | apply pw_below_drewN | apply below_drew1 | refine below_set ?_ GE295.out) | exact HB.out))) : w.heap.size ≤ gb296)); have n4_ := Aside0.mk ((by rw [hg]; exact (below_size (by repeat (first | (with_reducible first | exact HB.out | apply below_alloc | apply pw_below_drewN | apply below_drew1 | refine below_set ?_ GE295.out) | exact HB.out))) : w.heap.size ≤ gb296)); have n5_ := Aside0.mk ((by rw [hg]; exact Nat.ne_of_lt (blk_lt (g := gb295) (o := .cells #[.int .i64 t290, .int .i64 t291, .int .i64 t292, .int .i64 t293] 36 (0, 0)) (by (with_reducible repeat (first | refine blk_drewN ?_ _ | refine blk_drew ?_ | refine blk_alloc ?_ _)); refine blk_put (cs := #[.int .i64 t290, .int .i64 t291, .int .i64 t292, .int .i64 0]) ?_ 3 _ rfl; (with_reducible repeat (first | refine blk_drewN ?_ _ | refine blk_drew ?_ | refine blk_alloc ?_ _)); refine blk_put (cs := #[.int .i64 t290, .int .i64 t291, .int .i64 0, .int .i64 0]) ?_ 2 _ rfl; (with_reducible repeat (first | refine blk_drewN ?_ _ | refine blk_drew ?_ | refine blk_alloc ?_ _)); refine blk_put (cs := #[.int .i64 t290, .int .i64 0, .int .i64 0, .int .i64 0]) ?_ 1 _ rfl; (with_reducible repeat (first | refine blk_drewN ?_ _ | refine blk_drew ?_ | refine blk_alloc ?_ _)); refine blk_put (cs := #[.int .i64 0, .int .i64 0, .int .i64 0, .int .i64 0]) ?_ 0 _ rfl; (with_reducible repeat (first | refine blk_drewN ?_ _ | refine blk_drew ?_ | refine blk_alloc ?_ _)); exact BK295.out)) : gb295 ≠ gb296)); have n6_ := Aside0.mk ((by rw [hg]; exact Nat.ne_of_gt (blk_lt (g := gb295) (o := .cells #[.int .i64 t290, .int .i64 t291, .int .i64 t292, .int .i64 t293] 36 (0, 0)) (by (with_reducible repeat (first | refine blk_drewN ?_ _ | refine blk_drew ?_ | refine blk_alloc ?_ _)); refine blk_put (cs := #[.int .i64 t290, .int .i64 t291, .int .i64 t292, .int .i64 0]) ?_ 3 _ rfl; (with_reducible repeat (first | refine blk_drewN ?_ _ | refine blk_drew ?_ | refine blk_alloc ?_ _)); refine blk_put (cs := #[.int .i64 t290, .int .i64 t291, .int .i64 0, .int .i64 0]) ?_ 2 _ rfl; (with_reducible repeat (first | refine blk_drewN ?_ _ | refine blk_drew ?_ | refine blk_alloc ?_ _)); refine blk_put (cs := #[.int .i64 t290, .int .i64 0, .int .i64 0, .int .i64 0]) ?_ 1 _ rfl; (with_reducible repeat (first | refine blk_drewN ?_ _ | refine blk_drew ?_ | refine blk_alloc ?_ _)); refine blk_put (cs := #[.int .i64 0, .int .i64 0, .int .i64 0, .int .i64 0]) ?_ 0 _ rfl; (with_reducible repeat (first | refine blk_drewN ?_ _ | refine blk_drew ?_ | refine blk_alloc ?_ _)); exact BK295.out)) : gb296 ≠ gb295)); clear BK295; clear HB; have BK295 := n0_; have HB := n1_; have BK296 := n2_; have GW296 := n3_; have GE296 := n4_; have NB295_296 := n5_; have NB296_295 := n6_; clear n0_ n1_ n2_ n3_ n4_ n5_ n6_; clear hb hbox hg; have hnb19 := NB296_295.out; have hnc19 := NB295_296.out; have hcz20_0 : w18.cell? ⟨gb296, 0, none⟩ = some (.int .i64 0) := (blk_cell BK296.out 0).trans rfl; have hcz20_1 : w18.cell? ⟨gb296, 1, none⟩ = some (.int .i64 0) := (blk_cell BK296.out 1).trans rfl; have hcz20_2 : w18.cell? ⟨gb296, 2, none⟩ = some (.int .i64 0) := (blk_cell BK296.out 2).trans rfl; have hcz20_3 : w18.cell? ⟨gb296, 3, none⟩ = some (.int .i64 0) := (blk_cell BK296.out 3).trans rfl; have hfz20_0 := blk_frozen BK296.out 0; have hfz20_1 := blk_frozen BK296.out 1; have hfz20_2 := blk_frozen BK296.out 2; have hfz20_3 := blk_frozen BK296.out 3))
            have n0_ : Aside0 (((((w18.setCell ⟨gb296, 0, none⟩ (.int .i64 t290)).setCell ⟨gb296, 1, none⟩ (.int .i64 t291)).setCell ⟨gb296, 2, none⟩ (.int .i64 a0)).setCell ⟨gb296, 3, none⟩ (.int .i64 a2)).heap[gb295]? = some (.cells #[.int .i64 t290, .int .i64 t291, .int .i64 t292, .int .i64 t293] 36 (0, 0))) := ⟨by (with_reducible repeat (first | refine blk_drewN ?_ _ | refine blk_drew ?_ | refine blk_alloc ?_ _)); refine blk_far ?_ NB295_296.out _; (with_reducible repeat (first | refine blk_drewN ?_ _ | refine blk_drew ?_ | refine blk_alloc ?_ _)); refine blk_far ?_ NB295_296.out _; (with_reducible repeat (first | refine blk_drewN ?_ _ | refine blk_drew ?_ | refine blk_alloc ?_ _)); refine blk_far ?_ NB295_296.out _; (with_reducible repeat (first | refine blk_drewN ?_ _ | refine blk_drew ?_ | refine blk_alloc ?_ _)); refine blk_far ?_ NB295_296.out _; (with_reducible repeat (first | refine blk_drewN ?_ _ | refine blk_drew ?_ | refine blk_alloc ?_ _)); exact BK295.out⟩
            have n1_ : Aside0 (((((w18.setCell ⟨gb296, 0, none⟩ (.int .i64 t290)).setCell ⟨gb296, 1, none⟩ (.int .i64 t291)).setCell ⟨gb296, 2, none⟩ (.int .i64 a0)).setCell ⟨gb296, 3, none⟩ (.int .i64 a2)).heap[gb296]? = some (.cells #[.int .i64 t290, .int .i64 t291, .int .i64 a0, .int .i64 a2] 36 (0, 0))) := ⟨by (with_reducible repeat (first | refine blk_drewN ?_ _ | refine blk_drew ?_ | refine blk_alloc ?_ _)); refine blk_put (cs := #[.int .i64 t290, .int .i64 t291, .int .i64 a0, .int .i64 0]) ?_ 3 _ rfl; (with_reducible repeat (first | refine blk_drewN ?_ _ | refine blk_drew ?_ | refine blk_alloc ?_ _)); refine blk_put (cs := #[.int .i64 t290, .int .i64 t291, .int .i64 0, .int .i64 0]) ?_ 2 _ rfl; (with_reducible repeat (first | refine blk_drewN ?_ _ | refine blk_drew ?_ | refine blk_alloc ?_ _)); refine blk_put (cs := #[.int .i64 t290, .int .i64 0, .int .i64 0, .int .i64 0]) ?_ 1 _ rfl; (with_reducible repeat (first | refine blk_drewN ?_ _ | refine blk_drew ?_ | refine blk_alloc ?_ _)); refine blk_put (cs := #[.int .i64 0, .int .i64 0, .int .i64 0, .int .i64 0]) ?_ 0 _ rfl; (with_reducible repeat (first | refine blk_drewN ?_ _ | refine blk_drew ?_ | refine blk_alloc ?_ _)); exact BK296.out⟩
            have n2_ : Aside0 (Below w.heap.size w ((((w18.setCell ⟨gb296, 0, none⟩ (.int .i64 t290)).setCell ⟨gb296, 1, none⟩ (.int .i64 t291)).setCell ⟨gb296, 2, none⟩ (.int .i64 a0)).setCell ⟨gb296, 3, none⟩ (.int .i64 a2))) := ⟨by repeat (first | (with_reducible first | exact HB.out | apply below_alloc | apply pw_below_drewN | apply below_drew1 | refine below_set ?_ GE295.out | refine below_set ?_ GE296.out) | exact HB.out)⟩
            (try clear BK295)
            (try clear BK296)
            (try clear HB)
            generalize ((((w18.setCell ⟨gb296, 0, none⟩ (.int .i64 t290)).setCell ⟨gb296, 1, none⟩ (.int .i64 t291)).setCell ⟨gb296, 2, none⟩ (.int .i64 a0)).setCell ⟨gb296, 3, none⟩ (.int .i64 a2)) = w21 at n0_ n1_ n2_ ⊢
            have BK295 := n0_
            have BK296 := n1_
            have HB := n2_
            clear n0_ n1_ n2_
            have n0_ := Aside0.mk (blk_drew BK295.out)
            have n1_ := Aside0.mk (blk_drew BK296.out)
            have n2_ := Aside0.mk (below_drew1 HB.out)
            clear BK295
            clear BK296
            clear HB
            have BK295 := n0_
            have BK296 := n1_
            have HB := n2_
            clear n0_ n1_ n2_
            have p297 : 0 ≤ (a2 : Int) := of_decide_eq_true (by first | (with_reducible assumption) | assumption)
            have q297 : a2 < (l1.length : Int) := of_decide_eq_true (by first | (with_reducible assumption) | assumption)
            obtain ⟨ad297, e297, hx297_0, hx297_1, hx297_2, hx297_3, hx297_4, hx297_5, hx297_6⟩ := at_T59 HR1.out a2 p297 q297
            have hw297_6 := hx297_6
            have hw297_5 := hx297_5
            have hw297_4 := hx297_4
            have hw297_3 := hx297_3
            have hw297_2 := hx297_2
            have hw297_1 := hx297_1
            have hw297_0 := hx297_0
            cases e297
            replace hx297_0 := (HB.out.cell (World.block_lt_of_cell? w _ hx297_0)).trans hx297_0
            replace hx297_1 := (HB.out.cell (World.block_lt_of_cell? w _ hx297_1)).trans hx297_1
            replace hx297_2 := (HB.out.cell (World.block_lt_of_cell? w _ hx297_2)).trans hx297_2
            replace hx297_3 := (HB.out.cell (World.block_lt_of_cell? w _ hx297_3)).trans hx297_3
            replace hx297_4 := (HB.out.cell (World.block_lt_of_cell? w _ hx297_4)).trans hx297_4
            replace hx297_5 := (HB.out.cell (World.block_lt_of_cell? w _ hx297_5)).trans hx297_5
            replace hx297_6 := (HB.out.cell (World.block_lt_of_cell? w _ hx297_6)).trans hx297_6
            replace p297 := eq_true p297
            replace q297 := eq_true q297
            have p299 : 0 ≤ (a2 : Int) := of_decide_eq_true (by first | (with_reducible assumption) | assumption)
            have q299 : a2 < (l1.length : Int) := of_decide_eq_true (by first | (with_reducible assumption) | assumption)
            obtain ⟨ad299, e299, hx299_0, hx299_1, hx299_2, hx299_3, hx299_4, hx299_5, hx299_6⟩ := at_T59 HR1.out a2 p299 q299
            have hw299_6 := hx299_6
            have hw299_5 := hx299_5
            have hw299_4 := hx299_4
            have hw299_3 := hx299_3
            have hw299_2 := hx299_2
            have hw299_1 := hx299_1
            have hw299_0 := hx299_0
            obtain rfl : ad297 = ad299 := (by injection e299)
            replace hx299_0 := (HB.out.cell (World.block_lt_of_cell? w _ hx299_0)).trans hx299_0
            replace hx299_1 := (HB.out.cell (World.block_lt_of_cell? w _ hx299_1)).trans hx299_1
            replace hx299_2 := (HB.out.cell (World.block_lt_of_cell? w _ hx299_2)).trans hx299_2
            replace hx299_3 := (HB.out.cell (World.block_lt_of_cell? w _ hx299_3)).trans hx299_3
            replace hx299_4 := (HB.out.cell (World.block_lt_of_cell? w _ hx299_4)).trans hx299_4
            replace hx299_5 := (HB.out.cell (World.block_lt_of_cell? w _ hx299_5)).trans hx299_5
            replace hx299_6 := (HB.out.cell (World.block_lt_of_cell? w _ hx299_6)).trans hx299_6
            replace p299 := eq_true p299
            replace q299 := eq_true q299
            refine start_ (n := 16) (S := fun w' => w'.cell? ⟨gb296, 0, none⟩ = some (.int .i64 t290) ∧ w'.cell? ⟨gb296, 1, none⟩ = some (.int .i64 t291) ∧ w'.cell? ⟨gb296, 2, none⟩ = some (.int .i64 a0) ∧ w'.cell? ⟨gb296, 3, none⟩ = some (.int .i64 a2) ∧ w'.cell? (ad297.add ((a2).toNat * 7)) = some (.int .i64 ((rd_T59 l1 a2).f0.f0)) ∧ w'.cell? ⟨(ad297.add ((a2).toNat * 7)).block, (ad297.add ((a2).toNat * 7)).off + 1, none⟩ = some (.int .i64 ((rd_T59 l1 a2).f0.f1)) ∧ w'.cell? ⟨(ad297.add ((a2).toNat * 7)).block, (ad297.add ((a2).toNat * 7)).off + 2, none⟩ = some (.int .i64 ((rd_T59 l1 a2).f0.f2)) ∧ w'.cell? ⟨(ad297.add ((a2).toNat * 7)).block, (ad297.add ((a2).toNat * 7)).off + 3, none⟩ = some (.int .i64 ((rd_T59 l1 a2).f0.f3)) ∧ w'.cell? ⟨(ad297.add ((a2).toNat * 7)).block, (ad297.add ((a2).toNat * 7)).off + 4, none⟩ = some (.int .i64 ((rd_T59 l1 a2).f1)) ∧ w'.cell? ⟨(ad297.add ((a2).toNat * 7)).block, (ad297.add ((a2).toNat * 7)).off + 5, none⟩ = some (.int .i64 ((rd_T59 l1 a2).f2)) ∧ w'.cell? ⟨(ad297.add ((a2).toNat * 7)).block, (ad297.add ((a2).toNat * 7)).off + 6, none⟩ = some (.bool ((rd_T59 l1 a2).f3)) ∧ w'.cell? (ad297.add ((a2).toNat * 7)) = some (.int .i64 ((rd_T59 l1 a2).f0.f0)) ∧ w'.cell? ⟨(ad297.add ((a2).toNat * 7)).block, (ad297.add ((a2).toNat * 7)).off + 1, none⟩ = some (.int .i64 ((rd_T59 l1 a2).f0.f1)) ∧ w'.cell? ⟨(ad297.add ((a2).toNat * 7)).block, (ad297.add ((a2).toNat * 7)).off + 2, none⟩ = some (.int .i64 ((rd_T59 l1 a2).f0.f2)) ∧ w'.cell? ⟨(ad297.add ((a2).toNat * 7)).block, (ad297.add ((a2).toNat * 7)).off + 3, none⟩ = some (.int .i64 ((rd_T59 l1 a2).f0.f3)) ∧ w'.cell? ⟨(ad297.add ((a2).toNat * 7)).block, (ad297.add ((a2).toNat * 7)).off + 4, none⟩ = some (.int .i64 ((rd_T59 l1 a2).f1)) ∧ w'.cell? ⟨(ad297.add ((a2).toNat * 7)).block, (ad297.add ((a2).toNat * 7)).off + 5, none⟩ = some (.int .i64 ((rd_T59 l1 a2).f2)) ∧ w'.cell? ⟨(ad297.add ((a2).toNat * 7)).block, (ad297.add ((a2).toNat * 7)).off + 6, none⟩ = some (.bool ((rd_T59 l1 a2).f3))) (ds := []) #[false, false, false, false, false, false, false, false, false, false, false, false, false, false, false, false] (by kernel_rfl) rfl rfl ⟨(blk_cell BK296.out 0).trans rfl, (blk_cell BK296.out 1).trans rfl, (blk_cell BK296.out 2).trans rfl, (blk_cell BK296.out 3).trans rfl, ((HB.out.cell (World.block_lt_of_cell? w _ hw297_0)).trans hw297_0), ((HB.out.cell (World.block_lt_of_cell? w _ hw297_1)).trans hw297_1), ((HB.out.cell (World.block_lt_of_cell? w _ hw297_2)).trans hw297_2), ((HB.out.cell (World.block_lt_of_cell? w _ hw297_3)).trans hw297_3), ((HB.out.cell (World.block_lt_of_cell? w _ hw297_4)).trans hw297_4), ((HB.out.cell (World.block_lt_of_cell? w _ hw297_5)).trans hw297_5), ((HB.out.cell (World.block_lt_of_cell? w _ hw297_6)).trans hw297_6), ((HB.out.cell (World.block_lt_of_cell? w _ hw299_0)).trans hw299_0), ((HB.out.cell (World.block_lt_of_cell? w _ hw299_1)).trans hw299_1), ((HB.out.cell (World.block_lt_of_cell? w _ hw299_2)).trans hw299_2), ((HB.out.cell (World.block_lt_of_cell? w _ hw299_3)).trans hw299_3), ((HB.out.cell (World.block_lt_of_cell? w _ hw299_4)).trans hw299_4), ((HB.out.cell (World.block_lt_of_cell? w _ hw299_5)).trans hw299_5), ((HB.out.cell (World.block_lt_of_cell? w _ hw299_6)).trans hw299_6)⟩ (fun hHeld => ?_); refine with_tabW kissgateref10_Role.tab5 kissgateref10_Role.bits5 (fun HT_ HW_ => ?_)
            generalize w21.drew = w22 at BK295 BK296 HB hx297_0 hx297_1 hx297_2 hx297_3 hx297_4 hx297_5 hx297_6 hx299_0 hx299_1 hx299_2 hx299_3 hx299_4 hx299_5 hx299_6 hHeld ⊢
            refine pure_ (i := 0) (N := some 26) (v := ?_) (a' := ?_) #[true, false, false, false, false, false, false, false, false, false, false, false, false, false, false, false] rfl rfl (any_of HT_.out (by kernel_rfl)) (fun _ _ _ h => h) (Or.inl ⟨by rfl, ?_⟩) ?_ ?_
            rotate_left
            · intro w'
              go_simp
              with_reducible rfl
            rotate_left
            · simp only [Act.put, List.setIfInBounds_toArray, List.set_cons_zero, List.set_cons_succ, i64_w, i32_w]
              rfl
            refine pure_ (i := 1) (N := some 27) (v := ?_) (a' := ?_) #[true, true, false, false, false, false, false, false, false, false, false, false, false, false, false, false] rfl rfl (any_of HT_.out (by kernel_rfl)) (fun _ _ _ h => h) (Or.inl ⟨by rfl, ?_⟩) ?_ ?_
            rotate_left
            · intro w'
              go_simp
              with_reducible rfl
            rotate_left
            · simp only [Act.put, List.setIfInBounds_toArray, List.set_cons_zero, List.set_cons_succ, i64_w, i32_w]
              rfl
            refine pure_ (i := 2) (N := some 28) (v := ?_) (a' := ?_) #[true, true, true, false, false, false, false, false, false, false, false, false, false, false, false, false] rfl rfl (any_of HT_.out (by kernel_rfl)) (fun _ _ _ h => h) (Or.inl ⟨by rfl, ?_⟩) ?_ ?_
            rotate_left
            · intro w'
              go_simp
              with_reducible rfl
            rotate_left
            · simp only [Act.put, List.setIfInBounds_toArray, List.set_cons_zero, List.set_cons_succ, i64_w, i32_w]
              rfl
            refine pure_ (i := 4) (N := some 30) (v := ?_) (a' := ?_) #[true, true, true, false, true, false, false, false, false, false, false, false, false, false, false, false] rfl rfl (any_of HT_.out (by kernel_rfl)) (fun _ _ _ h => h) (Or.inl ⟨by rfl, ?_⟩) ?_ ?_
            rotate_left
            · intro w'
              go_simp
              with_reducible rfl
            rotate_left
            · simp only [Act.put, List.setIfInBounds_toArray, List.set_cons_zero, List.set_cons_succ, i64_w, i32_w]
              rfl
            refine take_ (i := 3) (N := some 29) (v := ?_) (a' := ?_) #[true, true, true, true, true, false, false, false, false, false, false, false, false, false, false, false] rfl rfl (take_ofW HT_.out HW_.out (by kernel_rfl)) (fun _ _ _ h => h) (Or.inl ⟨by rfl, ?_⟩) hHeld ?_ ?_
            rotate_left
            · rintro w' ⟨s0, s1, s2, s3, s4, s5, s6, s7, s8, s9, s10, s11, s12, s13, s14, s15, s16, s17⟩
              go_simp
              with_reducible rfl
            rotate_left
            · simp only [Act.put, List.setIfInBounds_toArray, List.set_cons_zero, List.set_cons_succ, i64_w, i32_w]
              rfl
            refine one_ (i := 5) (N := some 31) #[true, true, true, true, true, true, false, false, false, false, false, false, false, false, false, false] rfl rfl (one_of HT_.out (by kernel_rfl)) (by decide) (fun K hK => ?_)
            refine goes_ Tryd.func62 (by kernel_rfl) rfl #[.agg #[.int .i64 ((rd_T59 l1 a2).f0.f0), .int .i64 ((rd_T59 l1 a2).f0.f1), .int .i64 ((rd_T59 l1 a2).f0.f2), .int .i64 ((rd_T59 l1 a2).f0.f3), .int .i64 ((rd_T59 l1 a2).f1), .int .i64 ((rd_T59 l1 a2).f2), .bool ((rd_T59 l1 a2).f3)], .int .i64 a0] (by rfl) rfl rfl (by (try simp only [List.map_toArray, List.map_cons, List.map_nil]); first | done | rfl | (simp only [List.length_drop, List.length_take]; rfl)) ?_
            with_reducible refine (kissgateref10_Use.calls ((rd_T59 l1 a2).f0.f0) ((rd_T59 l1 a2).f0.f1) ((rd_T59 l1 a2).f0.f2) ((rd_T59 l1 a2).f0.f3) ((rd_T59 l1 a2).f1) ((rd_T59 l1 a2).f2) ((rd_T59 l1 a2).f3) a0 true _ A11.out).mono ?_
            rintro e w23 ⟨rfl, hb⟩
            refine ⟨_, rfl, ?_⟩
            have n0_ := Aside0.mk (blk_below (g := gb295) (o := .cells #[.int .i64 t290, .int .i64 t291, .int .i64 t292, .int .i64 t293] 36 (0, 0)) (by (with_reducible repeat (first | refine blk_drewN ?_ _ | refine blk_drew ?_ | refine blk_alloc ?_ _)); exact BK295.out) hb)
            have n1_ := Aside0.mk (blk_below (g := gb296) (o := .cells #[.int .i64 t290, .int .i64 t291, .int .i64 a0, .int .i64 a2] 36 (0, 0)) (by (with_reducible repeat (first | refine blk_drewN ?_ _ | refine blk_drew ?_ | refine blk_alloc ?_ _)); exact BK296.out) hb)
            have n2_ := Aside0.mk (below_step (by repeat (first | (with_reducible first | exact HB.out | apply below_alloc | apply pw_below_drewN | apply below_drew1 | refine below_set ?_ GE295.out | refine below_set ?_ GE296.out) | exact HB.out)) hb)
            clear BK295
            clear BK296
            clear HB
            have BK295 := n0_
            have BK296 := n1_
            have HB := n2_
            clear n0_ n1_ n2_
            (try clear hb)
            (try clear hb2)
            (try clear hk)
            (try clear hi)
            refine hK.out _ _ ⟨(blk_cell BK296.out 0).trans rfl, (blk_cell BK296.out 1).trans rfl, (blk_cell BK296.out 2).trans rfl, (blk_cell BK296.out 3).trans rfl, ((HB.out.cell (World.block_lt_of_cell? w _ hw297_0)).trans hw297_0), ((HB.out.cell (World.block_lt_of_cell? w _ hw297_1)).trans hw297_1), ((HB.out.cell (World.block_lt_of_cell? w _ hw297_2)).trans hw297_2), ((HB.out.cell (World.block_lt_of_cell? w _ hw297_3)).trans hw297_3), ((HB.out.cell (World.block_lt_of_cell? w _ hw297_4)).trans hw297_4), ((HB.out.cell (World.block_lt_of_cell? w _ hw297_5)).trans hw297_5), ((HB.out.cell (World.block_lt_of_cell? w _ hw297_6)).trans hw297_6), ((HB.out.cell (World.block_lt_of_cell? w _ hw299_0)).trans hw299_0), ((HB.out.cell (World.block_lt_of_cell? w _ hw299_1)).trans hw299_1), ((HB.out.cell (World.block_lt_of_cell? w _ hw299_2)).trans hw299_2), ((HB.out.cell (World.block_lt_of_cell? w _ hw299_3)).trans hw299_3), ((HB.out.cell (World.block_lt_of_cell? w _ hw299_4)).trans hw299_4), ((HB.out.cell (World.block_lt_of_cell? w _ hw299_5)).trans hw299_5), ((HB.out.cell (World.block_lt_of_cell? w _ hw299_6)).trans hw299_6)⟩ (fun hHeld => ?_)
            clear hK K
            refine norm_ (a' := ?_) ?_ ?_
            rotate_left
            · show Act.put _ (some 31) _ = _
              simp only [Act.put, List.setIfInBounds_toArray, List.set_cons_zero, List.set_cons_succ, i64_w, i32_w]
              rfl
            refine pure_ (i := 6) (N := some 32) (v := ?_) (a' := ?_) #[true, true, true, true, true, true, true, false, false, false, false, false, false, false, false, false] rfl rfl (any_of HT_.out (by kernel_rfl)) (fun _ _ _ h => h) (Or.inl ⟨by rfl, ?_⟩) ?_ ?_
            rotate_left
            · intro w'
              go_simp
              with_reducible rfl
            rotate_left
            · simp only [Act.put, List.setIfInBounds_toArray, List.set_cons_zero, List.set_cons_succ, i64_w, i32_w]
              rfl
            refine pure_ (i := 7) (N := some 33) (v := ?_) (a' := ?_) #[true, true, true, true, true, true, true, true, false, false, false, false, false, false, false, false] rfl rfl (any_of HT_.out (by kernel_rfl)) (fun _ _ _ h => h) (Or.inl ⟨by rfl, ?_⟩) ?_ ?_
            rotate_left
            · intro w'
              go_simp
              with_reducible rfl
            rotate_left
            · simp only [Act.put, List.setIfInBounds_toArray, List.set_cons_zero, List.set_cons_succ, i64_w, i32_w]
              rfl
            refine pure_ (i := 9) (N := some 35) (v := ?_) (a' := ?_) #[true, true, true, true, true, true, true, true, false, true, false, false, false, false, false, false] rfl rfl (any_of HT_.out (by kernel_rfl)) (fun _ _ _ h => h) (Or.inl ⟨by rfl, ?_⟩) ?_ ?_
            rotate_left
            · intro w'
              go_simp
              with_reducible rfl
            rotate_left
            · simp only [Act.put, List.setIfInBounds_toArray, List.set_cons_zero, List.set_cons_succ, i64_w, i32_w]
              rfl
            refine pure_ (i := 10) (N := some 36) (v := ?_) (a' := ?_) #[true, true, true, true, true, true, true, true, false, true, true, false, false, false, false, false] rfl rfl (any_of HT_.out (by kernel_rfl)) (fun _ _ _ h => h) (Or.inl ⟨by rfl, ?_⟩) ?_ ?_
            rotate_left
            · intro w'
              go_simp
              with_reducible rfl
            rotate_left
            · simp only [Act.put, List.setIfInBounds_toArray, List.set_cons_zero, List.set_cons_succ, i64_w, i32_w]
              rfl
            refine pure_ (i := 11) (N := some 37) (v := ?_) (a' := ?_) #[true, true, true, true, true, true, true, true, false, true, true, true, false, false, false, false] rfl rfl (any_of HT_.out (by kernel_rfl)) (fun _ _ _ h => h) (Or.inl ⟨by rfl, ?_⟩) ?_ ?_
            rotate_left
            · intro w'
              go_simp
              with_reducible rfl
            rotate_left
            · simp only [Act.put, List.setIfInBounds_toArray, List.set_cons_zero, List.set_cons_succ, i64_w, i32_w]
              rfl
            refine pure_ (i := 12) (N := some 38) (v := ?_) (a' := ?_) #[true, true, true, true, true, true, true, true, false, true, true, true, true, false, false, false] rfl rfl (any_of HT_.out (by kernel_rfl)) (fun _ _ _ h => h) (Or.inl ⟨by rfl, ?_⟩) ?_ ?_
            rotate_left
            · intro w'
              go_simp
              with_reducible rfl
            rotate_left
            · simp only [Act.put, List.setIfInBounds_toArray, List.set_cons_zero, List.set_cons_succ, i64_w, i32_w]
              rfl
            refine take_ (i := 8) (N := some 34) (v := ?_) (a' := ?_) #[true, true, true, true, true, true, true, true, true, true, true, true, true, false, false, false] rfl rfl (take_ofW HT_.out HW_.out (by kernel_rfl)) (fun _ _ _ h => h) (Or.inl ⟨by rfl, ?_⟩) hHeld ?_ ?_
            rotate_left
            · rintro w' ⟨s0, s1, s2, s3, s4, s5, s6, s7, s8, s9, s10, s11, s12, s13, s14, s15, s16, s17⟩
              go_simp
              with_reducible rfl
            rotate_left
            · simp only [Act.put, List.setIfInBounds_toArray, List.set_cons_zero, List.set_cons_succ, i64_w, i32_w]
              rfl
            refine take_ (i := 13) (N := some 39) (v := ?_) (a' := ?_) #[true, true, true, true, true, true, true, true, true, true, true, true, true, true, false, false] rfl rfl (take_ofW HT_.out HW_.out (by kernel_rfl)) (fun _ _ _ h => h) (Or.inl ⟨by rfl, ?_⟩) hHeld ?_ ?_
            rotate_left
            · rintro w' ⟨s0, s1, s2, s3, s4, s5, s6, s7, s8, s9, s10, s11, s12, s13, s14, s15, s16, s17⟩
              go_simp
              with_reducible rfl
            rotate_left
            · simp only [Act.put, List.setIfInBounds_toArray, List.set_cons_zero, List.set_cons_succ, i64_w, i32_w]
              rfl
            refine one_ (i := 14) (N := some 40) #[true, true, true, true, true, true, true, true, true, true, true, true, true, true, true, false] rfl rfl (one_of HT_.out (by kernel_rfl)) (by decide) (fun K hK => ?_)
            refine goes_ Tryd.func57 (by kernel_rfl) rfl #[.agg #[.int .i64 t290, .int .i64 t291, .int .i64 a0, .int .i64 a2], .agg #[.int .i64 ((rd_T59 l1 a2).f0.f0), .int .i64 ((rd_T59 l1 a2).f0.f1), .int .i64 ((rd_T59 l1 a2).f0.f2), .int .i64 ((rd_T59 l1 a2).f0.f3)]] (by rfl) rfl rfl (by (try simp only [List.map_toArray, List.map_cons, List.map_nil]); first | done | rfl | (simp only [List.length_drop, List.length_take]; rfl)) ?_
            with_reducible refine (kissgateref10_Better.calls t290 t291 a0 a2 ((rd_T59 l1 a2).f0.f0) ((rd_T59 l1 a2).f0.f1) ((rd_T59 l1 a2).f0.f2) ((rd_T59 l1 a2).f0.f3) true _ A13.out).mono ?_
            rintro e w24 ⟨rfl, hb⟩
            refine ⟨_, rfl, ?_⟩
            have n0_ := Aside0.mk (blk_below (g := gb295) (o := .cells #[.int .i64 t290, .int .i64 t291, .int .i64 t292, .int .i64 t293] 36 (0, 0)) (by (with_reducible repeat (first | refine blk_drewN ?_ _ | refine blk_drew ?_ | refine blk_alloc ?_ _)); exact BK295.out) hb)
            have n1_ := Aside0.mk (blk_below (g := gb296) (o := .cells #[.int .i64 t290, .int .i64 t291, .int .i64 a0, .int .i64 a2] 36 (0, 0)) (by (with_reducible repeat (first | refine blk_drewN ?_ _ | refine blk_drew ?_ | refine blk_alloc ?_ _)); exact BK296.out) hb)
            have n2_ := Aside0.mk (below_step (by repeat (first | (with_reducible first | exact HB.out | apply below_alloc | apply pw_below_drewN | apply below_drew1 | refine below_set ?_ GE295.out | refine below_set ?_ GE296.out) | exact HB.out)) hb)
            clear BK295
            clear BK296
            clear HB
            have BK295 := n0_
            have BK296 := n1_
            have HB := n2_
            clear n0_ n1_ n2_
            (try clear hb)
            (try clear hb2)
            (try clear hk)
            (try clear hi)
            refine hK.out _ _ ⟨(blk_cell BK296.out 0).trans rfl, (blk_cell BK296.out 1).trans rfl, (blk_cell BK296.out 2).trans rfl, (blk_cell BK296.out 3).trans rfl, ((HB.out.cell (World.block_lt_of_cell? w _ hw297_0)).trans hw297_0), ((HB.out.cell (World.block_lt_of_cell? w _ hw297_1)).trans hw297_1), ((HB.out.cell (World.block_lt_of_cell? w _ hw297_2)).trans hw297_2), ((HB.out.cell (World.block_lt_of_cell? w _ hw297_3)).trans hw297_3), ((HB.out.cell (World.block_lt_of_cell? w _ hw297_4)).trans hw297_4), ((HB.out.cell (World.block_lt_of_cell? w _ hw297_5)).trans hw297_5), ((HB.out.cell (World.block_lt_of_cell? w _ hw297_6)).trans hw297_6), ((HB.out.cell (World.block_lt_of_cell? w _ hw299_0)).trans hw299_0), ((HB.out.cell (World.block_lt_of_cell? w _ hw299_1)).trans hw299_1), ((HB.out.cell (World.block_lt_of_cell? w _ hw299_2)).trans hw299_2), ((HB.out.cell (World.block_lt_of_cell? w _ hw299_3)).trans hw299_3), ((HB.out.cell (World.block_lt_of_cell? w _ hw299_4)).trans hw299_4), ((HB.out.cell (World.block_lt_of_cell? w _ hw299_5)).trans hw299_5), ((HB.out.cell (World.block_lt_of_cell? w _ hw299_6)).trans hw299_6)⟩ (fun hHeld => ?_)
            clear hK K
            refine norm_ (a' := ?_) ?_ ?_
            rotate_left
            · show Act.put _ (some 40) _ = _
              simp only [Act.put, List.setIfInBounds_toArray, List.set_cons_zero, List.set_cons_succ, i64_w, i32_w]
              rfl
            refine pure_ (i := 15) (N := some 41) (v := ?_) (a' := ?_) #[true, true, true, true, true, true, true, true, true, true, true, true, true, true, true, true] rfl rfl (any_of HT_.out (by kernel_rfl)) (fun _ _ _ h => h) (Or.inl ⟨by rfl, ?_⟩) ?_ ?_
            rotate_left
            · intro w'
              go_simp
              with_reducible rfl
            rotate_left
            · simp only [Act.put, List.setIfInBounds_toArray, List.set_cons_zero, List.set_cons_succ, i64_w, i32_w]
              rfl
            refine done_ (done_of HT_.out (by kernel_rfl)) ?_
            try go_wp2
            go_ret
            exact ⟨by first | rfl | (simp [errW_none, errW_some] <;> rfl) | (simp [*, errW_none, errW_some] <;> rfl), by repeat (first | (with_reducible first | exact HB.out | apply below_alloc | apply pw_below_drewN | apply below_drew1 | refine below_set ?_ GE295.out | refine below_set ?_ GE296.out) | exact HB.out)⟩
          · replace c14 := Bool.eq_false_iff.mpr c14
            subst c14
            have H1 : (some 3) = some r := by rw [if_neg (show ¬ (false = true) by decide)] at H; exact H
            clear H
            have H := H1
            clear H1
            obtain rfl := Option.some.inj H
            go_enter Tryd.func53, Tryd.ntmps53
            try go_wp2_with (first | ((with_reducible refine gate_callee (f := 56) rfl ?_); refine goesL_ (some 13) rfl rfl Tryd.func56 (by kernel_rfl) rfl #[.int .i64 a0, .slice A1 l1.length c1] rfl (by (try simp only [List.map_toArray, List.map_cons, List.map_nil]); first | done | rfl | (simp only [List.length_drop, List.length_take]; rfl)) ?_; (with_reducible refine (kissgateref10_Best.calls k a0 _ _ l1 t290 t291 t292 t293 t294 _ ?side1 ?side2 A4.out).mono ?_); (case side1 => repeat (first | exact HR1.out | (with_reducible refine Kd.C_alloc ?_ _) | (with_reducible refine Kd.C_drewN ?_ _) | (with_reducible refine Kd.C_drew ?_))); (case side2 => exact HC1.out); rintro e w25 ⟨rfl, hb⟩; refine ⟨_, rfl, ?_⟩; have n0_ := Aside0.mk (below_step (by repeat (first | (with_reducible first | exact HB.out | apply below_alloc | apply pw_below_drewN | apply below_drew1) | exact HB.out)) hb); clear HB; have HB := n0_; clear n0_; (try clear hb); (try clear hb2); (try clear hk); (try clear hi)) | ((with_reducible refine gate_dst (N := 7) rfl ?_); refine box_event ?hg (N := 7) ?hd (cs := #[.int .i64 0, .int .i64 0, .int .i64 0, .int .i64 0]) (t := 36) ?hr ?_; (case hd => rfl); (case hg => rfl); (case hr => first | (go_simp; done) | (go_simp; rfl)); intro gb295 hg w26 hbox hb; have n0_ := Aside0.mk (below_step (by repeat (first | (with_reducible first | exact HB.out | apply below_alloc | apply pw_below_drewN | apply below_drew1) | exact HB.out)) hb); have n1_ := Aside0.mk (hbox); have n2_ := Aside0.mk ((by rw [hg]; exact (below_size (by repeat (first | (with_reducible first | exact HB.out | apply below_alloc | apply pw_below_drewN | apply below_drew1) | exact HB.out))) : w.heap.size ≤ gb295)); have n3_ := Aside0.mk ((by rw [hg]; exact (below_size (by repeat (first | (with_reducible first | exact HB.out | apply below_alloc | apply pw_below_drewN | apply below_drew1) | exact HB.out))) : w.heap.size ≤ gb295)); clear HB; have HB := n0_; have BK295 := n1_; have GW295 := n2_; have GE295 := n3_; clear n0_ n1_ n2_ n3_; clear hb hbox hg; have hcz27_0 : w26.cell? ⟨gb295, 0, none⟩ = some (.int .i64 0) := (blk_cell BK295.out 0).trans rfl; have hcz27_1 : w26.cell? ⟨gb295, 1, none⟩ = some (.int .i64 0) := (blk_cell BK295.out 1).trans rfl; have hcz27_2 : w26.cell? ⟨gb295, 2, none⟩ = some (.int .i64 0) := (blk_cell BK295.out 2).trans rfl; have hcz27_3 : w26.cell? ⟨gb295, 3, none⟩ = some (.int .i64 0) := (blk_cell BK295.out 3).trans rfl; have hfz27_0 := blk_frozen BK295.out 0; have hfz27_1 := blk_frozen BK295.out 1; have hfz27_2 := blk_frozen BK295.out 2; have hfz27_3 := blk_frozen BK295.out 3) | ((with_reducible refine gate_dst (N := 9) rfl ?_); refine box_event ?hg (N := 9) ?hd (cs := #[.int .i64 0, .int .i64 0, .int .i64 0, .int .i64 0]) (t := 36) ?hr ?_; (case hd => rfl); (case hg => rfl); (case hr => first | (go_simp; done) | (go_simp; rfl)); intro gb296 hg w28 hbox hb; have n0_ := Aside0.mk (blk_below (g := gb295) (o := .cells #[.int .i64 t290, .int .i64 t291, .int .i64 t292, .int .i64 t293] 36 (0, 0)) (by (with_reducible repeat (first | refine blk_drewN ?_ _ | refine blk_drew ?_ | refine blk_alloc ?_ _)); refine blk_put (cs := #[.int .i64 t290, .int .i64 t291, .int .i64 t292, .int .i64 0]) ?_ 3 _ rfl; (with_reducible repeat (first | refine blk_drewN ?_ _ | refine blk_drew ?_ | refine blk_alloc ?_ _)); refine blk_put (cs := #[.int .i64 t290, .int .i64 t291, .int .i64 0, .int .i64 0]) ?_ 2 _ rfl; (with_reducible repeat (first | refine blk_drewN ?_ _ | refine blk_drew ?_ | refine blk_alloc ?_ _)); refine blk_put (cs := #[.int .i64 t290, .int .i64 0, .int .i64 0, .int .i64 0]) ?_ 1 _ rfl; (with_reducible repeat (first | refine blk_drewN ?_ _ | refine blk_drew ?_ | refine blk_alloc ?_ _)); refine blk_put (cs := #[.int .i64 0, .int .i64 0, .int .i64 0, .int .i64 0]) ?_ 0 _ rfl; (with_reducible repeat (first | refine blk_drewN ?_ _ | refine blk_drew ?_ | refine blk_alloc ?_ _)); exact BK295.out) hb); have n1_ := Aside0.mk (below_step (by repeat (first | (with_reducible first | exact HB.out | apply below_alloc | apply pw_below_drewN | apply below_drew1 | refine below_set ?_ GE295.out) | exact HB.out)) hb); have n2_ := Aside0.mk (hbox); have n3_ := Aside0.mk ((by rw [hg]; exact (below_size (by repeat (first | (with_reducible first | exact HB.out | apply below_alloc | apply pw_below_drewN | apply below_drew1 | refine below_set ?_ GE295.out) | exact HB.out))) : w.heap.size ≤ gb296)); have n4_ := Aside0.mk ((by rw [hg]; exact (below_size (by repeat (first | (with_reducible first | exact HB.out | apply below_alloc | apply pw_below_drewN | apply below_drew1 | refine below_set ?_ GE295.out) | exact HB.out))) : w.heap.size ≤ gb296)); have n5_ := Aside0.mk ((by rw [hg]; exact Nat.ne_of_lt (blk_lt (g := gb295) (o := .cells #[.int .i64 t290, .int .i64 t291, .int .i64 t292, .int .i64 t293] 36 (0, 0)) (by (with_reducible repeat (first | refine blk_drewN ?_ _ | refine blk_drew ?_ | refine blk_alloc ?_ _)); refine blk_put (cs := #[.int .i64 t290, .int .i64 t291, .int .i64 t292, .int .i64 0]) ?_ 3 _ rfl; (with_reducible repeat (first | refine blk_drewN ?_ _ | refine blk_drew ?_ | refine blk_alloc ?_ _)); refine blk_put (cs := #[.int .i64 t290, .int .i64 t291, .int .i64 0, .int .i64 0]) ?_ 2 _ rfl; (with_reducible repeat (first | refine blk_drewN ?_ _ | refine blk_drew ?_ | refine blk_alloc ?_ _)); refine blk_put (cs := #[.int .i64 t290, .int .i64 0, .int .i64 0, .int .i64 0]) ?_ 1 _ rfl; (with_reducible repeat (first | refine blk_drewN ?_ _ | refine blk_drew ?_ | refine blk_alloc ?_ _)); refine blk_put (cs := #[.int .i64 0, .int .i64 0, .int .i64 0, .int .i64 0]) ?_ 0 _ rfl; (with_reducible repeat (first | refine blk_drewN ?_ _ | refine blk_drew ?_ | refine blk_alloc ?_ _)); exact BK295.out)) : gb295 ≠ gb296)); have n6_ := Aside0.mk ((by rw [hg]; exact Nat.ne_of_gt (blk_lt (g := gb295) (o := .cells #[.int .i64 t290, .int .i64 t291, .int .i64 t292, .int .i64 t293] 36 (0, 0)) (by (with_reducible repeat (first | refine blk_drewN ?_ _ | refine blk_drew ?_ | refine blk_alloc ?_ _)); refine blk_put (cs := #[.int .i64 t290, .int .i64 t291, .int .i64 t292, .int .i64 0]) ?_ 3 _ rfl; (with_reducible repeat (first | refine blk_drewN ?_ _ | refine blk_drew ?_ | refine blk_alloc ?_ _)); refine blk_put (cs := #[.int .i64 t290, .int .i64 t291, .int .i64 0, .int .i64 0]) ?_ 2 _ rfl; (with_reducible repeat (first | refine blk_drewN ?_ _ | refine blk_drew ?_ | refine blk_alloc ?_ _)); refine blk_put (cs := #[.int .i64 t290, .int .i64 0, .int .i64 0, .int .i64 0]) ?_ 1 _ rfl; (with_reducible repeat (first | refine blk_drewN ?_ _ | refine blk_drew ?_ | refine blk_alloc ?_ _)); refine blk_put (cs := #[.int .i64 0, .int .i64 0, .int .i64 0, .int .i64 0]) ?_ 0 _ rfl; (with_reducible repeat (first | refine blk_drewN ?_ _ | refine blk_drew ?_ | refine blk_alloc ?_ _)); exact BK295.out)) : gb296 ≠ gb295)); clear BK295; clear HB; have BK295 := n0_; have HB := n1_; have BK296 := n2_; have GW296 := n3_; have GE296 := n4_; have NB295_296 := n5_; have NB296_295 := n6_; clear n0_ n1_ n2_ n3_ n4_ n5_ n6_; clear hb hbox hg; have hnb29 := NB296_295.out; have hnc29 := NB295_296.out; have hcz30_0 : w28.cell? ⟨gb296, 0, none⟩ = some (.int .i64 0) := (blk_cell BK296.out 0).trans rfl; have hcz30_1 : w28.cell? ⟨gb296, 1, none⟩ = some (.int .i64 0) := (blk_cell BK296.out 1).trans rfl; have hcz30_2 : w28.cell? ⟨gb296, 2, none⟩ = some (.int .i64 0) := (blk_cell BK296.out 2).trans rfl; have hcz30_3 : w28.cell? ⟨gb296, 3, none⟩ = some (.int .i64 0) := (blk_cell BK296.out 3).trans rfl; have hfz30_0 := blk_frozen BK296.out 0; have hfz30_1 := blk_frozen BK296.out 1; have hfz30_2 := blk_frozen BK296.out 2; have hfz30_3 := blk_frozen BK296.out 3))
            have n0_ : Aside0 (((((w28.setCell ⟨gb296, 0, none⟩ (.int .i64 t290)).setCell ⟨gb296, 1, none⟩ (.int .i64 t291)).setCell ⟨gb296, 2, none⟩ (.int .i64 a0)).setCell ⟨gb296, 3, none⟩ (.int .i64 a2)).heap[gb295]? = some (.cells #[.int .i64 t290, .int .i64 t291, .int .i64 t292, .int .i64 t293] 36 (0, 0))) := ⟨by (with_reducible repeat (first | refine blk_drewN ?_ _ | refine blk_drew ?_ | refine blk_alloc ?_ _)); refine blk_far ?_ NB295_296.out _; (with_reducible repeat (first | refine blk_drewN ?_ _ | refine blk_drew ?_ | refine blk_alloc ?_ _)); refine blk_far ?_ NB295_296.out _; (with_reducible repeat (first | refine blk_drewN ?_ _ | refine blk_drew ?_ | refine blk_alloc ?_ _)); refine blk_far ?_ NB295_296.out _; (with_reducible repeat (first | refine blk_drewN ?_ _ | refine blk_drew ?_ | refine blk_alloc ?_ _)); refine blk_far ?_ NB295_296.out _; (with_reducible repeat (first | refine blk_drewN ?_ _ | refine blk_drew ?_ | refine blk_alloc ?_ _)); exact BK295.out⟩
            have n1_ : Aside0 (((((w28.setCell ⟨gb296, 0, none⟩ (.int .i64 t290)).setCell ⟨gb296, 1, none⟩ (.int .i64 t291)).setCell ⟨gb296, 2, none⟩ (.int .i64 a0)).setCell ⟨gb296, 3, none⟩ (.int .i64 a2)).heap[gb296]? = some (.cells #[.int .i64 t290, .int .i64 t291, .int .i64 a0, .int .i64 a2] 36 (0, 0))) := ⟨by (with_reducible repeat (first | refine blk_drewN ?_ _ | refine blk_drew ?_ | refine blk_alloc ?_ _)); refine blk_put (cs := #[.int .i64 t290, .int .i64 t291, .int .i64 a0, .int .i64 0]) ?_ 3 _ rfl; (with_reducible repeat (first | refine blk_drewN ?_ _ | refine blk_drew ?_ | refine blk_alloc ?_ _)); refine blk_put (cs := #[.int .i64 t290, .int .i64 t291, .int .i64 0, .int .i64 0]) ?_ 2 _ rfl; (with_reducible repeat (first | refine blk_drewN ?_ _ | refine blk_drew ?_ | refine blk_alloc ?_ _)); refine blk_put (cs := #[.int .i64 t290, .int .i64 0, .int .i64 0, .int .i64 0]) ?_ 1 _ rfl; (with_reducible repeat (first | refine blk_drewN ?_ _ | refine blk_drew ?_ | refine blk_alloc ?_ _)); refine blk_put (cs := #[.int .i64 0, .int .i64 0, .int .i64 0, .int .i64 0]) ?_ 0 _ rfl; (with_reducible repeat (first | refine blk_drewN ?_ _ | refine blk_drew ?_ | refine blk_alloc ?_ _)); exact BK296.out⟩
            have n2_ : Aside0 (Below w.heap.size w ((((w28.setCell ⟨gb296, 0, none⟩ (.int .i64 t290)).setCell ⟨gb296, 1, none⟩ (.int .i64 t291)).setCell ⟨gb296, 2, none⟩ (.int .i64 a0)).setCell ⟨gb296, 3, none⟩ (.int .i64 a2))) := ⟨by repeat (first | (with_reducible first | exact HB.out | apply below_alloc | apply pw_below_drewN | apply below_drew1 | refine below_set ?_ GE295.out | refine below_set ?_ GE296.out) | exact HB.out)⟩
            (try clear BK295)
            (try clear BK296)
            (try clear HB)
            generalize ((((w28.setCell ⟨gb296, 0, none⟩ (.int .i64 t290)).setCell ⟨gb296, 1, none⟩ (.int .i64 t291)).setCell ⟨gb296, 2, none⟩ (.int .i64 a0)).setCell ⟨gb296, 3, none⟩ (.int .i64 a2)) = w31 at n0_ n1_ n2_ ⊢
            have BK295 := n0_
            have BK296 := n1_
            have HB := n2_
            clear n0_ n1_ n2_
            have n0_ := Aside0.mk (blk_drew BK295.out)
            have n1_ := Aside0.mk (blk_drew BK296.out)
            have n2_ := Aside0.mk (below_drew1 HB.out)
            clear BK295
            clear BK296
            clear HB
            have BK295 := n0_
            have BK296 := n1_
            have HB := n2_
            clear n0_ n1_ n2_
            have p297 : 0 ≤ (a2 : Int) := of_decide_eq_true (by first | (with_reducible assumption) | assumption)
            have q297 : a2 < (l1.length : Int) := of_decide_eq_true (by first | (with_reducible assumption) | assumption)
            obtain ⟨ad297, e297, hx297_0, hx297_1, hx297_2, hx297_3, hx297_4, hx297_5, hx297_6⟩ := at_T59 HR1.out a2 p297 q297
            have hw297_6 := hx297_6
            have hw297_5 := hx297_5
            have hw297_4 := hx297_4
            have hw297_3 := hx297_3
            have hw297_2 := hx297_2
            have hw297_1 := hx297_1
            have hw297_0 := hx297_0
            cases e297
            replace hx297_0 := (HB.out.cell (World.block_lt_of_cell? w _ hx297_0)).trans hx297_0
            replace hx297_1 := (HB.out.cell (World.block_lt_of_cell? w _ hx297_1)).trans hx297_1
            replace hx297_2 := (HB.out.cell (World.block_lt_of_cell? w _ hx297_2)).trans hx297_2
            replace hx297_3 := (HB.out.cell (World.block_lt_of_cell? w _ hx297_3)).trans hx297_3
            replace hx297_4 := (HB.out.cell (World.block_lt_of_cell? w _ hx297_4)).trans hx297_4
            replace hx297_5 := (HB.out.cell (World.block_lt_of_cell? w _ hx297_5)).trans hx297_5
            replace hx297_6 := (HB.out.cell (World.block_lt_of_cell? w _ hx297_6)).trans hx297_6
            replace p297 := eq_true p297
            replace q297 := eq_true q297
            have p299 : 0 ≤ (a2 : Int) := of_decide_eq_true (by first | (with_reducible assumption) | assumption)
            have q299 : a2 < (l1.length : Int) := of_decide_eq_true (by first | (with_reducible assumption) | assumption)
            obtain ⟨ad299, e299, hx299_0, hx299_1, hx299_2, hx299_3, hx299_4, hx299_5, hx299_6⟩ := at_T59 HR1.out a2 p299 q299
            have hw299_6 := hx299_6
            have hw299_5 := hx299_5
            have hw299_4 := hx299_4
            have hw299_3 := hx299_3
            have hw299_2 := hx299_2
            have hw299_1 := hx299_1
            have hw299_0 := hx299_0
            obtain rfl : ad297 = ad299 := (by injection e299)
            replace hx299_0 := (HB.out.cell (World.block_lt_of_cell? w _ hx299_0)).trans hx299_0
            replace hx299_1 := (HB.out.cell (World.block_lt_of_cell? w _ hx299_1)).trans hx299_1
            replace hx299_2 := (HB.out.cell (World.block_lt_of_cell? w _ hx299_2)).trans hx299_2
            replace hx299_3 := (HB.out.cell (World.block_lt_of_cell? w _ hx299_3)).trans hx299_3
            replace hx299_4 := (HB.out.cell (World.block_lt_of_cell? w _ hx299_4)).trans hx299_4
            replace hx299_5 := (HB.out.cell (World.block_lt_of_cell? w _ hx299_5)).trans hx299_5
            replace hx299_6 := (HB.out.cell (World.block_lt_of_cell? w _ hx299_6)).trans hx299_6
            replace p299 := eq_true p299
            replace q299 := eq_true q299
            refine start_ (n := 16) (S := fun w' => w'.cell? ⟨gb296, 0, none⟩ = some (.int .i64 t290) ∧ w'.cell? ⟨gb296, 1, none⟩ = some (.int .i64 t291) ∧ w'.cell? ⟨gb296, 2, none⟩ = some (.int .i64 a0) ∧ w'.cell? ⟨gb296, 3, none⟩ = some (.int .i64 a2) ∧ w'.cell? (ad297.add ((a2).toNat * 7)) = some (.int .i64 ((rd_T59 l1 a2).f0.f0)) ∧ w'.cell? ⟨(ad297.add ((a2).toNat * 7)).block, (ad297.add ((a2).toNat * 7)).off + 1, none⟩ = some (.int .i64 ((rd_T59 l1 a2).f0.f1)) ∧ w'.cell? ⟨(ad297.add ((a2).toNat * 7)).block, (ad297.add ((a2).toNat * 7)).off + 2, none⟩ = some (.int .i64 ((rd_T59 l1 a2).f0.f2)) ∧ w'.cell? ⟨(ad297.add ((a2).toNat * 7)).block, (ad297.add ((a2).toNat * 7)).off + 3, none⟩ = some (.int .i64 ((rd_T59 l1 a2).f0.f3)) ∧ w'.cell? ⟨(ad297.add ((a2).toNat * 7)).block, (ad297.add ((a2).toNat * 7)).off + 4, none⟩ = some (.int .i64 ((rd_T59 l1 a2).f1)) ∧ w'.cell? ⟨(ad297.add ((a2).toNat * 7)).block, (ad297.add ((a2).toNat * 7)).off + 5, none⟩ = some (.int .i64 ((rd_T59 l1 a2).f2)) ∧ w'.cell? ⟨(ad297.add ((a2).toNat * 7)).block, (ad297.add ((a2).toNat * 7)).off + 6, none⟩ = some (.bool ((rd_T59 l1 a2).f3)) ∧ w'.cell? (ad297.add ((a2).toNat * 7)) = some (.int .i64 ((rd_T59 l1 a2).f0.f0)) ∧ w'.cell? ⟨(ad297.add ((a2).toNat * 7)).block, (ad297.add ((a2).toNat * 7)).off + 1, none⟩ = some (.int .i64 ((rd_T59 l1 a2).f0.f1)) ∧ w'.cell? ⟨(ad297.add ((a2).toNat * 7)).block, (ad297.add ((a2).toNat * 7)).off + 2, none⟩ = some (.int .i64 ((rd_T59 l1 a2).f0.f2)) ∧ w'.cell? ⟨(ad297.add ((a2).toNat * 7)).block, (ad297.add ((a2).toNat * 7)).off + 3, none⟩ = some (.int .i64 ((rd_T59 l1 a2).f0.f3)) ∧ w'.cell? ⟨(ad297.add ((a2).toNat * 7)).block, (ad297.add ((a2).toNat * 7)).off + 4, none⟩ = some (.int .i64 ((rd_T59 l1 a2).f1)) ∧ w'.cell? ⟨(ad297.add ((a2).toNat * 7)).block, (ad297.add ((a2).toNat * 7)).off + 5, none⟩ = some (.int .i64 ((rd_T59 l1 a2).f2)) ∧ w'.cell? ⟨(ad297.add ((a2).toNat * 7)).block, (ad297.add ((a2).toNat * 7)).off + 6, none⟩ = some (.bool ((rd_T59 l1 a2).f3))) (ds := []) #[false, false, false, false, false, false, false, false, false, false, false, false, false, false, false, false] (by kernel_rfl) rfl rfl ⟨(blk_cell BK296.out 0).trans rfl, (blk_cell BK296.out 1).trans rfl, (blk_cell BK296.out 2).trans rfl, (blk_cell BK296.out 3).trans rfl, ((HB.out.cell (World.block_lt_of_cell? w _ hw297_0)).trans hw297_0), ((HB.out.cell (World.block_lt_of_cell? w _ hw297_1)).trans hw297_1), ((HB.out.cell (World.block_lt_of_cell? w _ hw297_2)).trans hw297_2), ((HB.out.cell (World.block_lt_of_cell? w _ hw297_3)).trans hw297_3), ((HB.out.cell (World.block_lt_of_cell? w _ hw297_4)).trans hw297_4), ((HB.out.cell (World.block_lt_of_cell? w _ hw297_5)).trans hw297_5), ((HB.out.cell (World.block_lt_of_cell? w _ hw297_6)).trans hw297_6), ((HB.out.cell (World.block_lt_of_cell? w _ hw299_0)).trans hw299_0), ((HB.out.cell (World.block_lt_of_cell? w _ hw299_1)).trans hw299_1), ((HB.out.cell (World.block_lt_of_cell? w _ hw299_2)).trans hw299_2), ((HB.out.cell (World.block_lt_of_cell? w _ hw299_3)).trans hw299_3), ((HB.out.cell (World.block_lt_of_cell? w _ hw299_4)).trans hw299_4), ((HB.out.cell (World.block_lt_of_cell? w _ hw299_5)).trans hw299_5), ((HB.out.cell (World.block_lt_of_cell? w _ hw299_6)).trans hw299_6)⟩ (fun hHeld => ?_); refine with_tabW kissgateref10_Role.tab5 kissgateref10_Role.bits5 (fun HT_ HW_ => ?_)
            generalize w31.drew = w32 at BK295 BK296 HB hx297_0 hx297_1 hx297_2 hx297_3 hx297_4 hx297_5 hx297_6 hx299_0 hx299_1 hx299_2 hx299_3 hx299_4 hx299_5 hx299_6 hHeld ⊢
            refine pure_ (i := 0) (N := some 26) (v := ?_) (a' := ?_) #[true, false, false, false, false, false, false, false, false, false, false, false, false, false, false, false] rfl rfl (any_of HT_.out (by kernel_rfl)) (fun _ _ _ h => h) (Or.inl ⟨by rfl, ?_⟩) ?_ ?_
            rotate_left
            · intro w'
              go_simp
              with_reducible rfl
            rotate_left
            · simp only [Act.put, List.setIfInBounds_toArray, List.set_cons_zero, List.set_cons_succ, i64_w, i32_w]
              rfl
            refine pure_ (i := 1) (N := some 27) (v := ?_) (a' := ?_) #[true, true, false, false, false, false, false, false, false, false, false, false, false, false, false, false] rfl rfl (any_of HT_.out (by kernel_rfl)) (fun _ _ _ h => h) (Or.inl ⟨by rfl, ?_⟩) ?_ ?_
            rotate_left
            · intro w'
              go_simp
              with_reducible rfl
            rotate_left
            · simp only [Act.put, List.setIfInBounds_toArray, List.set_cons_zero, List.set_cons_succ, i64_w, i32_w]
              rfl
            refine pure_ (i := 2) (N := some 28) (v := ?_) (a' := ?_) #[true, true, true, false, false, false, false, false, false, false, false, false, false, false, false, false] rfl rfl (any_of HT_.out (by kernel_rfl)) (fun _ _ _ h => h) (Or.inl ⟨by rfl, ?_⟩) ?_ ?_
            rotate_left
            · intro w'
              go_simp
              with_reducible rfl
            rotate_left
            · simp only [Act.put, List.setIfInBounds_toArray, List.set_cons_zero, List.set_cons_succ, i64_w, i32_w]
              rfl
            refine pure_ (i := 4) (N := some 30) (v := ?_) (a' := ?_) #[true, true, true, false, true, false, false, false, false, false, false, false, false, false, false, false] rfl rfl (any_of HT_.out (by kernel_rfl)) (fun _ _ _ h => h) (Or.inl ⟨by rfl, ?_⟩) ?_ ?_
            rotate_left
            · intro w'
              go_simp
              with_reducible rfl
            rotate_left
            · simp only [Act.put, List.setIfInBounds_toArray, List.set_cons_zero, List.set_cons_succ, i64_w, i32_w]
              rfl
            refine take_ (i := 3) (N := some 29) (v := ?_) (a' := ?_) #[true, true, true, true, true, false, false, false, false, false, false, false, false, false, false, false] rfl rfl (take_ofW HT_.out HW_.out (by kernel_rfl)) (fun _ _ _ h => h) (Or.inl ⟨by rfl, ?_⟩) hHeld ?_ ?_
            rotate_left
            · rintro w' ⟨s0, s1, s2, s3, s4, s5, s6, s7, s8, s9, s10, s11, s12, s13, s14, s15, s16, s17⟩
              go_simp
              with_reducible rfl
            rotate_left
            · simp only [Act.put, List.setIfInBounds_toArray, List.set_cons_zero, List.set_cons_succ, i64_w, i32_w]
              rfl
            refine one_ (i := 5) (N := some 31) #[true, true, true, true, true, true, false, false, false, false, false, false, false, false, false, false] rfl rfl (one_of HT_.out (by kernel_rfl)) (by decide) (fun K hK => ?_)
            refine goes_ Tryd.func62 (by kernel_rfl) rfl #[.agg #[.int .i64 ((rd_T59 l1 a2).f0.f0), .int .i64 ((rd_T59 l1 a2).f0.f1), .int .i64 ((rd_T59 l1 a2).f0.f2), .int .i64 ((rd_T59 l1 a2).f0.f3), .int .i64 ((rd_T59 l1 a2).f1), .int .i64 ((rd_T59 l1 a2).f2), .bool ((rd_T59 l1 a2).f3)], .int .i64 a0] (by rfl) rfl rfl (by (try simp only [List.map_toArray, List.map_cons, List.map_nil]); first | done | rfl | (simp only [List.length_drop, List.length_take]; rfl)) ?_
            with_reducible refine (kissgateref10_Use.calls ((rd_T59 l1 a2).f0.f0) ((rd_T59 l1 a2).f0.f1) ((rd_T59 l1 a2).f0.f2) ((rd_T59 l1 a2).f0.f3) ((rd_T59 l1 a2).f1) ((rd_T59 l1 a2).f2) ((rd_T59 l1 a2).f3) a0 true _ A11.out).mono ?_
            rintro e w33 ⟨rfl, hb⟩
            refine ⟨_, rfl, ?_⟩
            have n0_ := Aside0.mk (blk_below (g := gb295) (o := .cells #[.int .i64 t290, .int .i64 t291, .int .i64 t292, .int .i64 t293] 36 (0, 0)) (by (with_reducible repeat (first | refine blk_drewN ?_ _ | refine blk_drew ?_ | refine blk_alloc ?_ _)); exact BK295.out) hb)
            have n1_ := Aside0.mk (blk_below (g := gb296) (o := .cells #[.int .i64 t290, .int .i64 t291, .int .i64 a0, .int .i64 a2] 36 (0, 0)) (by (with_reducible repeat (first | refine blk_drewN ?_ _ | refine blk_drew ?_ | refine blk_alloc ?_ _)); exact BK296.out) hb)
            have n2_ := Aside0.mk (below_step (by repeat (first | (with_reducible first | exact HB.out | apply below_alloc | apply pw_below_drewN | apply below_drew1 | refine below_set ?_ GE295.out | refine below_set ?_ GE296.out) | exact HB.out)) hb)
            clear BK295
            clear BK296
            clear HB
            have BK295 := n0_
            have BK296 := n1_
            have HB := n2_
            clear n0_ n1_ n2_
            (try clear hb)
            (try clear hb2)
            (try clear hk)
            (try clear hi)
            refine hK.out _ _ ⟨(blk_cell BK296.out 0).trans rfl, (blk_cell BK296.out 1).trans rfl, (blk_cell BK296.out 2).trans rfl, (blk_cell BK296.out 3).trans rfl, ((HB.out.cell (World.block_lt_of_cell? w _ hw297_0)).trans hw297_0), ((HB.out.cell (World.block_lt_of_cell? w _ hw297_1)).trans hw297_1), ((HB.out.cell (World.block_lt_of_cell? w _ hw297_2)).trans hw297_2), ((HB.out.cell (World.block_lt_of_cell? w _ hw297_3)).trans hw297_3), ((HB.out.cell (World.block_lt_of_cell? w _ hw297_4)).trans hw297_4), ((HB.out.cell (World.block_lt_of_cell? w _ hw297_5)).trans hw297_5), ((HB.out.cell (World.block_lt_of_cell? w _ hw297_6)).trans hw297_6), ((HB.out.cell (World.block_lt_of_cell? w _ hw299_0)).trans hw299_0), ((HB.out.cell (World.block_lt_of_cell? w _ hw299_1)).trans hw299_1), ((HB.out.cell (World.block_lt_of_cell? w _ hw299_2)).trans hw299_2), ((HB.out.cell (World.block_lt_of_cell? w _ hw299_3)).trans hw299_3), ((HB.out.cell (World.block_lt_of_cell? w _ hw299_4)).trans hw299_4), ((HB.out.cell (World.block_lt_of_cell? w _ hw299_5)).trans hw299_5), ((HB.out.cell (World.block_lt_of_cell? w _ hw299_6)).trans hw299_6)⟩ (fun hHeld => ?_)
            clear hK K
            refine norm_ (a' := ?_) ?_ ?_
            rotate_left
            · show Act.put _ (some 31) _ = _
              simp only [Act.put, List.setIfInBounds_toArray, List.set_cons_zero, List.set_cons_succ, i64_w, i32_w]
              rfl
            refine pure_ (i := 6) (N := some 32) (v := ?_) (a' := ?_) #[true, true, true, true, true, true, true, false, false, false, false, false, false, false, false, false] rfl rfl (any_of HT_.out (by kernel_rfl)) (fun _ _ _ h => h) (Or.inl ⟨by rfl, ?_⟩) ?_ ?_
            rotate_left
            · intro w'
              go_simp
              with_reducible rfl
            rotate_left
            · simp only [Act.put, List.setIfInBounds_toArray, List.set_cons_zero, List.set_cons_succ, i64_w, i32_w]
              rfl
            refine pure_ (i := 7) (N := some 33) (v := ?_) (a' := ?_) #[true, true, true, true, true, true, true, true, false, false, false, false, false, false, false, false] rfl rfl (any_of HT_.out (by kernel_rfl)) (fun _ _ _ h => h) (Or.inl ⟨by rfl, ?_⟩) ?_ ?_
            rotate_left
            · intro w'
              go_simp
              with_reducible rfl
            rotate_left
            · simp only [Act.put, List.setIfInBounds_toArray, List.set_cons_zero, List.set_cons_succ, i64_w, i32_w]
              rfl
            refine pure_ (i := 9) (N := some 35) (v := ?_) (a' := ?_) #[true, true, true, true, true, true, true, true, false, true, false, false, false, false, false, false] rfl rfl (any_of HT_.out (by kernel_rfl)) (fun _ _ _ h => h) (Or.inl ⟨by rfl, ?_⟩) ?_ ?_
            rotate_left
            · intro w'
              go_simp
              with_reducible rfl
            rotate_left
            · simp only [Act.put, List.setIfInBounds_toArray, List.set_cons_zero, List.set_cons_succ, i64_w, i32_w]
              rfl
            refine pure_ (i := 10) (N := some 36) (v := ?_) (a' := ?_) #[true, true, true, true, true, true, true, true, false, true, true, false, false, false, false, false] rfl rfl (any_of HT_.out (by kernel_rfl)) (fun _ _ _ h => h) (Or.inl ⟨by rfl, ?_⟩) ?_ ?_
            rotate_left
            · intro w'
              go_simp
              with_reducible rfl
            rotate_left
            · simp only [Act.put, List.setIfInBounds_toArray, List.set_cons_zero, List.set_cons_succ, i64_w, i32_w]
              rfl
            refine pure_ (i := 11) (N := some 37) (v := ?_) (a' := ?_) #[true, true, true, true, true, true, true, true, false, true, true, true, false, false, false, false] rfl rfl (any_of HT_.out (by kernel_rfl)) (fun _ _ _ h => h) (Or.inl ⟨by rfl, ?_⟩) ?_ ?_
            rotate_left
            · intro w'
              go_simp
              with_reducible rfl
            rotate_left
            · simp only [Act.put, List.setIfInBounds_toArray, List.set_cons_zero, List.set_cons_succ, i64_w, i32_w]
              rfl
            refine pure_ (i := 12) (N := some 38) (v := ?_) (a' := ?_) #[true, true, true, true, true, true, true, true, false, true, true, true, true, false, false, false] rfl rfl (any_of HT_.out (by kernel_rfl)) (fun _ _ _ h => h) (Or.inl ⟨by rfl, ?_⟩) ?_ ?_
            rotate_left
            · intro w'
              go_simp
              with_reducible rfl
            rotate_left
            · simp only [Act.put, List.setIfInBounds_toArray, List.set_cons_zero, List.set_cons_succ, i64_w, i32_w]
              rfl
            refine take_ (i := 8) (N := some 34) (v := ?_) (a' := ?_) #[true, true, true, true, true, true, true, true, true, true, true, true, true, false, false, false] rfl rfl (take_ofW HT_.out HW_.out (by kernel_rfl)) (fun _ _ _ h => h) (Or.inl ⟨by rfl, ?_⟩) hHeld ?_ ?_
            rotate_left
            · rintro w' ⟨s0, s1, s2, s3, s4, s5, s6, s7, s8, s9, s10, s11, s12, s13, s14, s15, s16, s17⟩
              go_simp
              with_reducible rfl
            rotate_left
            · simp only [Act.put, List.setIfInBounds_toArray, List.set_cons_zero, List.set_cons_succ, i64_w, i32_w]
              rfl
            refine take_ (i := 13) (N := some 39) (v := ?_) (a' := ?_) #[true, true, true, true, true, true, true, true, true, true, true, true, true, true, false, false] rfl rfl (take_ofW HT_.out HW_.out (by kernel_rfl)) (fun _ _ _ h => h) (Or.inl ⟨by rfl, ?_⟩) hHeld ?_ ?_
            rotate_left
            · rintro w' ⟨s0, s1, s2, s3, s4, s5, s6, s7, s8, s9, s10, s11, s12, s13, s14, s15, s16, s17⟩
              go_simp
              with_reducible rfl
            rotate_left
            · simp only [Act.put, List.setIfInBounds_toArray, List.set_cons_zero, List.set_cons_succ, i64_w, i32_w]
              rfl
            refine one_ (i := 14) (N := some 40) #[true, true, true, true, true, true, true, true, true, true, true, true, true, true, true, false] rfl rfl (one_of HT_.out (by kernel_rfl)) (by decide) (fun K hK => ?_)
            refine goes_ Tryd.func57 (by kernel_rfl) rfl #[.agg #[.int .i64 t290, .int .i64 t291, .int .i64 a0, .int .i64 a2], .agg #[.int .i64 ((rd_T59 l1 a2).f0.f0), .int .i64 ((rd_T59 l1 a2).f0.f1), .int .i64 ((rd_T59 l1 a2).f0.f2), .int .i64 ((rd_T59 l1 a2).f0.f3)]] (by rfl) rfl rfl (by (try simp only [List.map_toArray, List.map_cons, List.map_nil]); first | done | rfl | (simp only [List.length_drop, List.length_take]; rfl)) ?_
            with_reducible refine (kissgateref10_Better.calls t290 t291 a0 a2 ((rd_T59 l1 a2).f0.f0) ((rd_T59 l1 a2).f0.f1) ((rd_T59 l1 a2).f0.f2) ((rd_T59 l1 a2).f0.f3) false _ A13.out).mono ?_
            rintro e w34 ⟨rfl, hb⟩
            refine ⟨_, rfl, ?_⟩
            have n0_ := Aside0.mk (blk_below (g := gb295) (o := .cells #[.int .i64 t290, .int .i64 t291, .int .i64 t292, .int .i64 t293] 36 (0, 0)) (by (with_reducible repeat (first | refine blk_drewN ?_ _ | refine blk_drew ?_ | refine blk_alloc ?_ _)); exact BK295.out) hb)
            have n1_ := Aside0.mk (blk_below (g := gb296) (o := .cells #[.int .i64 t290, .int .i64 t291, .int .i64 a0, .int .i64 a2] 36 (0, 0)) (by (with_reducible repeat (first | refine blk_drewN ?_ _ | refine blk_drew ?_ | refine blk_alloc ?_ _)); exact BK296.out) hb)
            have n2_ := Aside0.mk (below_step (by repeat (first | (with_reducible first | exact HB.out | apply below_alloc | apply pw_below_drewN | apply below_drew1 | refine below_set ?_ GE295.out | refine below_set ?_ GE296.out) | exact HB.out)) hb)
            clear BK295
            clear BK296
            clear HB
            have BK295 := n0_
            have BK296 := n1_
            have HB := n2_
            clear n0_ n1_ n2_
            (try clear hb)
            (try clear hb2)
            (try clear hk)
            (try clear hi)
            refine hK.out _ _ ⟨(blk_cell BK296.out 0).trans rfl, (blk_cell BK296.out 1).trans rfl, (blk_cell BK296.out 2).trans rfl, (blk_cell BK296.out 3).trans rfl, ((HB.out.cell (World.block_lt_of_cell? w _ hw297_0)).trans hw297_0), ((HB.out.cell (World.block_lt_of_cell? w _ hw297_1)).trans hw297_1), ((HB.out.cell (World.block_lt_of_cell? w _ hw297_2)).trans hw297_2), ((HB.out.cell (World.block_lt_of_cell? w _ hw297_3)).trans hw297_3), ((HB.out.cell (World.block_lt_of_cell? w _ hw297_4)).trans hw297_4), ((HB.out.cell (World.block_lt_of_cell? w _ hw297_5)).trans hw297_5), ((HB.out.cell (World.block_lt_of_cell? w _ hw297_6)).trans hw297_6), ((HB.out.cell (World.block_lt_of_cell? w _ hw299_0)).trans hw299_0), ((HB.out.cell (World.block_lt_of_cell? w _ hw299_1)).trans hw299_1), ((HB.out.cell (World.block_lt_of_cell? w _ hw299_2)).trans hw299_2), ((HB.out.cell (World.block_lt_of_cell? w _ hw299_3)).trans hw299_3), ((HB.out.cell (World.block_lt_of_cell? w _ hw299_4)).trans hw299_4), ((HB.out.cell (World.block_lt_of_cell? w _ hw299_5)).trans hw299_5), ((HB.out.cell (World.block_lt_of_cell? w _ hw299_6)).trans hw299_6)⟩ (fun hHeld => ?_)
            clear hK K
            refine norm_ (a' := ?_) ?_ ?_
            rotate_left
            · show Act.put _ (some 40) _ = _
              simp only [Act.put, List.setIfInBounds_toArray, List.set_cons_zero, List.set_cons_succ, i64_w, i32_w]
              rfl
            refine pure_ (i := 15) (N := some 41) (v := ?_) (a' := ?_) #[true, true, true, true, true, true, true, true, true, true, true, true, true, true, true, true] rfl rfl (any_of HT_.out (by kernel_rfl)) (fun _ _ _ h => h) (Or.inl ⟨by rfl, ?_⟩) ?_ ?_
            rotate_left
            · intro w'
              go_simp
              with_reducible rfl
            rotate_left
            · simp only [Act.put, List.setIfInBounds_toArray, List.set_cons_zero, List.set_cons_succ, i64_w, i32_w]
              rfl
            refine done_ (done_of HT_.out (by kernel_rfl)) ?_
            try go_wp2
            go_ret
            exact ⟨by first | rfl | (simp [errW_none, errW_some] <;> rfl) | (simp [*, errW_none, errW_some] <;> rfl), by repeat (first | (with_reducible first | exact HB.out | apply below_alloc | apply pw_below_drewN | apply below_drew1 | refine below_set ?_ GE295.out | refine below_set ?_ GE296.out) | exact HB.out)⟩
        · replace c12 := Bool.eq_false_iff.mpr c12
          subst c12
          have H1 : (some 2) = some r := by rw [if_neg (show ¬ (false = true) by decide)] at H; exact H
          clear H
          have H := H1
          clear H1
          obtain rfl := Option.some.inj H
          go_enter Tryd.func53, Tryd.ntmps53
          try go_wp2_with (first | ((with_reducible refine gate_callee (f := 56) rfl ?_); refine goesL_ (some 13) rfl rfl Tryd.func56 (by kernel_rfl) rfl #[.int .i64 a0, .slice A1 l1.length c1] rfl (by (try simp only [List.map_toArray, List.map_cons, List.map_nil]); first | done | rfl | (simp only [List.length_drop, List.length_take]; rfl)) ?_; (with_reducible refine (kissgateref10_Best.calls k a0 _ _ l1 t290 t291 t292 t293 t294 _ ?side1 ?side2 A4.out).mono ?_); (case side1 => repeat (first | exact HR1.out | (with_reducible refine Kd.C_alloc ?_ _) | (with_reducible refine Kd.C_drewN ?_ _) | (with_reducible refine Kd.C_drew ?_))); (case side2 => exact HC1.out); rintro e w35 ⟨rfl, hb⟩; refine ⟨_, rfl, ?_⟩; have n0_ := Aside0.mk (below_step (by repeat (first | (with_reducible first | exact HB.out | apply below_alloc | apply pw_below_drewN | apply below_drew1) | exact HB.out)) hb); clear HB; have HB := n0_; clear n0_; (try clear hb); (try clear hb2); (try clear hk); (try clear hi)) | ((with_reducible refine gate_dst (N := 7) rfl ?_); refine box_event ?hg (N := 7) ?hd (cs := #[.int .i64 0, .int .i64 0, .int .i64 0, .int .i64 0]) (t := 36) ?hr ?_; (case hd => rfl); (case hg => rfl); (case hr => first | (go_simp; done) | (go_simp; rfl)); intro gb295 hg w36 hbox hb; have n0_ := Aside0.mk (below_step (by repeat (first | (with_reducible first | exact HB.out | apply below_alloc | apply pw_below_drewN | apply below_drew1) | exact HB.out)) hb); have n1_ := Aside0.mk (hbox); have n2_ := Aside0.mk ((by rw [hg]; exact (below_size (by repeat (first | (with_reducible first | exact HB.out | apply below_alloc | apply pw_below_drewN | apply below_drew1) | exact HB.out))) : w.heap.size ≤ gb295)); have n3_ := Aside0.mk ((by rw [hg]; exact (below_size (by repeat (first | (with_reducible first | exact HB.out | apply below_alloc | apply pw_below_drewN | apply below_drew1) | exact HB.out))) : w.heap.size ≤ gb295)); clear HB; have HB := n0_; have BK295 := n1_; have GW295 := n2_; have GE295 := n3_; clear n0_ n1_ n2_ n3_; clear hb hbox hg; have hcz37_0 : w36.cell? ⟨gb295, 0, none⟩ = some (.int .i64 0) := (blk_cell BK295.out 0).trans rfl; have hcz37_1 : w36.cell? ⟨gb295, 1, none⟩ = some (.int .i64 0) := (blk_cell BK295.out 1).trans rfl; have hcz37_2 : w36.cell? ⟨gb295, 2, none⟩ = some (.int .i64 0) := (blk_cell BK295.out 2).trans rfl; have hcz37_3 : w36.cell? ⟨gb295, 3, none⟩ = some (.int .i64 0) := (blk_cell BK295.out 3).trans rfl; have hfz37_0 := blk_frozen BK295.out 0; have hfz37_1 := blk_frozen BK295.out 1; have hfz37_2 := blk_frozen BK295.out 2; have hfz37_3 := blk_frozen BK295.out 3) | ((with_reducible refine gate_dst (N := 9) rfl ?_); refine box_event ?hg (N := 9) ?hd (cs := #[.int .i64 0, .int .i64 0, .int .i64 0, .int .i64 0]) (t := 36) ?hr ?_; (case hd => rfl); (case hg => rfl); (case hr => first | (go_simp; done) | (go_simp; rfl)); intro gb296 hg w38 hbox hb; have n0_ := Aside0.mk (blk_below (g := gb295) (o := .cells #[.int .i64 t290, .int .i64 t291, .int .i64 t292, .int .i64 t293] 36 (0, 0)) (by (with_reducible repeat (first | refine blk_drewN ?_ _ | refine blk_drew ?_ | refine blk_alloc ?_ _)); refine blk_put (cs := #[.int .i64 t290, .int .i64 t291, .int .i64 t292, .int .i64 0]) ?_ 3 _ rfl; (with_reducible repeat (first | refine blk_drewN ?_ _ | refine blk_drew ?_ | refine blk_alloc ?_ _)); refine blk_put (cs := #[.int .i64 t290, .int .i64 t291, .int .i64 0, .int .i64 0]) ?_ 2 _ rfl; (with_reducible repeat (first | refine blk_drewN ?_ _ | refine blk_drew ?_ | refine blk_alloc ?_ _)); refine blk_put (cs := #[.int .i64 t290, .int .i64 0, .int .i64 0, .int .i64 0]) ?_ 1 _ rfl; (with_reducible repeat (first | refine blk_drewN ?_ _ | refine blk_drew ?_ | refine blk_alloc ?_ _)); refine blk_put (cs := #[.int .i64 0, .int .i64 0, .int .i64 0, .int .i64 0]) ?_ 0 _ rfl; (with_reducible repeat (first | refine blk_drewN ?_ _ | refine blk_drew ?_ | refine blk_alloc ?_ _)); exact BK295.out) hb); have n1_ := Aside0.mk (below_step (by repeat (first | (with_reducible first | exact HB.out | apply below_alloc | apply pw_below_drewN | apply below_drew1 | refine below_set ?_ GE295.out) | exact HB.out)) hb); have n2_ := Aside0.mk (hbox); have n3_ := Aside0.mk ((by rw [hg]; exact (below_size (by repeat (first | (with_reducible first | exact HB.out | apply below_alloc | apply pw_below_drewN | apply below_drew1 | refine below_set ?_ GE295.out) | exact HB.out))) : w.heap.size ≤ gb296)); have n4_ := Aside0.mk ((by rw [hg]; exact (below_size (by repeat (first | (with_reducible first | exact HB.out | apply below_alloc | apply pw_below_drewN | apply below_drew1 | refine below_set ?_ GE295.out) | exact HB.out))) : w.heap.size ≤ gb296)); have n5_ := Aside0.mk ((by rw [hg]; exact Nat.ne_of_lt (blk_lt (g := gb295) (o := .cells #[.int .i64 t290, .int .i64 t291, .int .i64 t292, .int .i64 t293] 36 (0, 0)) (by (with_reducible repeat (first | refine blk_drewN ?_ _ | refine blk_drew ?_ | refine blk_alloc ?_ _)); refine blk_put (cs := #[.int .i64 t290, .int .i64 t291, .int .i64 t292, .int .i64 0]) ?_ 3 _ rfl; (with_reducible repeat (first | refine blk_drewN ?_ _ | refine blk_drew ?_ | refine blk_alloc ?_ _)); refine blk_put (cs := #[.int .i64 t290, .int .i64 t291, .int .i64 0, .int .i64 0]) ?_ 2 _ rfl; (with_reducible repeat (first | refine blk_drewN ?_ _ | refine blk_drew ?_ | refine blk_alloc ?_ _)); refine blk_put (cs := #[.int .i64 t290, .int .i64 0, .int .i64 0, .int .i64 0]) ?_ 1 _ rfl; (with_reducible repeat (first | refine blk_drewN ?_ _ | refine blk_drew ?_ | refine blk_alloc ?_ _)); refine blk_put (cs := #[.int .i64 0, .int .i64 0, .int .i64 0, .int .i64 0]) ?_ 0 _ rfl; (with_reducible repeat (first | refine blk_drewN ?_ _ | refine blk_drew ?_ | refine blk_alloc ?_ _)); exact BK295.out)) : gb295 ≠ gb296)); have n6_ := Aside0.mk ((by rw [hg]; exact Nat.ne_of_gt (blk_lt (g := gb295) (o := .cells #[.int .i64 t290, .int .i64 t291, .int .i64 t292, .int .i64 t293] 36 (0, 0)) (by (with_reducible repeat (first | refine blk_drewN ?_ _ | refine blk_drew ?_ | refine blk_alloc ?_ _)); refine blk_put (cs := #[.int .i64 t290, .int .i64 t291, .int .i64 t292, .int .i64 0]) ?_ 3 _ rfl; (with_reducible repeat (first | refine blk_drewN ?_ _ | refine blk_drew ?_ | refine blk_alloc ?_ _)); refine blk_put (cs := #[.int .i64 t290, .int .i64 t291, .int .i64 0, .int .i64 0]) ?_ 2 _ rfl; (with_reducible repeat (first | refine blk_drewN ?_ _ | refine blk_drew ?_ | refine blk_alloc ?_ _)); refine blk_put (cs := #[.int .i64 t290, .int .i64 0, .int .i64 0, .int .i64 0]) ?_ 1 _ rfl; (with_reducible repeat (first | refine blk_drewN ?_ _ | refine blk_drew ?_ | refine blk_alloc ?_ _)); refine blk_put (cs := #[.int .i64 0, .int .i64 0, .int .i64 0, .int .i64 0]) ?_ 0 _ rfl; (with_reducible repeat (first | refine blk_drewN ?_ _ | refine blk_drew ?_ | refine blk_alloc ?_ _)); exact BK295.out)) : gb296 ≠ gb295)); clear BK295; clear HB; have BK295 := n0_; have HB := n1_; have BK296 := n2_; have GW296 := n3_; have GE296 := n4_; have NB295_296 := n5_; have NB296_295 := n6_; clear n0_ n1_ n2_ n3_ n4_ n5_ n6_; clear hb hbox hg; have hnb39 := NB296_295.out; have hnc39 := NB295_296.out; have hcz40_0 : w38.cell? ⟨gb296, 0, none⟩ = some (.int .i64 0) := (blk_cell BK296.out 0).trans rfl; have hcz40_1 : w38.cell? ⟨gb296, 1, none⟩ = some (.int .i64 0) := (blk_cell BK296.out 1).trans rfl; have hcz40_2 : w38.cell? ⟨gb296, 2, none⟩ = some (.int .i64 0) := (blk_cell BK296.out 2).trans rfl; have hcz40_3 : w38.cell? ⟨gb296, 3, none⟩ = some (.int .i64 0) := (blk_cell BK296.out 3).trans rfl; have hfz40_0 := blk_frozen BK296.out 0; have hfz40_1 := blk_frozen BK296.out 1; have hfz40_2 := blk_frozen BK296.out 2; have hfz40_3 := blk_frozen BK296.out 3))
          have n0_ : Aside0 (((((w38.setCell ⟨gb296, 0, none⟩ (.int .i64 t290)).setCell ⟨gb296, 1, none⟩ (.int .i64 t291)).setCell ⟨gb296, 2, none⟩ (.int .i64 a0)).setCell ⟨gb296, 3, none⟩ (.int .i64 a2)).heap[gb295]? = some (.cells #[.int .i64 t290, .int .i64 t291, .int .i64 t292, .int .i64 t293] 36 (0, 0))) := ⟨by (with_reducible repeat (first | refine blk_drewN ?_ _ | refine blk_drew ?_ | refine blk_alloc ?_ _)); refine blk_far ?_ NB295_296.out _; (with_reducible repeat (first | refine blk_drewN ?_ _ | refine blk_drew ?_ | refine blk_alloc ?_ _)); refine blk_far ?_ NB295_296.out _; (with_reducible repeat (first | refine blk_drewN ?_ _ | refine blk_drew ?_ | refine blk_alloc ?_ _)); refine blk_far ?_ NB295_296.out _; (with_reducible repeat (first | refine blk_drewN ?_ _ | refine blk_drew ?_ | refine blk_alloc ?_ _)); refine blk_far ?_ NB295_296.out _; (with_reducible repeat (first | refine blk_drewN ?_ _ | refine blk_drew ?_ | refine blk_alloc ?_ _)); exact BK295.out⟩
          have n1_ : Aside0 (((((w38.setCell ⟨gb296, 0, none⟩ (.int .i64 t290)).setCell ⟨gb296, 1, none⟩ (.int .i64 t291)).setCell ⟨gb296, 2, none⟩ (.int .i64 a0)).setCell ⟨gb296, 3, none⟩ (.int .i64 a2)).heap[gb296]? = some (.cells #[.int .i64 t290, .int .i64 t291, .int .i64 a0, .int .i64 a2] 36 (0, 0))) := ⟨by (with_reducible repeat (first | refine blk_drewN ?_ _ | refine blk_drew ?_ | refine blk_alloc ?_ _)); refine blk_put (cs := #[.int .i64 t290, .int .i64 t291, .int .i64 a0, .int .i64 0]) ?_ 3 _ rfl; (with_reducible repeat (first | refine blk_drewN ?_ _ | refine blk_drew ?_ | refine blk_alloc ?_ _)); refine blk_put (cs := #[.int .i64 t290, .int .i64 t291, .int .i64 0, .int .i64 0]) ?_ 2 _ rfl; (with_reducible repeat (first | refine blk_drewN ?_ _ | refine blk_drew ?_ | refine blk_alloc ?_ _)); refine blk_put (cs := #[.int .i64 t290, .int .i64 0, .int .i64 0, .int .i64 0]) ?_ 1 _ rfl; (with_reducible repeat (first | refine blk_drewN ?_ _ | refine blk_drew ?_ | refine blk_alloc ?_ _)); refine blk_put (cs := #[.int .i64 0, .int .i64 0, .int .i64 0, .int .i64 0]) ?_ 0 _ rfl; (with_reducible repeat (first | refine blk_drewN ?_ _ | refine blk_drew ?_ | refine blk_alloc ?_ _)); exact BK296.out⟩
          have n2_ : Aside0 (Below w.heap.size w ((((w38.setCell ⟨gb296, 0, none⟩ (.int .i64 t290)).setCell ⟨gb296, 1, none⟩ (.int .i64 t291)).setCell ⟨gb296, 2, none⟩ (.int .i64 a0)).setCell ⟨gb296, 3, none⟩ (.int .i64 a2))) := ⟨by repeat (first | (with_reducible first | exact HB.out | apply below_alloc | apply pw_below_drewN | apply below_drew1 | refine below_set ?_ GE295.out | refine below_set ?_ GE296.out) | exact HB.out)⟩
          (try clear BK295)
          (try clear BK296)
          (try clear HB)
          generalize ((((w38.setCell ⟨gb296, 0, none⟩ (.int .i64 t290)).setCell ⟨gb296, 1, none⟩ (.int .i64 t291)).setCell ⟨gb296, 2, none⟩ (.int .i64 a0)).setCell ⟨gb296, 3, none⟩ (.int .i64 a2)) = w41 at n0_ n1_ n2_ ⊢
          have BK295 := n0_
          have BK296 := n1_
          have HB := n2_
          clear n0_ n1_ n2_
          have n0_ := Aside0.mk (blk_drew BK295.out)
          have n1_ := Aside0.mk (blk_drew BK296.out)
          have n2_ := Aside0.mk (below_drew1 HB.out)
          clear BK295
          clear BK296
          clear HB
          have BK295 := n0_
          have BK296 := n1_
          have HB := n2_
          clear n0_ n1_ n2_
          have p297 : 0 ≤ (a2 : Int) := of_decide_eq_true (by first | (with_reducible assumption) | assumption)
          have q297 : a2 < (l1.length : Int) := of_decide_eq_true (by first | (with_reducible assumption) | assumption)
          obtain ⟨ad297, e297, hx297_0, hx297_1, hx297_2, hx297_3, hx297_4, hx297_5, hx297_6⟩ := at_T59 HR1.out a2 p297 q297
          have hw297_6 := hx297_6
          have hw297_5 := hx297_5
          have hw297_4 := hx297_4
          have hw297_3 := hx297_3
          have hw297_2 := hx297_2
          have hw297_1 := hx297_1
          have hw297_0 := hx297_0
          cases e297
          replace hx297_0 := (HB.out.cell (World.block_lt_of_cell? w _ hx297_0)).trans hx297_0
          replace hx297_1 := (HB.out.cell (World.block_lt_of_cell? w _ hx297_1)).trans hx297_1
          replace hx297_2 := (HB.out.cell (World.block_lt_of_cell? w _ hx297_2)).trans hx297_2
          replace hx297_3 := (HB.out.cell (World.block_lt_of_cell? w _ hx297_3)).trans hx297_3
          replace hx297_4 := (HB.out.cell (World.block_lt_of_cell? w _ hx297_4)).trans hx297_4
          replace hx297_5 := (HB.out.cell (World.block_lt_of_cell? w _ hx297_5)).trans hx297_5
          replace hx297_6 := (HB.out.cell (World.block_lt_of_cell? w _ hx297_6)).trans hx297_6
          replace p297 := eq_true p297
          replace q297 := eq_true q297
          refine start_ (n := 16) (S := fun w' => w'.cell? (ad297.add ((a2).toNat * 7)) = some (.int .i64 ((rd_T59 l1 a2).f0.f0)) ∧ w'.cell? ⟨(ad297.add ((a2).toNat * 7)).block, (ad297.add ((a2).toNat * 7)).off + 1, none⟩ = some (.int .i64 ((rd_T59 l1 a2).f0.f1)) ∧ w'.cell? ⟨(ad297.add ((a2).toNat * 7)).block, (ad297.add ((a2).toNat * 7)).off + 2, none⟩ = some (.int .i64 ((rd_T59 l1 a2).f0.f2)) ∧ w'.cell? ⟨(ad297.add ((a2).toNat * 7)).block, (ad297.add ((a2).toNat * 7)).off + 3, none⟩ = some (.int .i64 ((rd_T59 l1 a2).f0.f3)) ∧ w'.cell? ⟨(ad297.add ((a2).toNat * 7)).block, (ad297.add ((a2).toNat * 7)).off + 4, none⟩ = some (.int .i64 ((rd_T59 l1 a2).f1)) ∧ w'.cell? ⟨(ad297.add ((a2).toNat * 7)).block, (ad297.add ((a2).toNat * 7)).off + 5, none⟩ = some (.int .i64 ((rd_T59 l1 a2).f2)) ∧ w'.cell? ⟨(ad297.add ((a2).toNat * 7)).block, (ad297.add ((a2).toNat * 7)).off + 6, none⟩ = some (.bool ((rd_T59 l1 a2).f3))) (ds := []) #[false, false, false, false, false, false, false, false, false, false, false, false, false, false, false, false] (by kernel_rfl) rfl rfl ⟨((HB.out.cell (World.block_lt_of_cell? w _ hw297_0)).trans hw297_0), ((HB.out.cell (World.block_lt_of_cell? w _ hw297_1)).trans hw297_1), ((HB.out.cell (World.block_lt_of_cell? w _ hw297_2)).trans hw297_2), ((HB.out.cell (World.block_lt_of_cell? w _ hw297_3)).trans hw297_3), ((HB.out.cell (World.block_lt_of_cell? w _ hw297_4)).trans hw297_4), ((HB.out.cell (World.block_lt_of_cell? w _ hw297_5)).trans hw297_5), ((HB.out.cell (World.block_lt_of_cell? w _ hw297_6)).trans hw297_6)⟩ (fun hHeld => ?_); refine with_tabW kissgateref10_Role.tab5 kissgateref10_Role.bits5 (fun HT_ HW_ => ?_)
          generalize w41.drew = w42 at BK295 BK296 HB hx297_0 hx297_1 hx297_2 hx297_3 hx297_4 hx297_5 hx297_6 hHeld ⊢
          refine pure_ (i := 0) (N := some 26) (v := ?_) (a' := ?_) #[true, false, false, false, false, false, false, false, false, false, false, false, false, false, false, false] rfl rfl (any_of HT_.out (by kernel_rfl)) (fun _ _ _ h => h) (Or.inl ⟨by rfl, ?_⟩) ?_ ?_
          rotate_left
          · intro w'
            go_simp
            with_reducible rfl
          rotate_left
          · simp only [Act.put, List.setIfInBounds_toArray, List.set_cons_zero, List.set_cons_succ, i64_w, i32_w]
            rfl
          refine pure_ (i := 1) (N := some 27) (v := ?_) (a' := ?_) #[true, true, false, false, false, false, false, false, false, false, false, false, false, false, false, false] rfl rfl (any_of HT_.out (by kernel_rfl)) (fun _ _ _ h => h) (Or.inl ⟨by rfl, ?_⟩) ?_ ?_
          rotate_left
          · intro w'
            go_simp
            with_reducible rfl
          rotate_left
          · simp only [Act.put, List.setIfInBounds_toArray, List.set_cons_zero, List.set_cons_succ, i64_w, i32_w]
            rfl
          refine pure_ (i := 2) (N := some 28) (v := ?_) (a' := ?_) #[true, true, true, false, false, false, false, false, false, false, false, false, false, false, false, false] rfl rfl (any_of HT_.out (by kernel_rfl)) (fun _ _ _ h => h) (Or.inl ⟨by rfl, ?_⟩) ?_ ?_
          rotate_left
          · intro w'
            go_simp
            with_reducible rfl
          rotate_left
          · simp only [Act.put, List.setIfInBounds_toArray, List.set_cons_zero, List.set_cons_succ, i64_w, i32_w]
            rfl
          refine pure_ (i := 4) (N := some 30) (v := ?_) (a' := ?_) #[true, true, true, false, true, false, false, false, false, false, false, false, false, false, false, false] rfl rfl (any_of HT_.out (by kernel_rfl)) (fun _ _ _ h => h) (Or.inl ⟨by rfl, ?_⟩) ?_ ?_
          rotate_left
          · intro w'
            go_simp
            with_reducible rfl
          rotate_left
          · simp only [Act.put, List.setIfInBounds_toArray, List.set_cons_zero, List.set_cons_succ, i64_w, i32_w]
            rfl
          refine take_ (i := 3) (N := some 29) (v := ?_) (a' := ?_) #[true, true, true, true, true, false, false, false, false, false, false, false, false, false, false, false] rfl rfl (take_ofW HT_.out HW_.out (by kernel_rfl)) (fun _ _ _ h => h) (Or.inl ⟨by rfl, ?_⟩) hHeld ?_ ?_
          rotate_left
          · rintro w' ⟨s0, s1, s2, s3, s4, s5, s6⟩
            go_simp
            with_reducible rfl
          rotate_left
          · simp only [Act.put, List.setIfInBounds_toArray, List.set_cons_zero, List.set_cons_succ, i64_w, i32_w]
            rfl
          refine one_ (i := 5) (N := some 31) #[true, true, true, true, true, true, false, false, false, false, false, false, false, false, false, false] rfl rfl (one_of HT_.out (by kernel_rfl)) (by decide) (fun K hK => ?_)
          refine goes_ Tryd.func62 (by kernel_rfl) rfl #[.agg #[.int .i64 ((rd_T59 l1 a2).f0.f0), .int .i64 ((rd_T59 l1 a2).f0.f1), .int .i64 ((rd_T59 l1 a2).f0.f2), .int .i64 ((rd_T59 l1 a2).f0.f3), .int .i64 ((rd_T59 l1 a2).f1), .int .i64 ((rd_T59 l1 a2).f2), .bool ((rd_T59 l1 a2).f3)], .int .i64 a0] (by rfl) rfl rfl (by (try simp only [List.map_toArray, List.map_cons, List.map_nil]); first | done | rfl | (simp only [List.length_drop, List.length_take]; rfl)) ?_
          with_reducible refine (kissgateref10_Use.calls ((rd_T59 l1 a2).f0.f0) ((rd_T59 l1 a2).f0.f1) ((rd_T59 l1 a2).f0.f2) ((rd_T59 l1 a2).f0.f3) ((rd_T59 l1 a2).f1) ((rd_T59 l1 a2).f2) ((rd_T59 l1 a2).f3) a0 false _ A11.out).mono ?_
          rintro e w43 ⟨rfl, hb⟩
          refine ⟨_, rfl, ?_⟩
          have n0_ := Aside0.mk (blk_below (g := gb295) (o := .cells #[.int .i64 t290, .int .i64 t291, .int .i64 t292, .int .i64 t293] 36 (0, 0)) (by (with_reducible repeat (first | refine blk_drewN ?_ _ | refine blk_drew ?_ | refine blk_alloc ?_ _)); exact BK295.out) hb)
          have n1_ := Aside0.mk (blk_below (g := gb296) (o := .cells #[.int .i64 t290, .int .i64 t291, .int .i64 a0, .int .i64 a2] 36 (0, 0)) (by (with_reducible repeat (first | refine blk_drewN ?_ _ | refine blk_drew ?_ | refine blk_alloc ?_ _)); exact BK296.out) hb)
          have n2_ := Aside0.mk (below_step (by repeat (first | (with_reducible first | exact HB.out | apply below_alloc | apply pw_below_drewN | apply below_drew1 | refine below_set ?_ GE295.out | refine below_set ?_ GE296.out) | exact HB.out)) hb)
          clear BK295
          clear BK296
          clear HB
          have BK295 := n0_
          have BK296 := n1_
          have HB := n2_
          clear n0_ n1_ n2_
          (try clear hb)
          (try clear hb2)
          (try clear hk)
          (try clear hi)
          refine hK.out _ _ ⟨((HB.out.cell (World.block_lt_of_cell? w _ hw297_0)).trans hw297_0), ((HB.out.cell (World.block_lt_of_cell? w _ hw297_1)).trans hw297_1), ((HB.out.cell (World.block_lt_of_cell? w _ hw297_2)).trans hw297_2), ((HB.out.cell (World.block_lt_of_cell? w _ hw297_3)).trans hw297_3), ((HB.out.cell (World.block_lt_of_cell? w _ hw297_4)).trans hw297_4), ((HB.out.cell (World.block_lt_of_cell? w _ hw297_5)).trans hw297_5), ((HB.out.cell (World.block_lt_of_cell? w _ hw297_6)).trans hw297_6)⟩ (fun hHeld => ?_)
          clear hK K
          refine norm_ (a' := ?_) ?_ ?_
          rotate_left
          · show Act.put _ (some 31) _ = _
            simp only [Act.put, List.setIfInBounds_toArray, List.set_cons_zero, List.set_cons_succ, i64_w, i32_w]
            rfl
          refine pure_ (i := 6) (N := some 32) (v := ?_) (a' := ?_) #[true, true, true, true, true, true, true, false, false, false, false, false, false, false, false, false] rfl rfl (any_of HT_.out (by kernel_rfl)) (fun _ _ _ h => h) (Or.inl ⟨by rfl, ?_⟩) ?_ ?_
          rotate_left
          · intro w'
            go_simp
            with_reducible rfl
          rotate_left
          · simp only [Act.put, List.setIfInBounds_toArray, List.set_cons_zero, List.set_cons_succ, i64_w, i32_w]
            rfl
          refine pure_ (i := 7) (N := some 33) (v := ?_) (a' := ?_) #[true, true, true, true, true, true, true, true, false, false, false, false, false, false, false, false] rfl rfl (any_of HT_.out (by kernel_rfl)) (fun _ _ _ h => h) (Or.inl ⟨by rfl, ?_⟩) ?_ ?_
          rotate_left
          · intro w'
            go_simp
            with_reducible rfl
          rotate_left
          · simp only [Act.put, List.setIfInBounds_toArray, List.set_cons_zero, List.set_cons_succ, i64_w, i32_w]
            rfl
          refine pure_ (i := 8) (N := some 34) (v := undef) (a' := ?_) #[true, true, true, true, true, true, true, true, true, false, false, false, false, false, false, false] rfl rfl (any_of HT_.out (by kernel_rfl)) (fun _ _ _ h => h) (Or.inr ⟨by rfl, rfl⟩) ?_ ?_
          rotate_left
          · simp only [Act.put, List.setIfInBounds_toArray, List.set_cons_zero, List.set_cons_succ, i64_w, i32_w]
            rfl
          refine pure_ (i := 9) (N := some 35) (v := undef) (a' := ?_) #[true, true, true, true, true, true, true, true, true, true, false, false, false, false, false, false] rfl rfl (any_of HT_.out (by kernel_rfl)) (fun _ _ _ h => h) (Or.inr ⟨by rfl, rfl⟩) ?_ ?_
          rotate_left
          · simp only [Act.put, List.setIfInBounds_toArray, List.set_cons_zero, List.set_cons_succ, i64_w, i32_w]
            rfl
          refine pure_ (i := 10) (N := some 36) (v := undef) (a' := ?_) #[true, true, true, true, true, true, true, true, true, true, true, false, false, false, false, false] rfl rfl (any_of HT_.out (by kernel_rfl)) (fun _ _ _ h => h) (Or.inr ⟨by rfl, rfl⟩) ?_ ?_
          rotate_left
          · simp only [Act.put, List.setIfInBounds_toArray, List.set_cons_zero, List.set_cons_succ, i64_w, i32_w]
            rfl
          refine pure_ (i := 11) (N := some 37) (v := undef) (a' := ?_) #[true, true, true, true, true, true, true, true, true, true, true, true, false, false, false, false] rfl rfl (any_of HT_.out (by kernel_rfl)) (fun _ _ _ h => h) (Or.inr ⟨by rfl, rfl⟩) ?_ ?_
          rotate_left
          · simp only [Act.put, List.setIfInBounds_toArray, List.set_cons_zero, List.set_cons_succ, i64_w, i32_w]
            rfl
          refine pure_ (i := 12) (N := some 38) (v := undef) (a' := ?_) #[true, true, true, true, true, true, true, true, true, true, true, true, true, false, false, false] rfl rfl (any_of HT_.out (by kernel_rfl)) (fun _ _ _ h => h) (Or.inr ⟨by rfl, rfl⟩) ?_ ?_
          rotate_left
          · simp only [Act.put, List.setIfInBounds_toArray, List.set_cons_zero, List.set_cons_succ, i64_w, i32_w]
            rfl
          refine pure_ (i := 13) (N := some 39) (v := undef) (a' := ?_) #[true, true, true, true, true, true, true, true, true, true, true, true, true, true, false, false] rfl rfl (any_of HT_.out (by kernel_rfl)) (fun _ _ _ h => h) (Or.inr ⟨by rfl, rfl⟩) ?_ ?_
          rotate_left
          · simp only [Act.put, List.setIfInBounds_toArray, List.set_cons_zero, List.set_cons_succ, i64_w, i32_w]
            rfl
          refine pure_ (i := 14) (N := some 40) (v := undef) (a' := ?_) #[true, true, true, true, true, true, true, true, true, true, true, true, true, true, true, false] rfl rfl (any_of HT_.out (by kernel_rfl)) (fun _ _ _ h => h) (Or.inr ⟨by rfl, rfl⟩) ?_ ?_
          rotate_left
          · simp only [Act.put, List.setIfInBounds_toArray, List.set_cons_zero, List.set_cons_succ, i64_w, i32_w]
            rfl
          refine pure_ (i := 15) (N := some 41) (v := ?_) (a' := ?_) #[true, true, true, true, true, true, true, true, true, true, true, true, true, true, true, true] rfl rfl (any_of HT_.out (by kernel_rfl)) (fun _ _ _ h => h) (Or.inl ⟨by rfl, ?_⟩) ?_ ?_
          rotate_left
          · intro w'
            go_simp
            with_reducible rfl
          rotate_left
          · simp only [Act.put, List.setIfInBounds_toArray, List.set_cons_zero, List.set_cons_succ, i64_w, i32_w]
            rfl
          refine done_ (done_of HT_.out (by kernel_rfl)) ?_
          try go_wp2
          go_ret
          exact ⟨by first | rfl | (simp [errW_none, errW_some] <;> rfl) | (simp [*, errW_none, errW_some] <;> rfl), by repeat (first | (with_reducible first | exact HB.out | apply below_alloc | apply pw_below_drewN | apply below_drew1 | refine below_set ?_ GE295.out | refine below_set ?_ GE296.out) | exact HB.out)⟩
      · rw [if_neg c10] at H
        exact absurd H (by simp)
    · rw [if_neg c9] at H
      exact absurd H (by simp)
end Go.Proofs.YtfimhaodgekkgaaDoor.QTre
namespace Go.Proofs.YtfimhaodgekkgaaDoor.Pri
open Go.RowKit Go.Proofs.YtfimhaodgekkgaaDoorW.PrintWords Go.Proofs.YtfimhaodgekkgaaDoorW.PrintLast Go.Proofs.YtfimhaodgekkgaaDoorW.PrintMore Go.Proofs.YtfimhaodgekkgaaDoor.QTre
theorem better_ref (a b : S36) : kissgateref10_Better.f a.f0 a.f1 a.f2 a.f3 b.f0 b.f1 b.f2 b.f3 = some (bet a b) := by
  unfold kissgateref10_Better.f bet
  by_cases h0 : a.f0 = b.f0
  · rw [if_pos h0]
    by_cases h1 : a.f1 = b.f1
    · rw [if_pos h1]
      by_cases h2 : a.f2 = b.f2
      · rw [if_pos h2]; congr 1; rw [decide_eq_decide]; omega
      · rw [if_neg h2]; congr 1; rw [decide_eq_decide]; omega
    · rw [if_neg h1]; congr 1; rw [decide_eq_decide]; omega
  · rw [if_neg h0]; congr 1; rw [decide_eq_decide]; omega
theorem sum_ref {a b : Int} (ha : Fit a) (hb : Fit b) : kissgateref10_Sum.f a b = some (sumc a b) := by
  unfold kissgateref10_Sum.f sumc
  unfold Fit at ha hb
  unfold mx wrap64
  repeat' split
  all_goals first | rfl | omega | (congr 1; omega)
theorem bridge_ref {a : Int} (ha : Fit a) : kissgateref08_Bridge.f a = some (brid a) := by
  unfold Fit at ha
  unfold kissgateref08_Bridge.f brid
  by_cases h0 : a ≤ 0
  · rw [if_pos h0]
    congr 1
    symm
    exact decide_eq_false (by omega)
  · rw [if_neg h0]
    have hd : Int.tdiv a 281474976710656 = a / 281474976710656 := Int.tdiv_eq_ediv_of_nonneg (by omega)
    have hm : Int.tmod a 281474976710656 = a % 281474976710656 := Int.tmod_eq_emod_of_nonneg (by omega)
    have hw : wrap64 (a / 281474976710656) = a / 281474976710656 := by unfold wrap64; omega
    rw [hd, hm, hw]
    by_cases h1 : a / 281474976710656 > 15
    · rw [if_pos h1]
      congr 1
      symm
      exact decide_eq_false (by omega)
    · rw [if_neg h1]
      unfold kissgateref02_Many.f kissgateref02_Good.f
      have g1 : a % 281474976710656 ≥ 0 := by omega
      have g2 : decide (a % 281474976710656 < 281474976710656) = true := decide_eq_true (by omega)
      rw [if_pos g1, g2]
      simp only [Option.bind_some, if_true]
      have hd2 : Int.tdiv (a % 281474976710656) 1099511627776 = a % 281474976710656 / 1099511627776 := Int.tdiv_eq_ediv_of_nonneg (by omega)
      have hw2 : wrap64 (a % 281474976710656 / 1099511627776) = a % 281474976710656 / 1099511627776 := by unfold wrap64; omega
      have hm2 : Int.tmod (a % 281474976710656 / 1099511627776) 2 = a % 281474976710656 / 1099511627776 % 2 := Int.tmod_eq_emod_of_nonneg (by omega)
      rw [hd2, hw2, hm2]
      congr 1
      rw [Bool.eq_iff_iff]
      simp
      omega
def conv (h : S80) : S59 := ⟨⟨h.f0.f0, h.f0.f1, h.f0.f2, h.f0.f3⟩, h.f1, h.f2, h.f3⟩
theorem takes_ref (h : S80) (id : Int) (hr : Fit h.f0.f0) : kissgateref10_Use.f h.f0.f0 h.f0.f1 h.f0.f2 h.f0.f3 h.f1 h.f2 h.f3 id = some (takes h id) := by
  unfold kissgateref10_Use.f takes
  rw [bridge_ref hr]
  cases h.f3 with
  | true => simp
  | false =>
    simp only [Bool.false_eq_true, if_false, Option.bind_some]
    by_cases h1 : h.f1 ≥ 0
    · rw [if_pos h1]
      by_cases h2 : h.f1 ≤ 9
      · rw [if_pos h2]
        cases brid h.f0.f0 with
        | false => simp
        | true => simp only [if_true]; congr 1; rw [Bool.eq_iff_iff]; simp; omega
      · rw [if_neg h2]; congr 1; symm; exact decide_eq_false (by omega)
    · rw [if_neg h1]; congr 1; symm; exact decide_eq_false (by omega)
theorem rd59 {l : List S80} {i : Nat} (h : i < l.length) : rd_T59 (l.map conv) i = conv l[i] := by
  unfold rd_T59
  rw [Int.toNat_natCast, List.getD_eq_getElem?_getD, List.getElem?_map, List.getElem?_eq_getElem h]; rfl
theorem bref_loop (id : Int) (l : List S80) (hn : l.length ≤ 9223372036854775000) (hf : ∀ h ∈ l, FitH h) (d : Nat) : ∀ (i : Nat) (acc : S36 × Int), i + d = l.length →
    Ev (fun k => kissgateref10_Best.l0 k id acc.2 (l.map conv) l.length i acc.1.f0 acc.1.f1 acc.1.f2 acc.1.f3) (tup (best id i (l.drop i) acc)) := by
  induction d with
  | zero =>
    intro i acc hi
    rw [List.drop_of_length_le (by omega)]
    exact Ev.step (fun k => by rw [kissgateref10_Best.l0, if_neg (by omega)]; rfl) (Ev.now (tup acc))
  | succ d ih =>
    intro i acc hi
    have hlt : i < l.length := by omega
    have hlm : (l.map conv).length = l.length := List.length_map _
    obtain ⟨f0, f1, f2⟩ := hf l[i] (List.getElem_mem hlt)
    rw [List.drop_eq_getElem_cons hlt]
    simp only [best]
    have hs : ∀ k, kissgateref10_Best.l0 (k + 1) id acc.2 (l.map conv) l.length i acc.1.f0 acc.1.f1 acc.1.f2 acc.1.f3 =
        (if takes l[i] id = true then (if l[i].f0.f0 < id then (if bet (thr l[i]) acc.1 = true then kissgateref10_Best.l0 k id i (l.map conv) l.length ((i + 1 : Nat) : Int) (thr l[i]).f0 (thr l[i]).f1 (thr l[i]).f2 (thr l[i]).f3 else kissgateref10_Best.l0 k id acc.2 (l.map conv) l.length ((i + 1 : Nat) : Int) acc.1.f0 acc.1.f1 acc.1.f2 acc.1.f3) else kissgateref10_Best.l0 k id acc.2 (l.map conv) l.length ((i + 1 : Nat) : Int) acc.1.f0 acc.1.f1 acc.1.f2 acc.1.f3) else kissgateref10_Best.l0 k id acc.2 (l.map conv) l.length ((i + 1 : Nat) : Int) acc.1.f0 acc.1.f1 acc.1.f2 acc.1.f3) := by
      intro k
      rw [kissgateref10_Best.l0, if_pos (by omega), if_pos (by omega), if_pos (by omega), rd59 hlt, wrap_up (n := l.length) (by omega) (by omega) hn]
      have ht : kissgateref10_Use.f (conv l[i]).f0.f0 (conv l[i]).f0.f1 (conv l[i]).f0.f2 (conv l[i]).f0.f3 (conv l[i]).f1 (conv l[i]).f2 (conv l[i]).f3 id = some (takes l[i] id) := takes_ref l[i] id f0
      have hq : kissgateref10_Sum.f (conv l[i]).f0.f1 (conv l[i]).f2 = some (sumc l[i].f0.f1 l[i].f2) := sum_ref f1 f2
      rw [ht, hq]
      simp only [Option.bind_some]
      have hb : kissgateref10_Better.f (conv l[i]).f0.f0 (sumc l[i].f0.f1 l[i].f2) (conv l[i]).f0.f2 (conv l[i]).f0.f3 acc.1.f0 acc.1.f1 acc.1.f2 acc.1.f3 = some (bet (thr l[i]) acc.1) := better_ref (thr l[i]) acc.1
      rw [hb]
      rfl
    refine Ev.step hs ?_
    unfold step
    by_cases h1 : takes l[i] id = true
    · by_cases h2 : l[i].f0.f0 < id
      · by_cases h3 : bet (thr l[i]) acc.1 = true
        · simp only [h1, h2, h3, if_true, and_self]
          exact ih (i + 1) (thr l[i], (i : Int)) (by omega)
        · simp only [h1, h2, h3, if_true, and_false, Bool.false_eq_true, if_false]
          exact ih (i + 1) acc (by omega)
      · simp only [h1, h2, if_true, and_false, false_and, if_false]
        exact ih (i + 1) acc (by omega)
    · simp only [h1, Bool.false_eq_true, false_and, if_false]
      exact ih (i + 1) acc (by omega)
theorem best_ref (id : Int) (l : List S80) (hn : l.length ≤ 9223372036854775000) (hf : ∀ h ∈ l, FitH h) : Ev (fun k => kissgateref10_Best.f k id (l.map conv)) (tup (bestOf id l)) := by
  have := bref_loop id l hn hf l.length 0 (own id, -1) (by omega)
  rw [List.drop_zero] at this
  unfold kissgateref10_Best.f
  rw [List.length_map]
  exact this
theorem role_ref (id : Int) (l : List S80) (hn : l.length * 56 ≤ 140737488351232) (hf : ∀ h ∈ l, FitH h) (i : Nat) (hi : i < l.length) : Ev (fun k => kissgateref10_Role.f k id (l.map conv) i) (role id (bestOf id l) i l[i]) := by
  have hlm : (l.map conv).length = l.length := List.length_map _
  obtain ⟨f0, f1, f2⟩ := hf l[i] (List.getElem_mem hi)
  unfold kissgateref10_Role.f
  refine Ev.bind (best_ref id l (by omega) hf) ?_
  unfold role
  by_cases h0 : (i : Int) = (bestOf id l).2
  · rw [if_pos h0]
    exact Ev.congr (fun k => by rw [if_pos (by exact h0)]) (Ev.now _)
  · rw [if_neg h0]
    have ht : kissgateref10_Use.f (conv l[i]).f0.f0 (conv l[i]).f0.f1 (conv l[i]).f0.f2 (conv l[i]).f0.f3 (conv l[i]).f1 (conv l[i]).f2 (conv l[i]).f3 id = some (takes l[i] id) := takes_ref l[i] id f0
    have hb : kissgateref10_Better.f (bestOf id l).1.f0 (bestOf id l).1.f1 id i (conv l[i]).f0.f0 (conv l[i]).f0.f1 (conv l[i]).f0.f2 (conv l[i]).f0.f3 = some (bet (offer (bestOf id l).1 id i) l[i].f0) := better_ref (offer (bestOf id l).1 id i) l[i].f0
    refine Ev.congr (fun k => by rw [if_neg (by exact h0), if_pos (by omega), if_pos (by omega), rd59 hi, ht, Option.bind_some]) ?_
    cases takes l[i] id with
    | false => simp only [Bool.false_eq_true, if_false, false_and]; exact Ev.now _
    | true =>
      simp only [if_true, true_and]
      refine Ev.congr (fun k => by rw [show (tup (bestOf id l)).1 = (bestOf id l).1.f0 from rfl, show (tup (bestOf id l)).2.1 = (bestOf id l).1.f1 from rfl, hb, Option.bind_some]) ?_
      cases bet (offer (bestOf id l).1 id i) l[i].f0 with
      | false => simp only [Bool.false_eq_true, if_false, if_true]; exact Ev.now _
      | true => simp only [if_true, Bool.true_eq_false, if_false]; exact Ev.now _
end Go.Proofs.YtfimhaodgekkgaaDoor.Pri
namespace Go.Proofs.YtfimhaodgekkgaaDoor.QTre
open Go.RowKit Go.Proofs.YtfimhaodgekkgaaDoorW.PrintWords Go.Proofs.YtfimhaodgekkgaaDoorW.PrintLast Go.Proofs.YtfimhaodgekkgaaDoorW.PrintMore
open Go.Proofs.YtfimhaodgekkgaaDoor.Gen (Own Trn)
open Go.Proofs.YtfimhaodgekkgaaDoor.Pri (FitH roles bestOf role brid)
set_option linter.unusedVariables false
set_option linter.unusedSimpArgs false
def greatB (l : List S40) : Bool := l.any (fun c => decide (c.f5 < 0 ∨ c.f5 > 1000)) || decide ((l.length : Int) > 100)
theorem rd40 {l : List S40} {i : Nat} (h : i < l.length) : rd_T40 l (i : Int) = l[i] := by
  unfold rd_T40
  rw [Int.toNat_natCast, List.getD_eq_getElem?_getD, List.getElem?_eq_getElem h]
  rfl
theorem great_loop (l : List S40) (hm : l.length ≤ maxLen) : ∀ (k i : Nat), l.length - i < k → i ≤ l.length → kissgatelaw12_great.l0 k l l (l.length : Int) (i : Int) = some ((l.drop i).any (fun c => decide (c.f5 < 0 ∨ c.f5 > 1000)) || decide ((l.length : Int) > 100))
  | 0, i, h, _ => absurd h (Nat.not_lt_zero _)
  | k + 1, i, h, hi => by
    unfold kissgatelaw12_great.l0
    by_cases hl : i < l.length
    · have hz : (i : Int) < (l.length : Int) := by omega
      have h0 : (0 : Int) ≤ (i : Int) := by omega
      rw [if_pos hz, if_pos h0, if_pos hz, rd40 hl, List.drop_eq_getElem_cons hl, List.any_cons]
      by_cases h1 : l[i].f5 < 0
      · rw [if_pos h1]; simp [h1]
      · rw [if_neg h1]
        by_cases h2 : l[i].f5 > 1000
        · rw [if_pos h2]; simp [h2]
        · rw [if_neg h2]
          have hw : wrap64 ((i : Int) + 1) = ((i + 1 : Nat) : Int) := by unfold maxLen at hm; unfold wrap64; omega
          rw [hw, great_loop l hm k (i + 1) (by omega) (by omega)]
          have hd : decide (l[i].f5 < 0 ∨ l[i].f5 > 1000) = false := by simp; omega
          rw [hd, Bool.false_or]
    · have e : i = l.length := by omega
      subst e
      rw [if_neg (Int.lt_irrefl _), List.drop_length]
      rfl
theorem great_calls (A : Option Addr) (c : Nat) (l : List S40) (w : World) (hr : Kd.C k40 w A l.length l) (hc : l.length ≤ c) (hm : l.length ≤ maxLen) :
    Calls Tryd.prog 12 #[.slice A l.length c] w fun e w' => e = .returned (.bool (greatB l)) ∧ Below w.heap.size w w' := by
  refine kissgatelaw12_great.calls (l.length + 1) A c l (greatB l) w hr hc ?_
  have := great_loop l hm (l.length + 1) 0 (by omega) (Nat.zero_le _)
  rw [List.drop_zero] at this
  exact this
theorem great_no {l : List S40} (h : greatB l = false) : l.length ≤ 100 ∧ ∀ c ∈ l, 0 ≤ c.f5 ∧ c.f5 ≤ 1000 := by
  unfold greatB at h
  simp only [Bool.or_eq_false_iff, decide_eq_false_iff_not, List.any_eq_false, decide_eq_true_eq] at h
  exact ⟨by omega, fun c hc => by have := h.1 c hc; omega⟩
theorem rbridge_calls (id : Int) (h : Pri.Fit id) (w : World) : Calls Tryd.prog 13 #[.int .i64 id] w fun e w' => e = .returned (.bool (brid id)) ∧ Below w.heap.size w w' := by
  refine (kissgateref08_Bridge.calls id (brid id) w (Pri.bridge_ref h)).mono ?_
  rintro e w' ⟨rfl, h2⟩
  exact ⟨rfl, h2.below⟩
theorem rgood_f (b : S38) (h : FitB b) : kissgateref08_Good.f b.f0.f0 b.f0.f1 b.f0.f2 b.f0.f3 b.f1 b.f2 b.f3 = some (goodB b) := by
  unfold kissgateref08_Good.f goodB
  rw [Pri.bridge_ref h.1, Pri.bridge_ref h.2.2]
  simp only [Option.bind_some]
  split
  · rename_i h1
    split
    · rename_i h2
      rw [h1, h2]
      simp only [true_and]
      repeat' split
      all_goals (simp only [Option.some.injEq]; symm)
      all_goals simp only [decide_eq_true_eq, decide_eq_false_iff_not, decide_eq_decide]
      all_goals omega
    · rename_i h2
      simp only [Option.some.injEq]; symm; simp only [decide_eq_false_iff_not]; intro h; exact h2 h.2.1
  · rename_i h2
    simp only [Option.some.injEq]; symm; simp only [decide_eq_false_iff_not]; intro h; exact h2 h.1
theorem rgood_calls (b : S38) (h : FitB b) (w : World) : Calls Tryd.prog 18 #[val38 b] w fun e w' => e = .returned (.bool (goodB b)) ∧ Below w.heap.size w w' :=
  kissgateref08_Good.calls _ _ _ _ _ _ _ _ w (rgood_f b h)
structure St where
  code : Int
  ports : List S84
  best : S36
  root : Int
def setF (id now : Int) (P : List S84) (best : S36) (root : Int) (i : Int) (up : Bool) (cost : Int) : St :=
  if (0 ≤ i ∧ i < (P.length : Int)) ∧ ¬ cost < 1 ∧ ¬ 16777216 < cost then
    ⟨0, upd id now (P.set i.toNat (setP (P.getD i.toNat port0) up cost)), (bst id (P.set i.toNat (setP (P.getD i.toNat port0) up cost))).1, (bst id (P.set i.toNat (setP (P.getD i.toNat port0) up cost))).2⟩
  else ⟨1, P, best, root⟩
def hearF (id now : Int) (P : List S84) (best : S36) (root : Int) (i : Int) (m : S38) : St :=
  if (0 ≤ i ∧ i < (P.length : Int)) ∧ goodB m = true ∧ m.f2 = 2 then
    if (P.getD i.toNat port0).f0 = true then ⟨0, upd id now (P.set i.toNat (hearP (P.getD i.toNat port0) m now)), (bst id (P.set i.toNat (hearP (P.getD i.toNat port0) m now))).1, (bst id (P.set i.toNat (hearP (P.getD i.toNat port0) m now))).2⟩
    else ⟨7, P, best, root⟩
  else ⟨1, P, best, root⟩
section
variable (base g b cap : Nat) (id : Int) (P : List S84) (best : S36) (root change now : Int) (w0 w : World)
theorem set_calls (hB : Below base w0 w) (hs : base ≤ w.heap.size) (hb0 : 0 < base) (hng : NG w0) (ht : Tre w base g b cap id P best root change) (hn : P.length ≤ 100) (hf : ∀ p ∈ P, FitP p) (i : Int) (up : Bool) (cost : Int) :
    Calls Tryd.prog 15 #[.pointer (some ⟨g, 0, none⟩), .int .i64 i, .bool up, .int .i64 cost, .int .i64 now] w fun e w' => e = .returned (.int .i64 (setF id now P best root i up cost).code) ∧ Tre w' base g b cap id (setF id now P best root i up cost).ports (setF id now P best root i up cost).best (setF id now P best root i up cost).root change ∧ Trn base w0 w (TF g b) (TF g b) w' := by
  unfold setF
  by_cases h : (0 ≤ i ∧ i < (P.length : Int)) ∧ ¬ cost < 1 ∧ ¬ 16777216 < cost
  · rw [if_pos h]
    obtain ⟨k, rfl⟩ : ∃ k : Nat, i = k := ⟨i.toNat, by omega⟩
    have hk : k < P.length := by omega
    rw [Int.toNat_natCast, getD_lt hk]
    exact set_ok base g b cap id P best root change w0 w hB hs (hng.below hB hb0) ht hn hf k hk up cost now h.2.1 h.2.2
  · rw [if_neg h]
    refine (set_bad base g b cap id P best root change w ht i up cost now (by omega)).mono ?_
    rintro e w' ⟨rfl, rfl⟩
    exact ⟨rfl, ht, Trn.refl hB⟩
theorem hear_calls (hB : Below base w0 w) (hs : base ≤ w.heap.size) (ht : Tre w base g b cap id P best root change) (hn : P.length ≤ 100) (hf : ∀ p ∈ P, FitP p) (i : Int) (m : S38) (hm : FitB m) :
    Calls Tryd.prog 16 #[.pointer (some ⟨g, 0, none⟩), .int .i64 i, val38 m, .int .i64 now] w fun e w' => e = .returned (.int .i64 (hearF id now P best root i m).code) ∧ Tre w' base g b cap id (hearF id now P best root i m).ports (hearF id now P best root i m).best (hearF id now P best root i m).root change ∧ Trn base w0 w (TF g b) (TF g b) w' := by
  unfold hearF
  by_cases h : (0 ≤ i ∧ i < (P.length : Int)) ∧ goodB m = true ∧ m.f2 = 2
  · rw [if_pos h]
    obtain ⟨k, rfl⟩ : ∃ k : Nat, i = k := ⟨i.toNat, by omega⟩
    have hk : k < P.length := by omega
    rw [Int.toNat_natCast, getD_lt hk]
    by_cases hu : P[k].f0 = true
    · rw [if_pos hu]
      exact hear_ok base g b cap id P best root change w0 w hB hs ht hn hf k hk m hm now h.2.1 h.2.2 hu
    · rw [if_neg hu]
      refine (hear_down base g b cap id P best root change w ht k hk m hm now h.2.1 h.2.2 (by simpa using hu)).mono ?_
      rintro e w' ⟨rfl, hb⟩
      exact ⟨rfl, ht.below hb, Trn.of_below hB hs hb⟩
  · rw [if_neg h]
    refine (hear_bad base g b cap id P best root change w ht i m hm now ?_).mono ?_
    · by_cases h1 : 0 ≤ i ∧ i < (P.length : Int)
      · rcases Bool.eq_false_or_eq_true (goodB m) with h2 | h2
        · exact .inr (.inr fun e => h ⟨h1, h2, e⟩)
        · exact .inr (.inl h2)
      · exact .inl h1
    · rintro e w' ⟨rfl, hb⟩
      exact ⟨rfl, ht.below hb, Trn.of_below hB hs hb⟩
end
theorem Tre.lower {w : World} {base base2 g b cap : Nat} {id root change : Int} {P : List S84} {best : S36} (h : Tre w base g b cap id P best root change) (hl : base2 ≤ base) : Tre w base2 g b cap id P best root change :=
  ⟨h.cell, h.row, h.ne, Nat.le_trans hl h.low, Nat.le_trans hl h.lowb, h.cap_le⟩
theorem cells47 {w : World} {A : Option Addr} {n : Nat} {xs : List S47} (h : Kd.C k47 w A n xs) (i : Nat) (h1 : i < xs.length) (hn : xs.length = n) : ∃ ad, A = some ad ∧ ∀ j u, (enc47 xs[i])[j]? = some u → w.cell? (ad.add (i * 8 + j)) = some u := by
  obtain ⟨ad, c, e, _, hK, hc0⟩ := Kd.C_get h z47 (i : Int) (by omega) (by omega)
  have hc : ∀ j u, c[j]? = some u → w.cell? (ad.add (((i : Int)).toNat * 8 + j)) = some u := hc0
  obtain rfl := k47_open hK
  rw [Int.toNat_natCast] at hc
  refine ⟨ad, e, fun j u hu => hc j u ?_⟩
  rw [List.getD_eq_getElem?_getD, List.getElem?_eq_getElem h1]
  exact hu
abbrev al0 : List S84 := List.replicate 2 port0
abbrev al1 : List S84 := al0.set 0 (setP port0 true 1)
abbrev al2 : List S84 := upd 5 0 al1
theorem alive2 : al2 = [⟨true, 1, none80, 0, ⟨2, 0, false⟩⟩, port0] := by rfl
theorem aliveB : bst 5 al1 = (⟨5, 0, 5, 0⟩, -1) := by rfl
theorem aliveP : tickP 5 2 [⟨true, 1, none80, 0, ⟨2, 0, false⟩⟩, port0] = [⟨true, 1, none80, 0, ⟨2, 0, false⟩⟩, port0] := by kernel_rfl
theorem aliveL : tickL 5 2 [⟨true, 1, none80, 0, ⟨2, 0, false⟩⟩, port0] (-1) = [⟨0, ⟨⟨5, 0, 5, 0⟩, 0, 2, false⟩⟩] := by kernel_rfl
theorem own_one47 {w : World} {base : Nat} {ok : Nat → Prop} {v : Value} {x : S47} (h : Kd.R k47 47 w base ok v [x]) : ∃ b c : Nat, v = .slice (some ⟨b, 0, none⟩) 1 c ∧ Own enc47 8 47 w b c [x] := by
  rcases Gen.Own.ofR (enc := enc47) (k := 8) enc47_len rfl (fun w base ok x cs h => k47_openM h) h with ⟨_, e⟩ | ⟨b, c, rfl, _, _, _, ho⟩
  · cases e
  · exact ⟨b, c, rfl, ho⟩
theorem fit_al0 : ∀ p ∈ List.replicate 2 port0, FitP p := by
  intro p hp
  rw [List.eq_of_mem_replicate hp]
  exact ⟨⟨by decide, by decide⟩, ⟨by decide, by decide⟩, ⟨by decide, by decide⟩⟩
abbrev alx : List S84 := [⟨true, 1, none80, 0, ⟨2, 0, false⟩⟩, port0]
theorem fit_alx : ∀ p ∈ alx, FitP p := by
  intro p hp
  simp only [alx, List.mem_cons, List.not_mem_nil, or_false] at hp
  rcases hp with rfl | rfl
  · exact ⟨⟨by decide, by decide⟩, ⟨by decide, by decide⟩, ⟨by decide, by decide⟩⟩
  · exact ⟨⟨by decide, by decide⟩, ⟨by decide, by decide⟩, ⟨by decide, by decide⟩⟩
set_option maxHeartbeats 4000000 in
set_option maxRecDepth 100000 in
theorem alive_calls (w : World) (hng : NG w) (h0 : 0 < w.heap.size) : Calls Tryd.prog 7 #[] w fun e w' => e = .returned (.bool true) ∧ Below w.heap.size w w' := by
  have e14 : ∀ args w, (callFunc 14 args).run Tryd.prog w = .ok (.enter 14 args) w := enters_of Tryd.func14 (by kernel_rfl) rfl
  have e15 : ∀ args w, (callFunc 15 args).run Tryd.prog w = .ok (.enter 15 args) w := enters_of Tryd.func15 (by kernel_rfl) rfl
  have e17 : ∀ args w, (callFunc 17 args).run Tryd.prog w = .ok (.enter 17 args) w := enters_of Tryd.func17 (by kernel_rfl) rfl
  have e20 : ∀ args w, (callFunc 20 args).run Tryd.prog w = .ok (.enter 20 args) w := enters_of Tryd.func20 (by kernel_rfl) rfl
  have hu36 := Tryd.underlying36
  have HN : Aside0 (Calls Tryd.prog 14 #[.int .i64 5, .int .i64 2] w fun e w' => ∃ g b cap : Nat, e = .returned (.pointer (some ⟨g, 0, none⟩)) ∧ Tre w' w.heap.size g b cap 5 (List.replicate 2 port0) ⟨5, 0, 5, 0⟩ (-1) (-1) ∧ Below w.heap.size w w') := ⟨new_ok 5 2 ⟨by decide, by decide⟩ (by decide) (by decide) (by decide) w hng h0⟩
  have HS : Aside0 (∀ (W : World) (g b cap : Nat), Below w.heap.size w W → Tre W w.heap.size g b cap 5 (List.replicate 2 port0) ⟨5, 0, 5, 0⟩ (-1) (-1) → Calls Tryd.prog 15 #[.pointer (some ⟨g, 0, none⟩), .int .i64 0, .bool true, .int .i64 1, .int .i64 0] W fun e w' => e = .returned (.int .i64 0) ∧ Tre w' w.heap.size g b cap 5 alx ⟨5, 0, 5, 0⟩ (-1) (-1) ∧ Trn w.heap.size w W (TF g b) (TF g b) w') := ⟨fun W g b cap hB ht => by
    have := set_ok w.heap.size g b cap 5 (List.replicate 2 port0) ⟨5, 0, 5, 0⟩ (-1) (-1) w W hB hB.size (hng.below hB h0) ht (by decide) fit_al0 0 (by decide) true 1 0 (by decide) (by decide)
    refine this.mono ?_
    rintro e w' ⟨h1, h2, h3⟩
    have h4 : Tre w' w.heap.size g b cap 5 al2 (bst 5 al1).1 (bst 5 al1).2 (-1) := h2
    rw [alive2, aliveB] at h4
    exact ⟨h1, h4, h3⟩⟩
  have HTK : Aside0 (∀ (W : World) (g b cap : Nat), Below w.heap.size w W → Tre W w.heap.size g b cap 5 alx ⟨5, 0, 5, 0⟩ (-1) (-1) → Calls Tryd.prog 17 #[.pointer (some ⟨g, 0, none⟩), .int .i64 2] W fun e w' => ∃ v, e = .returned v ∧ Kd.R k47 47 w' W.heap.size (fun _ => True) v [⟨0, ⟨⟨5, 0, 5, 0⟩, 0, 2, false⟩⟩] ∧ Tre w' w.heap.size g b cap 5 alx (tickB 5 2 alx).1 (tickB 5 2 alx).2 (tickC 5 2 alx (-1)) ∧ Trn w.heap.size w W (TF g b) (TF g b) w') := ⟨fun W g b cap hB ht => by
    have := tick_calls w.heap.size g b cap 5 alx ⟨5, 0, 5, 0⟩ (-1) (-1) 2 w W hB hB.size h0 hng ht (by decide) (by decide) fit_alx (by decide) (by decide)
    rw [aliveP, aliveL] at this
    exact this⟩
  clear hng h0
  go_enter Tryd.func7, Tryd.ntmps7
  go_wp2_with (first
    | (go_at_fn 14; refine HN.out.mono ?_; rintro e w1 ⟨g, b, cap, rfl, ht, hb⟩; have HT1 := Aside0.mk ht; have HB1 := Aside0.mk hb; clear ht hb)
    | (go_at_fn 15; refine (HS.out w1 g b cap HB1.out HT1.out).mono ?_; rintro e w2 ⟨rfl, ht, htn⟩; have HT2 := Aside0.mk ht; have HB2 := Aside0.mk htn.bel; clear ht htn)
    | (go_at_fn 17; refine (HTK.out w2 g b cap HB2.out HT2.out).mono ?_; rintro e w3 ⟨v3, rfl, hr3, ht, htn⟩; have HT3 := Aside0.mk ht; have HB3 := Aside0.mk htn.bel; obtain ⟨b3, c3, rfl, hO3⟩ : ∃ b3 c3 : Nat, v3 = .slice (some ⟨b3, 0, none⟩) 1 c3 ∧ Own enc47 8 47 w3 b3 c3 [⟨0, ⟨⟨5, 0, 5, 0⟩, 0, 2, false⟩⟩] := own_one47 hr3; have hz1 : w3.cell? ⟨b3, 1, none⟩ = some (.int .i64 5) := hO3.at_ enc47_len 0 1 (by decide) (by decide); have hz2 : w3.cell? ⟨b3, 2, none⟩ = some (.int .i64 0) := hO3.at_ enc47_len 0 2 (by decide) (by decide); have hz3 : w3.cell? ⟨b3, 3, none⟩ = some (.int .i64 5) := hO3.at_ enc47_len 0 3 (by decide) (by decide); have hz4 : w3.cell? ⟨b3, 4, none⟩ = some (.int .i64 0) := hO3.at_ enc47_len 0 4 (by decide) (by decide); clear ht htn hr3 hO3)
    | (go_at_fn 20; refine (role_calls HT3.out 0).mono ?_; rintro e w4 ⟨rfl, hb4⟩; have HB4 := Aside0.mk (below_step HB3.out hb4); clear hb4))
  go_ret
  exact ⟨rfl, HB4.out⟩
end Go.Proofs.YtfimhaodgekkgaaDoor.QTre
namespace Go.Proofs.YtfimhaodgekkgaaDoor.QTre
open Go.RowKit Go.Proofs.YtfimhaodgekkgaaDoorW.PrintWords Go.Proofs.YtfimhaodgekkgaaDoorW.PrintLast Go.Proofs.YtfimhaodgekkgaaDoorW.PrintMore
open Go.Proofs.YtfimhaodgekkgaaDoor.Gen (Own Trn)
open Go.Proofs.YtfimhaodgekkgaaDoor.Pri (FitH roles bestOf role brid)
set_option linter.unusedVariables false
set_option linter.unusedSimpArgs false
theorem all_updN {Q : S84 → Prop} {rs : List Int} {now : Int} {P : List S84} {j : Nat} (h : ∀ p ∈ P, Q p) (hq : ∀ r p, Q p → Q (setPort r now p)) : ∀ p ∈ updN rs now P j, Q p := by
  intro p hp
  obtain ⟨k, hk, rfl⟩ := List.mem_iff_getElem.1 hp
  rw [updN_at]
  split
  · exact hq _ _ (h _ (List.getElem_mem _))
  · exact h _ (List.getElem_mem _)
theorem all_set {Q : S84 → Prop} {P : List S84} (h : ∀ p ∈ P, Q p) (k : Nat) (x : S84) (hx : Q x) : ∀ p ∈ P.set k x, Q p := by
  intro p hp
  rcases List.mem_or_eq_of_mem_set hp with h1 | h1
  · exact h p h1
  · subst h1; exact hx
theorem heard_upd (id now : Int) (P : List S84) : (upd id now P).map heardOf = P.map heardOf := by
  apply List.ext_getElem
  · rw [List.length_map, List.length_map, updN_len]
  · intro k h1 h2
    rw [List.getElem_map, List.getElem_map, updN_at]
    split <;> rfl
theorem heard_opn (now : Int) (P : List S84) : (P.map (opnP now)).map heardOf = P.map heardOf := by
  rw [List.map_map]; rfl
theorem bst_upd (id now : Int) (P : List S84) (id2 : Int) : bst id2 (upd id now P) = bst id2 P := by unfold bst; rw [heard_upd]
theorem bst_tick (id now : Int) (P : List S84) : bst id (tickP id now P) = tickB id now P := by
  unfold bst tickP tickB
  rw [heard_opn, heard_upd]
theorem getD_mem {P : List S84} {k : Nat} (h : k < P.length) : P.getD k port0 ∈ P := by rw [getD_lt h]; exact List.getElem_mem h
theorem best_cases (id : Int) : ∀ (l : List S80) (j : Nat) (acc : S36 × Int), Pri.best id j l acc = acc ∨ ∃ k, ∃ h : k < l.length, Pri.best id j l acc = (Pri.thr l[k], ((j + k : Nat) : Int)) ∧ Pri.takes l[k] id = true ∧ l[k].f0.f0 < id
  | [], j, acc => .inl rfl
  | x :: t, j, acc => by
    unfold Pri.best
    rcases best_cases id t (j + 1) (Pri.step id j x acc) with h | ⟨k, hk, h1, h2, h3⟩
    · rw [h]
      unfold Pri.step
      split
      · rename_i hc
        exact .inr ⟨0, by simp, rfl, hc.1, hc.2.1⟩
      · exact .inl rfl
    · refine .inr ⟨k + 1, by simpa using hk, ?_, h2, h3⟩
      rw [h1, show j + 1 + k = j + (k + 1) by omega]
      rfl
theorem bst_cases (id : Int) (P : List S84) : bst id P = (Pri.own id, -1) ∨ ∃ k, ∃ h : k < P.length, bst id P = (Pri.thr (heardOf P[k]), (k : Int)) ∧ Pri.takes (heardOf P[k]) id = true ∧ P[k].f2.f0.f0 < id := by
  rcases best_cases id (P.map heardOf) 0 (Pri.own id, -1) with h | ⟨k, hk, h1, h2, h3⟩
  · exact .inl h
  · rw [List.getElem_map] at h1 h2 h3
    rw [Nat.zero_add] at h1
    exact .inr ⟨k, by simpa using hk, h1, h2, h3⟩
def OkP (c : Int) (p : S84) : Prop := FitP p ∧ 0 ≤ p.f1 ∧ p.f1 ≤ c ∧ 0 ≤ p.f2.f0.f1 ∧ p.f2.f0.f1 ≤ c
structure InvS (c id : Int) (n : Nat) (P : List S84) (best : S36) (root : Int) : Prop where
  len : P.length = n
  ok : ∀ p ∈ P, OkP c p
  bst : bst id P = (best, root)
section
variable {c id now : Int} {n : Nat} {P : List S84} {best : S36} {root : Int}
theorem InvS.fit (h : InvS c id n P best root) : ∀ p ∈ P, FitP p := fun p hp => (h.ok p hp).1
theorem okP_set (h : ∀ p ∈ P, OkP c p) (id now : Int) : ∀ p ∈ upd id now P, OkP c p := all_updN h (fun r p hp => hp)
theorem InvS.upd (hl : P.length = n) (h : ∀ p ∈ P, OkP c p) : InvS c id n (upd id now P) (QTre.bst id P).1 (QTre.bst id P).2 :=
  ⟨by rw [updN_len]; exact hl, okP_set h id now, bst_upd _ _ _ _⟩
theorem InvS.new (hc : 0 ≤ c) : InvS c id n (List.replicate n port0) ⟨id, 0, id, 0⟩ (-1) := by
  refine ⟨List.length_replicate, fun p hp => ?_, ?_⟩
  · rw [List.eq_of_mem_replicate hp]
    exact ⟨⟨fit0, fit0, fit0⟩, Int.le_refl _, hc, Int.le_refl _, hc⟩
  · rcases bst_cases id (List.replicate n port0) with h | ⟨k, hk, h1, h2, h3⟩
    · exact h
    · rw [List.getElem_replicate] at h2
      have : Pri.takes (heardOf port0) id = false := rfl
      rw [this] at h2
      cases h2
theorem InvS.setF (h : InvS c id n P best root) (i : Int) (up : Bool) (cost : Int) (hc : cost ≤ c) : InvS c id n (setF id now P best root i up cost).ports (setF id now P best root i up cost).best (setF id now P best root i up cost).root := by
  unfold QTre.setF
  by_cases hv : (0 ≤ i ∧ i < (P.length : Int)) ∧ ¬ cost < 1 ∧ ¬ 16777216 < cost
  · rw [if_pos hv]
    refine InvS.upd (by rw [List.length_set]; exact h.len) (all_set h.ok _ _ ?_)
    have hp := h.ok _ (getD_mem (P := P) (k := i.toNat) (by omega))
    have hcf : Pri.Fit cost := ⟨by omega, by omega⟩
    unfold setP
    refine ⟨⟨?_, ?_, hcf⟩, by show 0 ≤ cost; omega, hc, ?_, ?_⟩
    all_goals dsimp only
    all_goals split
    · exact fit0
    · exact hp.1.1
    · exact fit0
    · exact hp.1.2.1
    · exact Int.le_refl _
    · exact hp.2.2.2.1
    · show (0 : Int) ≤ c
      have := hp.2.2.2
      omega
    · exact hp.2.2.2.2
  · rw [if_neg hv]; exact h
theorem good_cost {m : S38} (h : goodB m = true) : 0 ≤ m.f0.f1 := by unfold goodB at h; exact (of_decide_eq_true h).2.2.1
theorem InvS.hearF (h : InvS c id n P best root) (i : Int) (m : S38) (hm : FitB m) (hc : m.f0.f1 ≤ c) : InvS c id n (hearF id now P best root i m).ports (hearF id now P best root i m).best (hearF id now P best root i m).root := by
  unfold QTre.hearF
  by_cases hv : (0 ≤ i ∧ i < (P.length : Int)) ∧ goodB m = true ∧ m.f2 = 2
  · rw [if_pos hv]
    split
    · refine InvS.upd (by rw [List.length_set]; exact h.len) (all_set h.ok _ _ ?_)
      have hp := h.ok _ (getD_mem (P := P) (k := i.toNat) (by omega))
      exact ⟨⟨hm.1, hm.2.1, hp.1.2.2⟩, hp.2.1, hp.2.2.1, good_cost hv.2.1, hc⟩
    · exact h
  · rw [if_neg hv]; exact h
theorem fgt_ok (h : ∀ p ∈ P, OkP c p) : ∀ p ∈ tk1 now P, OkP c p := by
  intro p hp
  obtain ⟨q, hq, rfl⟩ := List.mem_map.1 hp
  have := h q hq
  unfold fgtP
  split
  · exact ⟨⟨fit0, fit0, this.1.2.2⟩, this.2.1, this.2.2.1, Int.le_refl _, by show (0 : Int) ≤ c; have := this.2; omega⟩
  · exact this
theorem InvS.tick (h : InvS c id n P best root) : InvS c id n (tickP id now P) (tickB id now P).1 (tickB id now P).2 := by
  refine ⟨by rw [List.length_map, updN_len, List.length_map]; exact h.len, ?_, bst_tick _ _ _⟩
  intro p hp
  obtain ⟨q, hq, rfl⟩ := List.mem_map.1 hp
  exact okP_set (fgt_ok h.ok) id now q hq
theorem InvS.holds (h : InvS c id n P best root) (hid : Pri.Fit id) (hb : brid id = true) (hc : 0 ≤ c) (hc2 : c ≤ 1073741823) :
    (best = ⟨id, 0, id, 0⟩ ∧ root = -1 ∧ ageR P root = 0) ∨ (brid best.f0 = true ∧ Pri.Fit best.f0 ∧ best.f0 < id ∧ 0 ≤ best.f1 ∧ best.f1 ≤ 2147483647 ∧ 0 ≤ root ∧ 1 ≤ ageR P root ∧ ageR P root ≤ 10) := by
  rcases bst_cases id P with e | ⟨k, hk, e, ht, hl⟩
  · rw [h.bst] at e
    injection e with e1 e2
    subst e1 e2
    exact .inl ⟨rfl, rfl, rfl⟩
  · rw [h.bst] at e
    injection e with e1 e2
    subst e1 e2
    have hp := h.ok _ (List.getElem_mem hk)
    unfold Pri.takes at ht
    have ht := of_decide_eq_true ht
    have hs : Pri.sumc P[k].f2.f0.f1 P[k].f1 = P[k].f2.f0.f1 + P[k].f1 := by
      have h1 := hp.2
      unfold Pri.sumc mx
      repeat' split
      all_goals omega
    have ha : ageR P (k : Int) = P[k].f2.f1 + 1 := by
      unfold ageR
      rw [if_neg (by omega), Int.toNat_natCast, getD_lt hk, IntWalk.i64_left]
      have h1 := ht.2.1
      have h2 := ht.2.2.1
      exact IntWalk.wrap64_in _ ⟨by have : (heardOf P[k]).f1 = P[k].f2.f1 := rfl; omega, by have : (heardOf P[k]).f1 = P[k].f2.f1 := rfl; omega⟩
    refine .inr ⟨ht.2.2.2.1, hp.1.1, hl, ?_, ?_, by omega, ?_, ?_⟩
    · show 0 ≤ Pri.sumc P[k].f2.f0.f1 P[k].f1
      rw [hs]; have := hp.2; omega
    · show Pri.sumc P[k].f2.f0.f1 P[k].f1 ≤ 2147483647
      rw [hs]; have := hp.2; omega
    · rw [ha]; have : 0 ≤ P[k].f2.f1 := ht.2.1; omega
    · rw [ha]; have : P[k].f2.f1 < 10 := ht.2.2.1; omega
end
end Go.Proofs.YtfimhaodgekkgaaDoor.QTre
namespace Go.Proofs.YtfimhaodgekkgaaDoor.QTre
open Go.RowKit Go.Proofs.YtfimhaodgekkgaaDoorW.PrintWords Go.Proofs.YtfimhaodgekkgaaDoorW.PrintLast Go.Proofs.YtfimhaodgekkgaaDoorW.PrintMore
open Go.Proofs.YtfimhaodgekkgaaDoor.Gen (Own Trn)
open Go.Proofs.YtfimhaodgekkgaaDoor.Pri (FitH roles bestOf role brid conv)
set_option linter.unusedVariables false
set_option linter.unusedSimpArgs false
def enc103 (x : S103) : List Value := [.int .i64 x.f0, .int .i64 x.f1]
theorem R103 {w : World} {base : Nat} {ok : Nat → Prop} {v : Value} {xs : List S103} (h : Kd.R k103 103 w base ok v xs) : (v = .slice none 0 0 ∧ xs = []) ∨ ∃ b cap, v = .slice (some ⟨b, 0, none⟩) xs.length cap ∧ ok b ∧ base ≤ b ∧ cap ≤ maxLen ∧ Own enc103 2 103 w b cap xs :=
  Gen.Own.ofR (enc := enc103) (k := 2) (fun _ => rfl) rfl (fun w base ok x cs h => k103_openM h) h
theorem R103_lt {w : World} {base : Nat} {ok : Nat → Prop} {v : Value} {xs : List S103} (h : Kd.R k103 103 w base ok v xs) {q : Nat} (hq : v.ownBlock = some q) : q < w.heap.size ∧ base ≤ q := by
  rcases R103 h with ⟨rfl, _⟩ | ⟨b, cap, rfl, _, hb, _, ho⟩
  · cases hq
  · have e : b = q := by simpa [Value.ownBlock] using hq
    subst e
    exact ⟨ho.lt, hb⟩
theorem R103_base {w : World} {base base2 : Nat} {ok : Nat → Prop} {v : Value} {xs : List S103} (h : Kd.R k103 103 w base ok v xs) (hl : base2 ≤ base) : Kd.R k103 103 w base2 ok v xs := by
  rcases R103 h with ⟨rfl, rfl⟩ | ⟨b, cap, rfl, ho, hb, hm, hO⟩
  · exact Kd.R_nil _ _ _ _ _
  · exact hO.toR (d := k103) (fun _ => rfl) rfl (fun w base ok x => k103_mkM w base ok x) (Nat.le_trans hl hb) ho hm
structure RQ where
  up : Bool
  cost : Int
  heard : S80
  at_ : Int
  turns : List S103
structure RP where
  q : RQ
  v : Value
def encR (x : RP) : List Value := [.bool x.q.up, .int .i64 x.q.cost, .int .i64 x.q.heard.f0.f0, .int .i64 x.q.heard.f0.f1, .int .i64 x.q.heard.f0.f2, .int .i64 x.q.heard.f0.f3, .int .i64 x.q.heard.f1, .int .i64 x.q.heard.f2, .bool x.q.heard.f3, .int .i64 x.q.at_, x.v]
theorem encR_len (x : RP) : (encR x).length = 11 := rfl
def encO (x : Bool) : List Value := [.bool x]
abbrev okT (g b ob : Nat) : Nat → Prop := fun q => q ≠ g ∧ q ≠ b ∧ q ≠ ob
structure RTre (w : World) (base g b cap ob ocap : Nat) (id : Int) (P : List RP) (change : Int) (opens : List Bool) : Prop where
  cell : w.heap[g]? = some (.cells #[.int .i64 id, .slice (some ⟨b, 0, none⟩) P.length cap, .int .i64 change, .slice (some ⟨ob, 0, none⟩) opens.length ocap] 57 (0, 0))
  row : Own encR 11 62 w b cap P
  opn : Own encO 1 4 w ob ocap opens
  turns : ∀ (k : Nat) (h : k < P.length), Kd.R k103 103 w base (okT g b ob) P[k].v P[k].q.turns
  apart : ∀ (i j : Nat) (hi : i < P.length) (hj : j < P.length), i ≠ j → ∀ q, P[i].v.ownBlock = some q → P[j].v.ownBlock ≠ some q
  ne1 : g ≠ b
  ne2 : g ≠ ob
  ne3 : b ≠ ob
  low : base ≤ g
  lowb : base ≤ b
  lowo : base ≤ ob
  cap_le : cap ≤ maxLen
def RF (g b ob : Nat) (P : List RP) : Nat → Prop := fun q => q = g ∨ q = b ∨ q = ob ∨ ∃ (k : Nat) (h : k < P.length), P[k].v.ownBlock = some q
section
variable {w W : World} {base g b cap ob ocap : Nat} {id change : Int} {P : List RP} {opens : List Bool} {S : Nat → Prop}
theorem RTre.kept (h : RTre w base g b cap ob ocap id P change opens) (hk : Kept w W S) (hn : ∀ q, RF g b ob P q → ¬ S q) : RTre W base g b cap ob ocap id P change opens :=
  ⟨blk_kept h.cell hk (hn g (.inl rfl)), h.row.kept hk (hn b (.inr (.inl rfl))), h.opn.kept hk (hn ob (.inr (.inr (.inl rfl)))), fun k hk2 => Gen.R_kept rfl (h.turns k hk2) hk (fun q hq => hn q (.inr (.inr (.inr ⟨k, hk2, hq⟩)))), h.apart, h.ne1, h.ne2, h.ne3, h.low, h.lowb, h.lowo, h.cap_le⟩
theorem RTre.below (h : RTre w base g b cap ob ocap id P change opens) (hb : Below w.heap.size w W) : RTre W base g b cap ob ocap id P change opens := h.kept (Kept.of_below hb (fun _ => False)) (fun _ _ h => h)
theorem RTre.lt (h : RTre w base g b cap ob ocap id P change opens) : ∀ q, RF g b ob P q → q < w.heap.size := by
  rintro q (rfl | rfl | rfl | ⟨k, hk, e⟩)
  · exact blk_lt h.cell
  · exact h.row.lt
  · exact h.opn.lt
  · exact (R103_lt (h.turns k hk) e).1
theorem RTre.low_all (h : RTre w base g b cap ob ocap id P change opens) : ∀ q, RF g b ob P q → base ≤ q := by
  rintro q (rfl | rfl | rfl | ⟨k, hk, e⟩)
  · exact h.low
  · exact h.lowb
  · exact h.lowo
  · exact (R103_lt (h.turns k hk) e).2
theorem RTre.lower {base2 : Nat} (h : RTre w base g b cap ob ocap id P change opens) (hl : base2 ≤ base) : RTre w base2 g b cap ob ocap id P change opens :=
  ⟨h.cell, h.row, h.opn, fun k hk => R103_base (h.turns k hk) hl, h.apart, h.ne1, h.ne2, h.ne3, Nat.le_trans hl h.low, Nat.le_trans hl h.lowb, Nat.le_trans hl h.lowo, h.cap_le⟩
end
theorem Trn.grow {base : Nat} {w0 w W W2 : World} {F F' F2 : Nat → Prop} {row : Option Nat} (a : Trn base w0 w F F' W) (hs : base ≤ w.heap.size) (hg : W.grownBy W2 row) (hr : ∀ q, row = some q → F' q ∧ base ≤ q) (h2 : ∀ q, F2 q → F' q ∨ W.heap.size ≤ q) : Trn base w0 w F F2 W2 :=
  ⟨Below.grown a.bel hg (Nat.le_trans hs a.kept.1) (fun q hq => (hr q hq).2), ⟨Nat.le_trans a.kept.1 hg.size, fun q hq hn => by
    have h1 : some q ≠ row := fun e => by
      rcases a.own q (hr q e.symm).1 with h | h
      · exact hn h
      · omega
    exact (hg.block q (Nat.lt_of_lt_of_le hq a.kept.1) h1).trans (a.kept.2 q hq hn)⟩, fun q hq => by
    rcases h2 q hq with h | h
    · exact a.own q h
    · exact .inr (Nat.le_trans a.kept.1 h)⟩
theorem Trn.weak {base : Nat} {w0 w W : World} {F F' F2 : Nat → Prop} (a : Trn base w0 w F F' W) (h : ∀ q, F2 q → F' q) : Trn base w0 w F F2 W := ⟨a.bel, a.kept, fun q hq => a.own q (h q hq)⟩
structure RCells (w : World) (b q : Nat) (x : RP) : Prop where
  c0 : w.cell? ⟨b, q, none⟩ = some (.bool x.q.up)
  c1 : w.cell? ⟨b, q + 1, none⟩ = some (.int .i64 x.q.cost)
  c2 : w.cell? ⟨b, q + 2, none⟩ = some (.int .i64 x.q.heard.f0.f0)
  c3 : w.cell? ⟨b, q + 3, none⟩ = some (.int .i64 x.q.heard.f0.f1)
  c4 : w.cell? ⟨b, q + 4, none⟩ = some (.int .i64 x.q.heard.f0.f2)
  c5 : w.cell? ⟨b, q + 5, none⟩ = some (.int .i64 x.q.heard.f0.f3)
  c6 : w.cell? ⟨b, q + 6, none⟩ = some (.int .i64 x.q.heard.f1)
  c7 : w.cell? ⟨b, q + 7, none⟩ = some (.int .i64 x.q.heard.f2)
  c8 : w.cell? ⟨b, q + 8, none⟩ = some (.bool x.q.heard.f3)
  c9 : w.cell? ⟨b, q + 9, none⟩ = some (.int .i64 x.q.at_)
  c10 : w.cell? ⟨b, q + 10, none⟩ = some x.v
theorem rcells {w : World} {b cap : Nat} {xs : List RP} (h : Own encR 11 62 w b cap xs) (i : Nat) (hi : i < xs.length) : RCells w b (i * 11) xs[i] := by
  have k := fun j hj => h.at_ encR_len i j hi hj
  exact ⟨k 0 (by decide), k 1 (by decide), k 2 (by decide), k 3 (by decide), k 4 (by decide), k 5 (by decide), k 6 (by decide), k 7 (by decide), k 8 (by decide), k 9 (by decide), k 10 (by decide)⟩
section
variable {w W W2 : World} {base g b cap ob ocap : Nat} {id change : Int} {P : List RP} {opens : List Bool}
theorem RTre.put (h : RTre w base g b cap ob ocap id P change opens) {k : Nat} (hk : k < P.length) (j : Nat) (hj : j < 11) (y : RP) (v : Value) (e : encR y = (encR P[k]).set j v) (hv : y.v = P[k].v) (ht : y.q.turns = P[k].q.turns) :
    RTre (w.setCell ⟨b, k * 11 + j, none⟩ v) base g b cap ob ocap id (P.set k y) change opens := by
  have hK := Gen.kept_set w b (k * 11 + j) v
  have gv : ∀ (i : Nat) (hi : i < (P.set k y).length), (P.set k y)[i].v = (P[i]'(by rw [List.length_set] at hi; exact hi)).v := by
    intro i hi
    rw [List.getElem_set]
    split
    · rename_i e2; subst e2; exact hv
    · rfl
  refine ⟨?_, h.row.put encR_len k j hk hj y v e, h.opn.kept hK (fun e => h.ne3 e.symm), ?_, ?_, h.ne1, h.ne2, h.ne3, h.low, h.lowb, h.lowo, h.cap_le⟩
  · rw [List.length_set]; exact blk_kept h.cell hK h.ne1
  · intro i hi
    have hi2 : i < P.length := by rw [List.length_set] at hi; exact hi
    have hr := Gen.R_kept rfl (h.turns i hi2) hK (fun q hq e => ((h.turns i hi2).1 q hq).2.1 e)
    rw [gv i hi]
    rw [List.getElem_set]
    split
    · rename_i e2; subst e2; rw [ht]; exact hr
    · exact hr
  · intro i j hi hj hne q hq
    rw [gv] at hq ⊢
    exact h.apart i j _ _ hne q hq
theorem RTre.chg (h : RTre w base g b cap ob ocap id P change opens) (c : Int) : RTre (w.setCell ⟨g, 2, none⟩ (.int .i64 c)) base g b cap ob ocap id P c opens := by
  have hK := Gen.kept_set w g 2 (.int .i64 c)
  exact ⟨blk_put h.cell 2 _ rfl, h.row.kept hK (fun e => h.ne1 e.symm), h.opn.kept hK (fun e => h.ne2 e.symm), fun i hi => Gen.R_kept rfl (h.turns i hi) hK (fun q hq e => ((h.turns i hi).1 q hq).1 e), h.apart, h.ne1, h.ne2, h.ne3, h.low, h.lowb, h.lowo, h.cap_le⟩
theorem RTre.open_ (h : RTre w base g b cap ob ocap id P change opens) (k : Nat) (hk : k < opens.length) (x : Bool) : RTre (w.setCell ⟨ob, k, none⟩ (.bool x)) base g b cap ob ocap id P change (opens.set k x) := by
  have hK := Gen.kept_set w ob k (.bool x)
  have ho := h.opn.put (fun _ => rfl) k 0 hk (by decide) x (.bool x) rfl
  rw [Nat.mul_one, Nat.add_zero] at ho
  refine ⟨?_, h.row.kept hK h.ne3, ho, fun i hi => Gen.R_kept rfl (h.turns i hi) hK (fun q hq e => ((h.turns i hi).1 q hq).2.2 e), h.apart, h.ne1, h.ne2, h.ne3, h.low, h.lowb, h.lowo, h.cap_le⟩
  rw [List.length_set]; exact blk_kept h.cell hK h.ne2
theorem RTre.turn (h : RTre w base g b cap ob ocap id P change opens) {k : Nat} (hk : k < P.length) (hg : w.grownBy W P[k].v.ownBlock) (v : Value) (T : List S103) (hr : Kd.R k103 103 W base (fun q => some q = P[k].v.ownBlock ∨ w.heap.size ≤ q) v T) :
    RTre (W.setCell ⟨b, k * 11 + 10, none⟩ v) base g b cap ob ocap id (P.set k ⟨⟨P[k].q.up, P[k].q.cost, P[k].q.heard, P[k].q.at_, T⟩, v⟩) change opens := by
  have hok := h.turns k hk
  have hKw : Kept w W (fun q => some q = P[k].v.ownBlock) := ⟨hg.size, fun q hq hn => hg.block q hq hn⟩
  have hK := Gen.kept_set W b (k * 11 + 10) v
  have nb : ∀ q, some q = P[k].v.ownBlock → okT g b ob q := fun q hq => hok.1 q hq.symm
  have nG : ¬ some g = P[k].v.ownBlock := fun e => (nb g e).1 rfl
  have nB : ¬ some b = P[k].v.ownBlock := fun e => (nb b e).2.1 rfl
  have nO : ¬ some ob = P[k].v.ownBlock := fun e => (nb ob e).2.2 rfl
  have lt := h.lt
  have own : ∀ q, v.ownBlock = some q → okT g b ob q := by
    intro q hq
    rcases hr.1 q hq with e | e
    · exact nb q e
    · have h1 := lt g (.inl rfl); have h2 := lt b (.inr (.inl rfl)); have h3 := lt ob (.inr (.inr (.inl rfl)))
      exact ⟨by omega, by omega, by omega⟩
  have gv : ∀ (i : Nat) (hi : i < P.length), i ≠ k → (P.set k ⟨⟨P[k].q.up, P[k].q.cost, P[k].q.heard, P[k].q.at_, T⟩, v⟩)[i]'(by rw [List.length_set]; exact hi) = P[i] := fun i hi hne => by
    rw [List.getElem_set, if_neg (fun e => hne e.symm)]
  have gk : (P.set k ⟨⟨P[k].q.up, P[k].q.cost, P[k].q.heard, P[k].q.at_, T⟩, v⟩)[k]'(by rw [List.length_set]; exact hk) = ⟨⟨P[k].q.up, P[k].q.cost, P[k].q.heard, P[k].q.at_, T⟩, v⟩ := by rw [List.getElem_set_self]
  have far : ∀ (i : Nat) (hi : i < P.length), i ≠ k → ∀ q, P[i].v.ownBlock = some q → v.ownBlock ≠ some q := by
    intro i hi hne q hq e
    rcases hr.1 q e with h1 | h1
    · exact h.apart i k hi hk hne q hq h1.symm
    · have := lt q (.inr (.inr (.inr ⟨i, hi, hq⟩))); omega
  refine ⟨?_, (h.row.kept hKw nB).put encR_len k 10 hk (by decide) ⟨⟨P[k].q.up, P[k].q.cost, P[k].q.heard, P[k].q.at_, T⟩, v⟩ v rfl, (h.opn.kept hKw nO).kept hK (fun e => h.ne3 e.symm), ?_, ?_, h.ne1, h.ne2, h.ne3, h.low, h.lowb, h.lowo, h.cap_le⟩
  · rw [List.length_set]; exact blk_kept (blk_kept h.cell hKw nG) hK h.ne1
  · intro i hi
    have hi2 : i < P.length := by rw [List.length_set] at hi; exact hi
    by_cases e : i = k
    · subst e
      rw [gk]
      exact Gen.R_kept rfl (Gen.R_kept (S := fun _ => False) rfl (Kd.R_reok rfl hr own) (Kept.refl _ _) (fun _ _ h => h)) hK (fun q hq e => (own q hq).2.1 e)
    · rw [gv i hi2 e]
      exact Gen.R_kept rfl (Gen.R_kept rfl (h.turns i hi2) hKw (fun q hq e2 => h.apart i k hi2 hk e q hq e2.symm)) hK (fun q hq e2 => ((h.turns i hi2).1 q hq).2.1 e2)
  · intro i j hi hj hne q hq
    have hi2 : i < P.length := by rw [List.length_set] at hi; exact hi
    have hj2 : j < P.length := by rw [List.length_set] at hj; exact hj
    by_cases e : i = k
    · subst e
      rw [gk] at hq
      rw [gv j hj2 (fun e => hne e.symm)]
      exact fun e2 => far j hj2 (fun e => hne e.symm) q e2 hq
    · rw [gv i hi2 e] at hq
      by_cases e3 : j = k
      · subst e3
        rw [gk]
        exact far i hi2 e q hq
      · rw [gv j hj2 e3]
        exact h.apart i j hi2 hj2 hne q hq
theorem RF_turn {k : Nat} (hk : k < P.length) {v : Value} {x : RQ} (hv : ∀ q, v.ownBlock = some q → some q = P[k].v.ownBlock ∨ w.heap.size ≤ q) : ∀ q, RF g b ob (P.set k ⟨x, v⟩) q → RF g b ob P q ∨ w.heap.size ≤ q := by
  rintro q (rfl | rfl | rfl | ⟨i, hi, e⟩)
  · exact .inl (.inl rfl)
  · exact .inl (.inr (.inl rfl))
  · exact .inl (.inr (.inr (.inl rfl)))
  · have hi2 : i < P.length := by rw [List.length_set] at hi; exact hi
    rw [List.getElem_set] at e
    split at e
    · rcases hv q e with h | h
      · exact .inl (.inr (.inr (.inr ⟨k, hk, h.symm⟩)))
      · exact .inr h
    · exact .inl (.inr (.inr (.inr ⟨i, hi2, e⟩)))
theorem RF_put {k : Nat} (hk : k < P.length) {y : RP} (hv : y.v = P[k].v) : ∀ q, RF g b ob (P.set k y) q → RF g b ob P q := by
  rintro q (rfl | rfl | rfl | ⟨i, hi, e⟩)
  · exact .inl rfl
  · exact .inr (.inl rfl)
  · exact .inr (.inr (.inl rfl))
  · have hi2 : i < P.length := by rw [List.length_set] at hi; exact hi
    rw [List.getElem_set] at e
    split at e
    · rw [hv] at e; exact .inr (.inr (.inr ⟨k, hk, e⟩))
    · exact .inr (.inr (.inr ⟨i, hi2, e⟩))
end
end Go.Proofs.YtfimhaodgekkgaaDoor.QTre
