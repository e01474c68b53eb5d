/- Functions of the program as plain Lean functions, what their calls do, and what follows of it. Conditions: each theorem's own. -/
import Derived.Test.YtfimhaodgekkgaaDoorCTreeForgets2
namespace Go.Proofs.YtfimhaodgekkgaaDoor.QTre
open Go.RowKit Go.Proofs.YtfimhaodgekkgaaDoorW.PrintWords Go.Proofs.YtfimhaodgekkgaaDoorW.PrintLast Go.Proofs.YtfimhaodgekkgaaDoorW.PrintMore
attribute [local go_sem] max2_int min2_int max_two min_two max_three min_three max_four min_four
set_option linter.unusedVariables false
set_option linter.unusedSimpArgs false
def kissgateref10_Best.l0 : Nat → Int → Int → List (S59) → Int → Int → Int → Int → Int → Int → Option (Int × Int × Int × Int × Int)
  | 0, _, _, _, _, _, _, _, _, _ => none
  | k + 1, x0, x7, x14, x15, x16, x284000, x284001, x284002, x284003 => if x16 < x15 then (if 0 ≤ x16 then (if x16 < (x14.length : Int) then ((kissgateref10_Sum.f ((rd_T59 x14 x16).f0.f1) ((rd_T59 x14 x16).f2)).bind fun t286 => ((kissgateref10_Use.f ((rd_T59 x14 x16).f0.f0) ((rd_T59 x14 x16).f0.f1) ((rd_T59 x14 x16).f0.f2) ((rd_T59 x14 x16).f0.f3) ((rd_T59 x14 x16).f1) ((rd_T59 x14 x16).f2) ((rd_T59 x14 x16).f3) x0).bind fun t288 => (if t288 = true then (if ((rd_T59 x14 x16).f0.f0) < x0 then ((kissgateref10_Better.f ((rd_T59 x14 x16).f0.f0) t286 ((rd_T59 x14 x16).f0.f2) ((rd_T59 x14 x16).f0.f3) x284000 x284001 x284002 x284003).bind fun t289 => (if t289 = true then (kissgateref10_Best.l0 k x0 x16 x14 x15 (wrap64 (x16 + 1)) ((rd_T59 x14 x16).f0.f0) t286 ((rd_T59 x14 x16).f0.f2) ((rd_T59 x14 x16).f0.f3)) else (kissgateref10_Best.l0 k x0 x7 x14 x15 (wrap64 (x16 + 1)) x284000 x284001 x284002 x284003))) else (kissgateref10_Best.l0 k x0 x7 x14 x15 (wrap64 (x16 + 1)) x284000 x284001 x284002 x284003)) else (kissgateref10_Best.l0 k x0 x7 x14 x15 (wrap64 (x16 + 1)) x284000 x284001 x284002 x284003)))) else (none)) else (none)) else (some (x284000, x284001, x284002, x284003, x7))
def kissgateref10_Best.f (k : Nat) (a0 : Int) (l1 : List (S59)) : Option (Int × Int × Int × Int × Int) := kissgateref10_Best.l0 k a0 (-1) l1 (l1.length : Int) 0 a0 0 a0 0
def kissgateref10_Best.T6 : Bool × List (List Nat × List Nat) := (true, [([], []), ([0], [0]), ([1], [1]), ([], []), ([3], [3]), ([4], [4]), ([], []), ([6], [6]), ([5, 7], [5, 7]), ([], []), ([9], [9]), ([10], [10]), ([], []), ([12], [12]), ([13], [13]), ([2, 8, 11, 14], [2, 8, 11, 14]), ([], []), ([16, 15, 8, 0, 1, 2, 3, 4, 5, 6, 7, 8, 9, 10, 11, 12, 13, 14, 15, 16], [15, 16])])
def kissgateref10_Best.B6 : List Nat := [0, 1, 3, 0, 8, 24, 0, 64, 248, 0, 512, 1536, 0, 4096, 12288, 32767, 0, 131071]
theorem kissgateref10_Best.tab6 : rtab .any (opsOf Tryd.f56 6) = kissgateref10_Best.T6 := by kernel_rfl
theorem kissgateref10_Best.bits6 : waitsOk kissgateref10_Best.T6.2 kissgateref10_Best.B6 = true := by kernel_rfl
set_option maxHeartbeats 8000000 in
set_option maxRecDepth 100000 in
theorem kissgateref10_Best.calls (k : Nat) (a0 : Int) (A1 : Option Addr) (c1 : Nat) (l1 : List (S59)) (r1 : Int) (r2 : Int) (r3 : Int) (r4 : Int) (r5 : Int) (w : World) (hr1 : Kd.C k59 w A1 l1.length l1) (hc1 : l1.length ≤ c1) (h : kissgateref10_Best.f k a0 l1 = some (r1, r2, r3, r4, r5)) :
    Calls Tryd.prog 56 #[.int .i64 a0, .slice A1 l1.length c1] w fun e w' => e = .returned (.tuple #[.agg #[.int .i64 r1, .int .i64 r2, .int .i64 r3, .int .i64 r4], .int .i64 r5]) ∧ Below w.heap.size w w' := by
  have hu36 := Tryd.underlying36
  have hu59 := Tryd.underlying59
  have HR1 := Aside0.mk hr1
  have HC1 := Aside0.mk hc1
  clear hr1 hc1
  have HB := Aside0.mk (Below.refl w.heap.size w)
  have H : (kissgateref10_Best.l0 k a0 (-1) l1 (l1.length : Int) 0 a0 0 a0 0) = some (r1, r2, r3, r4, r5) := h
  clear h
  have H' := Aside0.mk H
  clear H
  go_enter Tryd.func56, Tryd.ntmps56
  go_wp2_with (first | ((with_reducible refine gate_dst (N := 4) rfl ?_); refine box_event ?hg (N := 4) ?hd (cs := #[.int .i64 0, .int .i64 0, .int .i64 0, .int .i64 0]) (t := 36) ?hr ?_; (case hd => rfl); (case hg => rfl); (case hr => first | (go_simp; done) | (go_simp; rfl)); intro gb282 hg w3 hbox hb; have n0_ := Aside0.mk (below_step (by repeat (first | (with_reducible first | exact HB.out | apply below_alloc | apply pw_below_drewN | apply below_drew1) | exact HB.out)) hb); have n1_ := Aside0.mk (hbox); have n2_ := Aside0.mk ((by rw [hg]; exact (below_size (by repeat (first | (with_reducible first | exact HB.out | apply below_alloc | apply pw_below_drewN | apply below_drew1) | exact HB.out))) : w.heap.size ≤ gb282)); have n3_ := Aside0.mk ((by rw [hg]; exact (below_size (by repeat (first | (with_reducible first | exact HB.out | apply below_alloc | apply pw_below_drewN | apply below_drew1) | exact HB.out))) : w.heap.size ≤ gb282)); clear HB; have HB := n0_; have BK282 := n1_; have GW282 := n2_; have GE282 := n3_; clear n0_ n1_ n2_ n3_; clear hb hbox hg) | ((with_reducible refine gate_dst (N := 6) rfl ?_); refine box_event ?hg (N := 6) ?hd (cs := #[.int .i64 0, .int .i64 0, .int .i64 0, .int .i64 0]) (t := 36) ?hr ?_; (case hd => rfl); (case hg => rfl); (case hr => first | (go_simp; done) | (go_simp; rfl)); intro gb283 hg w4 hbox hb; have n0_ := Aside0.mk (blk_below (g := gb282) (o := .cells #[.int .i64 0, .int .i64 0, .int .i64 0, .int .i64 0] 36 (0, 0)) (by (with_reducible repeat (first | refine blk_drewN ?_ _ | refine blk_drew ?_ | refine blk_alloc ?_ _)); exact BK282.out) hb); have n1_ := Aside0.mk (below_step (by repeat (first | (with_reducible first | exact HB.out | apply below_alloc | apply pw_below_drewN | apply below_drew1 | refine below_set ?_ GE282.out) | exact HB.out)) hb); have n2_ := Aside0.mk (hbox); have n3_ := Aside0.mk ((by rw [hg]; exact (below_size (by repeat (first | (with_reducible first | exact HB.out | apply below_alloc | apply pw_below_drewN | apply below_drew1 | refine below_set ?_ GE282.out) | exact HB.out))) : w.heap.size ≤ gb283)); have n4_ := Aside0.mk ((by rw [hg]; exact (below_size (by repeat (first | (with_reducible first | exact HB.out | apply below_alloc | apply pw_below_drewN | apply below_drew1 | refine below_set ?_ GE282.out) | exact HB.out))) : w.heap.size ≤ gb283)); have n5_ := Aside0.mk ((by rw [hg]; exact Nat.ne_of_lt (blk_lt (g := gb282) (o := .cells #[.int .i64 0, .int .i64 0, .int .i64 0, .int .i64 0] 36 (0, 0)) (by (with_reducible repeat (first | refine blk_drewN ?_ _ | refine blk_drew ?_ | refine blk_alloc ?_ _)); exact BK282.out)) : gb282 ≠ gb283)); have n6_ := Aside0.mk ((by rw [hg]; exact Nat.ne_of_gt (blk_lt (g := gb282) (o := .cells #[.int .i64 0, .int .i64 0, .int .i64 0, .int .i64 0] 36 (0, 0)) (by (with_reducible repeat (first | refine blk_drewN ?_ _ | refine blk_drew ?_ | refine blk_alloc ?_ _)); exact BK282.out)) : gb283 ≠ gb282)); clear BK282; clear HB; have BK282 := n0_; have HB := n1_; have BK283 := n2_; have GW283 := n3_; have GE283 := n4_; have NB282_283 := n5_; have NB283_282 := n6_; clear n0_ n1_ n2_ n3_ n4_ n5_ n6_; clear hb hbox hg; have hnb5 := NB283_282.out; have hnc5 := NB282_283.out; have hcz6_0 : w4.cell? ⟨gb283, 0, none⟩ = some (.int .i64 0) := (blk_cell BK283.out 0).trans rfl; have hcz6_1 : w4.cell? ⟨gb283, 1, none⟩ = some (.int .i64 0) := (blk_cell BK283.out 1).trans rfl; have hcz6_2 : w4.cell? ⟨gb283, 2, none⟩ = some (.int .i64 0) := (blk_cell BK283.out 2).trans rfl; have hcz6_3 : w4.cell? ⟨gb283, 3, none⟩ = some (.int .i64 0) := (blk_cell BK283.out 3).trans rfl; have hfz6_0 := blk_frozen BK283.out 0; have hfz6_1 := blk_frozen BK283.out 1; have hfz6_2 := blk_frozen BK283.out 2; have hfz6_3 := blk_frozen BK283.out 3))
  go_loopg [7, 16] k (fun kq v7 v16 w' => ∃ (x7_1 : Int) (x16_1 : Int) (x284000_1 : Int) (x284001_1 : Int) (x284002_1 : Int) (x284003_1 : Int), v7 = .int .i64 x7_1 ∧ v16 = .int .i64 x16_1 ∧ Aside0 (kissgateref10_Best.l0 kq a0 x7_1 l1 (l1.length : Int) x16_1 x284000_1 x284001_1 x284002_1 x284003_1 = some (r1, r2, r3, r4, r5)) ∧ Aside0 (kq ≤ k) ∧ Aside0 (w'.heap[gb282]? = some (.cells #[.int .i64 0, .int .i64 0, .int .i64 0, .int .i64 0] 36 (0, 0))) ∧ Aside0 (w'.heap[gb283]? = some (.cells #[.int .i64 x284000_1, .int .i64 x284001_1, .int .i64 x284002_1, .int .i64 x284003_1] 36 (0, 0))) ∧ Aside0 (Below w.heap.size w w'))
  case atStart => exact ⟨((-1)), (0), (a0), (0), (a0), (0), (by first | rfl | (simp; done) | (simp [*]; done)), (by first | rfl | (simp; done) | (simp [*]; done)), H', ⟨Nat.le_refl _⟩, ⟨by (with_reducible repeat (first | refine blk_drewN ?_ _ | refine blk_drew ?_ | refine blk_alloc ?_ _)); refine blk_far ?_ NB282_283.out _; (with_reducible repeat (first | refine blk_drewN ?_ _ | refine blk_drew ?_ | refine blk_alloc ?_ _)); refine blk_far ?_ NB282_283.out _; (with_reducible repeat (first | refine blk_drewN ?_ _ | refine blk_drew ?_ | refine blk_alloc ?_ _)); refine blk_far ?_ NB282_283.out _; (with_reducible repeat (first | refine blk_drewN ?_ _ | refine blk_drew ?_ | refine blk_alloc ?_ _)); refine blk_far ?_ NB282_283.out _; (with_reducible repeat (first | refine blk_drewN ?_ _ | refine blk_drew ?_ | refine blk_alloc ?_ _)); exact BK282.out⟩, ⟨by (with_reducible repeat (first | refine blk_drewN ?_ _ | refine blk_drew ?_ | refine blk_alloc ?_ _)); refine blk_put (cs := #[.int .i64 a0, .int .i64 0, .int .i64 a0, .int .i64 0]) ?_ 3 _ rfl; (with_reducible repeat (first | refine blk_drewN ?_ _ | refine blk_drew ?_ | refine blk_alloc ?_ _)); refine blk_put (cs := #[.int .i64 a0, .int .i64 0, .int .i64 0, .int .i64 0]) ?_ 2 _ rfl; (with_reducible repeat (first | refine blk_drewN ?_ _ | refine blk_drew ?_ | refine blk_alloc ?_ _)); refine blk_put (cs := #[.int .i64 a0, .int .i64 0, .int .i64 0, .int .i64 0]) ?_ 1 _ rfl; (with_reducible repeat (first | refine blk_drewN ?_ _ | refine blk_drew ?_ | refine blk_alloc ?_ _)); refine blk_put (cs := #[.int .i64 0, .int .i64 0, .int .i64 0, .int .i64 0]) ?_ 0 _ rfl; (with_reducible repeat (first | refine blk_drewN ?_ _ | refine blk_drew ?_ | refine blk_alloc ?_ _)); exact BK283.out⟩, ⟨by repeat (first | (with_reducible first | exact HB.out | apply below_alloc | apply pw_below_drewN | apply below_drew1 | refine below_set ?_ GE282.out | refine below_set ?_ GE283.out) | exact HB.out)⟩⟩
  case round =>
    clear H'
    try clear c1
    try clear p2
    try clear c5
    try clear hcz6_0
    try clear hcz6_1
    try clear hcz6_2
    try clear hcz6_3
    try clear hfz6_0
    try clear hfz6_1
    try clear hfz6_2
    try clear hfz6_3
    obtain ⟨x7_1, x16_1, x284000_1, x284001_1, x284002_1, x284003_1, rfl, rfl, HA, HK1, BK282, BK283, HB⟩ := hrel
    cases gk with
    | zero => exact absurd HA.out (by simp [kissgateref10_Best.l0])
    | succ k1 =>
      have H := HA.out
      clear HA
      simp only [kissgateref10_Best.l0] at H
      by_cases c7 : x16_1 < (l1.length : Int)
      · rw [if_pos c7] at H
        have c7b0 : decide (x16_1 < (l1.length : Int)) = true := decide_eq_true c7
        clear c7
        by_cases c8 : 0 ≤ x16_1
        · rw [if_pos c8] at H
          have c8b0 : decide (0 ≤ x16_1) = true := decide_eq_true c8
          clear c8
          by_cases c9 : x16_1 < (l1.length : Int)
          · rw [if_pos c9] at H
            have c9b0 : decide (x16_1 < (l1.length : Int)) = true := decide_eq_true c9
            clear c9
            replace H := Option.bind_eq_some_iff.mp H
            obtain ⟨t286, A100, H⟩ := H
            replace H : ((kissgateref10_Use.f ((rd_T59 l1 x16_1).f0.f0) ((rd_T59 l1 x16_1).f0.f1) ((rd_T59 l1 x16_1).f0.f2) ((rd_T59 l1 x16_1).f0.f3) ((rd_T59 l1 x16_1).f1) ((rd_T59 l1 x16_1).f2) ((rd_T59 l1 x16_1).f3) a0).bind fun t288 => (if t288 = true then (if ((rd_T59 l1 x16_1).f0.f0) < a0 then ((kissgateref10_Better.f ((rd_T59 l1 x16_1).f0.f0) t286 ((rd_T59 l1 x16_1).f0.f2) ((rd_T59 l1 x16_1).f0.f3) x284000_1 x284001_1 x284002_1 x284003_1).bind fun t289 => (if t289 = true then (kissgateref10_Best.l0 k1 a0 x16_1 l1 (l1.length : Int) (wrap64 (x16_1 + 1)) ((rd_T59 l1 x16_1).f0.f0) t286 ((rd_T59 l1 x16_1).f0.f2) ((rd_T59 l1 x16_1).f0.f3)) else (kissgateref10_Best.l0 k1 a0 x7_1 l1 (l1.length : Int) (wrap64 (x16_1 + 1)) x284000_1 x284001_1 x284002_1 x284003_1))) else (kissgateref10_Best.l0 k1 a0 x7_1 l1 (l1.length : Int) (wrap64 (x16_1 + 1)) x284000_1 x284001_1 x284002_1 x284003_1)) else (kissgateref10_Best.l0 k1 a0 x7_1 l1 (l1.length : Int) (wrap64 (x16_1 + 1)) x284000_1 x284001_1 x284002_1 x284003_1))) = some (r1, r2, r3, r4, r5) := H
            have A10 := Aside0.mk A100
            clear A100
            replace H := Option.bind_eq_some_iff.mp H
            obtain ⟨t288, A110, H⟩ := H
            replace H : (if t288 = true then (if ((rd_T59 l1 x16_1).f0.f0) < a0 then ((kissgateref10_Better.f ((rd_T59 l1 x16_1).f0.f0) t286 ((rd_T59 l1 x16_1).f0.f2) ((rd_T59 l1 x16_1).f0.f3) x284000_1 x284001_1 x284002_1 x284003_1).bind fun t289 => (if t289 = true then (kissgateref10_Best.l0 k1 a0 x16_1 l1 (l1.length : Int) (wrap64 (x16_1 + 1)) ((rd_T59 l1 x16_1).f0.f0) t286 ((rd_T59 l1 x16_1).f0.f2) ((rd_T59 l1 x16_1).f0.f3)) else (kissgateref10_Best.l0 k1 a0 x7_1 l1 (l1.length : Int) (wrap64 (x16_1 + 1)) x284000_1 x284001_1 x284002_1 x284003_1))) else (kissgateref10_Best.l0 k1 a0 x7_1 l1 (l1.length : Int) (wrap64 (x16_1 + 1)) x284000_1 x284001_1 x284002_1 x284003_1)) else (kissgateref10_Best.l0 k1 a0 x7_1 l1 (l1.length : Int) (wrap64 (x16_1 + 1)) x284000_1 x284001_1 x284002_1 x284003_1)) = some (r1, r2, r3, r4, r5) := H
            have A11 := Aside0.mk A110
            clear A110
            by_cases c12 : t288 = true
            · subst c12
              have H1 : (if ((rd_T59 l1 x16_1).f0.f0) < a0 then ((kissgateref10_Better.f ((rd_T59 l1 x16_1).f0.f0) t286 ((rd_T59 l1 x16_1).f0.f2) ((rd_T59 l1 x16_1).f0.f3) x284000_1 x284001_1 x284002_1 x284003_1).bind fun t289 => (if t289 = true then (kissgateref10_Best.l0 k1 a0 x16_1 l1 (l1.length : Int) (wrap64 (x16_1 + 1)) ((rd_T59 l1 x16_1).f0.f0) t286 ((rd_T59 l1 x16_1).f0.f2) ((rd_T59 l1 x16_1).f0.f3)) else (kissgateref10_Best.l0 k1 a0 x7_1 l1 (l1.length : Int) (wrap64 (x16_1 + 1)) x284000_1 x284001_1 x284002_1 x284003_1))) else (kissgateref10_Best.l0 k1 a0 x7_1 l1 (l1.length : Int) (wrap64 (x16_1 + 1)) x284000_1 x284001_1 x284002_1 x284003_1)) = some (r1, r2, r3, r4, r5) := by rw [if_pos rfl] at H; exact H
              clear H
              have H := H1
              clear H1
              by_cases c13 : ((rd_T59 l1 x16_1).f0.f0) < a0
              · rw [if_pos c13] at H
                have c13b0 : decide (((rd_T59 l1 x16_1).f0.f0) < a0) = true := decide_eq_true c13
                clear c13
                replace H := Option.bind_eq_some_iff.mp H
                obtain ⟨t289, A140, H⟩ := H
                replace H : (if t289 = true then (kissgateref10_Best.l0 k1 a0 x16_1 l1 (l1.length : Int) (wrap64 (x16_1 + 1)) ((rd_T59 l1 x16_1).f0.f0) t286 ((rd_T59 l1 x16_1).f0.f2) ((rd_T59 l1 x16_1).f0.f3)) else (kissgateref10_Best.l0 k1 a0 x7_1 l1 (l1.length : Int) (wrap64 (x16_1 + 1)) x284000_1 x284001_1 x284002_1 x284003_1)) = some (r1, r2, r3, r4, r5) := H
                have A14 := Aside0.mk A140
                clear A140
                by_cases c15 : t289 = true
                · subst c15
                  have H1 : (kissgateref10_Best.l0 k1 a0 x16_1 l1 (l1.length : Int) (wrap64 (x16_1 + 1)) ((rd_T59 l1 x16_1).f0.f0) t286 ((rd_T59 l1 x16_1).f0.f2) ((rd_T59 l1 x16_1).f0.f3)) = some (r1, r2, r3, r4, r5) := by rw [if_pos rfl] at H; exact H
                  clear H
                  have H := H1
                  clear H1
                  have H' := Aside0.mk H
                  clear H
                  have p284 : 0 ≤ (x16_1 : Int) := of_decide_eq_true (by first | (with_reducible assumption) | assumption)
                  have q284 : x16_1 < (l1.length : Int) := of_decide_eq_true (by first | (with_reducible assumption) | assumption)
                  obtain ⟨ad284, e284, hx284_0, hx284_1, hx284_2, hx284_3, hx284_4, hx284_5, hx284_6⟩ := at_T59 HR1.out x16_1 p284 q284
                  cases e284
                  replace hx284_0 := (HB.out.cell (World.block_lt_of_cell? w _ hx284_0)).trans hx284_0
                  replace hx284_1 := (HB.out.cell (World.block_lt_of_cell? w _ hx284_1)).trans hx284_1
                  replace hx284_2 := (HB.out.cell (World.block_lt_of_cell? w _ hx284_2)).trans hx284_2
                  replace hx284_3 := (HB.out.cell (World.block_lt_of_cell? w _ hx284_3)).trans hx284_3
                  replace hx284_4 := (HB.out.cell (World.block_lt_of_cell? w _ hx284_4)).trans hx284_4
                  replace hx284_5 := (HB.out.cell (World.block_lt_of_cell? w _ hx284_5)).trans hx284_5
                  replace hx284_6 := (HB.out.cell (World.block_lt_of_cell? w _ hx284_6)).trans hx284_6
                  replace p284 := eq_true p284
                  replace q284 := eq_true q284
                  try go_wp2_with (first | ((with_reducible refine gate_dst (N := 9) rfl ?_); refine box_event ?hg (N := 9) ?hd (cs := #[.int .i64 0, .int .i64 0, .int .i64 0, .int .i64 0, .int .i64 0, .int .i64 0, .bool false]) (t := 59) ?hr ?_; (case hd => rfl); (case hg => rfl); (case hr => first | (go_simp; done) | (go_simp; rfl)); intro gb285 hg w16 hbox hb; have n0_ := Aside0.mk (blk_below (g := gb282) (o := .cells #[.int .i64 0, .int .i64 0, .int .i64 0, .int .i64 0] 36 (0, 0)) (by (with_reducible repeat (first | refine blk_drewN ?_ _ | refine blk_drew ?_ | refine blk_alloc ?_ _)); exact BK282.out) hb); have n1_ := Aside0.mk (blk_below (g := gb283) (o := .cells #[.int .i64 x284000_1, .int .i64 x284001_1, .int .i64 x284002_1, .int .i64 x284003_1] 36 (0, 0)) (by (with_reducible repeat (first | refine blk_drewN ?_ _ | refine blk_drew ?_ | refine blk_alloc ?_ _)); exact BK283.out) hb); have n2_ := Aside0.mk (below_step (by repeat (first | (with_reducible first | exact HB.out | apply below_alloc | apply pw_below_drewN | apply below_drew1 | refine below_set ?_ GE282.out | refine below_set ?_ GE283.out) | exact HB.out)) hb); have n3_ := Aside0.mk (hbox); have n4_ := Aside0.mk ((by rw [hg]; exact (below_size (by repeat (first | (with_reducible first | exact HB.out | apply below_alloc | apply pw_below_drewN | apply below_drew1 | refine below_set ?_ GE282.out | refine below_set ?_ GE283.out) | exact HB.out))) : w.heap.size ≤ gb285)); have n5_ := Aside0.mk ((by rw [hg]; exact (below_size (by repeat (first | (with_reducible first | exact HB.out | apply below_alloc | apply pw_below_drewN | apply below_drew1 | refine below_set ?_ GE282.out | refine below_set ?_ GE283.out) | exact HB.out))) : w.heap.size ≤ gb285)); have n6_ := Aside0.mk ((by rw [hg]; exact Nat.ne_of_lt (blk_lt (g := gb282) (o := .cells #[.int .i64 0, .int .i64 0, .int .i64 0, .int .i64 0] 36 (0, 0)) (by (with_reducible repeat (first | refine blk_drewN ?_ _ | refine blk_drew ?_ | refine blk_alloc ?_ _)); exact BK282.out)) : gb282 ≠ gb285)); have n7_ := Aside0.mk ((by rw [hg]; exact Nat.ne_of_gt (blk_lt (g := gb282) (o := .cells #[.int .i64 0, .int .i64 0, .int .i64 0, .int .i64 0] 36 (0, 0)) (by (with_reducible repeat (first | refine blk_drewN ?_ _ | refine blk_drew ?_ | refine blk_alloc ?_ _)); exact BK282.out)) : gb285 ≠ gb282)); have n8_ := Aside0.mk ((by rw [hg]; exact Nat.ne_of_lt (blk_lt (g := gb283) (o := .cells #[.int .i64 x284000_1, .int .i64 x284001_1, .int .i64 x284002_1, .int .i64 x284003_1] 36 (0, 0)) (by (with_reducible repeat (first | refine blk_drewN ?_ _ | refine blk_drew ?_ | refine blk_alloc ?_ _)); exact BK283.out)) : gb283 ≠ gb285)); have n9_ := Aside0.mk ((by rw [hg]; exact Nat.ne_of_gt (blk_lt (g := gb283) (o := .cells #[.int .i64 x284000_1, .int .i64 x284001_1, .int .i64 x284002_1, .int .i64 x284003_1] 36 (0, 0)) (by (with_reducible repeat (first | refine blk_drewN ?_ _ | refine blk_drew ?_ | refine blk_alloc ?_ _)); exact BK283.out)) : gb285 ≠ gb283)); clear BK282; clear BK283; clear HB; have BK282 := n0_; have BK283 := n1_; have HB := n2_; have BK285 := n3_; have GW285 := n4_; have GE285 := n5_; have NB282_285 := n6_; have NB285_282 := n7_; have NB283_285 := n8_; have NB285_283 := n9_; clear n0_ n1_ n2_ n3_ n4_ n5_ n6_ n7_ n8_ n9_; clear hb hbox hg; have hnb17 := NB285_282.out; have hnc17 := NB282_285.out; have hnb18 := NB285_283.out; have hnc18 := NB283_285.out; have hcz19_0 : w16.cell? ⟨gb285, 0, none⟩ = some (.int .i64 0) := (blk_cell BK285.out 0).trans rfl; have hcz19_1 : w16.cell? ⟨gb285, 1, none⟩ = some (.int .i64 0) := (blk_cell BK285.out 1).trans rfl; have hcz19_2 : w16.cell? ⟨gb285, 2, none⟩ = some (.int .i64 0) := (blk_cell BK285.out 2).trans rfl; have hcz19_3 : w16.cell? ⟨gb285, 3, none⟩ = some (.int .i64 0) := (blk_cell BK285.out 3).trans rfl; have hcz19_4 : w16.cell? ⟨gb285, 4, none⟩ = some (.int .i64 0) := (blk_cell BK285.out 4).trans rfl; have hcz19_5 : w16.cell? ⟨gb285, 5, none⟩ = some (.int .i64 0) := (blk_cell BK285.out 5).trans rfl; have hcz19_6 : w16.cell? ⟨gb285, 6, none⟩ = some (.bool false) := (blk_cell BK285.out 6).trans rfl; have hfz19_0 := blk_frozen BK285.out 0; have hfz19_1 := blk_frozen BK285.out 1; have hfz19_2 := blk_frozen BK285.out 2; have hfz19_3 := blk_frozen BK285.out 3; have hfz19_4 := blk_frozen BK285.out 4; have hfz19_5 := blk_frozen BK285.out 5; have hfz19_6 := blk_frozen BK285.out 6))
                  have n0_ : Aside0 ((((((((w16.setCell ⟨gb285, 0, none⟩ (.int .i64 ((rd_T59 l1 x16_1).f0.f0))).setCell ⟨gb285, 1, none⟩ (.int .i64 ((rd_T59 l1 x16_1).f0.f1))).setCell ⟨gb285, 2, none⟩ (.int .i64 ((rd_T59 l1 x16_1).f0.f2))).setCell ⟨gb285, 3, none⟩ (.int .i64 ((rd_T59 l1 x16_1).f0.f3))).setCell ⟨gb285, 4, none⟩ (.int .i64 ((rd_T59 l1 x16_1).f1))).setCell ⟨gb285, 5, none⟩ (.int .i64 ((rd_T59 l1 x16_1).f2))).setCell ⟨gb285, 6, none⟩ (.bool ((rd_T59 l1 x16_1).f3))).heap[gb282]? = some (.cells #[.int .i64 0, .int .i64 0, .int .i64 0, .int .i64 0] 36 (0, 0))) := ⟨by (with_reducible repeat (first | refine blk_drewN ?_ _ | refine blk_drew ?_ | refine blk_alloc ?_ _)); refine blk_far ?_ NB282_285.out _; (with_reducible repeat (first | refine blk_drewN ?_ _ | refine blk_drew ?_ | refine blk_alloc ?_ _)); refine blk_far ?_ NB282_285.out _; (with_reducible repeat (first | refine blk_drewN ?_ _ | refine blk_drew ?_ | refine blk_alloc ?_ _)); refine blk_far ?_ NB282_285.out _; (with_reducible repeat (first | refine blk_drewN ?_ _ | refine blk_drew ?_ | refine blk_alloc ?_ _)); refine blk_far ?_ NB282_285.out _; (with_reducible repeat (first | refine blk_drewN ?_ _ | refine blk_drew ?_ | refine blk_alloc ?_ _)); refine blk_far ?_ NB282_285.out _; (with_reducible repeat (first | refine blk_drewN ?_ _ | refine blk_drew ?_ | refine blk_alloc ?_ _)); refine blk_far ?_ NB282_285.out _; (with_reducible repeat (first | refine blk_drewN ?_ _ | refine blk_drew ?_ | refine blk_alloc ?_ _)); refine blk_far ?_ NB282_285.out _; (with_reducible repeat (first | refine blk_drewN ?_ _ | refine blk_drew ?_ | refine blk_alloc ?_ _)); exact BK282.out⟩
                  have n1_ : Aside0 ((((((((w16.setCell ⟨gb285, 0, none⟩ (.int .i64 ((rd_T59 l1 x16_1).f0.f0))).setCell ⟨gb285, 1, none⟩ (.int .i64 ((rd_T59 l1 x16_1).f0.f1))).setCell ⟨gb285, 2, none⟩ (.int .i64 ((rd_T59 l1 x16_1).f0.f2))).setCell ⟨gb285, 3, none⟩ (.int .i64 ((rd_T59 l1 x16_1).f0.f3))).setCell ⟨gb285, 4, none⟩ (.int .i64 ((rd_T59 l1 x16_1).f1))).setCell ⟨gb285, 5, none⟩ (.int .i64 ((rd_T59 l1 x16_1).f2))).setCell ⟨gb285, 6, none⟩ (.bool ((rd_T59 l1 x16_1).f3))).heap[gb283]? = some (.cells #[.int .i64 x284000_1, .int .i64 x284001_1, .int .i64 x284002_1, .int .i64 x284003_1] 36 (0, 0))) := ⟨by (with_reducible repeat (first | refine blk_drewN ?_ _ | refine blk_drew ?_ | refine blk_alloc ?_ _)); refine blk_far ?_ NB283_285.out _; (with_reducible repeat (first | refine blk_drewN ?_ _ | refine blk_drew ?_ | refine blk_alloc ?_ _)); refine blk_far ?_ NB283_285.out _; (with_reducible repeat (first | refine blk_drewN ?_ _ | refine blk_drew ?_ | refine blk_alloc ?_ _)); refine blk_far ?_ NB283_285.out _; (with_reducible repeat (first | refine blk_drewN ?_ _ | refine blk_drew ?_ | refine blk_alloc ?_ _)); refine blk_far ?_ NB283_285.out _; (with_reducible repeat (first | refine blk_drewN ?_ _ | refine blk_drew ?_ | refine blk_alloc ?_ _)); refine blk_far ?_ NB283_285.out _; (with_reducible repeat (first | refine blk_drewN ?_ _ | refine blk_drew ?_ | refine blk_alloc ?_ _)); refine blk_far ?_ NB283_285.out _; (with_reducible repeat (first | refine blk_drewN ?_ _ | refine blk_drew ?_ | refine blk_alloc ?_ _)); refine blk_far ?_ NB283_285.out _; (with_reducible repeat (first | refine blk_drewN ?_ _ | refine blk_drew ?_ | refine blk_alloc ?_ _)); exact BK283.out⟩
                  have n2_ : Aside0 ((((((((w16.setCell ⟨gb285, 0, none⟩ (.int .i64 ((rd_T59 l1 x16_1).f0.f0))).setCell ⟨gb285, 1, none⟩ (.int .i64 ((rd_T59 l1 x16_1).f0.f1))).setCell ⟨gb285, 2, none⟩ (.int .i64 ((rd_T59 l1 x16_1).f0.f2))).setCell ⟨gb285, 3, none⟩ (.int .i64 ((rd_T59 l1 x16_1).f0.f3))).setCell ⟨gb285, 4, none⟩ (.int .i64 ((rd_T59 l1 x16_1).f1))).setCell ⟨gb285, 5, none⟩ (.int .i64 ((rd_T59 l1 x16_1).f2))).setCell ⟨gb285, 6, none⟩ (.bool ((rd_T59 l1 x16_1).f3))).heap[gb285]? = some (.cells #[.int .i64 ((rd_T59 l1 x16_1).f0.f0), .int .i64 ((rd_T59 l1 x16_1).f0.f1), .int .i64 ((rd_T59 l1 x16_1).f0.f2), .int .i64 ((rd_T59 l1 x16_1).f0.f3), .int .i64 ((rd_T59 l1 x16_1).f1), .int .i64 ((rd_T59 l1 x16_1).f2), .bool ((rd_T59 l1 x16_1).f3)] 59 (0, 0))) := ⟨by (with_reducible repeat (first | refine blk_drewN ?_ _ | refine blk_drew ?_ | refine blk_alloc ?_ _)); refine blk_put (cs := #[.int .i64 ((rd_T59 l1 x16_1).f0.f0), .int .i64 ((rd_T59 l1 x16_1).f0.f1), .int .i64 ((rd_T59 l1 x16_1).f0.f2), .int .i64 ((rd_T59 l1 x16_1).f0.f3), .int .i64 ((rd_T59 l1 x16_1).f1), .int .i64 ((rd_T59 l1 x16_1).f2), .bool false]) ?_ 6 _ rfl; (with_reducible repeat (first | refine blk_drewN ?_ _ | refine blk_drew ?_ | refine blk_alloc ?_ _)); refine blk_put (cs := #[.int .i64 ((rd_T59 l1 x16_1).f0.f0), .int .i64 ((rd_T59 l1 x16_1).f0.f1), .int .i64 ((rd_T59 l1 x16_1).f0.f2), .int .i64 ((rd_T59 l1 x16_1).f0.f3), .int .i64 ((rd_T59 l1 x16_1).f1), .int .i64 0, .bool false]) ?_ 5 _ rfl; (with_reducible repeat (first | refine blk_drewN ?_ _ | refine blk_drew ?_ | refine blk_alloc ?_ _)); refine blk_put (cs := #[.int .i64 ((rd_T59 l1 x16_1).f0.f0), .int .i64 ((rd_T59 l1 x16_1).f0.f1), .int .i64 ((rd_T59 l1 x16_1).f0.f2), .int .i64 ((rd_T59 l1 x16_1).f0.f3), .int .i64 0, .int .i64 0, .bool false]) ?_ 4 _ rfl; (with_reducible repeat (first | refine blk_drewN ?_ _ | refine blk_drew ?_ | refine blk_alloc ?_ _)); refine blk_put (cs := #[.int .i64 ((rd_T59 l1 x16_1).f0.f0), .int .i64 ((rd_T59 l1 x16_1).f0.f1), .int .i64 ((rd_T59 l1 x16_1).f0.f2), .int .i64 0, .int .i64 0, .int .i64 0, .bool false]) ?_ 3 _ rfl; (with_reducible repeat (first | refine blk_drewN ?_ _ | refine blk_drew ?_ | refine blk_alloc ?_ _)); refine blk_put (cs := #[.int .i64 ((rd_T59 l1 x16_1).f0.f0), .int .i64 ((rd_T59 l1 x16_1).f0.f1), .int .i64 0, .int .i64 0, .int .i64 0, .int .i64 0, .bool false]) ?_ 2 _ rfl; (with_reducible repeat (first | refine blk_drewN ?_ _ | refine blk_drew ?_ | refine blk_alloc ?_ _)); refine blk_put (cs := #[.int .i64 ((rd_T59 l1 x16_1).f0.f0), .int .i64 0, .int .i64 0, .int .i64 0, .int .i64 0, .int .i64 0, .bool false]) ?_ 1 _ rfl; (with_reducible repeat (first | refine blk_drewN ?_ _ | refine blk_drew ?_ | refine blk_alloc ?_ _)); refine blk_put (cs := #[.int .i64 0, .int .i64 0, .int .i64 0, .int .i64 0, .int .i64 0, .int .i64 0, .bool false]) ?_ 0 _ rfl; (with_reducible repeat (first | refine blk_drewN ?_ _ | refine blk_drew ?_ | refine blk_alloc ?_ _)); exact BK285.out⟩
                  have n3_ : Aside0 (Below w.heap.size w (((((((w16.setCell ⟨gb285, 0, none⟩ (.int .i64 ((rd_T59 l1 x16_1).f0.f0))).setCell ⟨gb285, 1, none⟩ (.int .i64 ((rd_T59 l1 x16_1).f0.f1))).setCell ⟨gb285, 2, none⟩ (.int .i64 ((rd_T59 l1 x16_1).f0.f2))).setCell ⟨gb285, 3, none⟩ (.int .i64 ((rd_T59 l1 x16_1).f0.f3))).setCell ⟨gb285, 4, none⟩ (.int .i64 ((rd_T59 l1 x16_1).f1))).setCell ⟨gb285, 5, none⟩ (.int .i64 ((rd_T59 l1 x16_1).f2))).setCell ⟨gb285, 6, none⟩ (.bool ((rd_T59 l1 x16_1).f3)))) := ⟨by repeat (first | (with_reducible first | exact HB.out | apply below_alloc | apply pw_below_drewN | apply below_drew1 | refine below_set ?_ GE282.out | refine below_set ?_ GE283.out | refine below_set ?_ GE285.out) | exact HB.out)⟩
                  (try clear BK282)
                  (try clear BK283)
                  (try clear BK285)
                  (try clear HB)
                  generalize (((((((w16.setCell ⟨gb285, 0, none⟩ (.int .i64 ((rd_T59 l1 x16_1).f0.f0))).setCell ⟨gb285, 1, none⟩ (.int .i64 ((rd_T59 l1 x16_1).f0.f1))).setCell ⟨gb285, 2, none⟩ (.int .i64 ((rd_T59 l1 x16_1).f0.f2))).setCell ⟨gb285, 3, none⟩ (.int .i64 ((rd_T59 l1 x16_1).f0.f3))).setCell ⟨gb285, 4, none⟩ (.int .i64 ((rd_T59 l1 x16_1).f1))).setCell ⟨gb285, 5, none⟩ (.int .i64 ((rd_T59 l1 x16_1).f2))).setCell ⟨gb285, 6, none⟩ (.bool ((rd_T59 l1 x16_1).f3))) = w20 at n0_ n1_ n2_ n3_ ⊢
                  have BK282 := n0_
                  have BK283 := n1_
                  have BK285 := n2_
                  have HB := n3_
                  clear n0_ n1_ n2_ n3_
                  have n0_ := Aside0.mk (blk_drew BK282.out)
                  have n1_ := Aside0.mk (blk_drew BK283.out)
                  have n2_ := Aside0.mk (blk_drew BK285.out)
                  have n3_ := Aside0.mk (below_drew1 HB.out)
                  clear BK282
                  clear BK283
                  clear BK285
                  clear HB
                  have BK282 := n0_
                  have BK283 := n1_
                  have BK285 := n2_
                  have HB := n3_
                  clear n0_ n1_ n2_ n3_
                  refine start_ (n := 18) (S := fun w' => w'.cell? ⟨gb285, 0, none⟩ = some (.int .i64 ((rd_T59 l1 x16_1).f0.f0)) ∧ w'.cell? ⟨gb285, 1, none⟩ = some (.int .i64 ((rd_T59 l1 x16_1).f0.f1)) ∧ w'.cell? ⟨gb285, 2, none⟩ = some (.int .i64 ((rd_T59 l1 x16_1).f0.f2)) ∧ w'.cell? ⟨gb285, 3, none⟩ = some (.int .i64 ((rd_T59 l1 x16_1).f0.f3)) ∧ w'.cell? ⟨gb285, 4, none⟩ = some (.int .i64 ((rd_T59 l1 x16_1).f1)) ∧ w'.cell? ⟨gb285, 5, none⟩ = some (.int .i64 ((rd_T59 l1 x16_1).f2)) ∧ w'.cell? ⟨gb285, 6, none⟩ = some (.bool ((rd_T59 l1 x16_1).f3))) (ds := []) #[false, false, false, false, false, false, false, false, false, false, false, false, false, false, false, false, false, false] (by kernel_rfl) rfl rfl ⟨(blk_cell BK285.out 0).trans rfl, (blk_cell BK285.out 1).trans rfl, (blk_cell BK285.out 2).trans rfl, (blk_cell BK285.out 3).trans rfl, (blk_cell BK285.out 4).trans rfl, (blk_cell BK285.out 5).trans rfl, (blk_cell BK285.out 6).trans rfl⟩ (fun hHeld => ?_); refine with_tabW kissgateref10_Best.tab6 kissgateref10_Best.bits6 (fun HT_ HW_ => ?_)
                  generalize w20.drew = w21 at BK282 BK283 BK285 HB hHeld ⊢
                  refine pure_ (i := 0) (N := some 21) (v := ?_) (a' := ?_) #[true, false, false, false, false, false, false, false, false, false, false, false, false, false, false, false, false, false] rfl rfl (any_of HT_.out (by kernel_rfl)) (fun _ _ _ h => h) (Or.inl ⟨by rfl, ?_⟩) ?_ ?_
                  rotate_left
                  · intro w'
                    go_simp
                    with_reducible rfl
                  rotate_left
                  · simp only [Act.put, List.setIfInBounds_toArray, List.set_cons_zero, List.set_cons_succ, i64_w, i32_w]
                    rfl
                  refine pure_ (i := 1) (N := some 22) (v := ?_) (a' := ?_) #[true, true, false, false, false, false, false, false, false, false, false, false, false, false, false, false, false, false] rfl rfl (any_of HT_.out (by kernel_rfl)) (fun _ _ _ h => h) (Or.inl ⟨by rfl, ?_⟩) ?_ ?_
                  rotate_left
                  · intro w'
                    go_simp
                    with_reducible rfl
                  rotate_left
                  · simp only [Act.put, List.setIfInBounds_toArray, List.set_cons_zero, List.set_cons_succ, i64_w, i32_w]
                    rfl
                  refine pure_ (i := 3) (N := some 24) (v := ?_) (a' := ?_) #[true, true, false, true, false, false, false, false, false, false, false, false, false, false, false, false, false, false] rfl rfl (any_of HT_.out (by kernel_rfl)) (fun _ _ _ h => h) (Or.inl ⟨by rfl, ?_⟩) ?_ ?_
                  rotate_left
                  · intro w'
                    go_simp
                    with_reducible rfl
                  rotate_left
                  · simp only [Act.put, List.setIfInBounds_toArray, List.set_cons_zero, List.set_cons_succ, i64_w, i32_w]
                    rfl
                  refine pure_ (i := 4) (N := some 25) (v := ?_) (a' := ?_) #[true, true, false, true, true, false, false, false, false, false, false, false, false, false, false, false, false, false] rfl rfl (any_of HT_.out (by kernel_rfl)) (fun _ _ _ h => h) (Or.inl ⟨by rfl, ?_⟩) ?_ ?_
                  rotate_left
                  · intro w'
                    go_simp
                    with_reducible rfl
                  rotate_left
                  · simp only [Act.put, List.setIfInBounds_toArray, List.set_cons_zero, List.set_cons_succ, i64_w, i32_w]
                    rfl
                  refine pure_ (i := 6) (N := some 27) (v := ?_) (a' := ?_) #[true, true, false, true, true, false, true, false, false, false, false, false, false, false, false, false, false, false] rfl rfl (any_of HT_.out (by kernel_rfl)) (fun _ _ _ h => h) (Or.inl ⟨by rfl, ?_⟩) ?_ ?_
                  rotate_left
                  · intro w'
                    go_simp
                    with_reducible rfl
                  rotate_left
                  · simp only [Act.put, List.setIfInBounds_toArray, List.set_cons_zero, List.set_cons_succ, i64_w, i32_w]
                    rfl
                  refine pure_ (i := 9) (N := some 30) (v := ?_) (a' := ?_) #[true, true, false, true, true, false, true, false, false, true, false, false, false, false, false, false, false, false] rfl rfl (any_of HT_.out (by kernel_rfl)) (fun _ _ _ h => h) (Or.inl ⟨by rfl, ?_⟩) ?_ ?_
                  rotate_left
                  · intro w'
                    go_simp
                    with_reducible rfl
                  rotate_left
                  · simp only [Act.put, List.setIfInBounds_toArray, List.set_cons_zero, List.set_cons_succ, i64_w, i32_w]
                    rfl
                  refine pure_ (i := 10) (N := some 31) (v := ?_) (a' := ?_) #[true, true, false, true, true, false, true, false, false, true, true, false, false, false, false, false, false, false] rfl rfl (any_of HT_.out (by kernel_rfl)) (fun _ _ _ h => h) (Or.inl ⟨by rfl, ?_⟩) ?_ ?_
                  rotate_left
                  · intro w'
                    go_simp
                    with_reducible rfl
                  rotate_left
                  · simp only [Act.put, List.setIfInBounds_toArray, List.set_cons_zero, List.set_cons_succ, i64_w, i32_w]
                    rfl
                  refine pure_ (i := 12) (N := some 33) (v := ?_) (a' := ?_) #[true, true, false, true, true, false, true, false, false, true, true, false, true, false, false, false, false, false] rfl rfl (any_of HT_.out (by kernel_rfl)) (fun _ _ _ h => h) (Or.inl ⟨by rfl, ?_⟩) ?_ ?_
                  rotate_left
                  · intro w'
                    go_simp
                    with_reducible rfl
                  rotate_left
                  · simp only [Act.put, List.setIfInBounds_toArray, List.set_cons_zero, List.set_cons_succ, i64_w, i32_w]
                    rfl
                  refine pure_ (i := 13) (N := some 34) (v := ?_) (a' := ?_) #[true, true, false, true, true, false, true, false, false, true, true, false, true, true, false, false, false, false] rfl rfl (any_of HT_.out (by kernel_rfl)) (fun _ _ _ h => h) (Or.inl ⟨by rfl, ?_⟩) ?_ ?_
                  rotate_left
                  · intro w'
                    go_simp
                    with_reducible rfl
                  rotate_left
                  · simp only [Act.put, List.setIfInBounds_toArray, List.set_cons_zero, List.set_cons_succ, i64_w, i32_w]
                    rfl
                  refine take_ (i := 2) (N := some 23) (v := ?_) (a' := ?_) #[true, true, true, true, true, false, true, false, false, true, true, false, true, true, false, false, false, false] rfl rfl (take_ofW HT_.out HW_.out (by kernel_rfl)) (fun _ _ _ h => h) (Or.inl ⟨by rfl, ?_⟩) hHeld ?_ ?_
                  rotate_left
                  · rintro w' ⟨s0, s1, s2, s3, s4, s5, s6⟩
                    go_simp
                    with_reducible rfl
                  rotate_left
                  · simp only [Act.put, List.setIfInBounds_toArray, List.set_cons_zero, List.set_cons_succ, i64_w, i32_w]
                    rfl
                  refine take_ (i := 5) (N := some 26) (v := ?_) (a' := ?_) #[true, true, true, true, true, true, true, false, false, true, true, false, true, true, false, false, false, false] rfl rfl (take_ofW HT_.out HW_.out (by kernel_rfl)) (fun _ _ _ h => h) (Or.inl ⟨by rfl, ?_⟩) hHeld ?_ ?_
                  rotate_left
                  · rintro w' ⟨s0, s1, s2, s3, s4, s5, s6⟩
                    go_simp
                    with_reducible rfl
                  rotate_left
                  · simp only [Act.put, List.setIfInBounds_toArray, List.set_cons_zero, List.set_cons_succ, i64_w, i32_w]
                    rfl
                  refine take_ (i := 7) (N := some 28) (v := ?_) (a' := ?_) #[true, true, true, true, true, true, true, true, false, true, true, false, true, true, false, false, false, false] rfl rfl (take_ofW HT_.out HW_.out (by kernel_rfl)) (fun _ _ _ h => h) (Or.inl ⟨by rfl, ?_⟩) hHeld ?_ ?_
                  rotate_left
                  · rintro w' ⟨s0, s1, s2, s3, s4, s5, s6⟩
                    go_simp
                    with_reducible rfl
                  rotate_left
                  · simp only [Act.put, List.setIfInBounds_toArray, List.set_cons_zero, List.set_cons_succ, i64_w, i32_w]
                    rfl
                  refine take_ (i := 11) (N := some 32) (v := ?_) (a' := ?_) #[true, true, true, true, true, true, true, true, false, true, true, true, true, true, false, false, false, false] rfl rfl (take_ofW HT_.out HW_.out (by kernel_rfl)) (fun _ _ _ h => h) (Or.inl ⟨by rfl, ?_⟩) hHeld ?_ ?_
                  rotate_left
                  · rintro w' ⟨s0, s1, s2, s3, s4, s5, s6⟩
                    go_simp
                    with_reducible rfl
                  rotate_left
                  · simp only [Act.put, List.setIfInBounds_toArray, List.set_cons_zero, List.set_cons_succ, i64_w, i32_w]
                    rfl
                  refine take_ (i := 14) (N := some 35) (v := ?_) (a' := ?_) #[true, true, true, true, true, true, true, true, false, true, true, true, true, true, true, false, false, false] rfl rfl (take_ofW HT_.out HW_.out (by kernel_rfl)) (fun _ _ _ h => h) (Or.inl ⟨by rfl, ?_⟩) hHeld ?_ ?_
                  rotate_left
                  · rintro w' ⟨s0, s1, s2, s3, s4, s5, s6⟩
                    go_simp
                    with_reducible rfl
                  rotate_left
                  · simp only [Act.put, List.setIfInBounds_toArray, List.set_cons_zero, List.set_cons_succ, i64_w, i32_w]
                    rfl
                  refine join_ (σ := Nat) 1 #[true, true, true, true, true, true, true, true, true, true, true, true, true, true, true, true, true, false] (fun s_ => [(29, .int .i64 t286), (10, .pointer (some ⟨s_, 0, none⟩)), (36, .agg #[.int .i64 ((rd_T59 l1 x16_1).f0.f0), .int .i64 t286, .int .i64 ((rd_T59 l1 x16_1).f0.f2), .int .i64 ((rd_T59 l1 x16_1).f0.f3)])]) (fun s_ w' => (w'.cell? ⟨gb285, 0, none⟩ = some (.int .i64 ((rd_T59 l1 x16_1).f0.f0)) ∧ w'.cell? ⟨gb285, 1, none⟩ = some (.int .i64 ((rd_T59 l1 x16_1).f0.f1)) ∧ w'.cell? ⟨gb285, 2, none⟩ = some (.int .i64 ((rd_T59 l1 x16_1).f0.f2)) ∧ w'.cell? ⟨gb285, 3, none⟩ = some (.int .i64 ((rd_T59 l1 x16_1).f0.f3)) ∧ w'.cell? ⟨gb285, 4, none⟩ = some (.int .i64 ((rd_T59 l1 x16_1).f1)) ∧ w'.cell? ⟨gb285, 5, none⟩ = some (.int .i64 ((rd_T59 l1 x16_1).f2)) ∧ w'.cell? ⟨gb285, 6, none⟩ = some (.bool ((rd_T59 l1 x16_1).f3))) ∧ (w'.heap[gb282]? = some (.cells #[.int .i64 0, .int .i64 0, .int .i64 0, .int .i64 0] 36 (0, 0))) ∧ (w'.heap[gb283]? = some (.cells #[.int .i64 x284000_1, .int .i64 x284001_1, .int .i64 x284002_1, .int .i64 x284003_1] 36 (0, 0))) ∧ (w'.heap[gb285]? = some (.cells #[.int .i64 ((rd_T59 l1 x16_1).f0.f0), .int .i64 ((rd_T59 l1 x16_1).f0.f1), .int .i64 ((rd_T59 l1 x16_1).f0.f2), .int .i64 ((rd_T59 l1 x16_1).f0.f3), .int .i64 ((rd_T59 l1 x16_1).f1), .int .i64 ((rd_T59 l1 x16_1).f2), .bool ((rd_T59 l1 x16_1).f3)] 59 (0, 0))) ∧ (w'.heap[s_]? = some (.cells #[.int .i64 0, .int .i64 0, .int .i64 0, .int .i64 0] 36 (0, 0))) ∧ (w.heap.size ≤ s_) ∧ (w.heap.size ≤ s_) ∧ (gb282 ≠ s_) ∧ (s_ ≠ gb282) ∧ (gb283 ≠ s_) ∧ (s_ ≠ gb283) ∧ (gb285 ≠ s_) ∧ (s_ ≠ gb285) ∧ (Below w.heap.size w w')) ?_ ?_
                  rotate_left
                  · intro hCont
                    refine two_ (i := 8) (j := 16) (Ni := some 29) (Nj := some 10) #[true, true, true, true, true, true, true, true, true, true, true, true, true, true, true, false, false, false] #[true, true, true, true, true, true, true, true, false, true, true, true, true, true, true, false, true, false] rfl rfl rfl rfl (two_of HT_.out (by kernel_rfl)) (by decide) (by decide) (fun K hK => ?_) (fun K hK => ?_)
                    · skip
                      refine goes_ Tryd.func63 (by kernel_rfl) rfl #[.int .i64 ((rd_T59 l1 x16_1).f0.f1), .int .i64 ((rd_T59 l1 x16_1).f2)] (by rfl) rfl rfl (by (try simp only [List.map_toArray, List.map_cons, List.map_nil]); first | done | rfl | (simp only [List.length_drop, List.length_take]; rfl)) ?_
                      with_reducible refine (kissgateref10_Sum.calls ((rd_T59 l1 x16_1).f0.f1) ((rd_T59 l1 x16_1).f2) t286 _ A10.out).mono ?_
                      rintro e w22 ⟨rfl, hb⟩
                      refine ⟨_, rfl, ?_⟩
                      have n0_ := Aside0.mk (blk_below (g := gb282) (o := .cells #[.int .i64 0, .int .i64 0, .int .i64 0, .int .i64 0] 36 (0, 0)) (by (with_reducible repeat (first | refine blk_drewN ?_ _ | refine blk_drew ?_ | refine blk_alloc ?_ _)); exact BK282.out) hb)
                      have n1_ := Aside0.mk (blk_below (g := gb283) (o := .cells #[.int .i64 x284000_1, .int .i64 x284001_1, .int .i64 x284002_1, .int .i64 x284003_1] 36 (0, 0)) (by (with_reducible repeat (first | refine blk_drewN ?_ _ | refine blk_drew ?_ | refine blk_alloc ?_ _)); exact BK283.out) hb)
                      have n2_ := Aside0.mk (blk_below (g := gb285) (o := .cells #[.int .i64 ((rd_T59 l1 x16_1).f0.f0), .int .i64 ((rd_T59 l1 x16_1).f0.f1), .int .i64 ((rd_T59 l1 x16_1).f0.f2), .int .i64 ((rd_T59 l1 x16_1).f0.f3), .int .i64 ((rd_T59 l1 x16_1).f1), .int .i64 ((rd_T59 l1 x16_1).f2), .bool ((rd_T59 l1 x16_1).f3)] 59 (0, 0)) (by (with_reducible repeat (first | refine blk_drewN ?_ _ | refine blk_drew ?_ | refine blk_alloc ?_ _)); exact BK285.out) hb)
                      have n3_ := Aside0.mk (below_step (by repeat (first | (with_reducible first | exact HB.out | apply below_alloc | apply pw_below_drewN | apply below_drew1 | refine below_set ?_ GE282.out | refine below_set ?_ GE283.out | refine below_set ?_ GE285.out) | exact HB.out)) hb)
                      clear BK282
                      clear BK283
                      clear BK285
                      clear HB
                      have BK282 := n0_
                      have BK283 := n1_
                      have BK285 := n2_
                      have HB := n3_
                      clear n0_ n1_ n2_ n3_
                      (try clear hb)
                      (try clear hb2)
                      (try clear hk)
                      (try clear hi)
                      refine hK.out _ _ ⟨(blk_cell BK285.out 0).trans rfl, (blk_cell BK285.out 1).trans rfl, (blk_cell BK285.out 2).trans rfl, (blk_cell BK285.out 3).trans rfl, (blk_cell BK285.out 4).trans rfl, (blk_cell BK285.out 5).trans rfl, (blk_cell BK285.out 6).trans rfl⟩ (fun hHeld => ?_)
                      clear hK K
                      refine norm_ (a' := ?_) ?_ ?_
                      rotate_left
                      · show Act.put _ (some 29) _ = _
                        simp only [Act.put, List.setIfInBounds_toArray, List.set_cons_zero, List.set_cons_succ, i64_w, i32_w]
                        rfl
                      refine pure_ (i := 15) (N := some 36) (v := ?_) (a' := ?_) #[true, true, true, true, true, true, true, true, true, true, true, true, true, true, true, true, false, false] rfl rfl (any_of HT_.out (by kernel_rfl)) (fun _ _ _ h => h) (Or.inl ⟨by rfl, ?_⟩) ?_ ?_
                      rotate_left
                      · intro w'
                        go_simp
                        with_reducible rfl
                      rotate_left
                      · simp only [Act.put, List.setIfInBounds_toArray, List.set_cons_zero, List.set_cons_succ, i64_w, i32_w]
                        rfl
                      refine one_ (i := 16) (N := some 10) #[true, true, true, true, true, true, true, true, true, true, true, true, true, true, true, true, true, false] rfl rfl (one_of HT_.out (by kernel_rfl)) (by decide) (fun K hK => ?_)
                      refine box_step ?hg (N := 10) ?hd (cs := #[.int .i64 0, .int .i64 0, .int .i64 0, .int .i64 0]) (t := 36) ?hr ?_; (case hd => rfl); (case hg => rfl); (case hr => first | (go_simp; done) | (go_simp; rfl))
                      intro gb287 hg w23 hbox hb
                      have n0_ := Aside0.mk (blk_below (g := gb282) (o := .cells #[.int .i64 0, .int .i64 0, .int .i64 0, .int .i64 0] 36 (0, 0)) (by (with_reducible repeat (first | refine blk_drewN ?_ _ | refine blk_drew ?_ | refine blk_alloc ?_ _)); exact BK282.out) hb)
                      have n1_ := Aside0.mk (blk_below (g := gb283) (o := .cells #[.int .i64 x284000_1, .int .i64 x284001_1, .int .i64 x284002_1, .int .i64 x284003_1] 36 (0, 0)) (by (with_reducible repeat (first | refine blk_drewN ?_ _ | refine blk_drew ?_ | refine blk_alloc ?_ _)); exact BK283.out) hb)
                      have n2_ := Aside0.mk (blk_below (g := gb285) (o := .cells #[.int .i64 ((rd_T59 l1 x16_1).f0.f0), .int .i64 ((rd_T59 l1 x16_1).f0.f1), .int .i64 ((rd_T59 l1 x16_1).f0.f2), .int .i64 ((rd_T59 l1 x16_1).f0.f3), .int .i64 ((rd_T59 l1 x16_1).f1), .int .i64 ((rd_T59 l1 x16_1).f2), .bool ((rd_T59 l1 x16_1).f3)] 59 (0, 0)) (by (with_reducible repeat (first | refine blk_drewN ?_ _ | refine blk_drew ?_ | refine blk_alloc ?_ _)); exact BK285.out) hb)
                      have n3_ := Aside0.mk (below_step (by repeat (first | (with_reducible first | exact HB.out | apply below_alloc | apply pw_below_drewN | apply below_drew1 | refine below_set ?_ GE282.out | refine below_set ?_ GE283.out | refine below_set ?_ GE285.out) | exact HB.out)) hb)
                      have n4_ := Aside0.mk (hbox)
                      have n5_ := Aside0.mk ((by rw [hg]; exact (below_size (by repeat (first | (with_reducible first | exact HB.out | apply below_alloc | apply pw_below_drewN | apply below_drew1 | refine below_set ?_ GE282.out | refine below_set ?_ GE283.out | refine below_set ?_ GE285.out) | exact HB.out))) : w.heap.size ≤ gb287))
                      have n6_ := Aside0.mk ((by rw [hg]; exact (below_size (by repeat (first | (with_reducible first | exact HB.out | apply below_alloc | apply pw_below_drewN | apply below_drew1 | refine below_set ?_ GE282.out | refine below_set ?_ GE283.out | refine below_set ?_ GE285.out) | exact HB.out))) : w.heap.size ≤ gb287))
                      have n7_ := Aside0.mk ((by rw [hg]; exact Nat.ne_of_lt (blk_lt (g := gb282) (o := .cells #[.int .i64 0, .int .i64 0, .int .i64 0, .int .i64 0] 36 (0, 0)) (by (with_reducible repeat (first | refine blk_drewN ?_ _ | refine blk_drew ?_ | refine blk_alloc ?_ _)); exact BK282.out)) : gb282 ≠ gb287))
                      have n8_ := Aside0.mk ((by rw [hg]; exact Nat.ne_of_gt (blk_lt (g := gb282) (o := .cells #[.int .i64 0, .int .i64 0, .int .i64 0, .int .i64 0] 36 (0, 0)) (by (with_reducible repeat (first | refine blk_drewN ?_ _ | refine blk_drew ?_ | refine blk_alloc ?_ _)); exact BK282.out)) : gb287 ≠ gb282))
                      have n9_ := Aside0.mk ((by rw [hg]; exact Nat.ne_of_lt (blk_lt (g := gb283) (o := .cells #[.int .i64 x284000_1, .int .i64 x284001_1, .int .i64 x284002_1, .int .i64 x284003_1] 36 (0, 0)) (by (with_reducible repeat (first | refine blk_drewN ?_ _ | refine blk_drew ?_ | refine blk_alloc ?_ _)); exact BK283.out)) : gb283 ≠ gb287))
                      have n10_ := Aside0.mk ((by rw [hg]; exact Nat.ne_of_gt (blk_lt (g := gb283) (o := .cells #[.int .i64 x284000_1, .int .i64 x284001_1, .int .i64 x284002_1, .int .i64 x284003_1] 36 (0, 0)) (by (with_reducible repeat (first | refine blk_drewN ?_ _ | refine blk_drew ?_ | refine blk_alloc ?_ _)); exact BK283.out)) : gb287 ≠ gb283))
                      have n11_ := Aside0.mk ((by rw [hg]; exact Nat.ne_of_lt (blk_lt (g := gb285) (o := .cells #[.int .i64 ((rd_T59 l1 x16_1).f0.f0), .int .i64 ((rd_T59 l1 x16_1).f0.f1), .int .i64 ((rd_T59 l1 x16_1).f0.f2), .int .i64 ((rd_T59 l1 x16_1).f0.f3), .int .i64 ((rd_T59 l1 x16_1).f1), .int .i64 ((rd_T59 l1 x16_1).f2), .bool ((rd_T59 l1 x16_1).f3)] 59 (0, 0)) (by (with_reducible repeat (first | refine blk_drewN ?_ _ | refine blk_drew ?_ | refine blk_alloc ?_ _)); exact BK285.out)) : gb285 ≠ gb287))
                      have n12_ := Aside0.mk ((by rw [hg]; exact Nat.ne_of_gt (blk_lt (g := gb285) (o := .cells #[.int .i64 ((rd_T59 l1 x16_1).f0.f0), .int .i64 ((rd_T59 l1 x16_1).f0.f1), .int .i64 ((rd_T59 l1 x16_1).f0.f2), .int .i64 ((rd_T59 l1 x16_1).f0.f3), .int .i64 ((rd_T59 l1 x16_1).f1), .int .i64 ((rd_T59 l1 x16_1).f2), .bool ((rd_T59 l1 x16_1).f3)] 59 (0, 0)) (by (with_reducible repeat (first | refine blk_drewN ?_ _ | refine blk_drew ?_ | refine blk_alloc ?_ _)); exact BK285.out)) : gb287 ≠ gb285))
                      clear BK282
                      clear BK283
                      clear BK285
                      clear HB
                      have BK282 := n0_
                      have BK283 := n1_
                      have BK285 := n2_
                      have HB := n3_
                      have BK287 := n4_
                      have GW287 := n5_
                      have GE287 := n6_
                      have NB282_287 := n7_
                      have NB287_282 := n8_
                      have NB283_287 := n9_
                      have NB287_283 := n10_
                      have NB285_287 := n11_
                      have NB287_285 := n12_
                      clear n0_ n1_ n2_ n3_ n4_ n5_ n6_ n7_ n8_ n9_ n10_ n11_ n12_
                      clear hb hbox hg
                      refine hK.out _ _ ⟨(blk_cell BK285.out 0).trans rfl, (blk_cell BK285.out 1).trans rfl, (blk_cell BK285.out 2).trans rfl, (blk_cell BK285.out 3).trans rfl, (blk_cell BK285.out 4).trans rfl, (blk_cell BK285.out 5).trans rfl, (blk_cell BK285.out 6).trans rfl⟩ (fun hHeld => ?_)
                      clear hK K
                      refine norm_ (a' := ?_) ?_ ?_
                      rotate_left
                      · show Act.put _ (some 10) _ = _
                        simp only [Act.put, List.setIfInBounds_toArray, List.set_cons_zero, List.set_cons_succ, i64_w, i32_w]
                        rfl
                      exact norm_ (by simp only [putAll, Act.put, List.setIfInBounds_toArray, List.set_cons_zero, List.set_cons_succ]) (hCont (gb287) _ ⟨hHeld, (by (with_reducible repeat (first | refine blk_drewN ?_ _ | refine blk_drew ?_ | refine blk_alloc ?_ _)); exact BK282.out), (by (with_reducible repeat (first | refine blk_drewN ?_ _ | refine blk_drew ?_ | refine blk_alloc ?_ _)); exact BK283.out), (by (with_reducible repeat (first | refine blk_drewN ?_ _ | refine blk_drew ?_ | refine blk_alloc ?_ _)); exact BK285.out), (by (with_reducible repeat (first | refine blk_drewN ?_ _ | refine blk_drew ?_ | refine blk_alloc ?_ _)); exact BK287.out), GW287.out, GE287.out, NB282_287.out, NB287_282.out, NB283_287.out, NB287_283.out, NB285_287.out, NB287_285.out, (by repeat (first | (with_reducible first | exact HB.out | apply below_alloc | apply pw_below_drewN | apply below_drew1 | refine below_set ?_ GE282.out | refine below_set ?_ GE283.out | refine below_set ?_ GE285.out | refine below_set ?_ GE287.out) | exact HB.out))⟩)
                    · skip
                      refine box_step ?hg (N := 10) ?hd (cs := #[.int .i64 0, .int .i64 0, .int .i64 0, .int .i64 0]) (t := 36) ?hr ?_; (case hd => rfl); (case hg => rfl); (case hr => first | (go_simp; done) | (go_simp; rfl))
                      intro gb287 hg w22 hbox hb
                      have n0_ := Aside0.mk (blk_below (g := gb282) (o := .cells #[.int .i64 0, .int .i64 0, .int .i64 0, .int .i64 0] 36 (0, 0)) (by (with_reducible repeat (first | refine blk_drewN ?_ _ | refine blk_drew ?_ | refine blk_alloc ?_ _)); exact BK282.out) hb)
                      have n1_ := Aside0.mk (blk_below (g := gb283) (o := .cells #[.int .i64 x284000_1, .int .i64 x284001_1, .int .i64 x284002_1, .int .i64 x284003_1] 36 (0, 0)) (by (with_reducible repeat (first | refine blk_drewN ?_ _ | refine blk_drew ?_ | refine blk_alloc ?_ _)); exact BK283.out) hb)
                      have n2_ := Aside0.mk (blk_below (g := gb285) (o := .cells #[.int .i64 ((rd_T59 l1 x16_1).f0.f0), .int .i64 ((rd_T59 l1 x16_1).f0.f1), .int .i64 ((rd_T59 l1 x16_1).f0.f2), .int .i64 ((rd_T59 l1 x16_1).f0.f3), .int .i64 ((rd_T59 l1 x16_1).f1), .int .i64 ((rd_T59 l1 x16_1).f2), .bool ((rd_T59 l1 x16_1).f3)] 59 (0, 0)) (by (with_reducible repeat (first | refine blk_drewN ?_ _ | refine blk_drew ?_ | refine blk_alloc ?_ _)); exact BK285.out) hb)
                      have n3_ := Aside0.mk (below_step (by repeat (first | (with_reducible first | exact HB.out | apply below_alloc | apply pw_below_drewN | apply below_drew1 | refine below_set ?_ GE282.out | refine below_set ?_ GE283.out | refine below_set ?_ GE285.out) | exact HB.out)) hb)
                      have n4_ := Aside0.mk (hbox)
                      have n5_ := Aside0.mk ((by rw [hg]; exact (below_size (by repeat (first | (with_reducible first | exact HB.out | apply below_alloc | apply pw_below_drewN | apply below_drew1 | refine below_set ?_ GE282.out | refine below_set ?_ GE283.out | refine below_set ?_ GE285.out) | exact HB.out))) : w.heap.size ≤ gb287))
                      have n6_ := Aside0.mk ((by rw [hg]; exact (below_size (by repeat (first | (with_reducible first | exact HB.out | apply below_alloc | apply pw_below_drewN | apply below_drew1 | refine below_set ?_ GE282.out | refine below_set ?_ GE283.out | refine below_set ?_ GE285.out) | exact HB.out))) : w.heap.size ≤ gb287))
                      have n7_ := Aside0.mk ((by rw [hg]; exact Nat.ne_of_lt (blk_lt (g := gb282) (o := .cells #[.int .i64 0, .int .i64 0, .int .i64 0, .int .i64 0] 36 (0, 0)) (by (with_reducible repeat (first | refine blk_drewN ?_ _ | refine blk_drew ?_ | refine blk_alloc ?_ _)); exact BK282.out)) : gb282 ≠ gb287))
                      have n8_ := Aside0.mk ((by rw [hg]; exact Nat.ne_of_gt (blk_lt (g := gb282) (o := .cells #[.int .i64 0, .int .i64 0, .int .i64 0, .int .i64 0] 36 (0, 0)) (by (with_reducible repeat (first | refine blk_drewN ?_ _ | refine blk_drew ?_ | refine blk_alloc ?_ _)); exact BK282.out)) : gb287 ≠ gb282))
                      have n9_ := Aside0.mk ((by rw [hg]; exact Nat.ne_of_lt (blk_lt (g := gb283) (o := .cells #[.int .i64 x284000_1, .int .i64 x284001_1, .int .i64 x284002_1, .int .i64 x284003_1] 36 (0, 0)) (by (with_reducible repeat (first | refine blk_drewN ?_ _ | refine blk_drew ?_ | refine blk_alloc ?_ _)); exact BK283.out)) : gb283 ≠ gb287))
                      have n10_ := Aside0.mk ((by rw [hg]; exact Nat.ne_of_gt (blk_lt (g := gb283) (o := .cells #[.int .i64 x284000_1, .int .i64 x284001_1, .int .i64 x284002_1, .int .i64 x284003_1] 36 (0, 0)) (by (with_reducible repeat (first | refine blk_drewN ?_ _ | refine blk_drew ?_ | refine blk_alloc ?_ _)); exact BK283.out)) : gb287 ≠ gb283))
                      have n11_ := Aside0.mk ((by rw [hg]; exact Nat.ne_of_lt (blk_lt (g := gb285) (o := .cells #[.int .i64 ((rd_T59 l1 x16_1).f0.f0), .int .i64 ((rd_T59 l1 x16_1).f0.f1), .int .i64 ((rd_T59 l1 x16_1).f0.f2), .int .i64 ((rd_T59 l1 x16_1).f0.f3), .int .i64 ((rd_T59 l1 x16_1).f1), .int .i64 ((rd_T59 l1 x16_1).f2), .bool ((rd_T59 l1 x16_1).f3)] 59 (0, 0)) (by (with_reducible repeat (first | refine blk_drewN ?_ _ | refine blk_drew ?_ | refine blk_alloc ?_ _)); exact BK285.out)) : gb285 ≠ gb287))
                      have n12_ := Aside0.mk ((by rw [hg]; exact Nat.ne_of_gt (blk_lt (g := gb285) (o := .cells #[.int .i64 ((rd_T59 l1 x16_1).f0.f0), .int .i64 ((rd_T59 l1 x16_1).f0.f1), .int .i64 ((rd_T59 l1 x16_1).f0.f2), .int .i64 ((rd_T59 l1 x16_1).f0.f3), .int .i64 ((rd_T59 l1 x16_1).f1), .int .i64 ((rd_T59 l1 x16_1).f2), .bool ((rd_T59 l1 x16_1).f3)] 59 (0, 0)) (by (with_reducible repeat (first | refine blk_drewN ?_ _ | refine blk_drew ?_ | refine blk_alloc ?_ _)); exact BK285.out)) : gb287 ≠ gb285))
                      clear BK282
                      clear BK283
                      clear BK285
                      clear HB
                      have BK282 := n0_
                      have BK283 := n1_
                      have BK285 := n2_
                      have HB := n3_
                      have BK287 := n4_
                      have GW287 := n5_
                      have GE287 := n6_
                      have NB282_287 := n7_
                      have NB287_282 := n8_
                      have NB283_287 := n9_
                      have NB287_283 := n10_
                      have NB285_287 := n11_
                      have NB287_285 := n12_
                      clear n0_ n1_ n2_ n3_ n4_ n5_ n6_ n7_ n8_ n9_ n10_ n11_ n12_
                      clear hb hbox hg
                      refine hK.out _ _ ⟨(blk_cell BK285.out 0).trans rfl, (blk_cell BK285.out 1).trans rfl, (blk_cell BK285.out 2).trans rfl, (blk_cell BK285.out 3).trans rfl, (blk_cell BK285.out 4).trans rfl, (blk_cell BK285.out 5).trans rfl, (blk_cell BK285.out 6).trans rfl⟩ (fun hHeld => ?_)
                      clear hK K
                      refine norm_ (a' := ?_) ?_ ?_
                      rotate_left
                      · show Act.put _ (some 10) _ = _
                        simp only [Act.put, List.setIfInBounds_toArray, List.set_cons_zero, List.set_cons_succ, i64_w, i32_w]
                        rfl
                      refine one_ (i := 8) (N := some 29) #[true, true, true, true, true, true, true, true, true, true, true, true, true, true, true, false, true, false] rfl rfl (one_of HT_.out (by kernel_rfl)) (by decide) (fun K hK => ?_)
                      refine goes_ Tryd.func63 (by kernel_rfl) rfl #[.int .i64 ((rd_T59 l1 x16_1).f0.f1), .int .i64 ((rd_T59 l1 x16_1).f2)] (by rfl) rfl rfl (by (try simp only [List.map_toArray, List.map_cons, List.map_nil]); first | done | rfl | (simp only [List.length_drop, List.length_take]; rfl)) ?_
                      with_reducible refine (kissgateref10_Sum.calls ((rd_T59 l1 x16_1).f0.f1) ((rd_T59 l1 x16_1).f2) t286 _ A10.out).mono ?_
                      rintro e w23 ⟨rfl, hb⟩
                      refine ⟨_, rfl, ?_⟩
                      have n0_ := Aside0.mk (blk_below (g := gb282) (o := .cells #[.int .i64 0, .int .i64 0, .int .i64 0, .int .i64 0] 36 (0, 0)) (by (with_reducible repeat (first | refine blk_drewN ?_ _ | refine blk_drew ?_ | refine blk_alloc ?_ _)); exact BK282.out) hb)
                      have n1_ := Aside0.mk (blk_below (g := gb283) (o := .cells #[.int .i64 x284000_1, .int .i64 x284001_1, .int .i64 x284002_1, .int .i64 x284003_1] 36 (0, 0)) (by (with_reducible repeat (first | refine blk_drewN ?_ _ | refine blk_drew ?_ | refine blk_alloc ?_ _)); exact BK283.out) hb)
                      have n2_ := Aside0.mk (blk_below (g := gb285) (o := .cells #[.int .i64 ((rd_T59 l1 x16_1).f0.f0), .int .i64 ((rd_T59 l1 x16_1).f0.f1), .int .i64 ((rd_T59 l1 x16_1).f0.f2), .int .i64 ((rd_T59 l1 x16_1).f0.f3), .int .i64 ((rd_T59 l1 x16_1).f1), .int .i64 ((rd_T59 l1 x16_1).f2), .bool ((rd_T59 l1 x16_1).f3)] 59 (0, 0)) (by (with_reducible repeat (first | refine blk_drewN ?_ _ | refine blk_drew ?_ | refine blk_alloc ?_ _)); exact BK285.out) hb)
                      have n3_ := Aside0.mk (blk_below (g := gb287) (o := .cells #[.int .i64 0, .int .i64 0, .int .i64 0, .int .i64 0] 36 (0, 0)) (by (with_reducible repeat (first | refine blk_drewN ?_ _ | refine blk_drew ?_ | refine blk_alloc ?_ _)); exact BK287.out) hb)
                      have n4_ := Aside0.mk (below_step (by repeat (first | (with_reducible first | exact HB.out | apply below_alloc | apply pw_below_drewN | apply below_drew1 | refine below_set ?_ GE282.out | refine below_set ?_ GE283.out | refine below_set ?_ GE285.out | refine below_set ?_ GE287.out) | exact HB.out)) hb)
                      clear BK282
                      clear BK283
                      clear BK285
                      clear BK287
                      clear HB
                      have BK282 := n0_
                      have BK283 := n1_
                      have BK285 := n2_
                      have BK287 := n3_
                      have HB := n4_
                      clear n0_ n1_ n2_ n3_ n4_
                      (try clear hb)
                      (try clear hb2)
                      (try clear hk)
                      (try clear hi)
                      refine hK.out _ _ ⟨(blk_cell BK285.out 0).trans rfl, (blk_cell BK285.out 1).trans rfl, (blk_cell BK285.out 2).trans rfl, (blk_cell BK285.out 3).trans rfl, (blk_cell BK285.out 4).trans rfl, (blk_cell BK285.out 5).trans rfl, (blk_cell BK285.out 6).trans rfl⟩ (fun hHeld => ?_)
                      clear hK K
                      refine norm_ (a' := ?_) ?_ ?_
                      rotate_left
                      · show Act.put _ (some 29) _ = _
                        simp only [Act.put, List.setIfInBounds_toArray, List.set_cons_zero, List.set_cons_succ, i64_w, i32_w]
                        rfl
                      refine pure_ (i := 15) (N := some 36) (v := ?_) (a' := ?_) #[true, true, true, true, true, true, true, true, true, true, true, true, true, true, true, true, true, false] rfl rfl (any_of HT_.out (by kernel_rfl)) (fun _ _ _ h => h) (Or.inl ⟨by rfl, ?_⟩) ?_ ?_
                      rotate_left
                      · intro w'
                        go_simp
                        with_reducible rfl
                      rotate_left
                      · simp only [Act.put, List.setIfInBounds_toArray, List.set_cons_zero, List.set_cons_succ, i64_w, i32_w]
                        rfl
                      exact norm_ (by simp only [putAll, Act.put, List.setIfInBounds_toArray, List.set_cons_zero, List.set_cons_succ]) (hCont (gb287) _ ⟨hHeld, (by (with_reducible repeat (first | refine blk_drewN ?_ _ | refine blk_drew ?_ | refine blk_alloc ?_ _)); exact BK282.out), (by (with_reducible repeat (first | refine blk_drewN ?_ _ | refine blk_drew ?_ | refine blk_alloc ?_ _)); exact BK283.out), (by (with_reducible repeat (first | refine blk_drewN ?_ _ | refine blk_drew ?_ | refine blk_alloc ?_ _)); exact BK285.out), (by (with_reducible repeat (first | refine blk_drewN ?_ _ | refine blk_drew ?_ | refine blk_alloc ?_ _)); exact BK287.out), GW287.out, GE287.out, NB282_287.out, NB287_282.out, NB283_287.out, NB287_283.out, NB285_287.out, NB287_285.out, (by repeat (first | (with_reducible first | exact HB.out | apply below_alloc | apply pw_below_drewN | apply below_drew1 | refine below_set ?_ GE282.out | refine below_set ?_ GE283.out | refine below_set ?_ GE285.out | refine below_set ?_ GE287.out) | exact HB.out))⟩)
                  rintro gb287 w24 ⟨hS_, h0_, h1_, h2_, h3_, h4_, h5_, h6_, h7_, h8_, h9_, h10_, h11_, h12_⟩
                  have n0_ : Aside0 (w24.heap[gb282]? = some (.cells #[.int .i64 0, .int .i64 0, .int .i64 0, .int .i64 0] 36 (0, 0))) := ⟨h0_⟩
                  have n1_ : Aside0 (w24.heap[gb283]? = some (.cells #[.int .i64 x284000_1, .int .i64 x284001_1, .int .i64 x284002_1, .int .i64 x284003_1] 36 (0, 0))) := ⟨h1_⟩
                  have n2_ : Aside0 (w24.heap[gb285]? = some (.cells #[.int .i64 ((rd_T59 l1 x16_1).f0.f0), .int .i64 ((rd_T59 l1 x16_1).f0.f1), .int .i64 ((rd_T59 l1 x16_1).f0.f2), .int .i64 ((rd_T59 l1 x16_1).f0.f3), .int .i64 ((rd_T59 l1 x16_1).f1), .int .i64 ((rd_T59 l1 x16_1).f2), .bool ((rd_T59 l1 x16_1).f3)] 59 (0, 0))) := ⟨h2_⟩
                  have n3_ : Aside0 (w24.heap[gb287]? = some (.cells #[.int .i64 0, .int .i64 0, .int .i64 0, .int .i64 0] 36 (0, 0))) := ⟨h3_⟩
                  have n4_ : Aside0 (w.heap.size ≤ gb287) := ⟨h4_⟩
                  have n5_ : Aside0 (w.heap.size ≤ gb287) := ⟨h5_⟩
                  have n6_ : Aside0 (gb282 ≠ gb287) := ⟨h6_⟩
                  have n7_ : Aside0 (gb287 ≠ gb282) := ⟨h7_⟩
                  have n8_ : Aside0 (gb283 ≠ gb287) := ⟨h8_⟩
                  have n9_ : Aside0 (gb287 ≠ gb283) := ⟨h9_⟩
                  have n10_ : Aside0 (gb285 ≠ gb287) := ⟨h10_⟩
                  have n11_ : Aside0 (gb287 ≠ gb285) := ⟨h11_⟩
                  have n12_ : Aside0 (Below w.heap.size w w24) := ⟨h12_⟩
                  clear BK282
                  clear BK283
                  clear BK285
                  clear HB
                  clear h0_ h1_ h2_ h3_ h4_ h5_ h6_ h7_ h8_ h9_ h10_ h11_ h12_
                  have BK282 := n0_
                  have BK283 := n1_
                  have BK285 := n2_
                  have BK287 := n3_
                  have GW287 := n4_
                  have GE287 := n5_
                  have NB282_287 := n6_
                  have NB287_282 := n7_
                  have NB283_287 := n8_
                  have NB287_283 := n9_
                  have NB285_287 := n10_
                  have NB287_285 := n11_
                  have HB := n12_
                  clear n0_ n1_ n2_ n3_ n4_ n5_ n6_ n7_ n8_ n9_ n10_ n11_ n12_
                  have hHeld : w24.cell? ⟨gb285, 0, none⟩ = some (.int .i64 ((rd_T59 l1 x16_1).f0.f0)) ∧ w24.cell? ⟨gb285, 1, none⟩ = some (.int .i64 ((rd_T59 l1 x16_1).f0.f1)) ∧ w24.cell? ⟨gb285, 2, none⟩ = some (.int .i64 ((rd_T59 l1 x16_1).f0.f2)) ∧ w24.cell? ⟨gb285, 3, none⟩ = some (.int .i64 ((rd_T59 l1 x16_1).f0.f3)) ∧ w24.cell? ⟨gb285, 4, none⟩ = some (.int .i64 ((rd_T59 l1 x16_1).f1)) ∧ w24.cell? ⟨gb285, 5, none⟩ = some (.int .i64 ((rd_T59 l1 x16_1).f2)) ∧ w24.cell? ⟨gb285, 6, none⟩ = some (.bool ((rd_T59 l1 x16_1).f3)) := hS_
                  refine norm_ (a' := ?_) ?_ ?_
                  rotate_left
                  · simp only [putAll, Act.put, List.setIfInBounds_toArray, List.set_cons_zero, List.set_cons_succ]
                    rfl
                  refine one_ (i := 17) (N := none) #[true, true, true, true, true, true, true, true, true, true, true, true, true, true, true, true, true, true] rfl rfl (one_of HT_.out (by kernel_rfl)) (by decide) (fun K hK => ?_)
                  have hs25 : w24.cell? ⟨gb287, 0, none⟩ = some (.int .i64 0) := (blk_cell BK287.out 0).trans rfl
                  have hfs25 := blk_frozen BK287.out 0
                  have hns25_0 := NB282_287.out
                  have hns25_1 := NB283_287.out
                  have hns25_2 := NB285_287.out
                  have hms25_0 := NB287_282.out
                  have hms25_1 := NB287_283.out
                  have hms25_2 := NB287_285.out
                  have hs26 : w24.cell? ⟨gb287, 1, none⟩ = some (.int .i64 0) := (blk_cell BK287.out 1).trans rfl
                  have hfs26 := blk_frozen BK287.out 1
                  have hns26_0 := NB282_287.out
                  have hns26_1 := NB283_287.out
                  have hns26_2 := NB285_287.out
                  have hms26_0 := NB287_282.out
                  have hms26_1 := NB287_283.out
                  have hms26_2 := NB287_285.out
                  have hs27 : w24.cell? ⟨gb287, 2, none⟩ = some (.int .i64 0) := (blk_cell BK287.out 2).trans rfl
                  have hfs27 := blk_frozen BK287.out 2
                  have hns27_0 := NB282_287.out
                  have hns27_1 := NB283_287.out
                  have hns27_2 := NB285_287.out
                  have hms27_0 := NB287_282.out
                  have hms27_1 := NB287_283.out
                  have hms27_2 := NB287_285.out
                  have hs28 : w24.cell? ⟨gb287, 3, none⟩ = some (.int .i64 0) := (blk_cell BK287.out 3).trans rfl
                  have hfs28 := blk_frozen BK287.out 3
                  have hns28_0 := NB282_287.out
                  have hns28_1 := NB283_287.out
                  have hns28_2 := NB285_287.out
                  have hms28_0 := NB287_282.out
                  have hms28_1 := NB287_283.out
                  have hms28_2 := NB287_285.out
                  refine skip_ (w1 := ?_) (by rfl) rfl ?_ ?_
                  rotate_left
                  · go_simp
                    rfl
                  refine hK.out _ _ ⟨((cell_far (p := ⟨gb287, _, none⟩) NB285_287.out _).trans (((cell_far (p := ⟨gb287, _, none⟩) NB285_287.out _).trans (((cell_far (p := ⟨gb287, _, none⟩) NB285_287.out _).trans (((cell_far (p := ⟨gb287, _, none⟩) NB285_287.out _).trans (hHeld.1)))))))), ((cell_far (p := ⟨gb287, _, none⟩) NB285_287.out _).trans (((cell_far (p := ⟨gb287, _, none⟩) NB285_287.out _).trans (((cell_far (p := ⟨gb287, _, none⟩) NB285_287.out _).trans (((cell_far (p := ⟨gb287, _, none⟩) NB285_287.out _).trans (hHeld.2.1)))))))), ((cell_far (p := ⟨gb287, _, none⟩) NB285_287.out _).trans (((cell_far (p := ⟨gb287, _, none⟩) NB285_287.out _).trans (((cell_far (p := ⟨gb287, _, none⟩) NB285_287.out _).trans (((cell_far (p := ⟨gb287, _, none⟩) NB285_287.out _).trans (hHeld.2.2.1)))))))), ((cell_far (p := ⟨gb287, _, none⟩) NB285_287.out _).trans (((cell_far (p := ⟨gb287, _, none⟩) NB285_287.out _).trans (((cell_far (p := ⟨gb287, _, none⟩) NB285_287.out _).trans (((cell_far (p := ⟨gb287, _, none⟩) NB285_287.out _).trans (hHeld.2.2.2.1)))))))), ((cell_far (p := ⟨gb287, _, none⟩) NB285_287.out _).trans (((cell_far (p := ⟨gb287, _, none⟩) NB285_287.out _).trans (((cell_far (p := ⟨gb287, _, none⟩) NB285_287.out _).trans (((cell_far (p := ⟨gb287, _, none⟩) NB285_287.out _).trans (hHeld.2.2.2.2.1)))))))), ((cell_far (p := ⟨gb287, _, none⟩) NB285_287.out _).trans (((cell_far (p := ⟨gb287, _, none⟩) NB285_287.out _).trans (((cell_far (p := ⟨gb287, _, none⟩) NB285_287.out _).trans (((cell_far (p := ⟨gb287, _, none⟩) NB285_287.out _).trans (hHeld.2.2.2.2.2.1)))))))), ((cell_far (p := ⟨gb287, _, none⟩) NB285_287.out _).trans (((cell_far (p := ⟨gb287, _, none⟩) NB285_287.out _).trans (((cell_far (p := ⟨gb287, _, none⟩) NB285_287.out _).trans (((cell_far (p := ⟨gb287, _, none⟩) NB285_287.out _).trans (hHeld.2.2.2.2.2.2))))))))⟩ (fun hHeld => ?_)
                  clear hK K
                  refine done_ (done_of HT_.out (by kernel_rfl)) ?_
                  have hnb29 := NB285_287.out
                  have hnc29 := NB287_285.out
                  have hcz30_0 : w24.cell? ⟨gb285, 0, none⟩ = some (.int .i64 ((rd_T59 l1 x16_1).f0.f0)) := (blk_cell BK285.out 0).trans rfl
                  have hcz30_1 : w24.cell? ⟨gb285, 1, none⟩ = some (.int .i64 ((rd_T59 l1 x16_1).f0.f1)) := (blk_cell BK285.out 1).trans rfl
                  have hcz30_2 : w24.cell? ⟨gb285, 2, none⟩ = some (.int .i64 ((rd_T59 l1 x16_1).f0.f2)) := (blk_cell BK285.out 2).trans rfl
                  have hcz30_3 : w24.cell? ⟨gb285, 3, none⟩ = some (.int .i64 ((rd_T59 l1 x16_1).f0.f3)) := (blk_cell BK285.out 3).trans rfl
                  have hcz30_4 : w24.cell? ⟨gb285, 4, none⟩ = some (.int .i64 ((rd_T59 l1 x16_1).f1)) := (blk_cell BK285.out 4).trans rfl
                  have hcz30_5 : w24.cell? ⟨gb285, 5, none⟩ = some (.int .i64 ((rd_T59 l1 x16_1).f2)) := (blk_cell BK285.out 5).trans rfl
                  have hcz30_6 : w24.cell? ⟨gb285, 6, none⟩ = some (.bool ((rd_T59 l1 x16_1).f3)) := (blk_cell BK285.out 6).trans rfl
                  have hfz30_0 := blk_frozen BK285.out 0
                  have hfz30_1 := blk_frozen BK285.out 1
                  have hfz30_2 := blk_frozen BK285.out 2
                  have hfz30_3 := blk_frozen BK285.out 3
                  have hfz30_4 := blk_frozen BK285.out 4
                  have hfz30_5 := blk_frozen BK285.out 5
                  have hfz30_6 := blk_frozen BK285.out 6
                  try go_wp2_with (first | ((with_reducible refine gate_callee (f := 62) rfl ?_); refine goesL_ (some 39) rfl rfl Tryd.func62 (by kernel_rfl) rfl #[.agg #[.int .i64 ((rd_T59 l1 x16_1).f0.f0), .int .i64 ((rd_T59 l1 x16_1).f0.f1), .int .i64 ((rd_T59 l1 x16_1).f0.f2), .int .i64 ((rd_T59 l1 x16_1).f0.f3), .int .i64 ((rd_T59 l1 x16_1).f1), .int .i64 ((rd_T59 l1 x16_1).f2), .bool ((rd_T59 l1 x16_1).f3)], .int .i64 a0] rfl (by (try simp only [List.map_toArray, List.map_cons, List.map_nil]); first | done | rfl | (simp only [List.length_drop, List.length_take]; rfl)) ?_; (with_reducible refine (kissgateref10_Use.calls ((rd_T59 l1 x16_1).f0.f0) ((rd_T59 l1 x16_1).f0.f1) ((rd_T59 l1 x16_1).f0.f2) ((rd_T59 l1 x16_1).f0.f3) ((rd_T59 l1 x16_1).f1) ((rd_T59 l1 x16_1).f2) ((rd_T59 l1 x16_1).f3) a0 true _ A11.out).mono ?_); rintro e w31 ⟨rfl, hb⟩; refine ⟨_, rfl, ?_⟩; have n0_ := Aside0.mk (blk_below (g := gb282) (o := .cells #[.int .i64 0, .int .i64 0, .int .i64 0, .int .i64 0] 36 (0, 0)) (by (with_reducible repeat (first | refine blk_drewN ?_ _ | refine blk_drew ?_ | refine blk_alloc ?_ _)); refine blk_far ?_ NB282_287.out _; (with_reducible repeat (first | refine blk_drewN ?_ _ | refine blk_drew ?_ | refine blk_alloc ?_ _)); refine blk_far ?_ NB282_287.out _; (with_reducible repeat (first | refine blk_drewN ?_ _ | refine blk_drew ?_ | refine blk_alloc ?_ _)); refine blk_far ?_ NB282_287.out _; (with_reducible repeat (first | refine blk_drewN ?_ _ | refine blk_drew ?_ | refine blk_alloc ?_ _)); refine blk_far ?_ NB282_287.out _; (with_reducible repeat (first | refine blk_drewN ?_ _ | refine blk_drew ?_ | refine blk_alloc ?_ _)); exact BK282.out) hb); have n1_ := Aside0.mk (blk_below (g := gb283) (o := .cells #[.int .i64 x284000_1, .int .i64 x284001_1, .int .i64 x284002_1, .int .i64 x284003_1] 36 (0, 0)) (by (with_reducible repeat (first | refine blk_drewN ?_ _ | refine blk_drew ?_ | refine blk_alloc ?_ _)); refine blk_far ?_ NB283_287.out _; (with_reducible repeat (first | refine blk_drewN ?_ _ | refine blk_drew ?_ | refine blk_alloc ?_ _)); refine blk_far ?_ NB283_287.out _; (with_reducible repeat (first | refine blk_drewN ?_ _ | refine blk_drew ?_ | refine blk_alloc ?_ _)); refine blk_far ?_ NB283_287.out _; (with_reducible repeat (first | refine blk_drewN ?_ _ | refine blk_drew ?_ | refine blk_alloc ?_ _)); refine blk_far ?_ NB283_287.out _; (with_reducible repeat (first | refine blk_drewN ?_ _ | refine blk_drew ?_ | refine blk_alloc ?_ _)); exact BK283.out) hb); have n2_ := Aside0.mk (blk_below (g := gb285) (o := .cells #[.int .i64 ((rd_T59 l1 x16_1).f0.f0), .int .i64 ((rd_T59 l1 x16_1).f0.f1), .int .i64 ((rd_T59 l1 x16_1).f0.f2), .int .i64 ((rd_T59 l1 x16_1).f0.f3), .int .i64 ((rd_T59 l1 x16_1).f1), .int .i64 ((rd_T59 l1 x16_1).f2), .bool ((rd_T59 l1 x16_1).f3)] 59 (0, 0)) (by (with_reducible repeat (first | refine blk_drewN ?_ _ | refine blk_drew ?_ | refine blk_alloc ?_ _)); refine blk_far ?_ NB285_287.out _; (with_reducible repeat (first | refine blk_drewN ?_ _ | refine blk_drew ?_ | refine blk_alloc ?_ _)); refine blk_far ?_ NB285_287.out _; (with_reducible repeat (first | refine blk_drewN ?_ _ | refine blk_drew ?_ | refine blk_alloc ?_ _)); refine blk_far ?_ NB285_287.out _; (with_reducible repeat (first | refine blk_drewN ?_ _ | refine blk_drew ?_ | refine blk_alloc ?_ _)); refine blk_far ?_ NB285_287.out _; (with_reducible repeat (first | refine blk_drewN ?_ _ | refine blk_drew ?_ | refine blk_alloc ?_ _)); exact BK285.out) hb); have n3_ := Aside0.mk (blk_below (g := gb287) (o := .cells #[.int .i64 ((rd_T59 l1 x16_1).f0.f0), .int .i64 t286, .int .i64 ((rd_T59 l1 x16_1).f0.f2), .int .i64 ((rd_T59 l1 x16_1).f0.f3)] 36 (0, 0)) (by (with_reducible repeat (first | refine blk_drewN ?_ _ | refine blk_drew ?_ | refine blk_alloc ?_ _)); refine blk_put (cs := #[.int .i64 ((rd_T59 l1 x16_1).f0.f0), .int .i64 t286, .int .i64 ((rd_T59 l1 x16_1).f0.f2), .int .i64 0]) ?_ 3 _ rfl; (with_reducible repeat (first | refine blk_drewN ?_ _ | refine blk_drew ?_ | refine blk_alloc ?_ _)); refine blk_put (cs := #[.int .i64 ((rd_T59 l1 x16_1).f0.f0), .int .i64 t286, .int .i64 0, .int .i64 0]) ?_ 2 _ rfl; (with_reducible repeat (first | refine blk_drewN ?_ _ | refine blk_drew ?_ | refine blk_alloc ?_ _)); refine blk_put (cs := #[.int .i64 ((rd_T59 l1 x16_1).f0.f0), .int .i64 0, .int .i64 0, .int .i64 0]) ?_ 1 _ rfl; (with_reducible repeat (first | refine blk_drewN ?_ _ | refine blk_drew ?_ | refine blk_alloc ?_ _)); refine blk_put (cs := #[.int .i64 0, .int .i64 0, .int .i64 0, .int .i64 0]) ?_ 0 _ rfl; (with_reducible repeat (first | refine blk_drewN ?_ _ | refine blk_drew ?_ | refine blk_alloc ?_ _)); exact BK287.out) hb); have n4_ := Aside0.mk (below_step (by repeat (first | (with_reducible first | exact HB.out | apply below_alloc | apply pw_below_drewN | apply below_drew1 | refine below_set ?_ GE282.out | refine below_set ?_ GE283.out | refine below_set ?_ GE285.out | refine below_set ?_ GE287.out) | exact HB.out)) hb); clear BK282; clear BK283; clear BK285; clear BK287; clear HB; have BK282 := n0_; have BK283 := n1_; have BK285 := n2_; have BK287 := n3_; have HB := n4_; clear n0_ n1_ n2_ n3_ n4_; (try clear hb); (try clear hb2); (try clear hk); (try clear hi); have hnb32 := NB287_282.out; have hnc32 := NB282_287.out; have hnb33 := NB287_283.out; have hnc33 := NB283_287.out; have hcz34_0 : w31.cell? ⟨gb287, 0, none⟩ = some (.int .i64 ((rd_T59 l1 x16_1).f0.f0)) := (blk_cell BK287.out 0).trans rfl; have hcz34_1 : w31.cell? ⟨gb287, 1, none⟩ = some (.int .i64 t286) := (blk_cell BK287.out 1).trans rfl; have hcz34_2 : w31.cell? ⟨gb287, 2, none⟩ = some (.int .i64 ((rd_T59 l1 x16_1).f0.f2)) := (blk_cell BK287.out 2).trans rfl; have hcz34_3 : w31.cell? ⟨gb287, 3, none⟩ = some (.int .i64 ((rd_T59 l1 x16_1).f0.f3)) := (blk_cell BK287.out 3).trans rfl; have hfz34_0 := blk_frozen BK287.out 0; have hfz34_1 := blk_frozen BK287.out 1; have hfz34_2 := blk_frozen BK287.out 2; have hfz34_3 := blk_frozen BK287.out 3; have hnb35 := NB283_282.out; have hnc35 := NB282_283.out; have hcz36_0 : w31.cell? ⟨gb283, 0, none⟩ = some (.int .i64 x284000_1) := (blk_cell BK283.out 0).trans rfl; have hcz36_1 : w31.cell? ⟨gb283, 1, none⟩ = some (.int .i64 x284001_1) := (blk_cell BK283.out 1).trans rfl; have hcz36_2 : w31.cell? ⟨gb283, 2, none⟩ = some (.int .i64 x284002_1) := (blk_cell BK283.out 2).trans rfl; have hcz36_3 : w31.cell? ⟨gb283, 3, none⟩ = some (.int .i64 x284003_1) := (blk_cell BK283.out 3).trans rfl; have hfz36_0 := blk_frozen BK283.out 0; have hfz36_1 := blk_frozen BK283.out 1; have hfz36_2 := blk_frozen BK283.out 2; have hfz36_3 := blk_frozen BK283.out 3) | (go_at_call 57; (with_reducible refine (kissgateref10_Better.calls ((rd_T59 l1 x16_1).f0.f0) t286 ((rd_T59 l1 x16_1).f0.f2) ((rd_T59 l1 x16_1).f0.f3) x284000_1 x284001_1 x284002_1 x284003_1 true _ A14.out).mono ?_); rintro e w37 ⟨rfl, hb⟩; have n0_ := Aside0.mk (blk_below (g := gb282) (o := .cells #[.int .i64 0, .int .i64 0, .int .i64 0, .int .i64 0] 36 (0, 0)) (by (with_reducible repeat (first | refine blk_drewN ?_ _ | refine blk_drew ?_ | refine blk_alloc ?_ _)); exact BK282.out) hb); have n1_ := Aside0.mk (blk_below (g := gb283) (o := .cells #[.int .i64 x284000_1, .int .i64 x284001_1, .int .i64 x284002_1, .int .i64 x284003_1] 36 (0, 0)) (by (with_reducible repeat (first | refine blk_drewN ?_ _ | refine blk_drew ?_ | refine blk_alloc ?_ _)); exact BK283.out) hb); have n2_ := Aside0.mk (blk_below (g := gb285) (o := .cells #[.int .i64 ((rd_T59 l1 x16_1).f0.f0), .int .i64 ((rd_T59 l1 x16_1).f0.f1), .int .i64 ((rd_T59 l1 x16_1).f0.f2), .int .i64 ((rd_T59 l1 x16_1).f0.f3), .int .i64 ((rd_T59 l1 x16_1).f1), .int .i64 ((rd_T59 l1 x16_1).f2), .bool ((rd_T59 l1 x16_1).f3)] 59 (0, 0)) (by (with_reducible repeat (first | refine blk_drewN ?_ _ | refine blk_drew ?_ | refine blk_alloc ?_ _)); exact BK285.out) hb); have n3_ := Aside0.mk (blk_below (g := gb287) (o := .cells #[.int .i64 ((rd_T59 l1 x16_1).f0.f0), .int .i64 t286, .int .i64 ((rd_T59 l1 x16_1).f0.f2), .int .i64 ((rd_T59 l1 x16_1).f0.f3)] 36 (0, 0)) (by (with_reducible repeat (first | refine blk_drewN ?_ _ | refine blk_drew ?_ | refine blk_alloc ?_ _)); exact BK287.out) hb); have n4_ := Aside0.mk (below_step (by repeat (first | (with_reducible first | exact HB.out | apply below_alloc | apply pw_below_drewN | apply below_drew1 | refine below_set ?_ GE282.out | refine below_set ?_ GE283.out | refine below_set ?_ GE285.out | refine below_set ?_ GE287.out) | exact HB.out)) hb); clear BK282; clear BK283; clear BK285; clear BK287; clear HB; have BK282 := n0_; have BK283 := n1_; have BK285 := n2_; have BK287 := n3_; have HB := n4_; clear n0_ n1_ n2_ n3_ n4_; (try clear hb); (try clear hb2); (try clear hk); (try clear hi); have hcz38_0 : w37.cell? ⟨gb287, 0, none⟩ = some (.int .i64 ((rd_T59 l1 x16_1).f0.f0)) := (blk_cell BK287.out 0).trans rfl; have hcz38_1 : w37.cell? ⟨gb287, 1, none⟩ = some (.int .i64 t286) := (blk_cell BK287.out 1).trans rfl; have hcz38_2 : w37.cell? ⟨gb287, 2, none⟩ = some (.int .i64 ((rd_T59 l1 x16_1).f0.f2)) := (blk_cell BK287.out 2).trans rfl; have hcz38_3 : w37.cell? ⟨gb287, 3, none⟩ = some (.int .i64 ((rd_T59 l1 x16_1).f0.f3)) := (blk_cell BK287.out 3).trans rfl; have hfz38_0 := blk_frozen BK287.out 0; have hfz38_1 := blk_frozen BK287.out 1; have hfz38_2 := blk_frozen BK287.out 2; have hfz38_3 := blk_frozen BK287.out 3; have hcz39_0 : w37.cell? ⟨gb283, 0, none⟩ = some (.int .i64 x284000_1) := (blk_cell BK283.out 0).trans rfl; have hcz39_1 : w37.cell? ⟨gb283, 1, none⟩ = some (.int .i64 x284001_1) := (blk_cell BK283.out 1).trans rfl; have hcz39_2 : w37.cell? ⟨gb283, 2, none⟩ = some (.int .i64 x284002_1) := (blk_cell BK283.out 2).trans rfl; have hcz39_3 : w37.cell? ⟨gb283, 3, none⟩ = some (.int .i64 x284003_1) := (blk_cell BK283.out 3).trans rfl; have hfz39_0 := blk_frozen BK283.out 0; have hfz39_1 := blk_frozen BK283.out 1; have hfz39_2 := blk_frozen BK283.out 2; have hfz39_3 := blk_frozen BK283.out 3))
                  go_roundg k1
                  case measure => have := HK1.out; omega
                  case rel => exact ⟨(x16_1), (wrap64 (x16_1 + 1)), ((rd_T59 l1 x16_1).f0.f0), (t286), ((rd_T59 l1 x16_1).f0.f2), ((rd_T59 l1 x16_1).f0.f3), (by first | rfl | (simp; done) | (simp [*]; done)), (by first | rfl | (simp; done) | (simp [*]; done)), H', ⟨by have := HK1.out; omega⟩, ⟨by (with_reducible repeat (first | refine blk_drewN ?_ _ | refine blk_drew ?_ | refine blk_alloc ?_ _)); refine blk_far ?_ NB282_283.out _; (with_reducible repeat (first | refine blk_drewN ?_ _ | refine blk_drew ?_ | refine blk_alloc ?_ _)); refine blk_far ?_ NB282_283.out _; (with_reducible repeat (first | refine blk_drewN ?_ _ | refine blk_drew ?_ | refine blk_alloc ?_ _)); refine blk_far ?_ NB282_283.out _; (with_reducible repeat (first | refine blk_drewN ?_ _ | refine blk_drew ?_ | refine blk_alloc ?_ _)); refine blk_far ?_ NB282_283.out _; (with_reducible repeat (first | refine blk_drewN ?_ _ | refine blk_drew ?_ | refine blk_alloc ?_ _)); exact BK282.out⟩, ⟨by (with_reducible repeat (first | refine blk_drewN ?_ _ | refine blk_drew ?_ | refine blk_alloc ?_ _)); refine blk_put (cs := #[.int .i64 ((rd_T59 l1 x16_1).f0.f0), .int .i64 t286, .int .i64 ((rd_T59 l1 x16_1).f0.f2), .int .i64 x284003_1]) ?_ 3 _ rfl; (with_reducible repeat (first | refine blk_drewN ?_ _ | refine blk_drew ?_ | refine blk_alloc ?_ _)); refine blk_put (cs := #[.int .i64 ((rd_T59 l1 x16_1).f0.f0), .int .i64 t286, .int .i64 x284002_1, .int .i64 x284003_1]) ?_ 2 _ rfl; (with_reducible repeat (first | refine blk_drewN ?_ _ | refine blk_drew ?_ | refine blk_alloc ?_ _)); refine blk_put (cs := #[.int .i64 ((rd_T59 l1 x16_1).f0.f0), .int .i64 x284001_1, .int .i64 x284002_1, .int .i64 x284003_1]) ?_ 1 _ rfl; (with_reducible repeat (first | refine blk_drewN ?_ _ | refine blk_drew ?_ | refine blk_alloc ?_ _)); refine blk_put (cs := #[.int .i64 x284000_1, .int .i64 x284001_1, .int .i64 x284002_1, .int .i64 x284003_1]) ?_ 0 _ rfl; (with_reducible repeat (first | refine blk_drewN ?_ _ | refine blk_drew ?_ | refine blk_alloc ?_ _)); exact BK283.out⟩, ⟨by repeat (first | (with_reducible first | exact HB.out | apply below_alloc | apply pw_below_drewN | apply below_drew1 | refine below_set ?_ GE282.out | refine below_set ?_ GE283.out | refine below_set ?_ GE285.out | refine below_set ?_ GE287.out) | exact HB.out)⟩⟩
                · replace c15 := Bool.eq_false_iff.mpr c15
                  subst c15
                  have H1 : (kissgateref10_Best.l0 k1 a0 x7_1 l1 (l1.length : Int) (wrap64 (x16_1 + 1)) x284000_1 x284001_1 x284002_1 x284003_1) = some (r1, r2, r3, r4, r5) := by rw [if_neg (show ¬ (false = true) by decide)] at H; exact H
                  clear H
                  have H := H1
                  clear H1
                  have H' := Aside0.mk H
                  clear H
                  have p284 : 0 ≤ (x16_1 : Int) := of_decide_eq_true (by first | (with_reducible assumption) | assumption)
                  have q284 : x16_1 < (l1.length : Int) := of_decide_eq_true (by first | (with_reducible assumption) | assumption)
                  obtain ⟨ad284, e284, hx284_0, hx284_1, hx284_2, hx284_3, hx284_4, hx284_5, hx284_6⟩ := at_T59 HR1.out x16_1 p284 q284
                  cases e284
                  replace hx284_0 := (HB.out.cell (World.block_lt_of_cell? w _ hx284_0)).trans hx284_0
                  replace hx284_1 := (HB.out.cell (World.block_lt_of_cell? w _ hx284_1)).trans hx284_1
                  replace hx284_2 := (HB.out.cell (World.block_lt_of_cell? w _ hx284_2)).trans hx284_2
                  replace hx284_3 := (HB.out.cell (World.block_lt_of_cell? w _ hx284_3)).trans hx284_3
                  replace hx284_4 := (HB.out.cell (World.block_lt_of_cell? w _ hx284_4)).trans hx284_4
                  replace hx284_5 := (HB.out.cell (World.block_lt_of_cell? w _ hx284_5)).trans hx284_5
                  replace hx284_6 := (HB.out.cell (World.block_lt_of_cell? w _ hx284_6)).trans hx284_6
                  replace p284 := eq_true p284
                  replace q284 := eq_true q284
                  try go_wp2_with (first | ((with_reducible refine gate_dst (N := 9) rfl ?_); refine box_event ?hg (N := 9) ?hd (cs := #[.int .i64 0, .int .i64 0, .int .i64 0, .int .i64 0, .int .i64 0, .int .i64 0, .bool false]) (t := 59) ?hr ?_; (case hd => rfl); (case hg => rfl); (case hr => first | (go_simp; done) | (go_simp; rfl)); intro gb285 hg w40 hbox hb; have n0_ := Aside0.mk (blk_below (g := gb282) (o := .cells #[.int .i64 0, .int .i64 0, .int .i64 0, .int .i64 0] 36 (0, 0)) (by (with_reducible repeat (first | refine blk_drewN ?_ _ | refine blk_drew ?_ | refine blk_alloc ?_ _)); exact BK282.out) hb); have n1_ := Aside0.mk (blk_below (g := gb283) (o := .cells #[.int .i64 x284000_1, .int .i64 x284001_1, .int .i64 x284002_1, .int .i64 x284003_1] 36 (0, 0)) (by (with_reducible repeat (first | refine blk_drewN ?_ _ | refine blk_drew ?_ | refine blk_alloc ?_ _)); exact BK283.out) hb); have n2_ := Aside0.mk (below_step (by repeat (first | (with_reducible first | exact HB.out | apply below_alloc | apply pw_below_drewN | apply below_drew1 | refine below_set ?_ GE282.out | refine below_set ?_ GE283.out) | exact HB.out)) hb); have n3_ := Aside0.mk (hbox); have n4_ := Aside0.mk ((by rw [hg]; exact (below_size (by repeat (first | (with_reducible first | exact HB.out | apply below_alloc | apply pw_below_drewN | apply below_drew1 | refine below_set ?_ GE282.out | refine below_set ?_ GE283.out) | exact HB.out))) : w.heap.size ≤ gb285)); have n5_ := Aside0.mk ((by rw [hg]; exact (below_size (by repeat (first | (with_reducible first | exact HB.out | apply below_alloc | apply pw_below_drewN | apply below_drew1 | refine below_set ?_ GE282.out | refine below_set ?_ GE283.out) | exact HB.out))) : w.heap.size ≤ gb285)); have n6_ := Aside0.mk ((by rw [hg]; exact Nat.ne_of_lt (blk_lt (g := gb282) (o := .cells #[.int .i64 0, .int .i64 0, .int .i64 0, .int .i64 0] 36 (0, 0)) (by (with_reducible repeat (first | refine blk_drewN ?_ _ | refine blk_drew ?_ | refine blk_alloc ?_ _)); exact BK282.out)) : gb282 ≠ gb285)); have n7_ := Aside0.mk ((by rw [hg]; exact Nat.ne_of_gt (blk_lt (g := gb282) (o := .cells #[.int .i64 0, .int .i64 0, .int .i64 0, .int .i64 0] 36 (0, 0)) (by (with_reducible repeat (first | refine blk_drewN ?_ _ | refine blk_drew ?_ | refine blk_alloc ?_ _)); exact BK282.out)) : gb285 ≠ gb282)); have n8_ := Aside0.mk ((by rw [hg]; exact Nat.ne_of_lt (blk_lt (g := gb283) (o := .cells #[.int .i64 x284000_1, .int .i64 x284001_1, .int .i64 x284002_1, .int .i64 x284003_1] 36 (0, 0)) (by (with_reducible repeat (first | refine blk_drewN ?_ _ | refine blk_drew ?_ | refine blk_alloc ?_ _)); exact BK283.out)) : gb283 ≠ gb285)); have n9_ := Aside0.mk ((by rw [hg]; exact Nat.ne_of_gt (blk_lt (g := gb283) (o := .cells #[.int .i64 x284000_1, .int .i64 x284001_1, .int .i64 x284002_1, .int .i64 x284003_1] 36 (0, 0)) (by (with_reducible repeat (first | refine blk_drewN ?_ _ | refine blk_drew ?_ | refine blk_alloc ?_ _)); exact BK283.out)) : gb285 ≠ gb283)); clear BK282; clear BK283; clear HB; have BK282 := n0_; have BK283 := n1_; have HB := n2_; have BK285 := n3_; have GW285 := n4_; have GE285 := n5_; have NB282_285 := n6_; have NB285_282 := n7_; have NB283_285 := n8_; have NB285_283 := n9_; clear n0_ n1_ n2_ n3_ n4_ n5_ n6_ n7_ n8_ n9_; clear hb hbox hg; have hnb41 := NB285_282.out; have hnc41 := NB282_285.out; have hnb42 := NB285_283.out; have hnc42 := NB283_285.out; have hcz43_0 : w40.cell? ⟨gb285, 0, none⟩ = some (.int .i64 0) := (blk_cell BK285.out 0).trans rfl; have hcz43_1 : w40.cell? ⟨gb285, 1, none⟩ = some (.int .i64 0) := (blk_cell BK285.out 1).trans rfl; have hcz43_2 : w40.cell? ⟨gb285, 2, none⟩ = some (.int .i64 0) := (blk_cell BK285.out 2).trans rfl; have hcz43_3 : w40.cell? ⟨gb285, 3, none⟩ = some (.int .i64 0) := (blk_cell BK285.out 3).trans rfl; have hcz43_4 : w40.cell? ⟨gb285, 4, none⟩ = some (.int .i64 0) := (blk_cell BK285.out 4).trans rfl; have hcz43_5 : w40.cell? ⟨gb285, 5, none⟩ = some (.int .i64 0) := (blk_cell BK285.out 5).trans rfl; have hcz43_6 : w40.cell? ⟨gb285, 6, none⟩ = some (.bool false) := (blk_cell BK285.out 6).trans rfl; have hfz43_0 := blk_frozen BK285.out 0; have hfz43_1 := blk_frozen BK285.out 1; have hfz43_2 := blk_frozen BK285.out 2; have hfz43_3 := blk_frozen BK285.out 3; have hfz43_4 := blk_frozen BK285.out 4; have hfz43_5 := blk_frozen BK285.out 5; have hfz43_6 := blk_frozen BK285.out 6))
                  have n0_ : Aside0 ((((((((w40.setCell ⟨gb285, 0, none⟩ (.int .i64 ((rd_T59 l1 x16_1).f0.f0))).setCell ⟨gb285, 1, none⟩ (.int .i64 ((rd_T59 l1 x16_1).f0.f1))).setCell ⟨gb285, 2, none⟩ (.int .i64 ((rd_T59 l1 x16_1).f0.f2))).setCell ⟨gb285, 3, none⟩ (.int .i64 ((rd_T59 l1 x16_1).f0.f3))).setCell ⟨gb285, 4, none⟩ (.int .i64 ((rd_T59 l1 x16_1).f1))).setCell ⟨gb285, 5, none⟩ (.int .i64 ((rd_T59 l1 x16_1).f2))).setCell ⟨gb285, 6, none⟩ (.bool ((rd_T59 l1 x16_1).f3))).heap[gb282]? = some (.cells #[.int .i64 0, .int .i64 0, .int .i64 0, .int .i64 0] 36 (0, 0))) := ⟨by (with_reducible repeat (first | refine blk_drewN ?_ _ | refine blk_drew ?_ | refine blk_alloc ?_ _)); refine blk_far ?_ NB282_285.out _; (with_reducible repeat (first | refine blk_drewN ?_ _ | refine blk_drew ?_ | refine blk_alloc ?_ _)); refine blk_far ?_ NB282_285.out _; (with_reducible repeat (first | refine blk_drewN ?_ _ | refine blk_drew ?_ | refine blk_alloc ?_ _)); refine blk_far ?_ NB282_285.out _; (with_reducible repeat (first | refine blk_drewN ?_ _ | refine blk_drew ?_ | refine blk_alloc ?_ _)); refine blk_far ?_ NB282_285.out _; (with_reducible repeat (first | refine blk_drewN ?_ _ | refine blk_drew ?_ | refine blk_alloc ?_ _)); refine blk_far ?_ NB282_285.out _; (with_reducible repeat (first | refine blk_drewN ?_ _ | refine blk_drew ?_ | refine blk_alloc ?_ _)); refine blk_far ?_ NB282_285.out _; (with_reducible repeat (first | refine blk_drewN ?_ _ | refine blk_drew ?_ | refine blk_alloc ?_ _)); refine blk_far ?_ NB282_285.out _; (with_reducible repeat (first | refine blk_drewN ?_ _ | refine blk_drew ?_ | refine blk_alloc ?_ _)); exact BK282.out⟩
                  have n1_ : Aside0 ((((((((w40.setCell ⟨gb285, 0, none⟩ (.int .i64 ((rd_T59 l1 x16_1).f0.f0))).setCell ⟨gb285, 1, none⟩ (.int .i64 ((rd_T59 l1 x16_1).f0.f1))).setCell ⟨gb285, 2, none⟩ (.int .i64 ((rd_T59 l1 x16_1).f0.f2))).setCell ⟨gb285, 3, none⟩ (.int .i64 ((rd_T59 l1 x16_1).f0.f3))).setCell ⟨gb285, 4, none⟩ (.int .i64 ((rd_T59 l1 x16_1).f1))).setCell ⟨gb285, 5, none⟩ (.int .i64 ((rd_T59 l1 x16_1).f2))).setCell ⟨gb285, 6, none⟩ (.bool ((rd_T59 l1 x16_1).f3))).heap[gb283]? = some (.cells #[.int .i64 x284000_1, .int .i64 x284001_1, .int .i64 x284002_1, .int .i64 x284003_1] 36 (0, 0))) := ⟨by (with_reducible repeat (first | refine blk_drewN ?_ _ | refine blk_drew ?_ | refine blk_alloc ?_ _)); refine blk_far ?_ NB283_285.out _; (with_reducible repeat (first | refine blk_drewN ?_ _ | refine blk_drew ?_ | refine blk_alloc ?_ _)); refine blk_far ?_ NB283_285.out _; (with_reducible repeat (first | refine blk_drewN ?_ _ | refine blk_drew ?_ | refine blk_alloc ?_ _)); refine blk_far ?_ NB283_285.out _; (with_reducible repeat (first | refine blk_drewN ?_ _ | refine blk_drew ?_ | refine blk_alloc ?_ _)); refine blk_far ?_ NB283_285.out _; (with_reducible repeat (first | refine blk_drewN ?_ _ | refine blk_drew ?_ | refine blk_alloc ?_ _)); refine blk_far ?_ NB283_285.out _; (with_reducible repeat (first | refine blk_drewN ?_ _ | refine blk_drew ?_ | refine blk_alloc ?_ _)); refine blk_far ?_ NB283_285.out _; (with_reducible repeat (first | refine blk_drewN ?_ _ | refine blk_drew ?_ | refine blk_alloc ?_ _)); refine blk_far ?_ NB283_285.out _; (with_reducible repeat (first | refine blk_drewN ?_ _ | refine blk_drew ?_ | refine blk_alloc ?_ _)); exact BK283.out⟩
                  have n2_ : Aside0 ((((((((w40.setCell ⟨gb285, 0, none⟩ (.int .i64 ((rd_T59 l1 x16_1).f0.f0))).setCell ⟨gb285, 1, none⟩ (.int .i64 ((rd_T59 l1 x16_1).f0.f1))).setCell ⟨gb285, 2, none⟩ (.int .i64 ((rd_T59 l1 x16_1).f0.f2))).setCell ⟨gb285, 3, none⟩ (.int .i64 ((rd_T59 l1 x16_1).f0.f3))).setCell ⟨gb285, 4, none⟩ (.int .i64 ((rd_T59 l1 x16_1).f1))).setCell ⟨gb285, 5, none⟩ (.int .i64 ((rd_T59 l1 x16_1).f2))).setCell ⟨gb285, 6, none⟩ (.bool ((rd_T59 l1 x16_1).f3))).heap[gb285]? = some (.cells #[.int .i64 ((rd_T59 l1 x16_1).f0.f0), .int .i64 ((rd_T59 l1 x16_1).f0.f1), .int .i64 ((rd_T59 l1 x16_1).f0.f2), .int .i64 ((rd_T59 l1 x16_1).f0.f3), .int .i64 ((rd_T59 l1 x16_1).f1), .int .i64 ((rd_T59 l1 x16_1).f2), .bool ((rd_T59 l1 x16_1).f3)] 59 (0, 0))) := ⟨by (with_reducible repeat (first | refine blk_drewN ?_ _ | refine blk_drew ?_ | refine blk_alloc ?_ _)); refine blk_put (cs := #[.int .i64 ((rd_T59 l1 x16_1).f0.f0), .int .i64 ((rd_T59 l1 x16_1).f0.f1), .int .i64 ((rd_T59 l1 x16_1).f0.f2), .int .i64 ((rd_T59 l1 x16_1).f0.f3), .int .i64 ((rd_T59 l1 x16_1).f1), .int .i64 ((rd_T59 l1 x16_1).f2), .bool false]) ?_ 6 _ rfl; (with_reducible repeat (first | refine blk_drewN ?_ _ | refine blk_drew ?_ | refine blk_alloc ?_ _)); refine blk_put (cs := #[.int .i64 ((rd_T59 l1 x16_1).f0.f0), .int .i64 ((rd_T59 l1 x16_1).f0.f1), .int .i64 ((rd_T59 l1 x16_1).f0.f2), .int .i64 ((rd_T59 l1 x16_1).f0.f3), .int .i64 ((rd_T59 l1 x16_1).f1), .int .i64 0, .bool false]) ?_ 5 _ rfl; (with_reducible repeat (first | refine blk_drewN ?_ _ | refine blk_drew ?_ | refine blk_alloc ?_ _)); refine blk_put (cs := #[.int .i64 ((rd_T59 l1 x16_1).f0.f0), .int .i64 ((rd_T59 l1 x16_1).f0.f1), .int .i64 ((rd_T59 l1 x16_1).f0.f2), .int .i64 ((rd_T59 l1 x16_1).f0.f3), .int .i64 0, .int .i64 0, .bool false]) ?_ 4 _ rfl; (with_reducible repeat (first | refine blk_drewN ?_ _ | refine blk_drew ?_ | refine blk_alloc ?_ _)); refine blk_put (cs := #[.int .i64 ((rd_T59 l1 x16_1).f0.f0), .int .i64 ((rd_T59 l1 x16_1).f0.f1), .int .i64 ((rd_T59 l1 x16_1).f0.f2), .int .i64 0, .int .i64 0, .int .i64 0, .bool false]) ?_ 3 _ rfl; (with_reducible repeat (first | refine blk_drewN ?_ _ | refine blk_drew ?_ | refine blk_alloc ?_ _)); refine blk_put (cs := #[.int .i64 ((rd_T59 l1 x16_1).f0.f0), .int .i64 ((rd_T59 l1 x16_1).f0.f1), .int .i64 0, .int .i64 0, .int .i64 0, .int .i64 0, .bool false]) ?_ 2 _ rfl; (with_reducible repeat (first | refine blk_drewN ?_ _ | refine blk_drew ?_ | refine blk_alloc ?_ _)); refine blk_put (cs := #[.int .i64 ((rd_T59 l1 x16_1).f0.f0), .int .i64 0, .int .i64 0, .int .i64 0, .int .i64 0, .int .i64 0, .bool false]) ?_ 1 _ rfl; (with_reducible repeat (first | refine blk_drewN ?_ _ | refine blk_drew ?_ | refine blk_alloc ?_ _)); refine blk_put (cs := #[.int .i64 0, .int .i64 0, .int .i64 0, .int .i64 0, .int .i64 0, .int .i64 0, .bool false]) ?_ 0 _ rfl; (with_reducible repeat (first | refine blk_drewN ?_ _ | refine blk_drew ?_ | refine blk_alloc ?_ _)); exact BK285.out⟩
                  have n3_ : Aside0 (Below w.heap.size w (((((((w40.setCell ⟨gb285, 0, none⟩ (.int .i64 ((rd_T59 l1 x16_1).f0.f0))).setCell ⟨gb285, 1, none⟩ (.int .i64 ((rd_T59 l1 x16_1).f0.f1))).setCell ⟨gb285, 2, none⟩ (.int .i64 ((rd_T59 l1 x16_1).f0.f2))).setCell ⟨gb285, 3, none⟩ (.int .i64 ((rd_T59 l1 x16_1).f0.f3))).setCell ⟨gb285, 4, none⟩ (.int .i64 ((rd_T59 l1 x16_1).f1))).setCell ⟨gb285, 5, none⟩ (.int .i64 ((rd_T59 l1 x16_1).f2))).setCell ⟨gb285, 6, none⟩ (.bool ((rd_T59 l1 x16_1).f3)))) := ⟨by repeat (first | (with_reducible first | exact HB.out | apply below_alloc | apply pw_below_drewN | apply below_drew1 | refine below_set ?_ GE282.out | refine below_set ?_ GE283.out | refine below_set ?_ GE285.out) | exact HB.out)⟩
                  (try clear BK282)
                  (try clear BK283)
                  (try clear BK285)
                  (try clear HB)
                  generalize (((((((w40.setCell ⟨gb285, 0, none⟩ (.int .i64 ((rd_T59 l1 x16_1).f0.f0))).setCell ⟨gb285, 1, none⟩ (.int .i64 ((rd_T59 l1 x16_1).f0.f1))).setCell ⟨gb285, 2, none⟩ (.int .i64 ((rd_T59 l1 x16_1).f0.f2))).setCell ⟨gb285, 3, none⟩ (.int .i64 ((rd_T59 l1 x16_1).f0.f3))).setCell ⟨gb285, 4, none⟩ (.int .i64 ((rd_T59 l1 x16_1).f1))).setCell ⟨gb285, 5, none⟩ (.int .i64 ((rd_T59 l1 x16_1).f2))).setCell ⟨gb285, 6, none⟩ (.bool ((rd_T59 l1 x16_1).f3))) = w44 at n0_ n1_ n2_ n3_ ⊢
                  have BK282 := n0_
                  have BK283 := n1_
                  have BK285 := n2_
                  have HB := n3_
                  clear n0_ n1_ n2_ n3_
                  have n0_ := Aside0.mk (blk_drew BK282.out)
                  have n1_ := Aside0.mk (blk_drew BK283.out)
                  have n2_ := Aside0.mk (blk_drew BK285.out)
                  have n3_ := Aside0.mk (below_drew1 HB.out)
                  clear BK282
                  clear BK283
                  clear BK285
                  clear HB
                  have BK282 := n0_
                  have BK283 := n1_
                  have BK285 := n2_
                  have HB := n3_
                  clear n0_ n1_ n2_ n3_
                  refine start_ (n := 18) (S := fun w' => w'.cell? ⟨gb285, 0, none⟩ = some (.int .i64 ((rd_T59 l1 x16_1).f0.f0)) ∧ w'.cell? ⟨gb285, 1, none⟩ = some (.int .i64 ((rd_T59 l1 x16_1).f0.f1)) ∧ w'.cell? ⟨gb285, 2, none⟩ = some (.int .i64 ((rd_T59 l1 x16_1).f0.f2)) ∧ w'.cell? ⟨gb285, 3, none⟩ = some (.int .i64 ((rd_T59 l1 x16_1).f0.f3)) ∧ w'.cell? ⟨gb285, 4, none⟩ = some (.int .i64 ((rd_T59 l1 x16_1).f1)) ∧ w'.cell? ⟨gb285, 5, none⟩ = some (.int .i64 ((rd_T59 l1 x16_1).f2)) ∧ w'.cell? ⟨gb285, 6, none⟩ = some (.bool ((rd_T59 l1 x16_1).f3))) (ds := []) #[false, false, false, false, false, false, false, false, false, false, false, false, false, false, false, false, false, false] (by kernel_rfl) rfl rfl ⟨(blk_cell BK285.out 0).trans rfl, (blk_cell BK285.out 1).trans rfl, (blk_cell BK285.out 2).trans rfl, (blk_cell BK285.out 3).trans rfl, (blk_cell BK285.out 4).trans rfl, (blk_cell BK285.out 5).trans rfl, (blk_cell BK285.out 6).trans rfl⟩ (fun hHeld => ?_); refine with_tabW kissgateref10_Best.tab6 kissgateref10_Best.bits6 (fun HT_ HW_ => ?_)
                  generalize w44.drew = w45 at BK282 BK283 BK285 HB hHeld ⊢
                  refine pure_ (i := 0) (N := some 21) (v := ?_) (a' := ?_) #[true, false, false, false, false, false, false, false, false, false, false, false, false, false, false, false, false, false] rfl rfl (any_of HT_.out (by kernel_rfl)) (fun _ _ _ h => h) (Or.inl ⟨by rfl, ?_⟩) ?_ ?_
                  rotate_left
                  · intro w'
                    go_simp
                    with_reducible rfl
                  rotate_left
                  · simp only [Act.put, List.setIfInBounds_toArray, List.set_cons_zero, List.set_cons_succ, i64_w, i32_w]
                    rfl
                  refine pure_ (i := 1) (N := some 22) (v := ?_) (a' := ?_) #[true, true, false, false, false, false, false, false, false, false, false, false, false, false, false, false, false, false] rfl rfl (any_of HT_.out (by kernel_rfl)) (fun _ _ _ h => h) (Or.inl ⟨by rfl, ?_⟩) ?_ ?_
                  rotate_left
                  · intro w'
                    go_simp
                    with_reducible rfl
                  rotate_left
                  · simp only [Act.put, List.setIfInBounds_toArray, List.set_cons_zero, List.set_cons_succ, i64_w, i32_w]
                    rfl
                  refine pure_ (i := 3) (N := some 24) (v := ?_) (a' := ?_) #[true, true, false, true, false, false, false, false, false, false, false, false, false, false, false, false, false, false] rfl rfl (any_of HT_.out (by kernel_rfl)) (fun _ _ _ h => h) (Or.inl ⟨by rfl, ?_⟩) ?_ ?_
                  rotate_left
                  · intro w'
                    go_simp
                    with_reducible rfl
                  rotate_left
                  · simp only [Act.put, List.setIfInBounds_toArray, List.set_cons_zero, List.set_cons_succ, i64_w, i32_w]
                    rfl
                  refine pure_ (i := 4) (N := some 25) (v := ?_) (a' := ?_) #[true, true, false, true, true, false, false, false, false, false, false, false, false, false, false, false, false, false] rfl rfl (any_of HT_.out (by kernel_rfl)) (fun _ _ _ h => h) (Or.inl ⟨by rfl, ?_⟩) ?_ ?_
                  rotate_left
                  · intro w'
                    go_simp
                    with_reducible rfl
                  rotate_left
                  · simp only [Act.put, List.setIfInBounds_toArray, List.set_cons_zero, List.set_cons_succ, i64_w, i32_w]
                    rfl
                  refine pure_ (i := 6) (N := some 27) (v := ?_) (a' := ?_) #[true, true, false, true, true, false, true, false, false, false, false, false, false, false, false, false, false, false] rfl rfl (any_of HT_.out (by kernel_rfl)) (fun _ _ _ h => h) (Or.inl ⟨by rfl, ?_⟩) ?_ ?_
                  rotate_left
                  · intro w'
                    go_simp
                    with_reducible rfl
                  rotate_left
                  · simp only [Act.put, List.setIfInBounds_toArray, List.set_cons_zero, List.set_cons_succ, i64_w, i32_w]
                    rfl
                  refine pure_ (i := 9) (N := some 30) (v := ?_) (a' := ?_) #[true, true, false, true, true, false, true, false, false, true, false, false, false, false, false, false, false, false] rfl rfl (any_of HT_.out (by kernel_rfl)) (fun _ _ _ h => h) (Or.inl ⟨by rfl, ?_⟩) ?_ ?_
                  rotate_left
                  · intro w'
                    go_simp
                    with_reducible rfl
                  rotate_left
                  · simp only [Act.put, List.setIfInBounds_toArray, List.set_cons_zero, List.set_cons_succ, i64_w, i32_w]
                    rfl
                  refine pure_ (i := 10) (N := some 31) (v := ?_) (a' := ?_) #[true, true, false, true, true, false, true, false, false, true, true, false, false, false, false, false, false, false] rfl rfl (any_of HT_.out (by kernel_rfl)) (fun _ _ _ h => h) (Or.inl ⟨by rfl, ?_⟩) ?_ ?_
                  rotate_left
                  · intro w'
                    go_simp
                    with_reducible rfl
                  rotate_left
                  · simp only [Act.put, List.setIfInBounds_toArray, List.set_cons_zero, List.set_cons_succ, i64_w, i32_w]
                    rfl
                  refine pure_ (i := 12) (N := some 33) (v := ?_) (a' := ?_) #[true, true, false, true, true, false, true, false, false, true, true, false, true, false, false, false, false, false] rfl rfl (any_of HT_.out (by kernel_rfl)) (fun _ _ _ h => h) (Or.inl ⟨by rfl, ?_⟩) ?_ ?_
                  rotate_left
                  · intro w'
                    go_simp
                    with_reducible rfl
                  rotate_left
                  · simp only [Act.put, List.setIfInBounds_toArray, List.set_cons_zero, List.set_cons_succ, i64_w, i32_w]
                    rfl
                  refine pure_ (i := 13) (N := some 34) (v := ?_) (a' := ?_) #[true, true, false, true, true, false, true, false, false, true, true, false, true, true, false, false, false, false] rfl rfl (any_of HT_.out (by kernel_rfl)) (fun _ _ _ h => h) (Or.inl ⟨by rfl, ?_⟩) ?_ ?_
                  rotate_left
                  · intro w'
                    go_simp
                    with_reducible rfl
                  rotate_left
                  · simp only [Act.put, List.setIfInBounds_toArray, List.set_cons_zero, List.set_cons_succ, i64_w, i32_w]
                    rfl
                  refine take_ (i := 2) (N := some 23) (v := ?_) (a' := ?_) #[true, true, true, true, true, false, true, false, false, true, true, false, true, true, false, false, false, false] rfl rfl (take_ofW HT_.out HW_.out (by kernel_rfl)) (fun _ _ _ h => h) (Or.inl ⟨by rfl, ?_⟩) hHeld ?_ ?_
                  rotate_left
                  · rintro w' ⟨s0, s1, s2, s3, s4, s5, s6⟩
                    go_simp
                    with_reducible rfl
                  rotate_left
                  · simp only [Act.put, List.setIfInBounds_toArray, List.set_cons_zero, List.set_cons_succ, i64_w, i32_w]
                    rfl
                  refine take_ (i := 5) (N := some 26) (v := ?_) (a' := ?_) #[true, true, true, true, true, true, true, false, false, true, true, false, true, true, false, false, false, false] rfl rfl (take_ofW HT_.out HW_.out (by kernel_rfl)) (fun _ _ _ h => h) (Or.inl ⟨by rfl, ?_⟩) hHeld ?_ ?_
                  rotate_left
                  · rintro w' ⟨s0, s1, s2, s3, s4, s5, s6⟩
                    go_simp
                    with_reducible rfl
                  rotate_left
                  · simp only [Act.put, List.setIfInBounds_toArray, List.set_cons_zero, List.set_cons_succ, i64_w, i32_w]
                    rfl
                  refine take_ (i := 7) (N := some 28) (v := ?_) (a' := ?_) #[true, true, true, true, true, true, true, true, false, true, true, false, true, true, false, false, false, false] rfl rfl (take_ofW HT_.out HW_.out (by kernel_rfl)) (fun _ _ _ h => h) (Or.inl ⟨by rfl, ?_⟩) hHeld ?_ ?_
                  rotate_left
                  · rintro w' ⟨s0, s1, s2, s3, s4, s5, s6⟩
                    go_simp
                    with_reducible rfl
                  rotate_left
                  · simp only [Act.put, List.setIfInBounds_toArray, List.set_cons_zero, List.set_cons_succ, i64_w, i32_w]
                    rfl
                  refine take_ (i := 11) (N := some 32) (v := ?_) (a' := ?_) #[true, true, true, true, true, true, true, true, false, true, true, true, true, true, false, false, false, false] rfl rfl (take_ofW HT_.out HW_.out (by kernel_rfl)) (fun _ _ _ h => h) (Or.inl ⟨by rfl, ?_⟩) hHeld ?_ ?_
                  rotate_left
                  · rintro w' ⟨s0, s1, s2, s3, s4, s5, s6⟩
                    go_simp
                    with_reducible rfl
                  rotate_left
                  · simp only [Act.put, List.setIfInBounds_toArray, List.set_cons_zero, List.set_cons_succ, i64_w, i32_w]
                    rfl
                  refine take_ (i := 14) (N := some 35) (v := ?_) (a' := ?_) #[true, true, true, true, true, true, true, true, false, true, true, true, true, true, true, false, false, false] rfl rfl (take_ofW HT_.out HW_.out (by kernel_rfl)) (fun _ _ _ h => h) (Or.inl ⟨by rfl, ?_⟩) hHeld ?_ ?_
                  rotate_left
                  · rintro w' ⟨s0, s1, s2, s3, s4, s5, s6⟩
                    go_simp
                    with_reducible rfl
                  rotate_left
                  · simp only [Act.put, List.setIfInBounds_toArray, List.set_cons_zero, List.set_cons_succ, i64_w, i32_w]
                    rfl
                  refine join_ (σ := Nat) 1 #[true, true, true, true, true, true, true, true, true, true, true, true, true, true, true, true, true, false] (fun s_ => [(29, .int .i64 t286), (10, .pointer (some ⟨s_, 0, none⟩)), (36, .agg #[.int .i64 ((rd_T59 l1 x16_1).f0.f0), .int .i64 t286, .int .i64 ((rd_T59 l1 x16_1).f0.f2), .int .i64 ((rd_T59 l1 x16_1).f0.f3)])]) (fun s_ w' => (w'.cell? ⟨gb285, 0, none⟩ = some (.int .i64 ((rd_T59 l1 x16_1).f0.f0)) ∧ w'.cell? ⟨gb285, 1, none⟩ = some (.int .i64 ((rd_T59 l1 x16_1).f0.f1)) ∧ w'.cell? ⟨gb285, 2, none⟩ = some (.int .i64 ((rd_T59 l1 x16_1).f0.f2)) ∧ w'.cell? ⟨gb285, 3, none⟩ = some (.int .i64 ((rd_T59 l1 x16_1).f0.f3)) ∧ w'.cell? ⟨gb285, 4, none⟩ = some (.int .i64 ((rd_T59 l1 x16_1).f1)) ∧ w'.cell? ⟨gb285, 5, none⟩ = some (.int .i64 ((rd_T59 l1 x16_1).f2)) ∧ w'.cell? ⟨gb285, 6, none⟩ = some (.bool ((rd_T59 l1 x16_1).f3))) ∧ (w'.heap[gb282]? = some (.cells #[.int .i64 0, .int .i64 0, .int .i64 0, .int .i64 0] 36 (0, 0))) ∧ (w'.heap[gb283]? = some (.cells #[.int .i64 x284000_1, .int .i64 x284001_1, .int .i64 x284002_1, .int .i64 x284003_1] 36 (0, 0))) ∧ (w'.heap[gb285]? = some (.cells #[.int .i64 ((rd_T59 l1 x16_1).f0.f0), .int .i64 ((rd_T59 l1 x16_1).f0.f1), .int .i64 ((rd_T59 l1 x16_1).f0.f2), .int .i64 ((rd_T59 l1 x16_1).f0.f3), .int .i64 ((rd_T59 l1 x16_1).f1), .int .i64 ((rd_T59 l1 x16_1).f2), .bool ((rd_T59 l1 x16_1).f3)] 59 (0, 0))) ∧ (w'.heap[s_]? = some (.cells #[.int .i64 0, .int .i64 0, .int .i64 0, .int .i64 0] 36 (0, 0))) ∧ (w.heap.size ≤ s_) ∧ (w.heap.size ≤ s_) ∧ (gb282 ≠ s_) ∧ (s_ ≠ gb282) ∧ (gb283 ≠ s_) ∧ (s_ ≠ gb283) ∧ (gb285 ≠ s_) ∧ (s_ ≠ gb285) ∧ (Below w.heap.size w w')) ?_ ?_
                  rotate_left
                  · intro hCont
                    refine two_ (i := 8) (j := 16) (Ni := some 29) (Nj := some 10) #[true, true, true, true, true, true, true, true, true, true, true, true, true, true, true, false, false, false] #[true, true, true, true, true, true, true, true, false, true, true, true, true, true, true, false, true, false] rfl rfl rfl rfl (two_of HT_.out (by kernel_rfl)) (by decide) (by decide) (fun K hK => ?_) (fun K hK => ?_)
                    · skip
                      refine goes_ Tryd.func63 (by kernel_rfl) rfl #[.int .i64 ((rd_T59 l1 x16_1).f0.f1), .int .i64 ((rd_T59 l1 x16_1).f2)] (by rfl) rfl rfl (by (try simp only [List.map_toArray, List.map_cons, List.map_nil]); first | done | rfl | (simp only [List.length_drop, List.length_take]; rfl)) ?_
                      with_reducible refine (kissgateref10_Sum.calls ((rd_T59 l1 x16_1).f0.f1) ((rd_T59 l1 x16_1).f2) t286 _ A10.out).mono ?_
                      rintro e w46 ⟨rfl, hb⟩
                      refine ⟨_, rfl, ?_⟩
                      have n0_ := Aside0.mk (blk_below (g := gb282) (o := .cells #[.int .i64 0, .int .i64 0, .int .i64 0, .int .i64 0] 36 (0, 0)) (by (with_reducible repeat (first | refine blk_drewN ?_ _ | refine blk_drew ?_ | refine blk_alloc ?_ _)); exact BK282.out) hb)
                      have n1_ := Aside0.mk (blk_below (g := gb283) (o := .cells #[.int .i64 x284000_1, .int .i64 x284001_1, .int .i64 x284002_1, .int .i64 x284003_1] 36 (0, 0)) (by (with_reducible repeat (first | refine blk_drewN ?_ _ | refine blk_drew ?_ | refine blk_alloc ?_ _)); exact BK283.out) hb)
                      have n2_ := Aside0.mk (blk_below (g := gb285) (o := .cells #[.int .i64 ((rd_T59 l1 x16_1).f0.f0), .int .i64 ((rd_T59 l1 x16_1).f0.f1), .int .i64 ((rd_T59 l1 x16_1).f0.f2), .int .i64 ((rd_T59 l1 x16_1).f0.f3), .int .i64 ((rd_T59 l1 x16_1).f1), .int .i64 ((rd_T59 l1 x16_1).f2), .bool ((rd_T59 l1 x16_1).f3)] 59 (0, 0)) (by (with_reducible repeat (first | refine blk_drewN ?_ _ | refine blk_drew ?_ | refine blk_alloc ?_ _)); exact BK285.out) hb)
                      have n3_ := Aside0.mk (below_step (by repeat (first | (with_reducible first | exact HB.out | apply below_alloc | apply pw_below_drewN | apply below_drew1 | refine below_set ?_ GE282.out | refine below_set ?_ GE283.out | refine below_set ?_ GE285.out) | exact HB.out)) hb)
                      clear BK282
                      clear BK283
                      clear BK285
                      clear HB
                      have BK282 := n0_
                      have BK283 := n1_
                      have BK285 := n2_
                      have HB := n3_
                      clear n0_ n1_ n2_ n3_
                      (try clear hb)
                      (try clear hb2)
                      (try clear hk)
                      (try clear hi)
                      refine hK.out _ _ ⟨(blk_cell BK285.out 0).trans rfl, (blk_cell BK285.out 1).trans rfl, (blk_cell BK285.out 2).trans rfl, (blk_cell BK285.out 3).trans rfl, (blk_cell BK285.out 4).trans rfl, (blk_cell BK285.out 5).trans rfl, (blk_cell BK285.out 6).trans rfl⟩ (fun hHeld => ?_)
                      clear hK K
                      refine norm_ (a' := ?_) ?_ ?_
                      rotate_left
                      · show Act.put _ (some 29) _ = _
                        simp only [Act.put, List.setIfInBounds_toArray, List.set_cons_zero, List.set_cons_succ, i64_w, i32_w]
                        rfl
                      refine pure_ (i := 15) (N := some 36) (v := ?_) (a' := ?_) #[true, true, true, true, true, true, true, true, true, true, true, true, true, true, true, true, false, false] rfl rfl (any_of HT_.out (by kernel_rfl)) (fun _ _ _ h => h) (Or.inl ⟨by rfl, ?_⟩) ?_ ?_
                      rotate_left
                      · intro w'
                        go_simp
                        with_reducible rfl
                      rotate_left
                      · simp only [Act.put, List.setIfInBounds_toArray, List.set_cons_zero, List.set_cons_succ, i64_w, i32_w]
                        rfl
                      refine one_ (i := 16) (N := some 10) #[true, true, true, true, true, true, true, true, true, true, true, true, true, true, true, true, true, false] rfl rfl (one_of HT_.out (by kernel_rfl)) (by decide) (fun K hK => ?_)
                      refine box_step ?hg (N := 10) ?hd (cs := #[.int .i64 0, .int .i64 0, .int .i64 0, .int .i64 0]) (t := 36) ?hr ?_; (case hd => rfl); (case hg => rfl); (case hr => first | (go_simp; done) | (go_simp; rfl))
                      intro gb287 hg w47 hbox hb
                      have n0_ := Aside0.mk (blk_below (g := gb282) (o := .cells #[.int .i64 0, .int .i64 0, .int .i64 0, .int .i64 0] 36 (0, 0)) (by (with_reducible repeat (first | refine blk_drewN ?_ _ | refine blk_drew ?_ | refine blk_alloc ?_ _)); exact BK282.out) hb)
                      have n1_ := Aside0.mk (blk_below (g := gb283) (o := .cells #[.int .i64 x284000_1, .int .i64 x284001_1, .int .i64 x284002_1, .int .i64 x284003_1] 36 (0, 0)) (by (with_reducible repeat (first | refine blk_drewN ?_ _ | refine blk_drew ?_ | refine blk_alloc ?_ _)); exact BK283.out) hb)
                      have n2_ := Aside0.mk (blk_below (g := gb285) (o := .cells #[.int .i64 ((rd_T59 l1 x16_1).f0.f0), .int .i64 ((rd_T59 l1 x16_1).f0.f1), .int .i64 ((rd_T59 l1 x16_1).f0.f2), .int .i64 ((rd_T59 l1 x16_1).f0.f3), .int .i64 ((rd_T59 l1 x16_1).f1), .int .i64 ((rd_T59 l1 x16_1).f2), .bool ((rd_T59 l1 x16_1).f3)] 59 (0, 0)) (by (with_reducible repeat (first | refine blk_drewN ?_ _ | refine blk_drew ?_ | refine blk_alloc ?_ _)); exact BK285.out) hb)
                      have n3_ := Aside0.mk (below_step (by repeat (first | (with_reducible first | exact HB.out | apply below_alloc | apply pw_below_drewN | apply below_drew1 | refine below_set ?_ GE282.out | refine below_set ?_ GE283.out | refine below_set ?_ GE285.out) | exact HB.out)) hb)
                      have n4_ := Aside0.mk (hbox)
                      have n5_ := Aside0.mk ((by rw [hg]; exact (below_size (by repeat (first | (with_reducible first | exact HB.out | apply below_alloc | apply pw_below_drewN | apply below_drew1 | refine below_set ?_ GE282.out | refine below_set ?_ GE283.out | refine below_set ?_ GE285.out) | exact HB.out))) : w.heap.size ≤ gb287))
                      have n6_ := Aside0.mk ((by rw [hg]; exact (below_size (by repeat (first | (with_reducible first | exact HB.out | apply below_alloc | apply pw_below_drewN | apply below_drew1 | refine below_set ?_ GE282.out | refine below_set ?_ GE283.out | refine below_set ?_ GE285.out) | exact HB.out))) : w.heap.size ≤ gb287))
                      have n7_ := Aside0.mk ((by rw [hg]; exact Nat.ne_of_lt (blk_lt (g := gb282) (o := .cells #[.int .i64 0, .int .i64 0, .int .i64 0, .int .i64 0] 36 (0, 0)) (by (with_reducible repeat (first | refine blk_drewN ?_ _ | refine blk_drew ?_ | refine blk_alloc ?_ _)); exact BK282.out)) : gb282 ≠ gb287))
                      have n8_ := Aside0.mk ((by rw [hg]; exact Nat.ne_of_gt (blk_lt (g := gb282) (o := .cells #[.int .i64 0, .int .i64 0, .int .i64 0, .int .i64 0] 36 (0, 0)) (by (with_reducible repeat (first | refine blk_drewN ?_ _ | refine blk_drew ?_ | refine blk_alloc ?_ _)); exact BK282.out)) : gb287 ≠ gb282))
                      have n9_ := Aside0.mk ((by rw [hg]; exact Nat.ne_of_lt (blk_lt (g := gb283) (o := .cells #[.int .i64 x284000_1, .int .i64 x284001_1, .int .i64 x284002_1, .int .i64 x284003_1] 36 (0, 0)) (by (with_reducible repeat (first | refine blk_drewN ?_ _ | refine blk_drew ?_ | refine blk_alloc ?_ _)); exact BK283.out)) : gb283 ≠ gb287))
                      have n10_ := Aside0.mk ((by rw [hg]; exact Nat.ne_of_gt (blk_lt (g := gb283) (o := .cells #[.int .i64 x284000_1, .int .i64 x284001_1, .int .i64 x284002_1, .int .i64 x284003_1] 36 (0, 0)) (by (with_reducible repeat (first | refine blk_drewN ?_ _ | refine blk_drew ?_ | refine blk_alloc ?_ _)); exact BK283.out)) : gb287 ≠ gb283))
                      have n11_ := Aside0.mk ((by rw [hg]; exact Nat.ne_of_lt (blk_lt (g := gb285) (o := .cells #[.int .i64 ((rd_T59 l1 x16_1).f0.f0), .int .i64 ((rd_T59 l1 x16_1).f0.f1), .int .i64 ((rd_T59 l1 x16_1).f0.f2), .int .i64 ((rd_T59 l1 x16_1).f0.f3), .int .i64 ((rd_T59 l1 x16_1).f1), .int .i64 ((rd_T59 l1 x16_1).f2), .bool ((rd_T59 l1 x16_1).f3)] 59 (0, 0)) (by (with_reducible repeat (first | refine blk_drewN ?_ _ | refine blk_drew ?_ | refine blk_alloc ?_ _)); exact BK285.out)) : gb285 ≠ gb287))
                      have n12_ := Aside0.mk ((by rw [hg]; exact Nat.ne_of_gt (blk_lt (g := gb285) (o := .cells #[.int .i64 ((rd_T59 l1 x16_1).f0.f0), .int .i64 ((rd_T59 l1 x16_1).f0.f1), .int .i64 ((rd_T59 l1 x16_1).f0.f2), .int .i64 ((rd_T59 l1 x16_1).f0.f3), .int .i64 ((rd_T59 l1 x16_1).f1), .int .i64 ((rd_T59 l1 x16_1).f2), .bool ((rd_T59 l1 x16_1).f3)] 59 (0, 0)) (by (with_reducible repeat (first | refine blk_drewN ?_ _ | refine blk_drew ?_ | refine blk_alloc ?_ _)); exact BK285.out)) : gb287 ≠ gb285))
                      clear BK282
                      clear BK283
                      clear BK285
                      clear HB
                      have BK282 := n0_
                      have BK283 := n1_
                      have BK285 := n2_
                      have HB := n3_
                      have BK287 := n4_
                      have GW287 := n5_
                      have GE287 := n6_
                      have NB282_287 := n7_
                      have NB287_282 := n8_
                      have NB283_287 := n9_
                      have NB287_283 := n10_
                      have NB285_287 := n11_
                      have NB287_285 := n12_
                      clear n0_ n1_ n2_ n3_ n4_ n5_ n6_ n7_ n8_ n9_ n10_ n11_ n12_
                      clear hb hbox hg
                      refine hK.out _ _ ⟨(blk_cell BK285.out 0).trans rfl, (blk_cell BK285.out 1).trans rfl, (blk_cell BK285.out 2).trans rfl, (blk_cell BK285.out 3).trans rfl, (blk_cell BK285.out 4).trans rfl, (blk_cell BK285.out 5).trans rfl, (blk_cell BK285.out 6).trans rfl⟩ (fun hHeld => ?_)
                      clear hK K
                      refine norm_ (a' := ?_) ?_ ?_
                      rotate_left
                      · show Act.put _ (some 10) _ = _
                        simp only [Act.put, List.setIfInBounds_toArray, List.set_cons_zero, List.set_cons_succ, i64_w, i32_w]
                        rfl
                      exact norm_ (by simp only [putAll, Act.put, List.setIfInBounds_toArray, List.set_cons_zero, List.set_cons_succ]) (hCont (gb287) _ ⟨hHeld, (by (with_reducible repeat (first | refine blk_drewN ?_ _ | refine blk_drew ?_ | refine blk_alloc ?_ _)); exact BK282.out), (by (with_reducible repeat (first | refine blk_drewN ?_ _ | refine blk_drew ?_ | refine blk_alloc ?_ _)); exact BK283.out), (by (with_reducible repeat (first | refine blk_drewN ?_ _ | refine blk_drew ?_ | refine blk_alloc ?_ _)); exact BK285.out), (by (with_reducible repeat (first | refine blk_drewN ?_ _ | refine blk_drew ?_ | refine blk_alloc ?_ _)); exact BK287.out), GW287.out, GE287.out, NB282_287.out, NB287_282.out, NB283_287.out, NB287_283.out, NB285_287.out, NB287_285.out, (by repeat (first | (with_reducible first | exact HB.out | apply below_alloc | apply pw_below_drewN | apply below_drew1 | refine below_set ?_ GE282.out | refine below_set ?_ GE283.out | refine below_set ?_ GE285.out | refine below_set ?_ GE287.out) | exact HB.out))⟩)
                    · skip
                      refine box_step ?hg (N := 10) ?hd (cs := #[.int .i64 0, .int .i64 0, .int .i64 0, .int .i64 0]) (t := 36) ?hr ?_; (case hd => rfl); (case hg => rfl); (case hr => first | (go_simp; done) | (go_simp; rfl))
                      intro gb287 hg w46 hbox hb
                      have n0_ := Aside0.mk (blk_below (g := gb282) (o := .cells #[.int .i64 0, .int .i64 0, .int .i64 0, .int .i64 0] 36 (0, 0)) (by (with_reducible repeat (first | refine blk_drewN ?_ _ | refine blk_drew ?_ | refine blk_alloc ?_ _)); exact BK282.out) hb)
                      have n1_ := Aside0.mk (blk_below (g := gb283) (o := .cells #[.int .i64 x284000_1, .int .i64 x284001_1, .int .i64 x284002_1, .int .i64 x284003_1] 36 (0, 0)) (by (with_reducible repeat (first | refine blk_drewN ?_ _ | refine blk_drew ?_ | refine blk_alloc ?_ _)); exact BK283.out) hb)
                      have n2_ := Aside0.mk (blk_below (g := gb285) (o := .cells #[.int .i64 ((rd_T59 l1 x16_1).f0.f0), .int .i64 ((rd_T59 l1 x16_1).f0.f1), .int .i64 ((rd_T59 l1 x16_1).f0.f2), .int .i64 ((rd_T59 l1 x16_1).f0.f3), .int .i64 ((rd_T59 l1 x16_1).f1), .int .i64 ((rd_T59 l1 x16_1).f2), .bool ((rd_T59 l1 x16_1).f3)] 59 (0, 0)) (by (with_reducible repeat (first | refine blk_drewN ?_ _ | refine blk_drew ?_ | refine blk_alloc ?_ _)); exact BK285.out) hb)
                      have n3_ := Aside0.mk (below_step (by repeat (first | (with_reducible first | exact HB.out | apply below_alloc | apply pw_below_drewN | apply below_drew1 | refine below_set ?_ GE282.out | refine below_set ?_ GE283.out | refine below_set ?_ GE285.out) | exact HB.out)) hb)
                      have n4_ := Aside0.mk (hbox)
                      have n5_ := Aside0.mk ((by rw [hg]; exact (below_size (by repeat (first | (with_reducible first | exact HB.out | apply below_alloc | apply pw_below_drewN | apply below_drew1 | refine below_set ?_ GE282.out | refine below_set ?_ GE283.out | refine below_set ?_ GE285.out) | exact HB.out))) : w.heap.size ≤ gb287))
                      have n6_ := Aside0.mk ((by rw [hg]; exact (below_size (by repeat (first | (with_reducible first | exact HB.out | apply below_alloc | apply pw_below_drewN | apply below_drew1 | refine below_set ?_ GE282.out | refine below_set ?_ GE283.out | refine below_set ?_ GE285.out) | exact HB.out))) : w.heap.size ≤ gb287))
                      have n7_ := Aside0.mk ((by rw [hg]; exact Nat.ne_of_lt (blk_lt (g := gb282) (o := .cells #[.int .i64 0, .int .i64 0, .int .i64 0, .int .i64 0] 36 (0, 0)) (by (with_reducible repeat (first | refine blk_drewN ?_ _ | refine blk_drew ?_ | refine blk_alloc ?_ _)); exact BK282.out)) : gb282 ≠ gb287))
                      have n8_ := Aside0.mk ((by rw [hg]; exact Nat.ne_of_gt (blk_lt (g := gb282) (o := .cells #[.int .i64 0, .int .i64 0, .int .i64 0, .int .i64 0] 36 (0, 0)) (by (with_reducible repeat (first | refine blk_drewN ?_ _ | refine blk_drew ?_ | refine blk_alloc ?_ _)); exact BK282.out)) : gb287 ≠ gb282))
                      have n9_ := Aside0.mk ((by rw [hg]; exact Nat.ne_of_lt (blk_lt (g := gb283) (o := .cells #[.int .i64 x284000_1, .int .i64 x284001_1, .int .i64 x284002_1, .int .i64 x284003_1] 36 (0, 0)) (by (with_reducible repeat (first | refine blk_drewN ?_ _ | refine blk_drew ?_ | refine blk_alloc ?_ _)); exact BK283.out)) : gb283 ≠ gb287))
                      have n10_ := Aside0.mk ((by rw [hg]; exact Nat.ne_of_gt (blk_lt (g := gb283) (o := .cells #[.int .i64 x284000_1, .int .i64 x284001_1, .int .i64 x284002_1, .int .i64 x284003_1] 36 (0, 0)) (by (with_reducible repeat (first | refine blk_drewN ?_ _ | refine blk_drew ?_ | refine blk_alloc ?_ _)); exact BK283.out)) : gb287 ≠ gb283))
                      have n11_ := Aside0.mk ((by rw [hg]; exact Nat.ne_of_lt (blk_lt (g := gb285) (o := .cells #[.int .i64 ((rd_T59 l1 x16_1).f0.f0), .int .i64 ((rd_T59 l1 x16_1).f0.f1), .int .i64 ((rd_T59 l1 x16_1).f0.f2), .int .i64 ((rd_T59 l1 x16_1).f0.f3), .int .i64 ((rd_T59 l1 x16_1).f1), .int .i64 ((rd_T59 l1 x16_1).f2), .bool ((rd_T59 l1 x16_1).f3)] 59 (0, 0)) (by (with_reducible repeat (first | refine blk_drewN ?_ _ | refine blk_drew ?_ | refine blk_alloc ?_ _)); exact BK285.out)) : gb285 ≠ gb287))
                      have n12_ := Aside0.mk ((by rw [hg]; exact Nat.ne_of_gt (blk_lt (g := gb285) (o := .cells #[.int .i64 ((rd_T59 l1 x16_1).f0.f0), .int .i64 ((rd_T59 l1 x16_1).f0.f1), .int .i64 ((rd_T59 l1 x16_1).f0.f2), .int .i64 ((rd_T59 l1 x16_1).f0.f3), .int .i64 ((rd_T59 l1 x16_1).f1), .int .i64 ((rd_T59 l1 x16_1).f2), .bool ((rd_T59 l1 x16_1).f3)] 59 (0, 0)) (by (with_reducible repeat (first | refine blk_drewN ?_ _ | refine blk_drew ?_ | refine blk_alloc ?_ _)); exact BK285.out)) : gb287 ≠ gb285))
                      clear BK282
                      clear BK283
                      clear BK285
                      clear HB
                      have BK282 := n0_
                      have BK283 := n1_
                      have BK285 := n2_
                      have HB := n3_
                      have BK287 := n4_
                      have GW287 := n5_
                      have GE287 := n6_
                      have NB282_287 := n7_
                      have NB287_282 := n8_
                      have NB283_287 := n9_
                      have NB287_283 := n10_
                      have NB285_287 := n11_
                      have NB287_285 := n12_
                      clear n0_ n1_ n2_ n3_ n4_ n5_ n6_ n7_ n8_ n9_ n10_ n11_ n12_
                      clear hb hbox hg
                      refine hK.out _ _ ⟨(blk_cell BK285.out 0).trans rfl, (blk_cell BK285.out 1).trans rfl, (blk_cell BK285.out 2).trans rfl, (blk_cell BK285.out 3).trans rfl, (blk_cell BK285.out 4).trans rfl, (blk_cell BK285.out 5).trans rfl, (blk_cell BK285.out 6).trans rfl⟩ (fun hHeld => ?_)
                      clear hK K
                      refine norm_ (a' := ?_) ?_ ?_
                      rotate_left
                      · show Act.put _ (some 10) _ = _
                        simp only [Act.put, List.setIfInBounds_toArray, List.set_cons_zero, List.set_cons_succ, i64_w, i32_w]
                        rfl
                      refine one_ (i := 8) (N := some 29) #[true, true, true, true, true, true, true, true, true, true, true, true, true, true, true, false, true, false] rfl rfl (one_of HT_.out (by kernel_rfl)) (by decide) (fun K hK => ?_)
                      refine goes_ Tryd.func63 (by kernel_rfl) rfl #[.int .i64 ((rd_T59 l1 x16_1).f0.f1), .int .i64 ((rd_T59 l1 x16_1).f2)] (by rfl) rfl rfl (by (try simp only [List.map_toArray, List.map_cons, List.map_nil]); first | done | rfl | (simp only [List.length_drop, List.length_take]; rfl)) ?_
                      with_reducible refine (kissgateref10_Sum.calls ((rd_T59 l1 x16_1).f0.f1) ((rd_T59 l1 x16_1).f2) t286 _ A10.out).mono ?_
                      rintro e w47 ⟨rfl, hb⟩
                      refine ⟨_, rfl, ?_⟩
                      have n0_ := Aside0.mk (blk_below (g := gb282) (o := .cells #[.int .i64 0, .int .i64 0, .int .i64 0, .int .i64 0] 36 (0, 0)) (by (with_reducible repeat (first | refine blk_drewN ?_ _ | refine blk_drew ?_ | refine blk_alloc ?_ _)); exact BK282.out) hb)
                      have n1_ := Aside0.mk (blk_below (g := gb283) (o := .cells #[.int .i64 x284000_1, .int .i64 x284001_1, .int .i64 x284002_1, .int .i64 x284003_1] 36 (0, 0)) (by (with_reducible repeat (first | refine blk_drewN ?_ _ | refine blk_drew ?_ | refine blk_alloc ?_ _)); exact BK283.out) hb)
                      have n2_ := Aside0.mk (blk_below (g := gb285) (o := .cells #[.int .i64 ((rd_T59 l1 x16_1).f0.f0), .int .i64 ((rd_T59 l1 x16_1).f0.f1), .int .i64 ((rd_T59 l1 x16_1).f0.f2), .int .i64 ((rd_T59 l1 x16_1).f0.f3), .int .i64 ((rd_T59 l1 x16_1).f1), .int .i64 ((rd_T59 l1 x16_1).f2), .bool ((rd_T59 l1 x16_1).f3)] 59 (0, 0)) (by (with_reducible repeat (first | refine blk_drewN ?_ _ | refine blk_drew ?_ | refine blk_alloc ?_ _)); exact BK285.out) hb)
                      have n3_ := Aside0.mk (blk_below (g := gb287) (o := .cells #[.int .i64 0, .int .i64 0, .int .i64 0, .int .i64 0] 36 (0, 0)) (by (with_reducible repeat (first | refine blk_drewN ?_ _ | refine blk_drew ?_ | refine blk_alloc ?_ _)); exact BK287.out) hb)
                      have n4_ := Aside0.mk (below_step (by repeat (first | (with_reducible first | exact HB.out | apply below_alloc | apply pw_below_drewN | apply below_drew1 | refine below_set ?_ GE282.out | refine below_set ?_ GE283.out | refine below_set ?_ GE285.out | refine below_set ?_ GE287.out) | exact HB.out)) hb)
                      clear BK282
                      clear BK283
                      clear BK285
                      clear BK287
                      clear HB
                      have BK282 := n0_
                      have BK283 := n1_
                      have BK285 := n2_
                      have BK287 := n3_
                      have HB := n4_
                      clear n0_ n1_ n2_ n3_ n4_
                      (try clear hb)
                      (try clear hb2)
                      (try clear hk)
                      (try clear hi)
                      refine hK.out _ _ ⟨(blk_cell BK285.out 0).trans rfl, (blk_cell BK285.out 1).trans rfl, (blk_cell BK285.out 2).trans rfl, (blk_cell BK285.out 3).trans rfl, (blk_cell BK285.out 4).trans rfl, (blk_cell BK285.out 5).trans rfl, (blk_cell BK285.out 6).trans rfl⟩ (fun hHeld => ?_)
                      clear hK K
                      refine norm_ (a' := ?_) ?_ ?_
                      rotate_left
                      · show Act.put _ (some 29) _ = _
                        simp only [Act.put, List.setIfInBounds_toArray, List.set_cons_zero, List.set_cons_succ, i64_w, i32_w]
                        rfl
                      refine pure_ (i := 15) (N := some 36) (v := ?_) (a' := ?_) #[true, true, true, true, true, true, true, true, true, true, true, true, true, true, true, true, true, false] rfl rfl (any_of HT_.out (by kernel_rfl)) (fun _ _ _ h => h) (Or.inl ⟨by rfl, ?_⟩) ?_ ?_
                      rotate_left
                      · intro w'
                        go_simp
                        with_reducible rfl
                      rotate_left
                      · simp only [Act.put, List.setIfInBounds_toArray, List.set_cons_zero, List.set_cons_succ, i64_w, i32_w]
                        rfl
                      exact norm_ (by simp only [putAll, Act.put, List.setIfInBounds_toArray, List.set_cons_zero, List.set_cons_succ]) (hCont (gb287) _ ⟨hHeld, (by (with_reducible repeat (first | refine blk_drewN ?_ _ | refine blk_drew ?_ | refine blk_alloc ?_ _)); exact BK282.out), (by (with_reducible repeat (first | refine blk_drewN ?_ _ | refine blk_drew ?_ | refine blk_alloc ?_ _)); exact BK283.out), (by (with_reducible repeat (first | refine blk_drewN ?_ _ | refine blk_drew ?_ | refine blk_alloc ?_ _)); exact BK285.out), (by (with_reducible repeat (first | refine blk_drewN ?_ _ | refine blk_drew ?_ | refine blk_alloc ?_ _)); exact BK287.out), GW287.out, GE287.out, NB282_287.out, NB287_282.out, NB283_287.out, NB287_283.out, NB285_287.out, NB287_285.out, (by repeat (first | (with_reducible first | exact HB.out | apply below_alloc | apply pw_below_drewN | apply below_drew1 | refine below_set ?_ GE282.out | refine below_set ?_ GE283.out | refine below_set ?_ GE285.out | refine below_set ?_ GE287.out) | exact HB.out))⟩)
                  rintro gb287 w48 ⟨hS_, h0_, h1_, h2_, h3_, h4_, h5_, h6_, h7_, h8_, h9_, h10_, h11_, h12_⟩
                  have n0_ : Aside0 (w48.heap[gb282]? = some (.cells #[.int .i64 0, .int .i64 0, .int .i64 0, .int .i64 0] 36 (0, 0))) := ⟨h0_⟩
                  have n1_ : Aside0 (w48.heap[gb283]? = some (.cells #[.int .i64 x284000_1, .int .i64 x284001_1, .int .i64 x284002_1, .int .i64 x284003_1] 36 (0, 0))) := ⟨h1_⟩
                  have n2_ : Aside0 (w48.heap[gb285]? = some (.cells #[.int .i64 ((rd_T59 l1 x16_1).f0.f0), .int .i64 ((rd_T59 l1 x16_1).f0.f1), .int .i64 ((rd_T59 l1 x16_1).f0.f2), .int .i64 ((rd_T59 l1 x16_1).f0.f3), .int .i64 ((rd_T59 l1 x16_1).f1), .int .i64 ((rd_T59 l1 x16_1).f2), .bool ((rd_T59 l1 x16_1).f3)] 59 (0, 0))) := ⟨h2_⟩
                  have n3_ : Aside0 (w48.heap[gb287]? = some (.cells #[.int .i64 0, .int .i64 0, .int .i64 0, .int .i64 0] 36 (0, 0))) := ⟨h3_⟩
                  have n4_ : Aside0 (w.heap.size ≤ gb287) := ⟨h4_⟩
                  have n5_ : Aside0 (w.heap.size ≤ gb287) := ⟨h5_⟩
                  have n6_ : Aside0 (gb282 ≠ gb287) := ⟨h6_⟩
                  have n7_ : Aside0 (gb287 ≠ gb282) := ⟨h7_⟩
                  have n8_ : Aside0 (gb283 ≠ gb287) := ⟨h8_⟩
                  have n9_ : Aside0 (gb287 ≠ gb283) := ⟨h9_⟩
                  have n10_ : Aside0 (gb285 ≠ gb287) := ⟨h10_⟩
                  have n11_ : Aside0 (gb287 ≠ gb285) := ⟨h11_⟩
                  have n12_ : Aside0 (Below w.heap.size w w48) := ⟨h12_⟩
                  clear BK282
                  clear BK283
                  clear BK285
                  clear HB
                  clear h0_ h1_ h2_ h3_ h4_ h5_ h6_ h7_ h8_ h9_ h10_ h11_ h12_
                  have BK282 := n0_
                  have BK283 := n1_
                  have BK285 := n2_
                  have BK287 := n3_
                  have GW287 := n4_
                  have GE287 := n5_
                  have NB282_287 := n6_
                  have NB287_282 := n7_
                  have NB283_287 := n8_
                  have NB287_283 := n9_
                  have NB285_287 := n10_
                  have NB287_285 := n11_
                  have HB := n12_
                  clear n0_ n1_ n2_ n3_ n4_ n5_ n6_ n7_ n8_ n9_ n10_ n11_ n12_
                  have hHeld : w48.cell? ⟨gb285, 0, none⟩ = some (.int .i64 ((rd_T59 l1 x16_1).f0.f0)) ∧ w48.cell? ⟨gb285, 1, none⟩ = some (.int .i64 ((rd_T59 l1 x16_1).f0.f1)) ∧ w48.cell? ⟨gb285, 2, none⟩ = some (.int .i64 ((rd_T59 l1 x16_1).f0.f2)) ∧ w48.cell? ⟨gb285, 3, none⟩ = some (.int .i64 ((rd_T59 l1 x16_1).f0.f3)) ∧ w48.cell? ⟨gb285, 4, none⟩ = some (.int .i64 ((rd_T59 l1 x16_1).f1)) ∧ w48.cell? ⟨gb285, 5, none⟩ = some (.int .i64 ((rd_T59 l1 x16_1).f2)) ∧ w48.cell? ⟨gb285, 6, none⟩ = some (.bool ((rd_T59 l1 x16_1).f3)) := hS_
                  refine norm_ (a' := ?_) ?_ ?_
                  rotate_left
                  · simp only [putAll, Act.put, List.setIfInBounds_toArray, List.set_cons_zero, List.set_cons_succ]
                    rfl
                  refine one_ (i := 17) (N := none) #[true, true, true, true, true, true, true, true, true, true, true, true, true, true, true, true, true, true] rfl rfl (one_of HT_.out (by kernel_rfl)) (by decide) (fun K hK => ?_)
                  have hs49 : w48.cell? ⟨gb287, 0, none⟩ = some (.int .i64 0) := (blk_cell BK287.out 0).trans rfl
                  have hfs49 := blk_frozen BK287.out 0
                  have hns49_0 := NB282_287.out
                  have hns49_1 := NB283_287.out
                  have hns49_2 := NB285_287.out
                  have hms49_0 := NB287_282.out
                  have hms49_1 := NB287_283.out
                  have hms49_2 := NB287_285.out
                  have hs50 : w48.cell? ⟨gb287, 1, none⟩ = some (.int .i64 0) := (blk_cell BK287.out 1).trans rfl
                  have hfs50 := blk_frozen BK287.out 1
                  have hns50_0 := NB282_287.out
                  have hns50_1 := NB283_287.out
                  have hns50_2 := NB285_287.out
                  have hms50_0 := NB287_282.out
                  have hms50_1 := NB287_283.out
                  have hms50_2 := NB287_285.out
                  have hs51 : w48.cell? ⟨gb287, 2, none⟩ = some (.int .i64 0) := (blk_cell BK287.out 2).trans rfl
                  have hfs51 := blk_frozen BK287.out 2
                  have hns51_0 := NB282_287.out
                  have hns51_1 := NB283_287.out
                  have hns51_2 := NB285_287.out
                  have hms51_0 := NB287_282.out
                  have hms51_1 := NB287_283.out
                  have hms51_2 := NB287_285.out
                  have hs52 : w48.cell? ⟨gb287, 3, none⟩ = some (.int .i64 0) := (blk_cell BK287.out 3).trans rfl
                  have hfs52 := blk_frozen BK287.out 3
                  have hns52_0 := NB282_287.out
                  have hns52_1 := NB283_287.out
                  have hns52_2 := NB285_287.out
                  have hms52_0 := NB287_282.out
                  have hms52_1 := NB287_283.out
                  have hms52_2 := NB287_285.out
                  refine skip_ (w1 := ?_) (by rfl) rfl ?_ ?_
                  rotate_left
                  · go_simp
                    rfl
                  refine hK.out _ _ ⟨((cell_far (p := ⟨gb287, _, none⟩) NB285_287.out _).trans (((cell_far (p := ⟨gb287, _, none⟩) NB285_287.out _).trans (((cell_far (p := ⟨gb287, _, none⟩) NB285_287.out _).trans (((cell_far (p := ⟨gb287, _, none⟩) NB285_287.out _).trans (hHeld.1)))))))), ((cell_far (p := ⟨gb287, _, none⟩) NB285_287.out _).trans (((cell_far (p := ⟨gb287, _, none⟩) NB285_287.out _).trans (((cell_far (p := ⟨gb287, _, none⟩) NB285_287.out _).trans (((cell_far (p := ⟨gb287, _, none⟩) NB285_287.out _).trans (hHeld.2.1)))))))), ((cell_far (p := ⟨gb287, _, none⟩) NB285_287.out _).trans (((cell_far (p := ⟨gb287, _, none⟩) NB285_287.out _).trans (((cell_far (p := ⟨gb287, _, none⟩) NB285_287.out _).trans (((cell_far (p := ⟨gb287, _, none⟩) NB285_287.out _).trans (hHeld.2.2.1)))))))), ((cell_far (p := ⟨gb287, _, none⟩) NB285_287.out _).trans (((cell_far (p := ⟨gb287, _, none⟩) NB285_287.out _).trans (((cell_far (p := ⟨gb287, _, none⟩) NB285_287.out _).trans (((cell_far (p := ⟨gb287, _, none⟩) NB285_287.out _).trans (hHeld.2.2.2.1)))))))), ((cell_far (p := ⟨gb287, _, none⟩) NB285_287.out _).trans (((cell_far (p := ⟨gb287, _, none⟩) NB285_287.out _).trans (((cell_far (p := ⟨gb287, _, none⟩) NB285_287.out _).trans (((cell_far (p := ⟨gb287, _, none⟩) NB285_287.out _).trans (hHeld.2.2.2.2.1)))))))), ((cell_far (p := ⟨gb287, _, none⟩) NB285_287.out _).trans (((cell_far (p := ⟨gb287, _, none⟩) NB285_287.out _).trans (((cell_far (p := ⟨gb287, _, none⟩) NB285_287.out _).trans (((cell_far (p := ⟨gb287, _, none⟩) NB285_287.out _).trans (hHeld.2.2.2.2.2.1)))))))), ((cell_far (p := ⟨gb287, _, none⟩) NB285_287.out _).trans (((cell_far (p := ⟨gb287, _, none⟩) NB285_287.out _).trans (((cell_far (p := ⟨gb287, _, none⟩) NB285_287.out _).trans (((cell_far (p := ⟨gb287, _, none⟩) NB285_287.out _).trans (hHeld.2.2.2.2.2.2))))))))⟩ (fun hHeld => ?_)
                  clear hK K
                  refine done_ (done_of HT_.out (by kernel_rfl)) ?_
                  have hnb53 := NB285_287.out
                  have hnc53 := NB287_285.out
                  have hcz54_0 : w48.cell? ⟨gb285, 0, none⟩ = some (.int .i64 ((rd_T59 l1 x16_1).f0.f0)) := (blk_cell BK285.out 0).trans rfl
                  have hcz54_1 : w48.cell? ⟨gb285, 1, none⟩ = some (.int .i64 ((rd_T59 l1 x16_1).f0.f1)) := (blk_cell BK285.out 1).trans rfl
                  have hcz54_2 : w48.cell? ⟨gb285, 2, none⟩ = some (.int .i64 ((rd_T59 l1 x16_1).f0.f2)) := (blk_cell BK285.out 2).trans rfl
                  have hcz54_3 : w48.cell? ⟨gb285, 3, none⟩ = some (.int .i64 ((rd_T59 l1 x16_1).f0.f3)) := (blk_cell BK285.out 3).trans rfl
                  have hcz54_4 : w48.cell? ⟨gb285, 4, none⟩ = some (.int .i64 ((rd_T59 l1 x16_1).f1)) := (blk_cell BK285.out 4).trans rfl
                  have hcz54_5 : w48.cell? ⟨gb285, 5, none⟩ = some (.int .i64 ((rd_T59 l1 x16_1).f2)) := (blk_cell BK285.out 5).trans rfl
                  have hcz54_6 : w48.cell? ⟨gb285, 6, none⟩ = some (.bool ((rd_T59 l1 x16_1).f3)) := (blk_cell BK285.out 6).trans rfl
                  have hfz54_0 := blk_frozen BK285.out 0
                  have hfz54_1 := blk_frozen BK285.out 1
                  have hfz54_2 := blk_frozen BK285.out 2
                  have hfz54_3 := blk_frozen BK285.out 3
                  have hfz54_4 := blk_frozen BK285.out 4
                  have hfz54_5 := blk_frozen BK285.out 5
                  have hfz54_6 := blk_frozen BK285.out 6
                  try go_wp2_with (first | ((with_reducible refine gate_callee (f := 62) rfl ?_); refine goesL_ (some 39) rfl rfl Tryd.func62 (by kernel_rfl) rfl #[.agg #[.int .i64 ((rd_T59 l1 x16_1).f0.f0), .int .i64 ((rd_T59 l1 x16_1).f0.f1), .int .i64 ((rd_T59 l1 x16_1).f0.f2), .int .i64 ((rd_T59 l1 x16_1).f0.f3), .int .i64 ((rd_T59 l1 x16_1).f1), .int .i64 ((rd_T59 l1 x16_1).f2), .bool ((rd_T59 l1 x16_1).f3)], .int .i64 a0] rfl (by (try simp only [List.map_toArray, List.map_cons, List.map_nil]); first | done | rfl | (simp only [List.length_drop, List.length_take]; rfl)) ?_; (with_reducible refine (kissgateref10_Use.calls ((rd_T59 l1 x16_1).f0.f0) ((rd_T59 l1 x16_1).f0.f1) ((rd_T59 l1 x16_1).f0.f2) ((rd_T59 l1 x16_1).f0.f3) ((rd_T59 l1 x16_1).f1) ((rd_T59 l1 x16_1).f2) ((rd_T59 l1 x16_1).f3) a0 true _ A11.out).mono ?_); rintro e w55 ⟨rfl, hb⟩; refine ⟨_, rfl, ?_⟩; have n0_ := Aside0.mk (blk_below (g := gb282) (o := .cells #[.int .i64 0, .int .i64 0, .int .i64 0, .int .i64 0] 36 (0, 0)) (by (with_reducible repeat (first | refine blk_drewN ?_ _ | refine blk_drew ?_ | refine blk_alloc ?_ _)); refine blk_far ?_ NB282_287.out _; (with_reducible repeat (first | refine blk_drewN ?_ _ | refine blk_drew ?_ | refine blk_alloc ?_ _)); refine blk_far ?_ NB282_287.out _; (with_reducible repeat (first | refine blk_drewN ?_ _ | refine blk_drew ?_ | refine blk_alloc ?_ _)); refine blk_far ?_ NB282_287.out _; (with_reducible repeat (first | refine blk_drewN ?_ _ | refine blk_drew ?_ | refine blk_alloc ?_ _)); refine blk_far ?_ NB282_287.out _; (with_reducible repeat (first | refine blk_drewN ?_ _ | refine blk_drew ?_ | refine blk_alloc ?_ _)); exact BK282.out) hb); have n1_ := Aside0.mk (blk_below (g := gb283) (o := .cells #[.int .i64 x284000_1, .int .i64 x284001_1, .int .i64 x284002_1, .int .i64 x284003_1] 36 (0, 0)) (by (with_reducible repeat (first | refine blk_drewN ?_ _ | refine blk_drew ?_ | refine blk_alloc ?_ _)); refine blk_far ?_ NB283_287.out _; (with_reducible repeat (first | refine blk_drewN ?_ _ | refine blk_drew ?_ | refine blk_alloc ?_ _)); refine blk_far ?_ NB283_287.out _; (with_reducible repeat (first | refine blk_drewN ?_ _ | refine blk_drew ?_ | refine blk_alloc ?_ _)); refine blk_far ?_ NB283_287.out _; (with_reducible repeat (first | refine blk_drewN ?_ _ | refine blk_drew ?_ | refine blk_alloc ?_ _)); refine blk_far ?_ NB283_287.out _; (with_reducible repeat (first | refine blk_drewN ?_ _ | refine blk_drew ?_ | refine blk_alloc ?_ _)); exact BK283.out) hb); have n2_ := Aside0.mk (blk_below (g := gb285) (o := .cells #[.int .i64 ((rd_T59 l1 x16_1).f0.f0), .int .i64 ((rd_T59 l1 x16_1).f0.f1), .int .i64 ((rd_T59 l1 x16_1).f0.f2), .int .i64 ((rd_T59 l1 x16_1).f0.f3), .int .i64 ((rd_T59 l1 x16_1).f1), .int .i64 ((rd_T59 l1 x16_1).f2), .bool ((rd_T59 l1 x16_1).f3)] 59 (0, 0)) (by (with_reducible repeat (first | refine blk_drewN ?_ _ | refine blk_drew ?_ | refine blk_alloc ?_ _)); refine blk_far ?_ NB285_287.out _; (with_reducible repeat (first | refine blk_drewN ?_ _ | refine blk_drew ?_ | refine blk_alloc ?_ _)); refine blk_far ?_ NB285_287.out _; (with_reducible repeat (first | refine blk_drewN ?_ _ | refine blk_drew ?_ | refine blk_alloc ?_ _)); refine blk_far ?_ NB285_287.out _; (with_reducible repeat (first | refine blk_drewN ?_ _ | refine blk_drew ?_ | refine blk_alloc ?_ _)); refine blk_far ?_ NB285_287.out _; (with_reducible repeat (first | refine blk_drewN ?_ _ | refine blk_drew ?_ | refine blk_alloc ?_ _)); exact BK285.out) hb); have n3_ := Aside0.mk (blk_below (g := gb287) (o := .cells #[.int .i64 ((rd_T59 l1 x16_1).f0.f0), .int .i64 t286, .int .i64 ((rd_T59 l1 x16_1).f0.f2), .int .i64 ((rd_T59 l1 x16_1).f0.f3)] 36 (0, 0)) (by (with_reducible repeat (first | refine blk_drewN ?_ _ | refine blk_drew ?_ | refine blk_alloc ?_ _)); refine blk_put (cs := #[.int .i64 ((rd_T59 l1 x16_1).f0.f0), .int .i64 t286, .int .i64 ((rd_T59 l1 x16_1).f0.f2), .int .i64 0]) ?_ 3 _ rfl; (with_reducible repeat (first | refine blk_drewN ?_ _ | refine blk_drew ?_ | refine blk_alloc ?_ _)); refine blk_put (cs := #[.int .i64 ((rd_T59 l1 x16_1).f0.f0), .int .i64 t286, .int .i64 0, .int .i64 0]) ?_ 2 _ rfl; (with_reducible repeat (first | refine blk_drewN ?_ _ | refine blk_drew ?_ | refine blk_alloc ?_ _)); refine blk_put (cs := #[.int .i64 ((rd_T59 l1 x16_1).f0.f0), .int .i64 0, .int .i64 0, .int .i64 0]) ?_ 1 _ rfl; (with_reducible repeat (first | refine blk_drewN ?_ _ | refine blk_drew ?_ | refine blk_alloc ?_ _)); refine blk_put (cs := #[.int .i64 0, .int .i64 0, .int .i64 0, .int .i64 0]) ?_ 0 _ rfl; (with_reducible repeat (first | refine blk_drewN ?_ _ | refine blk_drew ?_ | refine blk_alloc ?_ _)); exact BK287.out) hb); have n4_ := Aside0.mk (below_step (by repeat (first | (with_reducible first | exact HB.out | apply below_alloc | apply pw_below_drewN | apply below_drew1 | refine below_set ?_ GE282.out | refine below_set ?_ GE283.out | refine below_set ?_ GE285.out | refine below_set ?_ GE287.out) | exact HB.out)) hb); clear BK282; clear BK283; clear BK285; clear BK287; clear HB; have BK282 := n0_; have BK283 := n1_; have BK285 := n2_; have BK287 := n3_; have HB := n4_; clear n0_ n1_ n2_ n3_ n4_; (try clear hb); (try clear hb2); (try clear hk); (try clear hi); have hnb56 := NB287_282.out; have hnc56 := NB282_287.out; have hnb57 := NB287_283.out; have hnc57 := NB283_287.out; have hcz58_0 : w55.cell? ⟨gb287, 0, none⟩ = some (.int .i64 ((rd_T59 l1 x16_1).f0.f0)) := (blk_cell BK287.out 0).trans rfl; have hcz58_1 : w55.cell? ⟨gb287, 1, none⟩ = some (.int .i64 t286) := (blk_cell BK287.out 1).trans rfl; have hcz58_2 : w55.cell? ⟨gb287, 2, none⟩ = some (.int .i64 ((rd_T59 l1 x16_1).f0.f2)) := (blk_cell BK287.out 2).trans rfl; have hcz58_3 : w55.cell? ⟨gb287, 3, none⟩ = some (.int .i64 ((rd_T59 l1 x16_1).f0.f3)) := (blk_cell BK287.out 3).trans rfl; have hfz58_0 := blk_frozen BK287.out 0; have hfz58_1 := blk_frozen BK287.out 1; have hfz58_2 := blk_frozen BK287.out 2; have hfz58_3 := blk_frozen BK287.out 3; have hnb59 := NB283_282.out; have hnc59 := NB282_283.out; have hcz60_0 : w55.cell? ⟨gb283, 0, none⟩ = some (.int .i64 x284000_1) := (blk_cell BK283.out 0).trans rfl; have hcz60_1 : w55.cell? ⟨gb283, 1, none⟩ = some (.int .i64 x284001_1) := (blk_cell BK283.out 1).trans rfl; have hcz60_2 : w55.cell? ⟨gb283, 2, none⟩ = some (.int .i64 x284002_1) := (blk_cell BK283.out 2).trans rfl; have hcz60_3 : w55.cell? ⟨gb283, 3, none⟩ = some (.int .i64 x284003_1) := (blk_cell BK283.out 3).trans rfl; have hfz60_0 := blk_frozen BK283.out 0; have hfz60_1 := blk_frozen BK283.out 1; have hfz60_2 := blk_frozen BK283.out 2; have hfz60_3 := blk_frozen BK283.out 3) | (go_at_call 57; (with_reducible refine (kissgateref10_Better.calls ((rd_T59 l1 x16_1).f0.f0) t286 ((rd_T59 l1 x16_1).f0.f2) ((rd_T59 l1 x16_1).f0.f3) x284000_1 x284001_1 x284002_1 x284003_1 false _ A14.out).mono ?_); rintro e w61 ⟨rfl, hb⟩; have n0_ := Aside0.mk (blk_below (g := gb282) (o := .cells #[.int .i64 0, .int .i64 0, .int .i64 0, .int .i64 0] 36 (0, 0)) (by (with_reducible repeat (first | refine blk_drewN ?_ _ | refine blk_drew ?_ | refine blk_alloc ?_ _)); exact BK282.out) hb); have n1_ := Aside0.mk (blk_below (g := gb283) (o := .cells #[.int .i64 x284000_1, .int .i64 x284001_1, .int .i64 x284002_1, .int .i64 x284003_1] 36 (0, 0)) (by (with_reducible repeat (first | refine blk_drewN ?_ _ | refine blk_drew ?_ | refine blk_alloc ?_ _)); exact BK283.out) hb); have n2_ := Aside0.mk (blk_below (g := gb285) (o := .cells #[.int .i64 ((rd_T59 l1 x16_1).f0.f0), .int .i64 ((rd_T59 l1 x16_1).f0.f1), .int .i64 ((rd_T59 l1 x16_1).f0.f2), .int .i64 ((rd_T59 l1 x16_1).f0.f3), .int .i64 ((rd_T59 l1 x16_1).f1), .int .i64 ((rd_T59 l1 x16_1).f2), .bool ((rd_T59 l1 x16_1).f3)] 59 (0, 0)) (by (with_reducible repeat (first | refine blk_drewN ?_ _ | refine blk_drew ?_ | refine blk_alloc ?_ _)); exact BK285.out) hb); have n3_ := Aside0.mk (blk_below (g := gb287) (o := .cells #[.int .i64 ((rd_T59 l1 x16_1).f0.f0), .int .i64 t286, .int .i64 ((rd_T59 l1 x16_1).f0.f2), .int .i64 ((rd_T59 l1 x16_1).f0.f3)] 36 (0, 0)) (by (with_reducible repeat (first | refine blk_drewN ?_ _ | refine blk_drew ?_ | refine blk_alloc ?_ _)); exact BK287.out) hb); have n4_ := Aside0.mk (below_step (by repeat (first | (with_reducible first | exact HB.out | apply below_alloc | apply pw_below_drewN | apply below_drew1 | refine below_set ?_ GE282.out | refine below_set ?_ GE283.out | refine below_set ?_ GE285.out | refine below_set ?_ GE287.out) | exact HB.out)) hb); clear BK282; clear BK283; clear BK285; clear BK287; clear HB; have BK282 := n0_; have BK283 := n1_; have BK285 := n2_; have BK287 := n3_; have HB := n4_; clear n0_ n1_ n2_ n3_ n4_; (try clear hb); (try clear hb2); (try clear hk); (try clear hi)))
                  go_roundg k1
                  case measure => have := HK1.out; omega
                  case rel => exact ⟨(x7_1), (wrap64 (x16_1 + 1)), (x284000_1), (x284001_1), (x284002_1), (x284003_1), (by first | rfl | (simp; done) | (simp [*]; done)), (by first | rfl | (simp; done) | (simp [*]; done)), H', ⟨by have := HK1.out; omega⟩, ⟨by (with_reducible repeat (first | refine blk_drewN ?_ _ | refine blk_drew ?_ | refine blk_alloc ?_ _)); exact BK282.out⟩, ⟨by (with_reducible repeat (first | refine blk_drewN ?_ _ | refine blk_drew ?_ | refine blk_alloc ?_ _)); exact BK283.out⟩, ⟨by repeat (first | (with_reducible first | exact HB.out | apply below_alloc | apply pw_below_drewN | apply below_drew1 | refine below_set ?_ GE282.out | refine below_set ?_ GE283.out | refine below_set ?_ GE285.out | refine below_set ?_ GE287.out) | exact HB.out)⟩⟩
              · rw [if_neg c13] at H
                have c13b0 : decide (((rd_T59 l1 x16_1).f0.f0) < a0) = false := decide_eq_false c13
                clear c13
                have H' := Aside0.mk H
                clear H
                have p284 : 0 ≤ (x16_1 : Int) := of_decide_eq_true (by first | (with_reducible assumption) | assumption)
                have q284 : x16_1 < (l1.length : Int) := of_decide_eq_true (by first | (with_reducible assumption) | assumption)
                obtain ⟨ad284, e284, hx284_0, hx284_1, hx284_2, hx284_3, hx284_4, hx284_5, hx284_6⟩ := at_T59 HR1.out x16_1 p284 q284
                cases e284
                replace hx284_0 := (HB.out.cell (World.block_lt_of_cell? w _ hx284_0)).trans hx284_0
                replace hx284_1 := (HB.out.cell (World.block_lt_of_cell? w _ hx284_1)).trans hx284_1
                replace hx284_2 := (HB.out.cell (World.block_lt_of_cell? w _ hx284_2)).trans hx284_2
                replace hx284_3 := (HB.out.cell (World.block_lt_of_cell? w _ hx284_3)).trans hx284_3
                replace hx284_4 := (HB.out.cell (World.block_lt_of_cell? w _ hx284_4)).trans hx284_4
                replace hx284_5 := (HB.out.cell (World.block_lt_of_cell? w _ hx284_5)).trans hx284_5
                replace hx284_6 := (HB.out.cell (World.block_lt_of_cell? w _ hx284_6)).trans hx284_6
                replace p284 := eq_true p284
                replace q284 := eq_true q284
                try go_wp2_with (first | ((with_reducible refine gate_dst (N := 9) rfl ?_); refine box_event ?hg (N := 9) ?hd (cs := #[.int .i64 0, .int .i64 0, .int .i64 0, .int .i64 0, .int .i64 0, .int .i64 0, .bool false]) (t := 59) ?hr ?_; (case hd => rfl); (case hg => rfl); (case hr => first | (go_simp; done) | (go_simp; rfl)); intro gb285 hg w62 hbox hb; have n0_ := Aside0.mk (blk_below (g := gb282) (o := .cells #[.int .i64 0, .int .i64 0, .int .i64 0, .int .i64 0] 36 (0, 0)) (by (with_reducible repeat (first | refine blk_drewN ?_ _ | refine blk_drew ?_ | refine blk_alloc ?_ _)); exact BK282.out) hb); have n1_ := Aside0.mk (blk_below (g := gb283) (o := .cells #[.int .i64 x284000_1, .int .i64 x284001_1, .int .i64 x284002_1, .int .i64 x284003_1] 36 (0, 0)) (by (with_reducible repeat (first | refine blk_drewN ?_ _ | refine blk_drew ?_ | refine blk_alloc ?_ _)); exact BK283.out) hb); have n2_ := Aside0.mk (below_step (by repeat (first | (with_reducible first | exact HB.out | apply below_alloc | apply pw_below_drewN | apply below_drew1 | refine below_set ?_ GE282.out | refine below_set ?_ GE283.out) | exact HB.out)) hb); have n3_ := Aside0.mk (hbox); have n4_ := Aside0.mk ((by rw [hg]; exact (below_size (by repeat (first | (with_reducible first | exact HB.out | apply below_alloc | apply pw_below_drewN | apply below_drew1 | refine below_set ?_ GE282.out | refine below_set ?_ GE283.out) | exact HB.out))) : w.heap.size ≤ gb285)); have n5_ := Aside0.mk ((by rw [hg]; exact (below_size (by repeat (first | (with_reducible first | exact HB.out | apply below_alloc | apply pw_below_drewN | apply below_drew1 | refine below_set ?_ GE282.out | refine below_set ?_ GE283.out) | exact HB.out))) : w.heap.size ≤ gb285)); have n6_ := Aside0.mk ((by rw [hg]; exact Nat.ne_of_lt (blk_lt (g := gb282) (o := .cells #[.int .i64 0, .int .i64 0, .int .i64 0, .int .i64 0] 36 (0, 0)) (by (with_reducible repeat (first | refine blk_drewN ?_ _ | refine blk_drew ?_ | refine blk_alloc ?_ _)); exact BK282.out)) : gb282 ≠ gb285)); have n7_ := Aside0.mk ((by rw [hg]; exact Nat.ne_of_gt (blk_lt (g := gb282) (o := .cells #[.int .i64 0, .int .i64 0, .int .i64 0, .int .i64 0] 36 (0, 0)) (by (with_reducible repeat (first | refine blk_drewN ?_ _ | refine blk_drew ?_ | refine blk_alloc ?_ _)); exact BK282.out)) : gb285 ≠ gb282)); have n8_ := Aside0.mk ((by rw [hg]; exact Nat.ne_of_lt (blk_lt (g := gb283) (o := .cells #[.int .i64 x284000_1, .int .i64 x284001_1, .int .i64 x284002_1, .int .i64 x284003_1] 36 (0, 0)) (by (with_reducible repeat (first | refine blk_drewN ?_ _ | refine blk_drew ?_ | refine blk_alloc ?_ _)); exact BK283.out)) : gb283 ≠ gb285)); have n9_ := Aside0.mk ((by rw [hg]; exact Nat.ne_of_gt (blk_lt (g := gb283) (o := .cells #[.int .i64 x284000_1, .int .i64 x284001_1, .int .i64 x284002_1, .int .i64 x284003_1] 36 (0, 0)) (by (with_reducible repeat (first | refine blk_drewN ?_ _ | refine blk_drew ?_ | refine blk_alloc ?_ _)); exact BK283.out)) : gb285 ≠ gb283)); clear BK282; clear BK283; clear HB; have BK282 := n0_; have BK283 := n1_; have HB := n2_; have BK285 := n3_; have GW285 := n4_; have GE285 := n5_; have NB282_285 := n6_; have NB285_282 := n7_; have NB283_285 := n8_; have NB285_283 := n9_; clear n0_ n1_ n2_ n3_ n4_ n5_ n6_ n7_ n8_ n9_; clear hb hbox hg; have hnb63 := NB285_282.out; have hnc63 := NB282_285.out; have hnb64 := NB285_283.out; have hnc64 := NB283_285.out; have hcz65_0 : w62.cell? ⟨gb285, 0, none⟩ = some (.int .i64 0) := (blk_cell BK285.out 0).trans rfl; have hcz65_1 : w62.cell? ⟨gb285, 1, none⟩ = some (.int .i64 0) := (blk_cell BK285.out 1).trans rfl; have hcz65_2 : w62.cell? ⟨gb285, 2, none⟩ = some (.int .i64 0) := (blk_cell BK285.out 2).trans rfl; have hcz65_3 : w62.cell? ⟨gb285, 3, none⟩ = some (.int .i64 0) := (blk_cell BK285.out 3).trans rfl; have hcz65_4 : w62.cell? ⟨gb285, 4, none⟩ = some (.int .i64 0) := (blk_cell BK285.out 4).trans rfl; have hcz65_5 : w62.cell? ⟨gb285, 5, none⟩ = some (.int .i64 0) := (blk_cell BK285.out 5).trans rfl; have hcz65_6 : w62.cell? ⟨gb285, 6, none⟩ = some (.bool false) := (blk_cell BK285.out 6).trans rfl; have hfz65_0 := blk_frozen BK285.out 0; have hfz65_1 := blk_frozen BK285.out 1; have hfz65_2 := blk_frozen BK285.out 2; have hfz65_3 := blk_frozen BK285.out 3; have hfz65_4 := blk_frozen BK285.out 4; have hfz65_5 := blk_frozen BK285.out 5; have hfz65_6 := blk_frozen BK285.out 6))
                have n0_ : Aside0 ((((((((w62.setCell ⟨gb285, 0, none⟩ (.int .i64 ((rd_T59 l1 x16_1).f0.f0))).setCell ⟨gb285, 1, none⟩ (.int .i64 ((rd_T59 l1 x16_1).f0.f1))).setCell ⟨gb285, 2, none⟩ (.int .i64 ((rd_T59 l1 x16_1).f0.f2))).setCell ⟨gb285, 3, none⟩ (.int .i64 ((rd_T59 l1 x16_1).f0.f3))).setCell ⟨gb285, 4, none⟩ (.int .i64 ((rd_T59 l1 x16_1).f1))).setCell ⟨gb285, 5, none⟩ (.int .i64 ((rd_T59 l1 x16_1).f2))).setCell ⟨gb285, 6, none⟩ (.bool ((rd_T59 l1 x16_1).f3))).heap[gb282]? = some (.cells #[.int .i64 0, .int .i64 0, .int .i64 0, .int .i64 0] 36 (0, 0))) := ⟨by (with_reducible repeat (first | refine blk_drewN ?_ _ | refine blk_drew ?_ | refine blk_alloc ?_ _)); refine blk_far ?_ NB282_285.out _; (with_reducible repeat (first | refine blk_drewN ?_ _ | refine blk_drew ?_ | refine blk_alloc ?_ _)); refine blk_far ?_ NB282_285.out _; (with_reducible repeat (first | refine blk_drewN ?_ _ | refine blk_drew ?_ | refine blk_alloc ?_ _)); refine blk_far ?_ NB282_285.out _; (with_reducible repeat (first | refine blk_drewN ?_ _ | refine blk_drew ?_ | refine blk_alloc ?_ _)); refine blk_far ?_ NB282_285.out _; (with_reducible repeat (first | refine blk_drewN ?_ _ | refine blk_drew ?_ | refine blk_alloc ?_ _)); refine blk_far ?_ NB282_285.out _; (with_reducible repeat (first | refine blk_drewN ?_ _ | refine blk_drew ?_ | refine blk_alloc ?_ _)); refine blk_far ?_ NB282_285.out _; (with_reducible repeat (first | refine blk_drewN ?_ _ | refine blk_drew ?_ | refine blk_alloc ?_ _)); refine blk_far ?_ NB282_285.out _; (with_reducible repeat (first | refine blk_drewN ?_ _ | refine blk_drew ?_ | refine blk_alloc ?_ _)); exact BK282.out⟩
                have n1_ : Aside0 ((((((((w62.setCell ⟨gb285, 0, none⟩ (.int .i64 ((rd_T59 l1 x16_1).f0.f0))).setCell ⟨gb285, 1, none⟩ (.int .i64 ((rd_T59 l1 x16_1).f0.f1))).setCell ⟨gb285, 2, none⟩ (.int .i64 ((rd_T59 l1 x16_1).f0.f2))).setCell ⟨gb285, 3, none⟩ (.int .i64 ((rd_T59 l1 x16_1).f0.f3))).setCell ⟨gb285, 4, none⟩ (.int .i64 ((rd_T59 l1 x16_1).f1))).setCell ⟨gb285, 5, none⟩ (.int .i64 ((rd_T59 l1 x16_1).f2))).setCell ⟨gb285, 6, none⟩ (.bool ((rd_T59 l1 x16_1).f3))).heap[gb283]? = some (.cells #[.int .i64 x284000_1, .int .i64 x284001_1, .int .i64 x284002_1, .int .i64 x284003_1] 36 (0, 0))) := ⟨by (with_reducible repeat (first | refine blk_drewN ?_ _ | refine blk_drew ?_ | refine blk_alloc ?_ _)); refine blk_far ?_ NB283_285.out _; (with_reducible repeat (first | refine blk_drewN ?_ _ | refine blk_drew ?_ | refine blk_alloc ?_ _)); refine blk_far ?_ NB283_285.out _; (with_reducible repeat (first | refine blk_drewN ?_ _ | refine blk_drew ?_ | refine blk_alloc ?_ _)); refine blk_far ?_ NB283_285.out _; (with_reducible repeat (first | refine blk_drewN ?_ _ | refine blk_drew ?_ | refine blk_alloc ?_ _)); refine blk_far ?_ NB283_285.out _; (with_reducible repeat (first | refine blk_drewN ?_ _ | refine blk_drew ?_ | refine blk_alloc ?_ _)); refine blk_far ?_ NB283_285.out _; (with_reducible repeat (first | refine blk_drewN ?_ _ | refine blk_drew ?_ | refine blk_alloc ?_ _)); refine blk_far ?_ NB283_285.out _; (with_reducible repeat (first | refine blk_drewN ?_ _ | refine blk_drew ?_ | refine blk_alloc ?_ _)); refine blk_far ?_ NB283_285.out _; (with_reducible repeat (first | refine blk_drewN ?_ _ | refine blk_drew ?_ | refine blk_alloc ?_ _)); exact BK283.out⟩
                have n2_ : Aside0 ((((((((w62.setCell ⟨gb285, 0, none⟩ (.int .i64 ((rd_T59 l1 x16_1).f0.f0))).setCell ⟨gb285, 1, none⟩ (.int .i64 ((rd_T59 l1 x16_1).f0.f1))).setCell ⟨gb285, 2, none⟩ (.int .i64 ((rd_T59 l1 x16_1).f0.f2))).setCell ⟨gb285, 3, none⟩ (.int .i64 ((rd_T59 l1 x16_1).f0.f3))).setCell ⟨gb285, 4, none⟩ (.int .i64 ((rd_T59 l1 x16_1).f1))).setCell ⟨gb285, 5, none⟩ (.int .i64 ((rd_T59 l1 x16_1).f2))).setCell ⟨gb285, 6, none⟩ (.bool ((rd_T59 l1 x16_1).f3))).heap[gb285]? = some (.cells #[.int .i64 ((rd_T59 l1 x16_1).f0.f0), .int .i64 ((rd_T59 l1 x16_1).f0.f1), .int .i64 ((rd_T59 l1 x16_1).f0.f2), .int .i64 ((rd_T59 l1 x16_1).f0.f3), .int .i64 ((rd_T59 l1 x16_1).f1), .int .i64 ((rd_T59 l1 x16_1).f2), .bool ((rd_T59 l1 x16_1).f3)] 59 (0, 0))) := ⟨by (with_reducible repeat (first | refine blk_drewN ?_ _ | refine blk_drew ?_ | refine blk_alloc ?_ _)); refine blk_put (cs := #[.int .i64 ((rd_T59 l1 x16_1).f0.f0), .int .i64 ((rd_T59 l1 x16_1).f0.f1), .int .i64 ((rd_T59 l1 x16_1).f0.f2), .int .i64 ((rd_T59 l1 x16_1).f0.f3), .int .i64 ((rd_T59 l1 x16_1).f1), .int .i64 ((rd_T59 l1 x16_1).f2), .bool false]) ?_ 6 _ rfl; (with_reducible repeat (first | refine blk_drewN ?_ _ | refine blk_drew ?_ | refine blk_alloc ?_ _)); refine blk_put (cs := #[.int .i64 ((rd_T59 l1 x16_1).f0.f0), .int .i64 ((rd_T59 l1 x16_1).f0.f1), .int .i64 ((rd_T59 l1 x16_1).f0.f2), .int .i64 ((rd_T59 l1 x16_1).f0.f3), .int .i64 ((rd_T59 l1 x16_1).f1), .int .i64 0, .bool false]) ?_ 5 _ rfl; (with_reducible repeat (first | refine blk_drewN ?_ _ | refine blk_drew ?_ | refine blk_alloc ?_ _)); refine blk_put (cs := #[.int .i64 ((rd_T59 l1 x16_1).f0.f0), .int .i64 ((rd_T59 l1 x16_1).f0.f1), .int .i64 ((rd_T59 l1 x16_1).f0.f2), .int .i64 ((rd_T59 l1 x16_1).f0.f3), .int .i64 0, .int .i64 0, .bool false]) ?_ 4 _ rfl; (with_reducible repeat (first | refine blk_drewN ?_ _ | refine blk_drew ?_ | refine blk_alloc ?_ _)); refine blk_put (cs := #[.int .i64 ((rd_T59 l1 x16_1).f0.f0), .int .i64 ((rd_T59 l1 x16_1).f0.f1), .int .i64 ((rd_T59 l1 x16_1).f0.f2), .int .i64 0, .int .i64 0, .int .i64 0, .bool false]) ?_ 3 _ rfl; (with_reducible repeat (first | refine blk_drewN ?_ _ | refine blk_drew ?_ | refine blk_alloc ?_ _)); refine blk_put (cs := #[.int .i64 ((rd_T59 l1 x16_1).f0.f0), .int .i64 ((rd_T59 l1 x16_1).f0.f1), .int .i64 0, .int .i64 0, .int .i64 0, .int .i64 0, .bool false]) ?_ 2 _ rfl; (with_reducible repeat (first | refine blk_drewN ?_ _ | refine blk_drew ?_ | refine blk_alloc ?_ _)); refine blk_put (cs := #[.int .i64 ((rd_T59 l1 x16_1).f0.f0), .int .i64 0, .int .i64 0, .int .i64 0, .int .i64 0, .int .i64 0, .bool false]) ?_ 1 _ rfl; (with_reducible repeat (first | refine blk_drewN ?_ _ | refine blk_drew ?_ | refine blk_alloc ?_ _)); refine blk_put (cs := #[.int .i64 0, .int .i64 0, .int .i64 0, .int .i64 0, .int .i64 0, .int .i64 0, .bool false]) ?_ 0 _ rfl; (with_reducible repeat (first | refine blk_drewN ?_ _ | refine blk_drew ?_ | refine blk_alloc ?_ _)); exact BK285.out⟩
                have n3_ : Aside0 (Below w.heap.size w (((((((w62.setCell ⟨gb285, 0, none⟩ (.int .i64 ((rd_T59 l1 x16_1).f0.f0))).setCell ⟨gb285, 1, none⟩ (.int .i64 ((rd_T59 l1 x16_1).f0.f1))).setCell ⟨gb285, 2, none⟩ (.int .i64 ((rd_T59 l1 x16_1).f0.f2))).setCell ⟨gb285, 3, none⟩ (.int .i64 ((rd_T59 l1 x16_1).f0.f3))).setCell ⟨gb285, 4, none⟩ (.int .i64 ((rd_T59 l1 x16_1).f1))).setCell ⟨gb285, 5, none⟩ (.int .i64 ((rd_T59 l1 x16_1).f2))).setCell ⟨gb285, 6, none⟩ (.bool ((rd_T59 l1 x16_1).f3)))) := ⟨by repeat (first | (with_reducible first | exact HB.out | apply below_alloc | apply pw_below_drewN | apply below_drew1 | refine below_set ?_ GE282.out | refine below_set ?_ GE283.out | refine below_set ?_ GE285.out) | exact HB.out)⟩
                (try clear BK282)
                (try clear BK283)
                (try clear BK285)
                (try clear HB)
                generalize (((((((w62.setCell ⟨gb285, 0, none⟩ (.int .i64 ((rd_T59 l1 x16_1).f0.f0))).setCell ⟨gb285, 1, none⟩ (.int .i64 ((rd_T59 l1 x16_1).f0.f1))).setCell ⟨gb285, 2, none⟩ (.int .i64 ((rd_T59 l1 x16_1).f0.f2))).setCell ⟨gb285, 3, none⟩ (.int .i64 ((rd_T59 l1 x16_1).f0.f3))).setCell ⟨gb285, 4, none⟩ (.int .i64 ((rd_T59 l1 x16_1).f1))).setCell ⟨gb285, 5, none⟩ (.int .i64 ((rd_T59 l1 x16_1).f2))).setCell ⟨gb285, 6, none⟩ (.bool ((rd_T59 l1 x16_1).f3))) = w66 at n0_ n1_ n2_ n3_ ⊢
                have BK282 := n0_
                have BK283 := n1_
                have BK285 := n2_
                have HB := n3_
                clear n0_ n1_ n2_ n3_
                have n0_ := Aside0.mk (blk_drew BK282.out)
                have n1_ := Aside0.mk (blk_drew BK283.out)
                have n2_ := Aside0.mk (blk_drew BK285.out)
                have n3_ := Aside0.mk (below_drew1 HB.out)
                clear BK282
                clear BK283
                clear BK285
                clear HB
                have BK282 := n0_
                have BK283 := n1_
                have BK285 := n2_
                have HB := n3_
                clear n0_ n1_ n2_ n3_
                refine start_ (n := 18) (S := fun w' => w'.cell? ⟨gb285, 0, none⟩ = some (.int .i64 ((rd_T59 l1 x16_1).f0.f0)) ∧ w'.cell? ⟨gb285, 1, none⟩ = some (.int .i64 ((rd_T59 l1 x16_1).f0.f1)) ∧ w'.cell? ⟨gb285, 2, none⟩ = some (.int .i64 ((rd_T59 l1 x16_1).f0.f2)) ∧ w'.cell? ⟨gb285, 3, none⟩ = some (.int .i64 ((rd_T59 l1 x16_1).f0.f3)) ∧ w'.cell? ⟨gb285, 4, none⟩ = some (.int .i64 ((rd_T59 l1 x16_1).f1)) ∧ w'.cell? ⟨gb285, 5, none⟩ = some (.int .i64 ((rd_T59 l1 x16_1).f2)) ∧ w'.cell? ⟨gb285, 6, none⟩ = some (.bool ((rd_T59 l1 x16_1).f3))) (ds := []) #[false, false, false, false, false, false, false, false, false, false, false, false, false, false, false, false, false, false] (by kernel_rfl) rfl rfl ⟨(blk_cell BK285.out 0).trans rfl, (blk_cell BK285.out 1).trans rfl, (blk_cell BK285.out 2).trans rfl, (blk_cell BK285.out 3).trans rfl, (blk_cell BK285.out 4).trans rfl, (blk_cell BK285.out 5).trans rfl, (blk_cell BK285.out 6).trans rfl⟩ (fun hHeld => ?_); refine with_tabW kissgateref10_Best.tab6 kissgateref10_Best.bits6 (fun HT_ HW_ => ?_)
                generalize w66.drew = w67 at BK282 BK283 BK285 HB hHeld ⊢
                refine pure_ (i := 0) (N := some 21) (v := ?_) (a' := ?_) #[true, false, false, false, false, false, false, false, false, false, false, false, false, false, false, false, false, false] rfl rfl (any_of HT_.out (by kernel_rfl)) (fun _ _ _ h => h) (Or.inl ⟨by rfl, ?_⟩) ?_ ?_
                rotate_left
                · intro w'
                  go_simp
                  with_reducible rfl
                rotate_left
                · simp only [Act.put, List.setIfInBounds_toArray, List.set_cons_zero, List.set_cons_succ, i64_w, i32_w]
                  rfl
                refine pure_ (i := 1) (N := some 22) (v := ?_) (a' := ?_) #[true, true, false, false, false, false, false, false, false, false, false, false, false, false, false, false, false, false] rfl rfl (any_of HT_.out (by kernel_rfl)) (fun _ _ _ h => h) (Or.inl ⟨by rfl, ?_⟩) ?_ ?_
                rotate_left
                · intro w'
                  go_simp
                  with_reducible rfl
                rotate_left
                · simp only [Act.put, List.setIfInBounds_toArray, List.set_cons_zero, List.set_cons_succ, i64_w, i32_w]
                  rfl
                refine pure_ (i := 3) (N := some 24) (v := ?_) (a' := ?_) #[true, true, false, true, false, false, false, false, false, false, false, false, false, false, false, false, false, false] rfl rfl (any_of HT_.out (by kernel_rfl)) (fun _ _ _ h => h) (Or.inl ⟨by rfl, ?_⟩) ?_ ?_
                rotate_left
                · intro w'
                  go_simp
                  with_reducible rfl
                rotate_left
                · simp only [Act.put, List.setIfInBounds_toArray, List.set_cons_zero, List.set_cons_succ, i64_w, i32_w]
                  rfl
                refine pure_ (i := 4) (N := some 25) (v := ?_) (a' := ?_) #[true, true, false, true, true, false, false, false, false, false, false, false, false, false, false, false, false, false] rfl rfl (any_of HT_.out (by kernel_rfl)) (fun _ _ _ h => h) (Or.inl ⟨by rfl, ?_⟩) ?_ ?_
                rotate_left
                · intro w'
                  go_simp
                  with_reducible rfl
                rotate_left
                · simp only [Act.put, List.setIfInBounds_toArray, List.set_cons_zero, List.set_cons_succ, i64_w, i32_w]
                  rfl
                refine pure_ (i := 6) (N := some 27) (v := ?_) (a' := ?_) #[true, true, false, true, true, false, true, false, false, false, false, false, false, false, false, false, false, false] rfl rfl (any_of HT_.out (by kernel_rfl)) (fun _ _ _ h => h) (Or.inl ⟨by rfl, ?_⟩) ?_ ?_
                rotate_left
                · intro w'
                  go_simp
                  with_reducible rfl
                rotate_left
                · simp only [Act.put, List.setIfInBounds_toArray, List.set_cons_zero, List.set_cons_succ, i64_w, i32_w]
                  rfl
                refine pure_ (i := 9) (N := some 30) (v := ?_) (a' := ?_) #[true, true, false, true, true, false, true, false, false, true, false, false, false, false, false, false, false, false] rfl rfl (any_of HT_.out (by kernel_rfl)) (fun _ _ _ h => h) (Or.inl ⟨by rfl, ?_⟩) ?_ ?_
                rotate_left
                · intro w'
                  go_simp
                  with_reducible rfl
                rotate_left
                · simp only [Act.put, List.setIfInBounds_toArray, List.set_cons_zero, List.set_cons_succ, i64_w, i32_w]
                  rfl
                refine pure_ (i := 10) (N := some 31) (v := ?_) (a' := ?_) #[true, true, false, true, true, false, true, false, false, true, true, false, false, false, false, false, false, false] rfl rfl (any_of HT_.out (by kernel_rfl)) (fun _ _ _ h => h) (Or.inl ⟨by rfl, ?_⟩) ?_ ?_
                rotate_left
                · intro w'
                  go_simp
                  with_reducible rfl
                rotate_left
                · simp only [Act.put, List.setIfInBounds_toArray, List.set_cons_zero, List.set_cons_succ, i64_w, i32_w]
                  rfl
                refine pure_ (i := 12) (N := some 33) (v := ?_) (a' := ?_) #[true, true, false, true, true, false, true, false, false, true, true, false, true, false, false, false, false, false] rfl rfl (any_of HT_.out (by kernel_rfl)) (fun _ _ _ h => h) (Or.inl ⟨by rfl, ?_⟩) ?_ ?_
                rotate_left
                · intro w'
                  go_simp
                  with_reducible rfl
                rotate_left
                · simp only [Act.put, List.setIfInBounds_toArray, List.set_cons_zero, List.set_cons_succ, i64_w, i32_w]
                  rfl
                refine pure_ (i := 13) (N := some 34) (v := ?_) (a' := ?_) #[true, true, false, true, true, false, true, false, false, true, true, false, true, true, false, false, false, false] rfl rfl (any_of HT_.out (by kernel_rfl)) (fun _ _ _ h => h) (Or.inl ⟨by rfl, ?_⟩) ?_ ?_
                rotate_left
                · intro w'
                  go_simp
                  with_reducible rfl
                rotate_left
                · simp only [Act.put, List.setIfInBounds_toArray, List.set_cons_zero, List.set_cons_succ, i64_w, i32_w]
                  rfl
                refine take_ (i := 2) (N := some 23) (v := ?_) (a' := ?_) #[true, true, true, true, true, false, true, false, false, true, true, false, true, true, false, false, false, false] rfl rfl (take_ofW HT_.out HW_.out (by kernel_rfl)) (fun _ _ _ h => h) (Or.inl ⟨by rfl, ?_⟩) hHeld ?_ ?_
                rotate_left
                · rintro w' ⟨s0, s1, s2, s3, s4, s5, s6⟩
                  go_simp
                  with_reducible rfl
                rotate_left
                · simp only [Act.put, List.setIfInBounds_toArray, List.set_cons_zero, List.set_cons_succ, i64_w, i32_w]
                  rfl
                refine take_ (i := 5) (N := some 26) (v := ?_) (a' := ?_) #[true, true, true, true, true, true, true, false, false, true, true, false, true, true, false, false, false, false] rfl rfl (take_ofW HT_.out HW_.out (by kernel_rfl)) (fun _ _ _ h => h) (Or.inl ⟨by rfl, ?_⟩) hHeld ?_ ?_
                rotate_left
                · rintro w' ⟨s0, s1, s2, s3, s4, s5, s6⟩
                  go_simp
                  with_reducible rfl
                rotate_left
                · simp only [Act.put, List.setIfInBounds_toArray, List.set_cons_zero, List.set_cons_succ, i64_w, i32_w]
                  rfl
                refine take_ (i := 7) (N := some 28) (v := ?_) (a' := ?_) #[true, true, true, true, true, true, true, true, false, true, true, false, true, true, false, false, false, false] rfl rfl (take_ofW HT_.out HW_.out (by kernel_rfl)) (fun _ _ _ h => h) (Or.inl ⟨by rfl, ?_⟩) hHeld ?_ ?_
                rotate_left
                · rintro w' ⟨s0, s1, s2, s3, s4, s5, s6⟩
                  go_simp
                  with_reducible rfl
                rotate_left
                · simp only [Act.put, List.setIfInBounds_toArray, List.set_cons_zero, List.set_cons_succ, i64_w, i32_w]
                  rfl
                refine take_ (i := 11) (N := some 32) (v := ?_) (a' := ?_) #[true, true, true, true, true, true, true, true, false, true, true, true, true, true, false, false, false, false] rfl rfl (take_ofW HT_.out HW_.out (by kernel_rfl)) (fun _ _ _ h => h) (Or.inl ⟨by rfl, ?_⟩) hHeld ?_ ?_
                rotate_left
                · rintro w' ⟨s0, s1, s2, s3, s4, s5, s6⟩
                  go_simp
                  with_reducible rfl
                rotate_left
                · simp only [Act.put, List.setIfInBounds_toArray, List.set_cons_zero, List.set_cons_succ, i64_w, i32_w]
                  rfl
                refine take_ (i := 14) (N := some 35) (v := ?_) (a' := ?_) #[true, true, true, true, true, true, true, true, false, true, true, true, true, true, true, false, false, false] rfl rfl (take_ofW HT_.out HW_.out (by kernel_rfl)) (fun _ _ _ h => h) (Or.inl ⟨by rfl, ?_⟩) hHeld ?_ ?_
                rotate_left
                · rintro w' ⟨s0, s1, s2, s3, s4, s5, s6⟩
                  go_simp
                  with_reducible rfl
                rotate_left
                · simp only [Act.put, List.setIfInBounds_toArray, List.set_cons_zero, List.set_cons_succ, i64_w, i32_w]
                  rfl
                refine join_ (σ := Nat) 1 #[true, true, true, true, true, true, true, true, true, true, true, true, true, true, true, true, true, false] (fun s_ => [(29, .int .i64 t286), (10, .pointer (some ⟨s_, 0, none⟩)), (36, .agg #[.int .i64 ((rd_T59 l1 x16_1).f0.f0), .int .i64 t286, .int .i64 ((rd_T59 l1 x16_1).f0.f2), .int .i64 ((rd_T59 l1 x16_1).f0.f3)])]) (fun s_ w' => (w'.cell? ⟨gb285, 0, none⟩ = some (.int .i64 ((rd_T59 l1 x16_1).f0.f0)) ∧ w'.cell? ⟨gb285, 1, none⟩ = some (.int .i64 ((rd_T59 l1 x16_1).f0.f1)) ∧ w'.cell? ⟨gb285, 2, none⟩ = some (.int .i64 ((rd_T59 l1 x16_1).f0.f2)) ∧ w'.cell? ⟨gb285, 3, none⟩ = some (.int .i64 ((rd_T59 l1 x16_1).f0.f3)) ∧ w'.cell? ⟨gb285, 4, none⟩ = some (.int .i64 ((rd_T59 l1 x16_1).f1)) ∧ w'.cell? ⟨gb285, 5, none⟩ = some (.int .i64 ((rd_T59 l1 x16_1).f2)) ∧ w'.cell? ⟨gb285, 6, none⟩ = some (.bool ((rd_T59 l1 x16_1).f3))) ∧ (w'.heap[gb282]? = some (.cells #[.int .i64 0, .int .i64 0, .int .i64 0, .int .i64 0] 36 (0, 0))) ∧ (w'.heap[gb283]? = some (.cells #[.int .i64 x284000_1, .int .i64 x284001_1, .int .i64 x284002_1, .int .i64 x284003_1] 36 (0, 0))) ∧ (w'.heap[gb285]? = some (.cells #[.int .i64 ((rd_T59 l1 x16_1).f0.f0), .int .i64 ((rd_T59 l1 x16_1).f0.f1), .int .i64 ((rd_T59 l1 x16_1).f0.f2), .int .i64 ((rd_T59 l1 x16_1).f0.f3), .int .i64 ((rd_T59 l1 x16_1).f1), .int .i64 ((rd_T59 l1 x16_1).f2), .bool ((rd_T59 l1 x16_1).f3)] 59 (0, 0))) ∧ (w'.heap[s_]? = some (.cells #[.int .i64 0, .int .i64 0, .int .i64 0, .int .i64 0] 36 (0, 0))) ∧ (w.heap.size ≤ s_) ∧ (w.heap.size ≤ s_) ∧ (gb282 ≠ s_) ∧ (s_ ≠ gb282) ∧ (gb283 ≠ s_) ∧ (s_ ≠ gb283) ∧ (gb285 ≠ s_) ∧ (s_ ≠ gb285) ∧ (Below w.heap.size w w')) ?_ ?_
                rotate_left
                · intro hCont
                  refine two_ (i := 8) (j := 16) (Ni := some 29) (Nj := some 10) #[true, true, true, true, true, true, true, true, true, true, true, true, true, true, true, false, false, false] #[true, true, true, true, true, true, true, true, false, true, true, true, true, true, true, false, true, false] rfl rfl rfl rfl (two_of HT_.out (by kernel_rfl)) (by decide) (by decide) (fun K hK => ?_) (fun K hK => ?_)
                  · skip
                    refine goes_ Tryd.func63 (by kernel_rfl) rfl #[.int .i64 ((rd_T59 l1 x16_1).f0.f1), .int .i64 ((rd_T59 l1 x16_1).f2)] (by rfl) rfl rfl (by (try simp only [List.map_toArray, List.map_cons, List.map_nil]); first | done | rfl | (simp only [List.length_drop, List.length_take]; rfl)) ?_
                    with_reducible refine (kissgateref10_Sum.calls ((rd_T59 l1 x16_1).f0.f1) ((rd_T59 l1 x16_1).f2) t286 _ A10.out).mono ?_
                    rintro e w68 ⟨rfl, hb⟩
                    refine ⟨_, rfl, ?_⟩
                    have n0_ := Aside0.mk (blk_below (g := gb282) (o := .cells #[.int .i64 0, .int .i64 0, .int .i64 0, .int .i64 0] 36 (0, 0)) (by (with_reducible repeat (first | refine blk_drewN ?_ _ | refine blk_drew ?_ | refine blk_alloc ?_ _)); exact BK282.out) hb)
                    have n1_ := Aside0.mk (blk_below (g := gb283) (o := .cells #[.int .i64 x284000_1, .int .i64 x284001_1, .int .i64 x284002_1, .int .i64 x284003_1] 36 (0, 0)) (by (with_reducible repeat (first | refine blk_drewN ?_ _ | refine blk_drew ?_ | refine blk_alloc ?_ _)); exact BK283.out) hb)
                    have n2_ := Aside0.mk (blk_below (g := gb285) (o := .cells #[.int .i64 ((rd_T59 l1 x16_1).f0.f0), .int .i64 ((rd_T59 l1 x16_1).f0.f1), .int .i64 ((rd_T59 l1 x16_1).f0.f2), .int .i64 ((rd_T59 l1 x16_1).f0.f3), .int .i64 ((rd_T59 l1 x16_1).f1), .int .i64 ((rd_T59 l1 x16_1).f2), .bool ((rd_T59 l1 x16_1).f3)] 59 (0, 0)) (by (with_reducible repeat (first | refine blk_drewN ?_ _ | refine blk_drew ?_ | refine blk_alloc ?_ _)); exact BK285.out) hb)
                    have n3_ := Aside0.mk (below_step (by repeat (first | (with_reducible first | exact HB.out | apply below_alloc | apply pw_below_drewN | apply below_drew1 | refine below_set ?_ GE282.out | refine below_set ?_ GE283.out | refine below_set ?_ GE285.out) | exact HB.out)) hb)
                    clear BK282
                    clear BK283
                    clear BK285
                    clear HB
                    have BK282 := n0_
                    have BK283 := n1_
                    have BK285 := n2_
                    have HB := n3_
                    clear n0_ n1_ n2_ n3_
                    (try clear hb)
                    (try clear hb2)
                    (try clear hk)
                    (try clear hi)
                    refine hK.out _ _ ⟨(blk_cell BK285.out 0).trans rfl, (blk_cell BK285.out 1).trans rfl, (blk_cell BK285.out 2).trans rfl, (blk_cell BK285.out 3).trans rfl, (blk_cell BK285.out 4).trans rfl, (blk_cell BK285.out 5).trans rfl, (blk_cell BK285.out 6).trans rfl⟩ (fun hHeld => ?_)
                    clear hK K
                    refine norm_ (a' := ?_) ?_ ?_
                    rotate_left
                    · show Act.put _ (some 29) _ = _
                      simp only [Act.put, List.setIfInBounds_toArray, List.set_cons_zero, List.set_cons_succ, i64_w, i32_w]
                      rfl
                    refine pure_ (i := 15) (N := some 36) (v := ?_) (a' := ?_) #[true, true, true, true, true, true, true, true, true, true, true, true, true, true, true, true, false, false] rfl rfl (any_of HT_.out (by kernel_rfl)) (fun _ _ _ h => h) (Or.inl ⟨by rfl, ?_⟩) ?_ ?_
                    rotate_left
                    · intro w'
                      go_simp
                      with_reducible rfl
                    rotate_left
                    · simp only [Act.put, List.setIfInBounds_toArray, List.set_cons_zero, List.set_cons_succ, i64_w, i32_w]
                      rfl
                    refine one_ (i := 16) (N := some 10) #[true, true, true, true, true, true, true, true, true, true, true, true, true, true, true, true, true, false] rfl rfl (one_of HT_.out (by kernel_rfl)) (by decide) (fun K hK => ?_)
                    refine box_step ?hg (N := 10) ?hd (cs := #[.int .i64 0, .int .i64 0, .int .i64 0, .int .i64 0]) (t := 36) ?hr ?_; (case hd => rfl); (case hg => rfl); (case hr => first | (go_simp; done) | (go_simp; rfl))
                    intro gb287 hg w69 hbox hb
                    have n0_ := Aside0.mk (blk_below (g := gb282) (o := .cells #[.int .i64 0, .int .i64 0, .int .i64 0, .int .i64 0] 36 (0, 0)) (by (with_reducible repeat (first | refine blk_drewN ?_ _ | refine blk_drew ?_ | refine blk_alloc ?_ _)); exact BK282.out) hb)
                    have n1_ := Aside0.mk (blk_below (g := gb283) (o := .cells #[.int .i64 x284000_1, .int .i64 x284001_1, .int .i64 x284002_1, .int .i64 x284003_1] 36 (0, 0)) (by (with_reducible repeat (first | refine blk_drewN ?_ _ | refine blk_drew ?_ | refine blk_alloc ?_ _)); exact BK283.out) hb)
                    have n2_ := Aside0.mk (blk_below (g := gb285) (o := .cells #[.int .i64 ((rd_T59 l1 x16_1).f0.f0), .int .i64 ((rd_T59 l1 x16_1).f0.f1), .int .i64 ((rd_T59 l1 x16_1).f0.f2), .int .i64 ((rd_T59 l1 x16_1).f0.f3), .int .i64 ((rd_T59 l1 x16_1).f1), .int .i64 ((rd_T59 l1 x16_1).f2), .bool ((rd_T59 l1 x16_1).f3)] 59 (0, 0)) (by (with_reducible repeat (first | refine blk_drewN ?_ _ | refine blk_drew ?_ | refine blk_alloc ?_ _)); exact BK285.out) hb)
                    have n3_ := Aside0.mk (below_step (by repeat (first | (with_reducible first | exact HB.out | apply below_alloc | apply pw_below_drewN | apply below_drew1 | refine below_set ?_ GE282.out | refine below_set ?_ GE283.out | refine below_set ?_ GE285.out) | exact HB.out)) hb)
                    have n4_ := Aside0.mk (hbox)
                    have n5_ := Aside0.mk ((by rw [hg]; exact (below_size (by repeat (first | (with_reducible first | exact HB.out | apply below_alloc | apply pw_below_drewN | apply below_drew1 | refine below_set ?_ GE282.out | refine below_set ?_ GE283.out | refine below_set ?_ GE285.out) | exact HB.out))) : w.heap.size ≤ gb287))
                    have n6_ := Aside0.mk ((by rw [hg]; exact (below_size (by repeat (first | (with_reducible first | exact HB.out | apply below_alloc | apply pw_below_drewN | apply below_drew1 | refine below_set ?_ GE282.out | refine below_set ?_ GE283.out | refine below_set ?_ GE285.out) | exact HB.out))) : w.heap.size ≤ gb287))
                    have n7_ := Aside0.mk ((by rw [hg]; exact Nat.ne_of_lt (blk_lt (g := gb282) (o := .cells #[.int .i64 0, .int .i64 0, .int .i64 0, .int .i64 0] 36 (0, 0)) (by (with_reducible repeat (first | refine blk_drewN ?_ _ | refine blk_drew ?_ | refine blk_alloc ?_ _)); exact BK282.out)) : gb282 ≠ gb287))
                    have n8_ := Aside0.mk ((by rw [hg]; exact Nat.ne_of_gt (blk_lt (g := gb282) (o := .cells #[.int .i64 0, .int .i64 0, .int .i64 0, .int .i64 0] 36 (0, 0)) (by (with_reducible repeat (first | refine blk_drewN ?_ _ | refine blk_drew ?_ | refine blk_alloc ?_ _)); exact BK282.out)) : gb287 ≠ gb282))
                    have n9_ := Aside0.mk ((by rw [hg]; exact Nat.ne_of_lt (blk_lt (g := gb283) (o := .cells #[.int .i64 x284000_1, .int .i64 x284001_1, .int .i64 x284002_1, .int .i64 x284003_1] 36 (0, 0)) (by (with_reducible repeat (first | refine blk_drewN ?_ _ | refine blk_drew ?_ | refine blk_alloc ?_ _)); exact BK283.out)) : gb283 ≠ gb287))
                    have n10_ := Aside0.mk ((by rw [hg]; exact Nat.ne_of_gt (blk_lt (g := gb283) (o := .cells #[.int .i64 x284000_1, .int .i64 x284001_1, .int .i64 x284002_1, .int .i64 x284003_1] 36 (0, 0)) (by (with_reducible repeat (first | refine blk_drewN ?_ _ | refine blk_drew ?_ | refine blk_alloc ?_ _)); exact BK283.out)) : gb287 ≠ gb283))
                    have n11_ := Aside0.mk ((by rw [hg]; exact Nat.ne_of_lt (blk_lt (g := gb285) (o := .cells #[.int .i64 ((rd_T59 l1 x16_1).f0.f0), .int .i64 ((rd_T59 l1 x16_1).f0.f1), .int .i64 ((rd_T59 l1 x16_1).f0.f2), .int .i64 ((rd_T59 l1 x16_1).f0.f3), .int .i64 ((rd_T59 l1 x16_1).f1), .int .i64 ((rd_T59 l1 x16_1).f2), .bool ((rd_T59 l1 x16_1).f3)] 59 (0, 0)) (by (with_reducible repeat (first | refine blk_drewN ?_ _ | refine blk_drew ?_ | refine blk_alloc ?_ _)); exact BK285.out)) : gb285 ≠ gb287))
                    have n12_ := Aside0.mk ((by rw [hg]; exact Nat.ne_of_gt (blk_lt (g := gb285) (o := .cells #[.int .i64 ((rd_T59 l1 x16_1).f0.f0), .int .i64 ((rd_T59 l1 x16_1).f0.f1), .int .i64 ((rd_T59 l1 x16_1).f0.f2), .int .i64 ((rd_T59 l1 x16_1).f0.f3), .int .i64 ((rd_T59 l1 x16_1).f1), .int .i64 ((rd_T59 l1 x16_1).f2), .bool ((rd_T59 l1 x16_1).f3)] 59 (0, 0)) (by (with_reducible repeat (first | refine blk_drewN ?_ _ | refine blk_drew ?_ | refine blk_alloc ?_ _)); exact BK285.out)) : gb287 ≠ gb285))
                    clear BK282
                    clear BK283
                    clear BK285
                    clear HB
                    have BK282 := n0_
                    have BK283 := n1_
                    have BK285 := n2_
                    have HB := n3_
                    have BK287 := n4_
                    have GW287 := n5_
                    have GE287 := n6_
                    have NB282_287 := n7_
                    have NB287_282 := n8_
                    have NB283_287 := n9_
                    have NB287_283 := n10_
                    have NB285_287 := n11_
                    have NB287_285 := n12_
                    clear n0_ n1_ n2_ n3_ n4_ n5_ n6_ n7_ n8_ n9_ n10_ n11_ n12_
                    clear hb hbox hg
                    refine hK.out _ _ ⟨(blk_cell BK285.out 0).trans rfl, (blk_cell BK285.out 1).trans rfl, (blk_cell BK285.out 2).trans rfl, (blk_cell BK285.out 3).trans rfl, (blk_cell BK285.out 4).trans rfl, (blk_cell BK285.out 5).trans rfl, (blk_cell BK285.out 6).trans rfl⟩ (fun hHeld => ?_)
                    clear hK K
                    refine norm_ (a' := ?_) ?_ ?_
                    rotate_left
                    · show Act.put _ (some 10) _ = _
                      simp only [Act.put, List.setIfInBounds_toArray, List.set_cons_zero, List.set_cons_succ, i64_w, i32_w]
                      rfl
                    exact norm_ (by simp only [putAll, Act.put, List.setIfInBounds_toArray, List.set_cons_zero, List.set_cons_succ]) (hCont (gb287) _ ⟨hHeld, (by (with_reducible repeat (first | refine blk_drewN ?_ _ | refine blk_drew ?_ | refine blk_alloc ?_ _)); exact BK282.out), (by (with_reducible repeat (first | refine blk_drewN ?_ _ | refine blk_drew ?_ | refine blk_alloc ?_ _)); exact BK283.out), (by (with_reducible repeat (first | refine blk_drewN ?_ _ | refine blk_drew ?_ | refine blk_alloc ?_ _)); exact BK285.out), (by (with_reducible repeat (first | refine blk_drewN ?_ _ | refine blk_drew ?_ | refine blk_alloc ?_ _)); exact BK287.out), GW287.out, GE287.out, NB282_287.out, NB287_282.out, NB283_287.out, NB287_283.out, NB285_287.out, NB287_285.out, (by repeat (first | (with_reducible first | exact HB.out | apply below_alloc | apply pw_below_drewN | apply below_drew1 | refine below_set ?_ GE282.out | refine below_set ?_ GE283.out | refine below_set ?_ GE285.out | refine below_set ?_ GE287.out) | exact HB.out))⟩)
                  · skip
                    refine box_step ?hg (N := 10) ?hd (cs := #[.int .i64 0, .int .i64 0, .int .i64 0, .int .i64 0]) (t := 36) ?hr ?_; (case hd => rfl); (case hg => rfl); (case hr => first | (go_simp; done) | (go_simp; rfl))
                    intro gb287 hg w68 hbox hb
                    have n0_ := Aside0.mk (blk_below (g := gb282) (o := .cells #[.int .i64 0, .int .i64 0, .int .i64 0, .int .i64 0] 36 (0, 0)) (by (with_reducible repeat (first | refine blk_drewN ?_ _ | refine blk_drew ?_ | refine blk_alloc ?_ _)); exact BK282.out) hb)
                    have n1_ := Aside0.mk (blk_below (g := gb283) (o := .cells #[.int .i64 x284000_1, .int .i64 x284001_1, .int .i64 x284002_1, .int .i64 x284003_1] 36 (0, 0)) (by (with_reducible repeat (first | refine blk_drewN ?_ _ | refine blk_drew ?_ | refine blk_alloc ?_ _)); exact BK283.out) hb)
                    have n2_ := Aside0.mk (blk_below (g := gb285) (o := .cells #[.int .i64 ((rd_T59 l1 x16_1).f0.f0), .int .i64 ((rd_T59 l1 x16_1).f0.f1), .int .i64 ((rd_T59 l1 x16_1).f0.f2), .int .i64 ((rd_T59 l1 x16_1).f0.f3), .int .i64 ((rd_T59 l1 x16_1).f1), .int .i64 ((rd_T59 l1 x16_1).f2), .bool ((rd_T59 l1 x16_1).f3)] 59 (0, 0)) (by (with_reducible repeat (first | refine blk_drewN ?_ _ | refine blk_drew ?_ | refine blk_alloc ?_ _)); exact BK285.out) hb)
                    have n3_ := Aside0.mk (below_step (by repeat (first | (with_reducible first | exact HB.out | apply below_alloc | apply pw_below_drewN | apply below_drew1 | refine below_set ?_ GE282.out | refine below_set ?_ GE283.out | refine below_set ?_ GE285.out) | exact HB.out)) hb)
                    have n4_ := Aside0.mk (hbox)
                    have n5_ := Aside0.mk ((by rw [hg]; exact (below_size (by repeat (first | (with_reducible first | exact HB.out | apply below_alloc | apply pw_below_drewN | apply below_drew1 | refine below_set ?_ GE282.out | refine below_set ?_ GE283.out | refine below_set ?_ GE285.out) | exact HB.out))) : w.heap.size ≤ gb287))
                    have n6_ := Aside0.mk ((by rw [hg]; exact (below_size (by repeat (first | (with_reducible first | exact HB.out | apply below_alloc | apply pw_below_drewN | apply below_drew1 | refine below_set ?_ GE282.out | refine below_set ?_ GE283.out | refine below_set ?_ GE285.out) | exact HB.out))) : w.heap.size ≤ gb287))
                    have n7_ := Aside0.mk ((by rw [hg]; exact Nat.ne_of_lt (blk_lt (g := gb282) (o := .cells #[.int .i64 0, .int .i64 0, .int .i64 0, .int .i64 0] 36 (0, 0)) (by (with_reducible repeat (first | refine blk_drewN ?_ _ | refine blk_drew ?_ | refine blk_alloc ?_ _)); exact BK282.out)) : gb282 ≠ gb287))
                    have n8_ := Aside0.mk ((by rw [hg]; exact Nat.ne_of_gt (blk_lt (g := gb282) (o := .cells #[.int .i64 0, .int .i64 0, .int .i64 0, .int .i64 0] 36 (0, 0)) (by (with_reducible repeat (first | refine blk_drewN ?_ _ | refine blk_drew ?_ | refine blk_alloc ?_ _)); exact BK282.out)) : gb287 ≠ gb282))
                    have n9_ := Aside0.mk ((by rw [hg]; exact Nat.ne_of_lt (blk_lt (g := gb283) (o := .cells #[.int .i64 x284000_1, .int .i64 x284001_1, .int .i64 x284002_1, .int .i64 x284003_1] 36 (0, 0)) (by (with_reducible repeat (first | refine blk_drewN ?_ _ | refine blk_drew ?_ | refine blk_alloc ?_ _)); exact BK283.out)) : gb283 ≠ gb287))
                    have n10_ := Aside0.mk ((by rw [hg]; exact Nat.ne_of_gt (blk_lt (g := gb283) (o := .cells #[.int .i64 x284000_1, .int .i64 x284001_1, .int .i64 x284002_1, .int .i64 x284003_1] 36 (0, 0)) (by (with_reducible repeat (first | refine blk_drewN ?_ _ | refine blk_drew ?_ | refine blk_alloc ?_ _)); exact BK283.out)) : gb287 ≠ gb283))
                    have n11_ := Aside0.mk ((by rw [hg]; exact Nat.ne_of_lt (blk_lt (g := gb285) (o := .cells #[.int .i64 ((rd_T59 l1 x16_1).f0.f0), .int .i64 ((rd_T59 l1 x16_1).f0.f1), .int .i64 ((rd_T59 l1 x16_1).f0.f2), .int .i64 ((rd_T59 l1 x16_1).f0.f3), .int .i64 ((rd_T59 l1 x16_1).f1), .int .i64 ((rd_T59 l1 x16_1).f2), .bool ((rd_T59 l1 x16_1).f3)] 59 (0, 0)) (by (with_reducible repeat (first | refine blk_drewN ?_ _ | refine blk_drew ?_ | refine blk_alloc ?_ _)); exact BK285.out)) : gb285 ≠ gb287))
                    have n12_ := Aside0.mk ((by rw [hg]; exact Nat.ne_of_gt (blk_lt (g := gb285) (o := .cells #[.int .i64 ((rd_T59 l1 x16_1).f0.f0), .int .i64 ((rd_T59 l1 x16_1).f0.f1), .int .i64 ((rd_T59 l1 x16_1).f0.f2), .int .i64 ((rd_T59 l1 x16_1).f0.f3), .int .i64 ((rd_T59 l1 x16_1).f1), .int .i64 ((rd_T59 l1 x16_1).f2), .bool ((rd_T59 l1 x16_1).f3)] 59 (0, 0)) (by (with_reducible repeat (first | refine blk_drewN ?_ _ | refine blk_drew ?_ | refine blk_alloc ?_ _)); exact BK285.out)) : gb287 ≠ gb285))
                    clear BK282
                    clear BK283
                    clear BK285
                    clear HB
                    have BK282 := n0_
                    have BK283 := n1_
                    have BK285 := n2_
                    have HB := n3_
                    have BK287 := n4_
                    have GW287 := n5_
                    have GE287 := n6_
                    have NB282_287 := n7_
                    have NB287_282 := n8_
                    have NB283_287 := n9_
                    have NB287_283 := n10_
                    have NB285_287 := n11_
                    have NB287_285 := n12_
                    clear n0_ n1_ n2_ n3_ n4_ n5_ n6_ n7_ n8_ n9_ n10_ n11_ n12_
                    clear hb hbox hg
                    refine hK.out _ _ ⟨(blk_cell BK285.out 0).trans rfl, (blk_cell BK285.out 1).trans rfl, (blk_cell BK285.out 2).trans rfl, (blk_cell BK285.out 3).trans rfl, (blk_cell BK285.out 4).trans rfl, (blk_cell BK285.out 5).trans rfl, (blk_cell BK285.out 6).trans rfl⟩ (fun hHeld => ?_)
                    clear hK K
                    refine norm_ (a' := ?_) ?_ ?_
                    rotate_left
                    · show Act.put _ (some 10) _ = _
                      simp only [Act.put, List.setIfInBounds_toArray, List.set_cons_zero, List.set_cons_succ, i64_w, i32_w]
                      rfl
                    refine one_ (i := 8) (N := some 29) #[true, true, true, true, true, true, true, true, true, true, true, true, true, true, true, false, true, false] rfl rfl (one_of HT_.out (by kernel_rfl)) (by decide) (fun K hK => ?_)
                    refine goes_ Tryd.func63 (by kernel_rfl) rfl #[.int .i64 ((rd_T59 l1 x16_1).f0.f1), .int .i64 ((rd_T59 l1 x16_1).f2)] (by rfl) rfl rfl (by (try simp only [List.map_toArray, List.map_cons, List.map_nil]); first | done | rfl | (simp only [List.length_drop, List.length_take]; rfl)) ?_
                    with_reducible refine (kissgateref10_Sum.calls ((rd_T59 l1 x16_1).f0.f1) ((rd_T59 l1 x16_1).f2) t286 _ A10.out).mono ?_
                    rintro e w69 ⟨rfl, hb⟩
                    refine ⟨_, rfl, ?_⟩
                    have n0_ := Aside0.mk (blk_below (g := gb282) (o := .cells #[.int .i64 0, .int .i64 0, .int .i64 0, .int .i64 0] 36 (0, 0)) (by (with_reducible repeat (first | refine blk_drewN ?_ _ | refine blk_drew ?_ | refine blk_alloc ?_ _)); exact BK282.out) hb)
                    have n1_ := Aside0.mk (blk_below (g := gb283) (o := .cells #[.int .i64 x284000_1, .int .i64 x284001_1, .int .i64 x284002_1, .int .i64 x284003_1] 36 (0, 0)) (by (with_reducible repeat (first | refine blk_drewN ?_ _ | refine blk_drew ?_ | refine blk_alloc ?_ _)); exact BK283.out) hb)
                    have n2_ := Aside0.mk (blk_below (g := gb285) (o := .cells #[.int .i64 ((rd_T59 l1 x16_1).f0.f0), .int .i64 ((rd_T59 l1 x16_1).f0.f1), .int .i64 ((rd_T59 l1 x16_1).f0.f2), .int .i64 ((rd_T59 l1 x16_1).f0.f3), .int .i64 ((rd_T59 l1 x16_1).f1), .int .i64 ((rd_T59 l1 x16_1).f2), .bool ((rd_T59 l1 x16_1).f3)] 59 (0, 0)) (by (with_reducible repeat (first | refine blk_drewN ?_ _ | refine blk_drew ?_ | refine blk_alloc ?_ _)); exact BK285.out) hb)
                    have n3_ := Aside0.mk (blk_below (g := gb287) (o := .cells #[.int .i64 0, .int .i64 0, .int .i64 0, .int .i64 0] 36 (0, 0)) (by (with_reducible repeat (first | refine blk_drewN ?_ _ | refine blk_drew ?_ | refine blk_alloc ?_ _)); exact BK287.out) hb)
                    have n4_ := Aside0.mk (below_step (by repeat (first | (with_reducible first | exact HB.out | apply below_alloc | apply pw_below_drewN | apply below_drew1 | refine below_set ?_ GE282.out | refine below_set ?_ GE283.out | refine below_set ?_ GE285.out | refine below_set ?_ GE287.out) | exact HB.out)) hb)
                    clear BK282
                    clear BK283
                    clear BK285
                    clear BK287
                    clear HB
                    have BK282 := n0_
                    have BK283 := n1_
                    have BK285 := n2_
                    have BK287 := n3_
                    have HB := n4_
                    clear n0_ n1_ n2_ n3_ n4_
                    (try clear hb)
                    (try clear hb2)
                    (try clear hk)
                    (try clear hi)
                    refine hK.out _ _ ⟨(blk_cell BK285.out 0).trans rfl, (blk_cell BK285.out 1).trans rfl, (blk_cell BK285.out 2).trans rfl, (blk_cell BK285.out 3).trans rfl, (blk_cell BK285.out 4).trans rfl, (blk_cell BK285.out 5).trans rfl, (blk_cell BK285.out 6).trans rfl⟩ (fun hHeld => ?_)
                    clear hK K
                    refine norm_ (a' := ?_) ?_ ?_
                    rotate_left
                    · show Act.put _ (some 29) _ = _
                      simp only [Act.put, List.setIfInBounds_toArray, List.set_cons_zero, List.set_cons_succ, i64_w, i32_w]
                      rfl
                    refine pure_ (i := 15) (N := some 36) (v := ?_) (a' := ?_) #[true, true, true, true, true, true, true, true, true, true, true, true, true, true, true, true, true, false] rfl rfl (any_of HT_.out (by kernel_rfl)) (fun _ _ _ h => h) (Or.inl ⟨by rfl, ?_⟩) ?_ ?_
                    rotate_left
                    · intro w'
                      go_simp
                      with_reducible rfl
                    rotate_left
                    · simp only [Act.put, List.setIfInBounds_toArray, List.set_cons_zero, List.set_cons_succ, i64_w, i32_w]
                      rfl
                    exact norm_ (by simp only [putAll, Act.put, List.setIfInBounds_toArray, List.set_cons_zero, List.set_cons_succ]) (hCont (gb287) _ ⟨hHeld, (by (with_reducible repeat (first | refine blk_drewN ?_ _ | refine blk_drew ?_ | refine blk_alloc ?_ _)); exact BK282.out), (by (with_reducible repeat (first | refine blk_drewN ?_ _ | refine blk_drew ?_ | refine blk_alloc ?_ _)); exact BK283.out), (by (with_reducible repeat (first | refine blk_drewN ?_ _ | refine blk_drew ?_ | refine blk_alloc ?_ _)); exact BK285.out), (by (with_reducible repeat (first | refine blk_drewN ?_ _ | refine blk_drew ?_ | refine blk_alloc ?_ _)); exact BK287.out), GW287.out, GE287.out, NB282_287.out, NB287_282.out, NB283_287.out, NB287_283.out, NB285_287.out, NB287_285.out, (by repeat (first | (with_reducible first | exact HB.out | apply below_alloc | apply pw_below_drewN | apply below_drew1 | refine below_set ?_ GE282.out | refine below_set ?_ GE283.out | refine below_set ?_ GE285.out | refine below_set ?_ GE287.out) | exact HB.out))⟩)
                rintro gb287 w70 ⟨hS_, h0_, h1_, h2_, h3_, h4_, h5_, h6_, h7_, h8_, h9_, h10_, h11_, h12_⟩
                have n0_ : Aside0 (w70.heap[gb282]? = some (.cells #[.int .i64 0, .int .i64 0, .int .i64 0, .int .i64 0] 36 (0, 0))) := ⟨h0_⟩
                have n1_ : Aside0 (w70.heap[gb283]? = some (.cells #[.int .i64 x284000_1, .int .i64 x284001_1, .int .i64 x284002_1, .int .i64 x284003_1] 36 (0, 0))) := ⟨h1_⟩
                have n2_ : Aside0 (w70.heap[gb285]? = some (.cells #[.int .i64 ((rd_T59 l1 x16_1).f0.f0), .int .i64 ((rd_T59 l1 x16_1).f0.f1), .int .i64 ((rd_T59 l1 x16_1).f0.f2), .int .i64 ((rd_T59 l1 x16_1).f0.f3), .int .i64 ((rd_T59 l1 x16_1).f1), .int .i64 ((rd_T59 l1 x16_1).f2), .bool ((rd_T59 l1 x16_1).f3)] 59 (0, 0))) := ⟨h2_⟩
                have n3_ : Aside0 (w70.heap[gb287]? = some (.cells #[.int .i64 0, .int .i64 0, .int .i64 0, .int .i64 0] 36 (0, 0))) := ⟨h3_⟩
                have n4_ : Aside0 (w.heap.size ≤ gb287) := ⟨h4_⟩
                have n5_ : Aside0 (w.heap.size ≤ gb287) := ⟨h5_⟩
                have n6_ : Aside0 (gb282 ≠ gb287) := ⟨h6_⟩
                have n7_ : Aside0 (gb287 ≠ gb282) := ⟨h7_⟩
                have n8_ : Aside0 (gb283 ≠ gb287) := ⟨h8_⟩
                have n9_ : Aside0 (gb287 ≠ gb283) := ⟨h9_⟩
                have n10_ : Aside0 (gb285 ≠ gb287) := ⟨h10_⟩
                have n11_ : Aside0 (gb287 ≠ gb285) := ⟨h11_⟩
                have n12_ : Aside0 (Below w.heap.size w w70) := ⟨h12_⟩
                clear BK282
                clear BK283
                clear BK285
                clear HB
                clear h0_ h1_ h2_ h3_ h4_ h5_ h6_ h7_ h8_ h9_ h10_ h11_ h12_
                have BK282 := n0_
                have BK283 := n1_
                have BK285 := n2_
                have BK287 := n3_
                have GW287 := n4_
                have GE287 := n5_
                have NB282_287 := n6_
                have NB287_282 := n7_
                have NB283_287 := n8_
                have NB287_283 := n9_
                have NB285_287 := n10_
                have NB287_285 := n11_
                have HB := n12_
                clear n0_ n1_ n2_ n3_ n4_ n5_ n6_ n7_ n8_ n9_ n10_ n11_ n12_
                have hHeld : w70.cell? ⟨gb285, 0, none⟩ = some (.int .i64 ((rd_T59 l1 x16_1).f0.f0)) ∧ w70.cell? ⟨gb285, 1, none⟩ = some (.int .i64 ((rd_T59 l1 x16_1).f0.f1)) ∧ w70.cell? ⟨gb285, 2, none⟩ = some (.int .i64 ((rd_T59 l1 x16_1).f0.f2)) ∧ w70.cell? ⟨gb285, 3, none⟩ = some (.int .i64 ((rd_T59 l1 x16_1).f0.f3)) ∧ w70.cell? ⟨gb285, 4, none⟩ = some (.int .i64 ((rd_T59 l1 x16_1).f1)) ∧ w70.cell? ⟨gb285, 5, none⟩ = some (.int .i64 ((rd_T59 l1 x16_1).f2)) ∧ w70.cell? ⟨gb285, 6, none⟩ = some (.bool ((rd_T59 l1 x16_1).f3)) := hS_
                refine norm_ (a' := ?_) ?_ ?_
                rotate_left
                · simp only [putAll, Act.put, List.setIfInBounds_toArray, List.set_cons_zero, List.set_cons_succ]
                  rfl
                refine one_ (i := 17) (N := none) #[true, true, true, true, true, true, true, true, true, true, true, true, true, true, true, true, true, true] rfl rfl (one_of HT_.out (by kernel_rfl)) (by decide) (fun K hK => ?_)
                have hs71 : w70.cell? ⟨gb287, 0, none⟩ = some (.int .i64 0) := (blk_cell BK287.out 0).trans rfl
                have hfs71 := blk_frozen BK287.out 0
                have hns71_0 := NB282_287.out
                have hns71_1 := NB283_287.out
                have hns71_2 := NB285_287.out
                have hms71_0 := NB287_282.out
                have hms71_1 := NB287_283.out
                have hms71_2 := NB287_285.out
                have hs72 : w70.cell? ⟨gb287, 1, none⟩ = some (.int .i64 0) := (blk_cell BK287.out 1).trans rfl
                have hfs72 := blk_frozen BK287.out 1
                have hns72_0 := NB282_287.out
                have hns72_1 := NB283_287.out
                have hns72_2 := NB285_287.out
                have hms72_0 := NB287_282.out
                have hms72_1 := NB287_283.out
                have hms72_2 := NB287_285.out
                have hs73 : w70.cell? ⟨gb287, 2, none⟩ = some (.int .i64 0) := (blk_cell BK287.out 2).trans rfl
                have hfs73 := blk_frozen BK287.out 2
                have hns73_0 := NB282_287.out
                have hns73_1 := NB283_287.out
                have hns73_2 := NB285_287.out
                have hms73_0 := NB287_282.out
                have hms73_1 := NB287_283.out
                have hms73_2 := NB287_285.out
                have hs74 : w70.cell? ⟨gb287, 3, none⟩ = some (.int .i64 0) := (blk_cell BK287.out 3).trans rfl
                have hfs74 := blk_frozen BK287.out 3
                have hns74_0 := NB282_287.out
                have hns74_1 := NB283_287.out
                have hns74_2 := NB285_287.out
                have hms74_0 := NB287_282.out
                have hms74_1 := NB287_283.out
                have hms74_2 := NB287_285.out
                refine skip_ (w1 := ?_) (by rfl) rfl ?_ ?_
                rotate_left
                · go_simp
                  rfl
                refine hK.out _ _ ⟨((cell_far (p := ⟨gb287, _, none⟩) NB285_287.out _).trans (((cell_far (p := ⟨gb287, _, none⟩) NB285_287.out _).trans (((cell_far (p := ⟨gb287, _, none⟩) NB285_287.out _).trans (((cell_far (p := ⟨gb287, _, none⟩) NB285_287.out _).trans (hHeld.1)))))))), ((cell_far (p := ⟨gb287, _, none⟩) NB285_287.out _).trans (((cell_far (p := ⟨gb287, _, none⟩) NB285_287.out _).trans (((cell_far (p := ⟨gb287, _, none⟩) NB285_287.out _).trans (((cell_far (p := ⟨gb287, _, none⟩) NB285_287.out _).trans (hHeld.2.1)))))))), ((cell_far (p := ⟨gb287, _, none⟩) NB285_287.out _).trans (((cell_far (p := ⟨gb287, _, none⟩) NB285_287.out _).trans (((cell_far (p := ⟨gb287, _, none⟩) NB285_287.out _).trans (((cell_far (p := ⟨gb287, _, none⟩) NB285_287.out _).trans (hHeld.2.2.1)))))))), ((cell_far (p := ⟨gb287, _, none⟩) NB285_287.out _).trans (((cell_far (p := ⟨gb287, _, none⟩) NB285_287.out _).trans (((cell_far (p := ⟨gb287, _, none⟩) NB285_287.out _).trans (((cell_far (p := ⟨gb287, _, none⟩) NB285_287.out _).trans (hHeld.2.2.2.1)))))))), ((cell_far (p := ⟨gb287, _, none⟩) NB285_287.out _).trans (((cell_far (p := ⟨gb287, _, none⟩) NB285_287.out _).trans (((cell_far (p := ⟨gb287, _, none⟩) NB285_287.out _).trans (((cell_far (p := ⟨gb287, _, none⟩) NB285_287.out _).trans (hHeld.2.2.2.2.1)))))))), ((cell_far (p := ⟨gb287, _, none⟩) NB285_287.out _).trans (((cell_far (p := ⟨gb287, _, none⟩) NB285_287.out _).trans (((cell_far (p := ⟨gb287, _, none⟩) NB285_287.out _).trans (((cell_far (p := ⟨gb287, _, none⟩) NB285_287.out _).trans (hHeld.2.2.2.2.2.1)))))))), ((cell_far (p := ⟨gb287, _, none⟩) NB285_287.out _).trans (((cell_far (p := ⟨gb287, _, none⟩) NB285_287.out _).trans (((cell_far (p := ⟨gb287, _, none⟩) NB285_287.out _).trans (((cell_far (p := ⟨gb287, _, none⟩) NB285_287.out _).trans (hHeld.2.2.2.2.2.2))))))))⟩ (fun hHeld => ?_)
                clear hK K
                refine done_ (done_of HT_.out (by kernel_rfl)) ?_
                have hnb75 := NB285_287.out
                have hnc75 := NB287_285.out
                have hcz76_0 : w70.cell? ⟨gb285, 0, none⟩ = some (.int .i64 ((rd_T59 l1 x16_1).f0.f0)) := (blk_cell BK285.out 0).trans rfl
                have hcz76_1 : w70.cell? ⟨gb285, 1, none⟩ = some (.int .i64 ((rd_T59 l1 x16_1).f0.f1)) := (blk_cell BK285.out 1).trans rfl
                have hcz76_2 : w70.cell? ⟨gb285, 2, none⟩ = some (.int .i64 ((rd_T59 l1 x16_1).f0.f2)) := (blk_cell BK285.out 2).trans rfl
                have hcz76_3 : w70.cell? ⟨gb285, 3, none⟩ = some (.int .i64 ((rd_T59 l1 x16_1).f0.f3)) := (blk_cell BK285.out 3).trans rfl
                have hcz76_4 : w70.cell? ⟨gb285, 4, none⟩ = some (.int .i64 ((rd_T59 l1 x16_1).f1)) := (blk_cell BK285.out 4).trans rfl
                have hcz76_5 : w70.cell? ⟨gb285, 5, none⟩ = some (.int .i64 ((rd_T59 l1 x16_1).f2)) := (blk_cell BK285.out 5).trans rfl
                have hcz76_6 : w70.cell? ⟨gb285, 6, none⟩ = some (.bool ((rd_T59 l1 x16_1).f3)) := (blk_cell BK285.out 6).trans rfl
                have hfz76_0 := blk_frozen BK285.out 0
                have hfz76_1 := blk_frozen BK285.out 1
                have hfz76_2 := blk_frozen BK285.out 2
                have hfz76_3 := blk_frozen BK285.out 3
                have hfz76_4 := blk_frozen BK285.out 4
                have hfz76_5 := blk_frozen BK285.out 5
                have hfz76_6 := blk_frozen BK285.out 6
                try go_wp2_with (first | ((with_reducible refine gate_callee (f := 62) rfl ?_); refine goesL_ (some 39) rfl rfl Tryd.func62 (by kernel_rfl) rfl #[.agg #[.int .i64 ((rd_T59 l1 x16_1).f0.f0), .int .i64 ((rd_T59 l1 x16_1).f0.f1), .int .i64 ((rd_T59 l1 x16_1).f0.f2), .int .i64 ((rd_T59 l1 x16_1).f0.f3), .int .i64 ((rd_T59 l1 x16_1).f1), .int .i64 ((rd_T59 l1 x16_1).f2), .bool ((rd_T59 l1 x16_1).f3)], .int .i64 a0] rfl (by (try simp only [List.map_toArray, List.map_cons, List.map_nil]); first | done | rfl | (simp only [List.length_drop, List.length_take]; rfl)) ?_; (with_reducible refine (kissgateref10_Use.calls ((rd_T59 l1 x16_1).f0.f0) ((rd_T59 l1 x16_1).f0.f1) ((rd_T59 l1 x16_1).f0.f2) ((rd_T59 l1 x16_1).f0.f3) ((rd_T59 l1 x16_1).f1) ((rd_T59 l1 x16_1).f2) ((rd_T59 l1 x16_1).f3) a0 true _ A11.out).mono ?_); rintro e w77 ⟨rfl, hb⟩; refine ⟨_, rfl, ?_⟩; have n0_ := Aside0.mk (blk_below (g := gb282) (o := .cells #[.int .i64 0, .int .i64 0, .int .i64 0, .int .i64 0] 36 (0, 0)) (by (with_reducible repeat (first | refine blk_drewN ?_ _ | refine blk_drew ?_ | refine blk_alloc ?_ _)); refine blk_far ?_ NB282_287.out _; (with_reducible repeat (first | refine blk_drewN ?_ _ | refine blk_drew ?_ | refine blk_alloc ?_ _)); refine blk_far ?_ NB282_287.out _; (with_reducible repeat (first | refine blk_drewN ?_ _ | refine blk_drew ?_ | refine blk_alloc ?_ _)); refine blk_far ?_ NB282_287.out _; (with_reducible repeat (first | refine blk_drewN ?_ _ | refine blk_drew ?_ | refine blk_alloc ?_ _)); refine blk_far ?_ NB282_287.out _; (with_reducible repeat (first | refine blk_drewN ?_ _ | refine blk_drew ?_ | refine blk_alloc ?_ _)); exact BK282.out) hb); have n1_ := Aside0.mk (blk_below (g := gb283) (o := .cells #[.int .i64 x284000_1, .int .i64 x284001_1, .int .i64 x284002_1, .int .i64 x284003_1] 36 (0, 0)) (by (with_reducible repeat (first | refine blk_drewN ?_ _ | refine blk_drew ?_ | refine blk_alloc ?_ _)); refine blk_far ?_ NB283_287.out _; (with_reducible repeat (first | refine blk_drewN ?_ _ | refine blk_drew ?_ | refine blk_alloc ?_ _)); refine blk_far ?_ NB283_287.out _; (with_reducible repeat (first | refine blk_drewN ?_ _ | refine blk_drew ?_ | refine blk_alloc ?_ _)); refine blk_far ?_ NB283_287.out _; (with_reducible repeat (first | refine blk_drewN ?_ _ | refine blk_drew ?_ | refine blk_alloc ?_ _)); refine blk_far ?_ NB283_287.out _; (with_reducible repeat (first | refine blk_drewN ?_ _ | refine blk_drew ?_ | refine blk_alloc ?_ _)); exact BK283.out) hb); have n2_ := Aside0.mk (blk_below (g := gb285) (o := .cells #[.int .i64 ((rd_T59 l1 x16_1).f0.f0), .int .i64 ((rd_T59 l1 x16_1).f0.f1), .int .i64 ((rd_T59 l1 x16_1).f0.f2), .int .i64 ((rd_T59 l1 x16_1).f0.f3), .int .i64 ((rd_T59 l1 x16_1).f1), .int .i64 ((rd_T59 l1 x16_1).f2), .bool ((rd_T59 l1 x16_1).f3)] 59 (0, 0)) (by (with_reducible repeat (first | refine blk_drewN ?_ _ | refine blk_drew ?_ | refine blk_alloc ?_ _)); refine blk_far ?_ NB285_287.out _; (with_reducible repeat (first | refine blk_drewN ?_ _ | refine blk_drew ?_ | refine blk_alloc ?_ _)); refine blk_far ?_ NB285_287.out _; (with_reducible repeat (first | refine blk_drewN ?_ _ | refine blk_drew ?_ | refine blk_alloc ?_ _)); refine blk_far ?_ NB285_287.out _; (with_reducible repeat (first | refine blk_drewN ?_ _ | refine blk_drew ?_ | refine blk_alloc ?_ _)); refine blk_far ?_ NB285_287.out _; (with_reducible repeat (first | refine blk_drewN ?_ _ | refine blk_drew ?_ | refine blk_alloc ?_ _)); exact BK285.out) hb); have n3_ := Aside0.mk (blk_below (g := gb287) (o := .cells #[.int .i64 ((rd_T59 l1 x16_1).f0.f0), .int .i64 t286, .int .i64 ((rd_T59 l1 x16_1).f0.f2), .int .i64 ((rd_T59 l1 x16_1).f0.f3)] 36 (0, 0)) (by (with_reducible repeat (first | refine blk_drewN ?_ _ | refine blk_drew ?_ | refine blk_alloc ?_ _)); refine blk_put (cs := #[.int .i64 ((rd_T59 l1 x16_1).f0.f0), .int .i64 t286, .int .i64 ((rd_T59 l1 x16_1).f0.f2), .int .i64 0]) ?_ 3 _ rfl; (with_reducible repeat (first | refine blk_drewN ?_ _ | refine blk_drew ?_ | refine blk_alloc ?_ _)); refine blk_put (cs := #[.int .i64 ((rd_T59 l1 x16_1).f0.f0), .int .i64 t286, .int .i64 0, .int .i64 0]) ?_ 2 _ rfl; (with_reducible repeat (first | refine blk_drewN ?_ _ | refine blk_drew ?_ | refine blk_alloc ?_ _)); refine blk_put (cs := #[.int .i64 ((rd_T59 l1 x16_1).f0.f0), .int .i64 0, .int .i64 0, .int .i64 0]) ?_ 1 _ rfl; (with_reducible repeat (first | refine blk_drewN ?_ _ | refine blk_drew ?_ | refine blk_alloc ?_ _)); refine blk_put (cs := #[.int .i64 0, .int .i64 0, .int .i64 0, .int .i64 0]) ?_ 0 _ rfl; (with_reducible repeat (first | refine blk_drewN ?_ _ | refine blk_drew ?_ | refine blk_alloc ?_ _)); exact BK287.out) hb); have n4_ := Aside0.mk (below_step (by repeat (first | (with_reducible first | exact HB.out | apply below_alloc | apply pw_below_drewN | apply below_drew1 | refine below_set ?_ GE282.out | refine below_set ?_ GE283.out | refine below_set ?_ GE285.out | refine below_set ?_ GE287.out) | exact HB.out)) hb); clear BK282; clear BK283; clear BK285; clear BK287; clear HB; have BK282 := n0_; have BK283 := n1_; have BK285 := n2_; have BK287 := n3_; have HB := n4_; clear n0_ n1_ n2_ n3_ n4_; (try clear hb); (try clear hb2); (try clear hk); (try clear hi); have hnb78 := NB287_282.out; have hnc78 := NB282_287.out; have hnb79 := NB287_283.out; have hnc79 := NB283_287.out; have hcz80_0 : w77.cell? ⟨gb287, 0, none⟩ = some (.int .i64 ((rd_T59 l1 x16_1).f0.f0)) := (blk_cell BK287.out 0).trans rfl; have hcz80_1 : w77.cell? ⟨gb287, 1, none⟩ = some (.int .i64 t286) := (blk_cell BK287.out 1).trans rfl; have hcz80_2 : w77.cell? ⟨gb287, 2, none⟩ = some (.int .i64 ((rd_T59 l1 x16_1).f0.f2)) := (blk_cell BK287.out 2).trans rfl; have hcz80_3 : w77.cell? ⟨gb287, 3, none⟩ = some (.int .i64 ((rd_T59 l1 x16_1).f0.f3)) := (blk_cell BK287.out 3).trans rfl; have hfz80_0 := blk_frozen BK287.out 0; have hfz80_1 := blk_frozen BK287.out 1; have hfz80_2 := blk_frozen BK287.out 2; have hfz80_3 := blk_frozen BK287.out 3))
                go_roundg k1
                case measure => have := HK1.out; omega
                case rel => exact ⟨(x7_1), (wrap64 (x16_1 + 1)), (x284000_1), (x284001_1), (x284002_1), (x284003_1), (by first | rfl | (simp; done) | (simp [*]; done)), (by first | rfl | (simp; done) | (simp [*]; done)), H', ⟨by have := HK1.out; omega⟩, ⟨by (with_reducible repeat (first | refine blk_drewN ?_ _ | refine blk_drew ?_ | refine blk_alloc ?_ _)); exact BK282.out⟩, ⟨by (with_reducible repeat (first | refine blk_drewN ?_ _ | refine blk_drew ?_ | refine blk_alloc ?_ _)); exact BK283.out⟩, ⟨by repeat (first | (with_reducible first | exact HB.out | apply below_alloc | apply pw_below_drewN | apply below_drew1 | refine below_set ?_ GE282.out | refine below_set ?_ GE283.out | refine below_set ?_ GE285.out | refine below_set ?_ GE287.out) | exact HB.out)⟩⟩
            · replace c12 := Bool.eq_false_iff.mpr c12
              subst c12
              have H1 : (kissgateref10_Best.l0 k1 a0 x7_1 l1 (l1.length : Int) (wrap64 (x16_1 + 1)) x284000_1 x284001_1 x284002_1 x284003_1) = some (r1, r2, r3, r4, r5) := by rw [if_neg (show ¬ (false = true) by decide)] at H; exact H
              clear H
              have H := H1
              clear H1
              have H' := Aside0.mk H
              clear H
              have p284 : 0 ≤ (x16_1 : Int) := of_decide_eq_true (by first | (with_reducible assumption) | assumption)
              have q284 : x16_1 < (l1.length : Int) := of_decide_eq_true (by first | (with_reducible assumption) | assumption)
              obtain ⟨ad284, e284, hx284_0, hx284_1, hx284_2, hx284_3, hx284_4, hx284_5, hx284_6⟩ := at_T59 HR1.out x16_1 p284 q284
              cases e284
              replace hx284_0 := (HB.out.cell (World.block_lt_of_cell? w _ hx284_0)).trans hx284_0
              replace hx284_1 := (HB.out.cell (World.block_lt_of_cell? w _ hx284_1)).trans hx284_1
              replace hx284_2 := (HB.out.cell (World.block_lt_of_cell? w _ hx284_2)).trans hx284_2
              replace hx284_3 := (HB.out.cell (World.block_lt_of_cell? w _ hx284_3)).trans hx284_3
              replace hx284_4 := (HB.out.cell (World.block_lt_of_cell? w _ hx284_4)).trans hx284_4
              replace hx284_5 := (HB.out.cell (World.block_lt_of_cell? w _ hx284_5)).trans hx284_5
              replace hx284_6 := (HB.out.cell (World.block_lt_of_cell? w _ hx284_6)).trans hx284_6
              replace p284 := eq_true p284
              replace q284 := eq_true q284
              try go_wp2_with (first | ((with_reducible refine gate_dst (N := 9) rfl ?_); refine box_event ?hg (N := 9) ?hd (cs := #[.int .i64 0, .int .i64 0, .int .i64 0, .int .i64 0, .int .i64 0, .int .i64 0, .bool false]) (t := 59) ?hr ?_; (case hd => rfl); (case hg => rfl); (case hr => first | (go_simp; done) | (go_simp; rfl)); intro gb285 hg w81 hbox hb; have n0_ := Aside0.mk (blk_below (g := gb282) (o := .cells #[.int .i64 0, .int .i64 0, .int .i64 0, .int .i64 0] 36 (0, 0)) (by (with_reducible repeat (first | refine blk_drewN ?_ _ | refine blk_drew ?_ | refine blk_alloc ?_ _)); exact BK282.out) hb); have n1_ := Aside0.mk (blk_below (g := gb283) (o := .cells #[.int .i64 x284000_1, .int .i64 x284001_1, .int .i64 x284002_1, .int .i64 x284003_1] 36 (0, 0)) (by (with_reducible repeat (first | refine blk_drewN ?_ _ | refine blk_drew ?_ | refine blk_alloc ?_ _)); exact BK283.out) hb); have n2_ := Aside0.mk (below_step (by repeat (first | (with_reducible first | exact HB.out | apply below_alloc | apply pw_below_drewN | apply below_drew1 | refine below_set ?_ GE282.out | refine below_set ?_ GE283.out) | exact HB.out)) hb); have n3_ := Aside0.mk (hbox); have n4_ := Aside0.mk ((by rw [hg]; exact (below_size (by repeat (first | (with_reducible first | exact HB.out | apply below_alloc | apply pw_below_drewN | apply below_drew1 | refine below_set ?_ GE282.out | refine below_set ?_ GE283.out) | exact HB.out))) : w.heap.size ≤ gb285)); have n5_ := Aside0.mk ((by rw [hg]; exact (below_size (by repeat (first | (with_reducible first | exact HB.out | apply below_alloc | apply pw_below_drewN | apply below_drew1 | refine below_set ?_ GE282.out | refine below_set ?_ GE283.out) | exact HB.out))) : w.heap.size ≤ gb285)); have n6_ := Aside0.mk ((by rw [hg]; exact Nat.ne_of_lt (blk_lt (g := gb282) (o := .cells #[.int .i64 0, .int .i64 0, .int .i64 0, .int .i64 0] 36 (0, 0)) (by (with_reducible repeat (first | refine blk_drewN ?_ _ | refine blk_drew ?_ | refine blk_alloc ?_ _)); exact BK282.out)) : gb282 ≠ gb285)); have n7_ := Aside0.mk ((by rw [hg]; exact Nat.ne_of_gt (blk_lt (g := gb282) (o := .cells #[.int .i64 0, .int .i64 0, .int .i64 0, .int .i64 0] 36 (0, 0)) (by (with_reducible repeat (first | refine blk_drewN ?_ _ | refine blk_drew ?_ | refine blk_alloc ?_ _)); exact BK282.out)) : gb285 ≠ gb282)); have n8_ := Aside0.mk ((by rw [hg]; exact Nat.ne_of_lt (blk_lt (g := gb283) (o := .cells #[.int .i64 x284000_1, .int .i64 x284001_1, .int .i64 x284002_1, .int .i64 x284003_1] 36 (0, 0)) (by (with_reducible repeat (first | refine blk_drewN ?_ _ | refine blk_drew ?_ | refine blk_alloc ?_ _)); exact BK283.out)) : gb283 ≠ gb285)); have n9_ := Aside0.mk ((by rw [hg]; exact Nat.ne_of_gt (blk_lt (g := gb283) (o := .cells #[.int .i64 x284000_1, .int .i64 x284001_1, .int .i64 x284002_1, .int .i64 x284003_1] 36 (0, 0)) (by (with_reducible repeat (first | refine blk_drewN ?_ _ | refine blk_drew ?_ | refine blk_alloc ?_ _)); exact BK283.out)) : gb285 ≠ gb283)); clear BK282; clear BK283; clear HB; have BK282 := n0_; have BK283 := n1_; have HB := n2_; have BK285 := n3_; have GW285 := n4_; have GE285 := n5_; have NB282_285 := n6_; have NB285_282 := n7_; have NB283_285 := n8_; have NB285_283 := n9_; clear n0_ n1_ n2_ n3_ n4_ n5_ n6_ n7_ n8_ n9_; clear hb hbox hg; have hnb82 := NB285_282.out; have hnc82 := NB282_285.out; have hnb83 := NB285_283.out; have hnc83 := NB283_285.out; have hcz84_0 : w81.cell? ⟨gb285, 0, none⟩ = some (.int .i64 0) := (blk_cell BK285.out 0).trans rfl; have hcz84_1 : w81.cell? ⟨gb285, 1, none⟩ = some (.int .i64 0) := (blk_cell BK285.out 1).trans rfl; have hcz84_2 : w81.cell? ⟨gb285, 2, none⟩ = some (.int .i64 0) := (blk_cell BK285.out 2).trans rfl; have hcz84_3 : w81.cell? ⟨gb285, 3, none⟩ = some (.int .i64 0) := (blk_cell BK285.out 3).trans rfl; have hcz84_4 : w81.cell? ⟨gb285, 4, none⟩ = some (.int .i64 0) := (blk_cell BK285.out 4).trans rfl; have hcz84_5 : w81.cell? ⟨gb285, 5, none⟩ = some (.int .i64 0) := (blk_cell BK285.out 5).trans rfl; have hcz84_6 : w81.cell? ⟨gb285, 6, none⟩ = some (.bool false) := (blk_cell BK285.out 6).trans rfl; have hfz84_0 := blk_frozen BK285.out 0; have hfz84_1 := blk_frozen BK285.out 1; have hfz84_2 := blk_frozen BK285.out 2; have hfz84_3 := blk_frozen BK285.out 3; have hfz84_4 := blk_frozen BK285.out 4; have hfz84_5 := blk_frozen BK285.out 5; have hfz84_6 := blk_frozen BK285.out 6))
              have n0_ : Aside0 ((((((((w81.setCell ⟨gb285, 0, none⟩ (.int .i64 ((rd_T59 l1 x16_1).f0.f0))).setCell ⟨gb285, 1, none⟩ (.int .i64 ((rd_T59 l1 x16_1).f0.f1))).setCell ⟨gb285, 2, none⟩ (.int .i64 ((rd_T59 l1 x16_1).f0.f2))).setCell ⟨gb285, 3, none⟩ (.int .i64 ((rd_T59 l1 x16_1).f0.f3))).setCell ⟨gb285, 4, none⟩ (.int .i64 ((rd_T59 l1 x16_1).f1))).setCell ⟨gb285, 5, none⟩ (.int .i64 ((rd_T59 l1 x16_1).f2))).setCell ⟨gb285, 6, none⟩ (.bool ((rd_T59 l1 x16_1).f3))).heap[gb282]? = some (.cells #[.int .i64 0, .int .i64 0, .int .i64 0, .int .i64 0] 36 (0, 0))) := ⟨by (with_reducible repeat (first | refine blk_drewN ?_ _ | refine blk_drew ?_ | refine blk_alloc ?_ _)); refine blk_far ?_ NB282_285.out _; (with_reducible repeat (first | refine blk_drewN ?_ _ | refine blk_drew ?_ | refine blk_alloc ?_ _)); refine blk_far ?_ NB282_285.out _; (with_reducible repeat (first | refine blk_drewN ?_ _ | refine blk_drew ?_ | refine blk_alloc ?_ _)); refine blk_far ?_ NB282_285.out _; (with_reducible repeat (first | refine blk_drewN ?_ _ | refine blk_drew ?_ | refine blk_alloc ?_ _)); refine blk_far ?_ NB282_285.out _; (with_reducible repeat (first | refine blk_drewN ?_ _ | refine blk_drew ?_ | refine blk_alloc ?_ _)); refine blk_far ?_ NB282_285.out _; (with_reducible repeat (first | refine blk_drewN ?_ _ | refine blk_drew ?_ | refine blk_alloc ?_ _)); refine blk_far ?_ NB282_285.out _; (with_reducible repeat (first | refine blk_drewN ?_ _ | refine blk_drew ?_ | refine blk_alloc ?_ _)); refine blk_far ?_ NB282_285.out _; (with_reducible repeat (first | refine blk_drewN ?_ _ | refine blk_drew ?_ | refine blk_alloc ?_ _)); exact BK282.out⟩
              have n1_ : Aside0 ((((((((w81.setCell ⟨gb285, 0, none⟩ (.int .i64 ((rd_T59 l1 x16_1).f0.f0))).setCell ⟨gb285, 1, none⟩ (.int .i64 ((rd_T59 l1 x16_1).f0.f1))).setCell ⟨gb285, 2, none⟩ (.int .i64 ((rd_T59 l1 x16_1).f0.f2))).setCell ⟨gb285, 3, none⟩ (.int .i64 ((rd_T59 l1 x16_1).f0.f3))).setCell ⟨gb285, 4, none⟩ (.int .i64 ((rd_T59 l1 x16_1).f1))).setCell ⟨gb285, 5, none⟩ (.int .i64 ((rd_T59 l1 x16_1).f2))).setCell ⟨gb285, 6, none⟩ (.bool ((rd_T59 l1 x16_1).f3))).heap[gb283]? = some (.cells #[.int .i64 x284000_1, .int .i64 x284001_1, .int .i64 x284002_1, .int .i64 x284003_1] 36 (0, 0))) := ⟨by (with_reducible repeat (first | refine blk_drewN ?_ _ | refine blk_drew ?_ | refine blk_alloc ?_ _)); refine blk_far ?_ NB283_285.out _; (with_reducible repeat (first | refine blk_drewN ?_ _ | refine blk_drew ?_ | refine blk_alloc ?_ _)); refine blk_far ?_ NB283_285.out _; (with_reducible repeat (first | refine blk_drewN ?_ _ | refine blk_drew ?_ | refine blk_alloc ?_ _)); refine blk_far ?_ NB283_285.out _; (with_reducible repeat (first | refine blk_drewN ?_ _ | refine blk_drew ?_ | refine blk_alloc ?_ _)); refine blk_far ?_ NB283_285.out _; (with_reducible repeat (first | refine blk_drewN ?_ _ | refine blk_drew ?_ | refine blk_alloc ?_ _)); refine blk_far ?_ NB283_285.out _; (with_reducible repeat (first | refine blk_drewN ?_ _ | refine blk_drew ?_ | refine blk_alloc ?_ _)); refine blk_far ?_ NB283_285.out _; (with_reducible repeat (first | refine blk_drewN ?_ _ | refine blk_drew ?_ | refine blk_alloc ?_ _)); refine blk_far ?_ NB283_285.out _; (with_reducible repeat (first | refine blk_drewN ?_ _ | refine blk_drew ?_ | refine blk_alloc ?_ _)); exact BK283.out⟩
              have n2_ : Aside0 ((((((((w81.setCell ⟨gb285, 0, none⟩ (.int .i64 ((rd_T59 l1 x16_1).f0.f0))).setCell ⟨gb285, 1, none⟩ (.int .i64 ((rd_T59 l1 x16_1).f0.f1))).setCell ⟨gb285, 2, none⟩ (.int .i64 ((rd_T59 l1 x16_1).f0.f2))).setCell ⟨gb285, 3, none⟩ (.int .i64 ((rd_T59 l1 x16_1).f0.f3))).setCell ⟨gb285, 4, none⟩ (.int .i64 ((rd_T59 l1 x16_1).f1))).setCell ⟨gb285, 5, none⟩ (.int .i64 ((rd_T59 l1 x16_1).f2))).setCell ⟨gb285, 6, none⟩ (.bool ((rd_T59 l1 x16_1).f3))).heap[gb285]? = some (.cells #[.int .i64 ((rd_T59 l1 x16_1).f0.f0), .int .i64 ((rd_T59 l1 x16_1).f0.f1), .int .i64 ((rd_T59 l1 x16_1).f0.f2), .int .i64 ((rd_T59 l1 x16_1).f0.f3), .int .i64 ((rd_T59 l1 x16_1).f1), .int .i64 ((rd_T59 l1 x16_1).f2), .bool ((rd_T59 l1 x16_1).f3)] 59 (0, 0))) := ⟨by (with_reducible repeat (first | refine blk_drewN ?_ _ | refine blk_drew ?_ | refine blk_alloc ?_ _)); refine blk_put (cs := #[.int .i64 ((rd_T59 l1 x16_1).f0.f0), .int .i64 ((rd_T59 l1 x16_1).f0.f1), .int .i64 ((rd_T59 l1 x16_1).f0.f2), .int .i64 ((rd_T59 l1 x16_1).f0.f3), .int .i64 ((rd_T59 l1 x16_1).f1), .int .i64 ((rd_T59 l1 x16_1).f2), .bool false]) ?_ 6 _ rfl; (with_reducible repeat (first | refine blk_drewN ?_ _ | refine blk_drew ?_ | refine blk_alloc ?_ _)); refine blk_put (cs := #[.int .i64 ((rd_T59 l1 x16_1).f0.f0), .int .i64 ((rd_T59 l1 x16_1).f0.f1), .int .i64 ((rd_T59 l1 x16_1).f0.f2), .int .i64 ((rd_T59 l1 x16_1).f0.f3), .int .i64 ((rd_T59 l1 x16_1).f1), .int .i64 0, .bool false]) ?_ 5 _ rfl; (with_reducible repeat (first | refine blk_drewN ?_ _ | refine blk_drew ?_ | refine blk_alloc ?_ _)); refine blk_put (cs := #[.int .i64 ((rd_T59 l1 x16_1).f0.f0), .int .i64 ((rd_T59 l1 x16_1).f0.f1), .int .i64 ((rd_T59 l1 x16_1).f0.f2), .int .i64 ((rd_T59 l1 x16_1).f0.f3), .int .i64 0, .int .i64 0, .bool false]) ?_ 4 _ rfl; (with_reducible repeat (first | refine blk_drewN ?_ _ | refine blk_drew ?_ | refine blk_alloc ?_ _)); refine blk_put (cs := #[.int .i64 ((rd_T59 l1 x16_1).f0.f0), .int .i64 ((rd_T59 l1 x16_1).f0.f1), .int .i64 ((rd_T59 l1 x16_1).f0.f2), .int .i64 0, .int .i64 0, .int .i64 0, .bool false]) ?_ 3 _ rfl; (with_reducible repeat (first | refine blk_drewN ?_ _ | refine blk_drew ?_ | refine blk_alloc ?_ _)); refine blk_put (cs := #[.int .i64 ((rd_T59 l1 x16_1).f0.f0), .int .i64 ((rd_T59 l1 x16_1).f0.f1), .int .i64 0, .int .i64 0, .int .i64 0, .int .i64 0, .bool false]) ?_ 2 _ rfl; (with_reducible repeat (first | refine blk_drewN ?_ _ | refine blk_drew ?_ | refine blk_alloc ?_ _)); refine blk_put (cs := #[.int .i64 ((rd_T59 l1 x16_1).f0.f0), .int .i64 0, .int .i64 0, .int .i64 0, .int .i64 0, .int .i64 0, .bool false]) ?_ 1 _ rfl; (with_reducible repeat (first | refine blk_drewN ?_ _ | refine blk_drew ?_ | refine blk_alloc ?_ _)); refine blk_put (cs := #[.int .i64 0, .int .i64 0, .int .i64 0, .int .i64 0, .int .i64 0, .int .i64 0, .bool false]) ?_ 0 _ rfl; (with_reducible repeat (first | refine blk_drewN ?_ _ | refine blk_drew ?_ | refine blk_alloc ?_ _)); exact BK285.out⟩
              have n3_ : Aside0 (Below w.heap.size w (((((((w81.setCell ⟨gb285, 0, none⟩ (.int .i64 ((rd_T59 l1 x16_1).f0.f0))).setCell ⟨gb285, 1, none⟩ (.int .i64 ((rd_T59 l1 x16_1).f0.f1))).setCell ⟨gb285, 2, none⟩ (.int .i64 ((rd_T59 l1 x16_1).f0.f2))).setCell ⟨gb285, 3, none⟩ (.int .i64 ((rd_T59 l1 x16_1).f0.f3))).setCell ⟨gb285, 4, none⟩ (.int .i64 ((rd_T59 l1 x16_1).f1))).setCell ⟨gb285, 5, none⟩ (.int .i64 ((rd_T59 l1 x16_1).f2))).setCell ⟨gb285, 6, none⟩ (.bool ((rd_T59 l1 x16_1).f3)))) := ⟨by repeat (first | (with_reducible first | exact HB.out | apply below_alloc | apply pw_below_drewN | apply below_drew1 | refine below_set ?_ GE282.out | refine below_set ?_ GE283.out | refine below_set ?_ GE285.out) | exact HB.out)⟩
              (try clear BK282)
              (try clear BK283)
              (try clear BK285)
              (try clear HB)
              generalize (((((((w81.setCell ⟨gb285, 0, none⟩ (.int .i64 ((rd_T59 l1 x16_1).f0.f0))).setCell ⟨gb285, 1, none⟩ (.int .i64 ((rd_T59 l1 x16_1).f0.f1))).setCell ⟨gb285, 2, none⟩ (.int .i64 ((rd_T59 l1 x16_1).f0.f2))).setCell ⟨gb285, 3, none⟩ (.int .i64 ((rd_T59 l1 x16_1).f0.f3))).setCell ⟨gb285, 4, none⟩ (.int .i64 ((rd_T59 l1 x16_1).f1))).setCell ⟨gb285, 5, none⟩ (.int .i64 ((rd_T59 l1 x16_1).f2))).setCell ⟨gb285, 6, none⟩ (.bool ((rd_T59 l1 x16_1).f3))) = w85 at n0_ n1_ n2_ n3_ ⊢
              have BK282 := n0_
              have BK283 := n1_
              have BK285 := n2_
              have HB := n3_
              clear n0_ n1_ n2_ n3_
              have n0_ := Aside0.mk (blk_drew BK282.out)
              have n1_ := Aside0.mk (blk_drew BK283.out)
              have n2_ := Aside0.mk (blk_drew BK285.out)
              have n3_ := Aside0.mk (below_drew1 HB.out)
              clear BK282
              clear BK283
              clear BK285
              clear HB
              have BK282 := n0_
              have BK283 := n1_
              have BK285 := n2_
              have HB := n3_
              clear n0_ n1_ n2_ n3_
              refine start_ (n := 18) (S := fun w' => w'.cell? ⟨gb285, 0, none⟩ = some (.int .i64 ((rd_T59 l1 x16_1).f0.f0)) ∧ w'.cell? ⟨gb285, 1, none⟩ = some (.int .i64 ((rd_T59 l1 x16_1).f0.f1)) ∧ w'.cell? ⟨gb285, 2, none⟩ = some (.int .i64 ((rd_T59 l1 x16_1).f0.f2)) ∧ w'.cell? ⟨gb285, 3, none⟩ = some (.int .i64 ((rd_T59 l1 x16_1).f0.f3)) ∧ w'.cell? ⟨gb285, 4, none⟩ = some (.int .i64 ((rd_T59 l1 x16_1).f1)) ∧ w'.cell? ⟨gb285, 5, none⟩ = some (.int .i64 ((rd_T59 l1 x16_1).f2)) ∧ w'.cell? ⟨gb285, 6, none⟩ = some (.bool ((rd_T59 l1 x16_1).f3))) (ds := []) #[false, false, false, false, false, false, false, false, false, false, false, false, false, false, false, false, false, false] (by kernel_rfl) rfl rfl ⟨(blk_cell BK285.out 0).trans rfl, (blk_cell BK285.out 1).trans rfl, (blk_cell BK285.out 2).trans rfl, (blk_cell BK285.out 3).trans rfl, (blk_cell BK285.out 4).trans rfl, (blk_cell BK285.out 5).trans rfl, (blk_cell BK285.out 6).trans rfl⟩ (fun hHeld => ?_); refine with_tabW kissgateref10_Best.tab6 kissgateref10_Best.bits6 (fun HT_ HW_ => ?_)
              generalize w85.drew = w86 at BK282 BK283 BK285 HB hHeld ⊢
              refine pure_ (i := 0) (N := some 21) (v := ?_) (a' := ?_) #[true, false, false, false, false, false, false, false, false, false, false, false, false, false, false, false, false, false] rfl rfl (any_of HT_.out (by kernel_rfl)) (fun _ _ _ h => h) (Or.inl ⟨by rfl, ?_⟩) ?_ ?_
              rotate_left
              · intro w'
                go_simp
                with_reducible rfl
              rotate_left
              · simp only [Act.put, List.setIfInBounds_toArray, List.set_cons_zero, List.set_cons_succ, i64_w, i32_w]
                rfl
              refine pure_ (i := 1) (N := some 22) (v := ?_) (a' := ?_) #[true, true, false, false, false, false, false, false, false, false, false, false, false, false, false, false, false, false] rfl rfl (any_of HT_.out (by kernel_rfl)) (fun _ _ _ h => h) (Or.inl ⟨by rfl, ?_⟩) ?_ ?_
              rotate_left
              · intro w'
                go_simp
                with_reducible rfl
              rotate_left
              · simp only [Act.put, List.setIfInBounds_toArray, List.set_cons_zero, List.set_cons_succ, i64_w, i32_w]
                rfl
              refine pure_ (i := 3) (N := some 24) (v := ?_) (a' := ?_) #[true, true, false, true, false, false, false, false, false, false, false, false, false, false, false, false, false, false] rfl rfl (any_of HT_.out (by kernel_rfl)) (fun _ _ _ h => h) (Or.inl ⟨by rfl, ?_⟩) ?_ ?_
              rotate_left
              · intro w'
                go_simp
                with_reducible rfl
              rotate_left
              · simp only [Act.put, List.setIfInBounds_toArray, List.set_cons_zero, List.set_cons_succ, i64_w, i32_w]
                rfl
              refine pure_ (i := 4) (N := some 25) (v := ?_) (a' := ?_) #[true, true, false, true, true, false, false, false, false, false, false, false, false, false, false, false, false, false] rfl rfl (any_of HT_.out (by kernel_rfl)) (fun _ _ _ h => h) (Or.inl ⟨by rfl, ?_⟩) ?_ ?_
              rotate_left
              · intro w'
                go_simp
                with_reducible rfl
              rotate_left
              · simp only [Act.put, List.setIfInBounds_toArray, List.set_cons_zero, List.set_cons_succ, i64_w, i32_w]
                rfl
              refine pure_ (i := 6) (N := some 27) (v := ?_) (a' := ?_) #[true, true, false, true, true, false, true, false, false, false, false, false, false, false, false, false, false, false] rfl rfl (any_of HT_.out (by kernel_rfl)) (fun _ _ _ h => h) (Or.inl ⟨by rfl, ?_⟩) ?_ ?_
              rotate_left
              · intro w'
                go_simp
                with_reducible rfl
              rotate_left
              · simp only [Act.put, List.setIfInBounds_toArray, List.set_cons_zero, List.set_cons_succ, i64_w, i32_w]
                rfl
              refine pure_ (i := 9) (N := some 30) (v := ?_) (a' := ?_) #[true, true, false, true, true, false, true, false, false, true, false, false, false, false, false, false, false, false] rfl rfl (any_of HT_.out (by kernel_rfl)) (fun _ _ _ h => h) (Or.inl ⟨by rfl, ?_⟩) ?_ ?_
              rotate_left
              · intro w'
                go_simp
                with_reducible rfl
              rotate_left
              · simp only [Act.put, List.setIfInBounds_toArray, List.set_cons_zero, List.set_cons_succ, i64_w, i32_w]
                rfl
              refine pure_ (i := 10) (N := some 31) (v := ?_) (a' := ?_) #[true, true, false, true, true, false, true, false, false, true, true, false, false, false, false, false, false, false] rfl rfl (any_of HT_.out (by kernel_rfl)) (fun _ _ _ h => h) (Or.inl ⟨by rfl, ?_⟩) ?_ ?_
              rotate_left
              · intro w'
                go_simp
                with_reducible rfl
              rotate_left
              · simp only [Act.put, List.setIfInBounds_toArray, List.set_cons_zero, List.set_cons_succ, i64_w, i32_w]
                rfl
              refine pure_ (i := 12) (N := some 33) (v := ?_) (a' := ?_) #[true, true, false, true, true, false, true, false, false, true, true, false, true, false, false, false, false, false] rfl rfl (any_of HT_.out (by kernel_rfl)) (fun _ _ _ h => h) (Or.inl ⟨by rfl, ?_⟩) ?_ ?_
              rotate_left
              · intro w'
                go_simp
                with_reducible rfl
              rotate_left
              · simp only [Act.put, List.setIfInBounds_toArray, List.set_cons_zero, List.set_cons_succ, i64_w, i32_w]
                rfl
              refine pure_ (i := 13) (N := some 34) (v := ?_) (a' := ?_) #[true, true, false, true, true, false, true, false, false, true, true, false, true, true, false, false, false, false] rfl rfl (any_of HT_.out (by kernel_rfl)) (fun _ _ _ h => h) (Or.inl ⟨by rfl, ?_⟩) ?_ ?_
              rotate_left
              · intro w'
                go_simp
                with_reducible rfl
              rotate_left
              · simp only [Act.put, List.setIfInBounds_toArray, List.set_cons_zero, List.set_cons_succ, i64_w, i32_w]
                rfl
              refine take_ (i := 2) (N := some 23) (v := ?_) (a' := ?_) #[true, true, true, true, true, false, true, false, false, true, true, false, true, true, false, false, false, false] rfl rfl (take_ofW HT_.out HW_.out (by kernel_rfl)) (fun _ _ _ h => h) (Or.inl ⟨by rfl, ?_⟩) hHeld ?_ ?_
              rotate_left
              · rintro w' ⟨s0, s1, s2, s3, s4, s5, s6⟩
                go_simp
                with_reducible rfl
              rotate_left
              · simp only [Act.put, List.setIfInBounds_toArray, List.set_cons_zero, List.set_cons_succ, i64_w, i32_w]
                rfl
              refine take_ (i := 5) (N := some 26) (v := ?_) (a' := ?_) #[true, true, true, true, true, true, true, false, false, true, true, false, true, true, false, false, false, false] rfl rfl (take_ofW HT_.out HW_.out (by kernel_rfl)) (fun _ _ _ h => h) (Or.inl ⟨by rfl, ?_⟩) hHeld ?_ ?_
              rotate_left
              · rintro w' ⟨s0, s1, s2, s3, s4, s5, s6⟩
                go_simp
                with_reducible rfl
              rotate_left
              · simp only [Act.put, List.setIfInBounds_toArray, List.set_cons_zero, List.set_cons_succ, i64_w, i32_w]
                rfl
              refine take_ (i := 7) (N := some 28) (v := ?_) (a' := ?_) #[true, true, true, true, true, true, true, true, false, true, true, false, true, true, false, false, false, false] rfl rfl (take_ofW HT_.out HW_.out (by kernel_rfl)) (fun _ _ _ h => h) (Or.inl ⟨by rfl, ?_⟩) hHeld ?_ ?_
              rotate_left
              · rintro w' ⟨s0, s1, s2, s3, s4, s5, s6⟩
                go_simp
                with_reducible rfl
              rotate_left
              · simp only [Act.put, List.setIfInBounds_toArray, List.set_cons_zero, List.set_cons_succ, i64_w, i32_w]
                rfl
              refine take_ (i := 11) (N := some 32) (v := ?_) (a' := ?_) #[true, true, true, true, true, true, true, true, false, true, true, true, true, true, false, false, false, false] rfl rfl (take_ofW HT_.out HW_.out (by kernel_rfl)) (fun _ _ _ h => h) (Or.inl ⟨by rfl, ?_⟩) hHeld ?_ ?_
              rotate_left
              · rintro w' ⟨s0, s1, s2, s3, s4, s5, s6⟩
                go_simp
                with_reducible rfl
              rotate_left
              · simp only [Act.put, List.setIfInBounds_toArray, List.set_cons_zero, List.set_cons_succ, i64_w, i32_w]
                rfl
              refine take_ (i := 14) (N := some 35) (v := ?_) (a' := ?_) #[true, true, true, true, true, true, true, true, false, true, true, true, true, true, true, false, false, false] rfl rfl (take_ofW HT_.out HW_.out (by kernel_rfl)) (fun _ _ _ h => h) (Or.inl ⟨by rfl, ?_⟩) hHeld ?_ ?_
              rotate_left
              · rintro w' ⟨s0, s1, s2, s3, s4, s5, s6⟩
                go_simp
                with_reducible rfl
              rotate_left
              · simp only [Act.put, List.setIfInBounds_toArray, List.set_cons_zero, List.set_cons_succ, i64_w, i32_w]
                rfl
              refine join_ (σ := Nat) 1 #[true, true, true, true, true, true, true, true, true, true, true, true, true, true, true, true, true, false] (fun s_ => [(29, .int .i64 t286), (10, .pointer (some ⟨s_, 0, none⟩)), (36, .agg #[.int .i64 ((rd_T59 l1 x16_1).f0.f0), .int .i64 t286, .int .i64 ((rd_T59 l1 x16_1).f0.f2), .int .i64 ((rd_T59 l1 x16_1).f0.f3)])]) (fun s_ w' => (w'.cell? ⟨gb285, 0, none⟩ = some (.int .i64 ((rd_T59 l1 x16_1).f0.f0)) ∧ w'.cell? ⟨gb285, 1, none⟩ = some (.int .i64 ((rd_T59 l1 x16_1).f0.f1)) ∧ w'.cell? ⟨gb285, 2, none⟩ = some (.int .i64 ((rd_T59 l1 x16_1).f0.f2)) ∧ w'.cell? ⟨gb285, 3, none⟩ = some (.int .i64 ((rd_T59 l1 x16_1).f0.f3)) ∧ w'.cell? ⟨gb285, 4, none⟩ = some (.int .i64 ((rd_T59 l1 x16_1).f1)) ∧ w'.cell? ⟨gb285, 5, none⟩ = some (.int .i64 ((rd_T59 l1 x16_1).f2)) ∧ w'.cell? ⟨gb285, 6, none⟩ = some (.bool ((rd_T59 l1 x16_1).f3))) ∧ (w'.heap[gb282]? = some (.cells #[.int .i64 0, .int .i64 0, .int .i64 0, .int .i64 0] 36 (0, 0))) ∧ (w'.heap[gb283]? = some (.cells #[.int .i64 x284000_1, .int .i64 x284001_1, .int .i64 x284002_1, .int .i64 x284003_1] 36 (0, 0))) ∧ (w'.heap[gb285]? = some (.cells #[.int .i64 ((rd_T59 l1 x16_1).f0.f0), .int .i64 ((rd_T59 l1 x16_1).f0.f1), .int .i64 ((rd_T59 l1 x16_1).f0.f2), .int .i64 ((rd_T59 l1 x16_1).f0.f3), .int .i64 ((rd_T59 l1 x16_1).f1), .int .i64 ((rd_T59 l1 x16_1).f2), .bool ((rd_T59 l1 x16_1).f3)] 59 (0, 0))) ∧ (w'.heap[s_]? = some (.cells #[.int .i64 0, .int .i64 0, .int .i64 0, .int .i64 0] 36 (0, 0))) ∧ (w.heap.size ≤ s_) ∧ (w.heap.size ≤ s_) ∧ (gb282 ≠ s_) ∧ (s_ ≠ gb282) ∧ (gb283 ≠ s_) ∧ (s_ ≠ gb283) ∧ (gb285 ≠ s_) ∧ (s_ ≠ gb285) ∧ (Below w.heap.size w w')) ?_ ?_
              rotate_left
              · intro hCont
                refine two_ (i := 8) (j := 16) (Ni := some 29) (Nj := some 10) #[true, true, true, true, true, true, true, true, true, true, true, true, true, true, true, false, false, false] #[true, true, true, true, true, true, true, true, false, true, true, true, true, true, true, false, true, false] rfl rfl rfl rfl (two_of HT_.out (by kernel_rfl)) (by decide) (by decide) (fun K hK => ?_) (fun K hK => ?_)
                · skip
                  refine goes_ Tryd.func63 (by kernel_rfl) rfl #[.int .i64 ((rd_T59 l1 x16_1).f0.f1), .int .i64 ((rd_T59 l1 x16_1).f2)] (by rfl) rfl rfl (by (try simp only [List.map_toArray, List.map_cons, List.map_nil]); first | done | rfl | (simp only [List.length_drop, List.length_take]; rfl)) ?_
                  with_reducible refine (kissgateref10_Sum.calls ((rd_T59 l1 x16_1).f0.f1) ((rd_T59 l1 x16_1).f2) t286 _ A10.out).mono ?_
                  rintro e w87 ⟨rfl, hb⟩
                  refine ⟨_, rfl, ?_⟩
                  have n0_ := Aside0.mk (blk_below (g := gb282) (o := .cells #[.int .i64 0, .int .i64 0, .int .i64 0, .int .i64 0] 36 (0, 0)) (by (with_reducible repeat (first | refine blk_drewN ?_ _ | refine blk_drew ?_ | refine blk_alloc ?_ _)); exact BK282.out) hb)
                  have n1_ := Aside0.mk (blk_below (g := gb283) (o := .cells #[.int .i64 x284000_1, .int .i64 x284001_1, .int .i64 x284002_1, .int .i64 x284003_1] 36 (0, 0)) (by (with_reducible repeat (first | refine blk_drewN ?_ _ | refine blk_drew ?_ | refine blk_alloc ?_ _)); exact BK283.out) hb)
                  have n2_ := Aside0.mk (blk_below (g := gb285) (o := .cells #[.int .i64 ((rd_T59 l1 x16_1).f0.f0), .int .i64 ((rd_T59 l1 x16_1).f0.f1), .int .i64 ((rd_T59 l1 x16_1).f0.f2), .int .i64 ((rd_T59 l1 x16_1).f0.f3), .int .i64 ((rd_T59 l1 x16_1).f1), .int .i64 ((rd_T59 l1 x16_1).f2), .bool ((rd_T59 l1 x16_1).f3)] 59 (0, 0)) (by (with_reducible repeat (first | refine blk_drewN ?_ _ | refine blk_drew ?_ | refine blk_alloc ?_ _)); exact BK285.out) hb)
                  have n3_ := Aside0.mk (below_step (by repeat (first | (with_reducible first | exact HB.out | apply below_alloc | apply pw_below_drewN | apply below_drew1 | refine below_set ?_ GE282.out | refine below_set ?_ GE283.out | refine below_set ?_ GE285.out) | exact HB.out)) hb)
                  clear BK282
                  clear BK283
                  clear BK285
                  clear HB
                  have BK282 := n0_
                  have BK283 := n1_
                  have BK285 := n2_
                  have HB := n3_
                  clear n0_ n1_ n2_ n3_
                  (try clear hb)
                  (try clear hb2)
                  (try clear hk)
                  (try clear hi)
                  refine hK.out _ _ ⟨(blk_cell BK285.out 0).trans rfl, (blk_cell BK285.out 1).trans rfl, (blk_cell BK285.out 2).trans rfl, (blk_cell BK285.out 3).trans rfl, (blk_cell BK285.out 4).trans rfl, (blk_cell BK285.out 5).trans rfl, (blk_cell BK285.out 6).trans rfl⟩ (fun hHeld => ?_)
                  clear hK K
                  refine norm_ (a' := ?_) ?_ ?_
                  rotate_left
                  · show Act.put _ (some 29) _ = _
                    simp only [Act.put, List.setIfInBounds_toArray, List.set_cons_zero, List.set_cons_succ, i64_w, i32_w]
                    rfl
                  refine pure_ (i := 15) (N := some 36) (v := ?_) (a' := ?_) #[true, true, true, true, true, true, true, true, true, true, true, true, true, true, true, true, false, false] rfl rfl (any_of HT_.out (by kernel_rfl)) (fun _ _ _ h => h) (Or.inl ⟨by rfl, ?_⟩) ?_ ?_
                  rotate_left
                  · intro w'
                    go_simp
                    with_reducible rfl
                  rotate_left
                  · simp only [Act.put, List.setIfInBounds_toArray, List.set_cons_zero, List.set_cons_succ, i64_w, i32_w]
                    rfl
                  refine one_ (i := 16) (N := some 10) #[true, true, true, true, true, true, true, true, true, true, true, true, true, true, true, true, true, false] rfl rfl (one_of HT_.out (by kernel_rfl)) (by decide) (fun K hK => ?_)
                  refine box_step ?hg (N := 10) ?hd (cs := #[.int .i64 0, .int .i64 0, .int .i64 0, .int .i64 0]) (t := 36) ?hr ?_; (case hd => rfl); (case hg => rfl); (case hr => first | (go_simp; done) | (go_simp; rfl))
                  intro gb287 hg w88 hbox hb
                  have n0_ := Aside0.mk (blk_below (g := gb282) (o := .cells #[.int .i64 0, .int .i64 0, .int .i64 0, .int .i64 0] 36 (0, 0)) (by (with_reducible repeat (first | refine blk_drewN ?_ _ | refine blk_drew ?_ | refine blk_alloc ?_ _)); exact BK282.out) hb)
                  have n1_ := Aside0.mk (blk_below (g := gb283) (o := .cells #[.int .i64 x284000_1, .int .i64 x284001_1, .int .i64 x284002_1, .int .i64 x284003_1] 36 (0, 0)) (by (with_reducible repeat (first | refine blk_drewN ?_ _ | refine blk_drew ?_ | refine blk_alloc ?_ _)); exact BK283.out) hb)
                  have n2_ := Aside0.mk (blk_below (g := gb285) (o := .cells #[.int .i64 ((rd_T59 l1 x16_1).f0.f0), .int .i64 ((rd_T59 l1 x16_1).f0.f1), .int .i64 ((rd_T59 l1 x16_1).f0.f2), .int .i64 ((rd_T59 l1 x16_1).f0.f3), .int .i64 ((rd_T59 l1 x16_1).f1), .int .i64 ((rd_T59 l1 x16_1).f2), .bool ((rd_T59 l1 x16_1).f3)] 59 (0, 0)) (by (with_reducible repeat (first | refine blk_drewN ?_ _ | refine blk_drew ?_ | refine blk_alloc ?_ _)); exact BK285.out) hb)
                  have n3_ := Aside0.mk (below_step (by repeat (first | (with_reducible first | exact HB.out | apply below_alloc | apply pw_below_drewN | apply below_drew1 | refine below_set ?_ GE282.out | refine below_set ?_ GE283.out | refine below_set ?_ GE285.out) | exact HB.out)) hb)
                  have n4_ := Aside0.mk (hbox)
                  have n5_ := Aside0.mk ((by rw [hg]; exact (below_size (by repeat (first | (with_reducible first | exact HB.out | apply below_alloc | apply pw_below_drewN | apply below_drew1 | refine below_set ?_ GE282.out | refine below_set ?_ GE283.out | refine below_set ?_ GE285.out) | exact HB.out))) : w.heap.size ≤ gb287))
                  have n6_ := Aside0.mk ((by rw [hg]; exact (below_size (by repeat (first | (with_reducible first | exact HB.out | apply below_alloc | apply pw_below_drewN | apply below_drew1 | refine below_set ?_ GE282.out | refine below_set ?_ GE283.out | refine below_set ?_ GE285.out) | exact HB.out))) : w.heap.size ≤ gb287))
                  have n7_ := Aside0.mk ((by rw [hg]; exact Nat.ne_of_lt (blk_lt (g := gb282) (o := .cells #[.int .i64 0, .int .i64 0, .int .i64 0, .int .i64 0] 36 (0, 0)) (by (with_reducible repeat (first | refine blk_drewN ?_ _ | refine blk_drew ?_ | refine blk_alloc ?_ _)); exact BK282.out)) : gb282 ≠ gb287))
                  have n8_ := Aside0.mk ((by rw [hg]; exact Nat.ne_of_gt (blk_lt (g := gb282) (o := .cells #[.int .i64 0, .int .i64 0, .int .i64 0, .int .i64 0] 36 (0, 0)) (by (with_reducible repeat (first | refine blk_drewN ?_ _ | refine blk_drew ?_ | refine blk_alloc ?_ _)); exact BK282.out)) : gb287 ≠ gb282))
                  have n9_ := Aside0.mk ((by rw [hg]; exact Nat.ne_of_lt (blk_lt (g := gb283) (o := .cells #[.int .i64 x284000_1, .int .i64 x284001_1, .int .i64 x284002_1, .int .i64 x284003_1] 36 (0, 0)) (by (with_reducible repeat (first | refine blk_drewN ?_ _ | refine blk_drew ?_ | refine blk_alloc ?_ _)); exact BK283.out)) : gb283 ≠ gb287))
                  have n10_ := Aside0.mk ((by rw [hg]; exact Nat.ne_of_gt (blk_lt (g := gb283) (o := .cells #[.int .i64 x284000_1, .int .i64 x284001_1, .int .i64 x284002_1, .int .i64 x284003_1] 36 (0, 0)) (by (with_reducible repeat (first | refine blk_drewN ?_ _ | refine blk_drew ?_ | refine blk_alloc ?_ _)); exact BK283.out)) : gb287 ≠ gb283))
                  have n11_ := Aside0.mk ((by rw [hg]; exact Nat.ne_of_lt (blk_lt (g := gb285) (o := .cells #[.int .i64 ((rd_T59 l1 x16_1).f0.f0), .int .i64 ((rd_T59 l1 x16_1).f0.f1), .int .i64 ((rd_T59 l1 x16_1).f0.f2), .int .i64 ((rd_T59 l1 x16_1).f0.f3), .int .i64 ((rd_T59 l1 x16_1).f1), .int .i64 ((rd_T59 l1 x16_1).f2), .bool ((rd_T59 l1 x16_1).f3)] 59 (0, 0)) (by (with_reducible repeat (first | refine blk_drewN ?_ _ | refine blk_drew ?_ | refine blk_alloc ?_ _)); exact BK285.out)) : gb285 ≠ gb287))
                  have n12_ := Aside0.mk ((by rw [hg]; exact Nat.ne_of_gt (blk_lt (g := gb285) (o := .cells #[.int .i64 ((rd_T59 l1 x16_1).f0.f0), .int .i64 ((rd_T59 l1 x16_1).f0.f1), .int .i64 ((rd_T59 l1 x16_1).f0.f2), .int .i64 ((rd_T59 l1 x16_1).f0.f3), .int .i64 ((rd_T59 l1 x16_1).f1), .int .i64 ((rd_T59 l1 x16_1).f2), .bool ((rd_T59 l1 x16_1).f3)] 59 (0, 0)) (by (with_reducible repeat (first | refine blk_drewN ?_ _ | refine blk_drew ?_ | refine blk_alloc ?_ _)); exact BK285.out)) : gb287 ≠ gb285))
                  clear BK282
                  clear BK283
                  clear BK285
                  clear HB
                  have BK282 := n0_
                  have BK283 := n1_
                  have BK285 := n2_
                  have HB := n3_
                  have BK287 := n4_
                  have GW287 := n5_
                  have GE287 := n6_
                  have NB282_287 := n7_
                  have NB287_282 := n8_
                  have NB283_287 := n9_
                  have NB287_283 := n10_
                  have NB285_287 := n11_
                  have NB287_285 := n12_
                  clear n0_ n1_ n2_ n3_ n4_ n5_ n6_ n7_ n8_ n9_ n10_ n11_ n12_
                  clear hb hbox hg
                  refine hK.out _ _ ⟨(blk_cell BK285.out 0).trans rfl, (blk_cell BK285.out 1).trans rfl, (blk_cell BK285.out 2).trans rfl, (blk_cell BK285.out 3).trans rfl, (blk_cell BK285.out 4).trans rfl, (blk_cell BK285.out 5).trans rfl, (blk_cell BK285.out 6).trans rfl⟩ (fun hHeld => ?_)
                  clear hK K
                  refine norm_ (a' := ?_) ?_ ?_
                  rotate_left
                  · show Act.put _ (some 10) _ = _
                    simp only [Act.put, List.setIfInBounds_toArray, List.set_cons_zero, List.set_cons_succ, i64_w, i32_w]
                    rfl
                  exact norm_ (by simp only [putAll, Act.put, List.setIfInBounds_toArray, List.set_cons_zero, List.set_cons_succ]) (hCont (gb287) _ ⟨hHeld, (by (with_reducible repeat (first | refine blk_drewN ?_ _ | refine blk_drew ?_ | refine blk_alloc ?_ _)); exact BK282.out), (by (with_reducible repeat (first | refine blk_drewN ?_ _ | refine blk_drew ?_ | refine blk_alloc ?_ _)); exact BK283.out), (by (with_reducible repeat (first | refine blk_drewN ?_ _ | refine blk_drew ?_ | refine blk_alloc ?_ _)); exact BK285.out), (by (with_reducible repeat (first | refine blk_drewN ?_ _ | refine blk_drew ?_ | refine blk_alloc ?_ _)); exact BK287.out), GW287.out, GE287.out, NB282_287.out, NB287_282.out, NB283_287.out, NB287_283.out, NB285_287.out, NB287_285.out, (by repeat (first | (with_reducible first | exact HB.out | apply below_alloc | apply pw_below_drewN | apply below_drew1 | refine below_set ?_ GE282.out | refine below_set ?_ GE283.out | refine below_set ?_ GE285.out | refine below_set ?_ GE287.out) | exact HB.out))⟩)
                · skip
                  refine box_step ?hg (N := 10) ?hd (cs := #[.int .i64 0, .int .i64 0, .int .i64 0, .int .i64 0]) (t := 36) ?hr ?_; (case hd => rfl); (case hg => rfl); (case hr => first | (go_simp; done) | (go_simp; rfl))
                  intro gb287 hg w87 hbox hb
                  have n0_ := Aside0.mk (blk_below (g := gb282) (o := .cells #[.int .i64 0, .int .i64 0, .int .i64 0, .int .i64 0] 36 (0, 0)) (by (with_reducible repeat (first | refine blk_drewN ?_ _ | refine blk_drew ?_ | refine blk_alloc ?_ _)); exact BK282.out) hb)
                  have n1_ := Aside0.mk (blk_below (g := gb283) (o := .cells #[.int .i64 x284000_1, .int .i64 x284001_1, .int .i64 x284002_1, .int .i64 x284003_1] 36 (0, 0)) (by (with_reducible repeat (first | refine blk_drewN ?_ _ | refine blk_drew ?_ | refine blk_alloc ?_ _)); exact BK283.out) hb)
                  have n2_ := Aside0.mk (blk_below (g := gb285) (o := .cells #[.int .i64 ((rd_T59 l1 x16_1).f0.f0), .int .i64 ((rd_T59 l1 x16_1).f0.f1), .int .i64 ((rd_T59 l1 x16_1).f0.f2), .int .i64 ((rd_T59 l1 x16_1).f0.f3), .int .i64 ((rd_T59 l1 x16_1).f1), .int .i64 ((rd_T59 l1 x16_1).f2), .bool ((rd_T59 l1 x16_1).f3)] 59 (0, 0)) (by (with_reducible repeat (first | refine blk_drewN ?_ _ | refine blk_drew ?_ | refine blk_alloc ?_ _)); exact BK285.out) hb)
                  have n3_ := Aside0.mk (below_step (by repeat (first | (with_reducible first | exact HB.out | apply below_alloc | apply pw_below_drewN | apply below_drew1 | refine below_set ?_ GE282.out | refine below_set ?_ GE283.out | refine below_set ?_ GE285.out) | exact HB.out)) hb)
                  have n4_ := Aside0.mk (hbox)
                  have n5_ := Aside0.mk ((by rw [hg]; exact (below_size (by repeat (first | (with_reducible first | exact HB.out | apply below_alloc | apply pw_below_drewN | apply below_drew1 | refine below_set ?_ GE282.out | refine below_set ?_ GE283.out | refine below_set ?_ GE285.out) | exact HB.out))) : w.heap.size ≤ gb287))
                  have n6_ := Aside0.mk ((by rw [hg]; exact (below_size (by repeat (first | (with_reducible first | exact HB.out | apply below_alloc | apply pw_below_drewN | apply below_drew1 | refine below_set ?_ GE282.out | refine below_set ?_ GE283.out | refine below_set ?_ GE285.out) | exact HB.out))) : w.heap.size ≤ gb287))
                  have n7_ := Aside0.mk ((by rw [hg]; exact Nat.ne_of_lt (blk_lt (g := gb282) (o := .cells #[.int .i64 0, .int .i64 0, .int .i64 0, .int .i64 0] 36 (0, 0)) (by (with_reducible repeat (first | refine blk_drewN ?_ _ | refine blk_drew ?_ | refine blk_alloc ?_ _)); exact BK282.out)) : gb282 ≠ gb287))
                  have n8_ := Aside0.mk ((by rw [hg]; exact Nat.ne_of_gt (blk_lt (g := gb282) (o := .cells #[.int .i64 0, .int .i64 0, .int .i64 0, .int .i64 0] 36 (0, 0)) (by (with_reducible repeat (first | refine blk_drewN ?_ _ | refine blk_drew ?_ | refine blk_alloc ?_ _)); exact BK282.out)) : gb287 ≠ gb282))
                  have n9_ := Aside0.mk ((by rw [hg]; exact Nat.ne_of_lt (blk_lt (g := gb283) (o := .cells #[.int .i64 x284000_1, .int .i64 x284001_1, .int .i64 x284002_1, .int .i64 x284003_1] 36 (0, 0)) (by (with_reducible repeat (first | refine blk_drewN ?_ _ | refine blk_drew ?_ | refine blk_alloc ?_ _)); exact BK283.out)) : gb283 ≠ gb287))
                  have n10_ := Aside0.mk ((by rw [hg]; exact Nat.ne_of_gt (blk_lt (g := gb283) (o := .cells #[.int .i64 x284000_1, .int .i64 x284001_1, .int .i64 x284002_1, .int .i64 x284003_1] 36 (0, 0)) (by (with_reducible repeat (first | refine blk_drewN ?_ _ | refine blk_drew ?_ | refine blk_alloc ?_ _)); exact BK283.out)) : gb287 ≠ gb283))
                  have n11_ := Aside0.mk ((by rw [hg]; exact Nat.ne_of_lt (blk_lt (g := gb285) (o := .cells #[.int .i64 ((rd_T59 l1 x16_1).f0.f0), .int .i64 ((rd_T59 l1 x16_1).f0.f1), .int .i64 ((rd_T59 l1 x16_1).f0.f2), .int .i64 ((rd_T59 l1 x16_1).f0.f3), .int .i64 ((rd_T59 l1 x16_1).f1), .int .i64 ((rd_T59 l1 x16_1).f2), .bool ((rd_T59 l1 x16_1).f3)] 59 (0, 0)) (by (with_reducible repeat (first | refine blk_drewN ?_ _ | refine blk_drew ?_ | refine blk_alloc ?_ _)); exact BK285.out)) : gb285 ≠ gb287))
                  have n12_ := Aside0.mk ((by rw [hg]; exact Nat.ne_of_gt (blk_lt (g := gb285) (o := .cells #[.int .i64 ((rd_T59 l1 x16_1).f0.f0), .int .i64 ((rd_T59 l1 x16_1).f0.f1), .int .i64 ((rd_T59 l1 x16_1).f0.f2), .int .i64 ((rd_T59 l1 x16_1).f0.f3), .int .i64 ((rd_T59 l1 x16_1).f1), .int .i64 ((rd_T59 l1 x16_1).f2), .bool ((rd_T59 l1 x16_1).f3)] 59 (0, 0)) (by (with_reducible repeat (first | refine blk_drewN ?_ _ | refine blk_drew ?_ | refine blk_alloc ?_ _)); exact BK285.out)) : gb287 ≠ gb285))
                  clear BK282
                  clear BK283
                  clear BK285
                  clear HB
                  have BK282 := n0_
                  have BK283 := n1_
                  have BK285 := n2_
                  have HB := n3_
                  have BK287 := n4_
                  have GW287 := n5_
                  have GE287 := n6_
                  have NB282_287 := n7_
                  have NB287_282 := n8_
                  have NB283_287 := n9_
                  have NB287_283 := n10_
                  have NB285_287 := n11_
                  have NB287_285 := n12_
                  clear n0_ n1_ n2_ n3_ n4_ n5_ n6_ n7_ n8_ n9_ n10_ n11_ n12_
                  clear hb hbox hg
                  refine hK.out _ _ ⟨(blk_cell BK285.out 0).trans rfl, (blk_cell BK285.out 1).trans rfl, (blk_cell BK285.out 2).trans rfl, (blk_cell BK285.out 3).trans rfl, (blk_cell BK285.out 4).trans rfl, (blk_cell BK285.out 5).trans rfl, (blk_cell BK285.out 6).trans rfl⟩ (fun hHeld => ?_)
                  clear hK K
                  refine norm_ (a' := ?_) ?_ ?_
                  rotate_left
                  · show Act.put _ (some 10) _ = _
                    simp only [Act.put, List.setIfInBounds_toArray, List.set_cons_zero, List.set_cons_succ, i64_w, i32_w]
                    rfl
                  refine one_ (i := 8) (N := some 29) #[true, true, true, true, true, true, true, true, true, true, true, true, true, true, true, false, true, false] rfl rfl (one_of HT_.out (by kernel_rfl)) (by decide) (fun K hK => ?_)
                  refine goes_ Tryd.func63 (by kernel_rfl) rfl #[.int .i64 ((rd_T59 l1 x16_1).f0.f1), .int .i64 ((rd_T59 l1 x16_1).f2)] (by rfl) rfl rfl (by (try simp only [List.map_toArray, List.map_cons, List.map_nil]); first | done | rfl | (simp only [List.length_drop, List.length_take]; rfl)) ?_
                  with_reducible refine (kissgateref10_Sum.calls ((rd_T59 l1 x16_1).f0.f1) ((rd_T59 l1 x16_1).f2) t286 _ A10.out).mono ?_
                  rintro e w88 ⟨rfl, hb⟩
                  refine ⟨_, rfl, ?_⟩
                  have n0_ := Aside0.mk (blk_below (g := gb282) (o := .cells #[.int .i64 0, .int .i64 0, .int .i64 0, .int .i64 0] 36 (0, 0)) (by (with_reducible repeat (first | refine blk_drewN ?_ _ | refine blk_drew ?_ | refine blk_alloc ?_ _)); exact BK282.out) hb)
                  have n1_ := Aside0.mk (blk_below (g := gb283) (o := .cells #[.int .i64 x284000_1, .int .i64 x284001_1, .int .i64 x284002_1, .int .i64 x284003_1] 36 (0, 0)) (by (with_reducible repeat (first | refine blk_drewN ?_ _ | refine blk_drew ?_ | refine blk_alloc ?_ _)); exact BK283.out) hb)
                  have n2_ := Aside0.mk (blk_below (g := gb285) (o := .cells #[.int .i64 ((rd_T59 l1 x16_1).f0.f0), .int .i64 ((rd_T59 l1 x16_1).f0.f1), .int .i64 ((rd_T59 l1 x16_1).f0.f2), .int .i64 ((rd_T59 l1 x16_1).f0.f3), .int .i64 ((rd_T59 l1 x16_1).f1), .int .i64 ((rd_T59 l1 x16_1).f2), .bool ((rd_T59 l1 x16_1).f3)] 59 (0, 0)) (by (with_reducible repeat (first | refine blk_drewN ?_ _ | refine blk_drew ?_ | refine blk_alloc ?_ _)); exact BK285.out) hb)
                  have n3_ := Aside0.mk (blk_below (g := gb287) (o := .cells #[.int .i64 0, .int .i64 0, .int .i64 0, .int .i64 0] 36 (0, 0)) (by (with_reducible repeat (first | refine blk_drewN ?_ _ | refine blk_drew ?_ | refine blk_alloc ?_ _)); exact BK287.out) hb)
                  have n4_ := Aside0.mk (below_step (by repeat (first | (with_reducible first | exact HB.out | apply below_alloc | apply pw_below_drewN | apply below_drew1 | refine below_set ?_ GE282.out | refine below_set ?_ GE283.out | refine below_set ?_ GE285.out | refine below_set ?_ GE287.out) | exact HB.out)) hb)
                  clear BK282
                  clear BK283
                  clear BK285
                  clear BK287
                  clear HB
                  have BK282 := n0_
                  have BK283 := n1_
                  have BK285 := n2_
                  have BK287 := n3_
                  have HB := n4_
                  clear n0_ n1_ n2_ n3_ n4_
                  (try clear hb)
                  (try clear hb2)
                  (try clear hk)
                  (try clear hi)
                  refine hK.out _ _ ⟨(blk_cell BK285.out 0).trans rfl, (blk_cell BK285.out 1).trans rfl, (blk_cell BK285.out 2).trans rfl, (blk_cell BK285.out 3).trans rfl, (blk_cell BK285.out 4).trans rfl, (blk_cell BK285.out 5).trans rfl, (blk_cell BK285.out 6).trans rfl⟩ (fun hHeld => ?_)
                  clear hK K
                  refine norm_ (a' := ?_) ?_ ?_
                  rotate_left
                  · show Act.put _ (some 29) _ = _
                    simp only [Act.put, List.setIfInBounds_toArray, List.set_cons_zero, List.set_cons_succ, i64_w, i32_w]
                    rfl
                  refine pure_ (i := 15) (N := some 36) (v := ?_) (a' := ?_) #[true, true, true, true, true, true, true, true, true, true, true, true, true, true, true, true, true, false] rfl rfl (any_of HT_.out (by kernel_rfl)) (fun _ _ _ h => h) (Or.inl ⟨by rfl, ?_⟩) ?_ ?_
                  rotate_left
                  · intro w'
                    go_simp
                    with_reducible rfl
                  rotate_left
                  · simp only [Act.put, List.setIfInBounds_toArray, List.set_cons_zero, List.set_cons_succ, i64_w, i32_w]
                    rfl
                  exact norm_ (by simp only [putAll, Act.put, List.setIfInBounds_toArray, List.set_cons_zero, List.set_cons_succ]) (hCont (gb287) _ ⟨hHeld, (by (with_reducible repeat (first | refine blk_drewN ?_ _ | refine blk_drew ?_ | refine blk_alloc ?_ _)); exact BK282.out), (by (with_reducible repeat (first | refine blk_drewN ?_ _ | refine blk_drew ?_ | refine blk_alloc ?_ _)); exact BK283.out), (by (with_reducible repeat (first | refine blk_drewN ?_ _ | refine blk_drew ?_ | refine blk_alloc ?_ _)); exact BK285.out), (by (with_reducible repeat (first | refine blk_drewN ?_ _ | refine blk_drew ?_ | refine blk_alloc ?_ _)); exact BK287.out), GW287.out, GE287.out, NB282_287.out, NB287_282.out, NB283_287.out, NB287_283.out, NB285_287.out, NB287_285.out, (by repeat (first | (with_reducible first | exact HB.out | apply below_alloc | apply pw_below_drewN | apply below_drew1 | refine below_set ?_ GE282.out | refine below_set ?_ GE283.out | refine below_set ?_ GE285.out | refine below_set ?_ GE287.out) | exact HB.out))⟩)
              rintro gb287 w89 ⟨hS_, h0_, h1_, h2_, h3_, h4_, h5_, h6_, h7_, h8_, h9_, h10_, h11_, h12_⟩
              have n0_ : Aside0 (w89.heap[gb282]? = some (.cells #[.int .i64 0, .int .i64 0, .int .i64 0, .int .i64 0] 36 (0, 0))) := ⟨h0_⟩
              have n1_ : Aside0 (w89.heap[gb283]? = some (.cells #[.int .i64 x284000_1, .int .i64 x284001_1, .int .i64 x284002_1, .int .i64 x284003_1] 36 (0, 0))) := ⟨h1_⟩
              have n2_ : Aside0 (w89.heap[gb285]? = some (.cells #[.int .i64 ((rd_T59 l1 x16_1).f0.f0), .int .i64 ((rd_T59 l1 x16_1).f0.f1), .int .i64 ((rd_T59 l1 x16_1).f0.f2), .int .i64 ((rd_T59 l1 x16_1).f0.f3), .int .i64 ((rd_T59 l1 x16_1).f1), .int .i64 ((rd_T59 l1 x16_1).f2), .bool ((rd_T59 l1 x16_1).f3)] 59 (0, 0))) := ⟨h2_⟩
              have n3_ : Aside0 (w89.heap[gb287]? = some (.cells #[.int .i64 0, .int .i64 0, .int .i64 0, .int .i64 0] 36 (0, 0))) := ⟨h3_⟩
              have n4_ : Aside0 (w.heap.size ≤ gb287) := ⟨h4_⟩
              have n5_ : Aside0 (w.heap.size ≤ gb287) := ⟨h5_⟩
              have n6_ : Aside0 (gb282 ≠ gb287) := ⟨h6_⟩
              have n7_ : Aside0 (gb287 ≠ gb282) := ⟨h7_⟩
              have n8_ : Aside0 (gb283 ≠ gb287) := ⟨h8_⟩
              have n9_ : Aside0 (gb287 ≠ gb283) := ⟨h9_⟩
              have n10_ : Aside0 (gb285 ≠ gb287) := ⟨h10_⟩
              have n11_ : Aside0 (gb287 ≠ gb285) := ⟨h11_⟩
              have n12_ : Aside0 (Below w.heap.size w w89) := ⟨h12_⟩
              clear BK282
              clear BK283
              clear BK285
              clear HB
              clear h0_ h1_ h2_ h3_ h4_ h5_ h6_ h7_ h8_ h9_ h10_ h11_ h12_
              have BK282 := n0_
              have BK283 := n1_
              have BK285 := n2_
              have BK287 := n3_
              have GW287 := n4_
              have GE287 := n5_
              have NB282_287 := n6_
              have NB287_282 := n7_
              have NB283_287 := n8_
              have NB287_283 := n9_
              have NB285_287 := n10_
              have NB287_285 := n11_
              have HB := n12_
              clear n0_ n1_ n2_ n3_ n4_ n5_ n6_ n7_ n8_ n9_ n10_ n11_ n12_
              have hHeld : w89.cell? ⟨gb285, 0, none⟩ = some (.int .i64 ((rd_T59 l1 x16_1).f0.f0)) ∧ w89.cell? ⟨gb285, 1, none⟩ = some (.int .i64 ((rd_T59 l1 x16_1).f0.f1)) ∧ w89.cell? ⟨gb285, 2, none⟩ = some (.int .i64 ((rd_T59 l1 x16_1).f0.f2)) ∧ w89.cell? ⟨gb285, 3, none⟩ = some (.int .i64 ((rd_T59 l1 x16_1).f0.f3)) ∧ w89.cell? ⟨gb285, 4, none⟩ = some (.int .i64 ((rd_T59 l1 x16_1).f1)) ∧ w89.cell? ⟨gb285, 5, none⟩ = some (.int .i64 ((rd_T59 l1 x16_1).f2)) ∧ w89.cell? ⟨gb285, 6, none⟩ = some (.bool ((rd_T59 l1 x16_1).f3)) := hS_
              refine norm_ (a' := ?_) ?_ ?_
              rotate_left
              · simp only [putAll, Act.put, List.setIfInBounds_toArray, List.set_cons_zero, List.set_cons_succ]
                rfl
              refine one_ (i := 17) (N := none) #[true, true, true, true, true, true, true, true, true, true, true, true, true, true, true, true, true, true] rfl rfl (one_of HT_.out (by kernel_rfl)) (by decide) (fun K hK => ?_)
              have hs90 : w89.cell? ⟨gb287, 0, none⟩ = some (.int .i64 0) := (blk_cell BK287.out 0).trans rfl
              have hfs90 := blk_frozen BK287.out 0
              have hns90_0 := NB282_287.out
              have hns90_1 := NB283_287.out
              have hns90_2 := NB285_287.out
              have hms90_0 := NB287_282.out
              have hms90_1 := NB287_283.out
              have hms90_2 := NB287_285.out
              have hs91 : w89.cell? ⟨gb287, 1, none⟩ = some (.int .i64 0) := (blk_cell BK287.out 1).trans rfl
              have hfs91 := blk_frozen BK287.out 1
              have hns91_0 := NB282_287.out
              have hns91_1 := NB283_287.out
              have hns91_2 := NB285_287.out
              have hms91_0 := NB287_282.out
              have hms91_1 := NB287_283.out
              have hms91_2 := NB287_285.out
              have hs92 : w89.cell? ⟨gb287, 2, none⟩ = some (.int .i64 0) := (blk_cell BK287.out 2).trans rfl
              have hfs92 := blk_frozen BK287.out 2
              have hns92_0 := NB282_287.out
              have hns92_1 := NB283_287.out
              have hns92_2 := NB285_287.out
              have hms92_0 := NB287_282.out
              have hms92_1 := NB287_283.out
              have hms92_2 := NB287_285.out
              have hs93 : w89.cell? ⟨gb287, 3, none⟩ = some (.int .i64 0) := (blk_cell BK287.out 3).trans rfl
              have hfs93 := blk_frozen BK287.out 3
              have hns93_0 := NB282_287.out
              have hns93_1 := NB283_287.out
              have hns93_2 := NB285_287.out
              have hms93_0 := NB287_282.out
              have hms93_1 := NB287_283.out
              have hms93_2 := NB287_285.out
              refine skip_ (w1 := ?_) (by rfl) rfl ?_ ?_
              rotate_left
              · go_simp
                rfl
              refine hK.out _ _ ⟨((cell_far (p := ⟨gb287, _, none⟩) NB285_287.out _).trans (((cell_far (p := ⟨gb287, _, none⟩) NB285_287.out _).trans (((cell_far (p := ⟨gb287, _, none⟩) NB285_287.out _).trans (((cell_far (p := ⟨gb287, _, none⟩) NB285_287.out _).trans (hHeld.1)))))))), ((cell_far (p := ⟨gb287, _, none⟩) NB285_287.out _).trans (((cell_far (p := ⟨gb287, _, none⟩) NB285_287.out _).trans (((cell_far (p := ⟨gb287, _, none⟩) NB285_287.out _).trans (((cell_far (p := ⟨gb287, _, none⟩) NB285_287.out _).trans (hHeld.2.1)))))))), ((cell_far (p := ⟨gb287, _, none⟩) NB285_287.out _).trans (((cell_far (p := ⟨gb287, _, none⟩) NB285_287.out _).trans (((cell_far (p := ⟨gb287, _, none⟩) NB285_287.out _).trans (((cell_far (p := ⟨gb287, _, none⟩) NB285_287.out _).trans (hHeld.2.2.1)))))))), ((cell_far (p := ⟨gb287, _, none⟩) NB285_287.out _).trans (((cell_far (p := ⟨gb287, _, none⟩) NB285_287.out _).trans (((cell_far (p := ⟨gb287, _, none⟩) NB285_287.out _).trans (((cell_far (p := ⟨gb287, _, none⟩) NB285_287.out _).trans (hHeld.2.2.2.1)))))))), ((cell_far (p := ⟨gb287, _, none⟩) NB285_287.out _).trans (((cell_far (p := ⟨gb287, _, none⟩) NB285_287.out _).trans (((cell_far (p := ⟨gb287, _, none⟩) NB285_287.out _).trans (((cell_far (p := ⟨gb287, _, none⟩) NB285_287.out _).trans (hHeld.2.2.2.2.1)))))))), ((cell_far (p := ⟨gb287, _, none⟩) NB285_287.out _).trans (((cell_far (p := ⟨gb287, _, none⟩) NB285_287.out _).trans (((cell_far (p := ⟨gb287, _, none⟩) NB285_287.out _).trans (((cell_far (p := ⟨gb287, _, none⟩) NB285_287.out _).trans (hHeld.2.2.2.2.2.1)))))))), ((cell_far (p := ⟨gb287, _, none⟩) NB285_287.out _).trans (((cell_far (p := ⟨gb287, _, none⟩) NB285_287.out _).trans (((cell_far (p := ⟨gb287, _, none⟩) NB285_287.out _).trans (((cell_far (p := ⟨gb287, _, none⟩) NB285_287.out _).trans (hHeld.2.2.2.2.2.2))))))))⟩ (fun hHeld => ?_)
              clear hK K
              refine done_ (done_of HT_.out (by kernel_rfl)) ?_
              have hnb94 := NB285_287.out
              have hnc94 := NB287_285.out
              have hcz95_0 : w89.cell? ⟨gb285, 0, none⟩ = some (.int .i64 ((rd_T59 l1 x16_1).f0.f0)) := (blk_cell BK285.out 0).trans rfl
              have hcz95_1 : w89.cell? ⟨gb285, 1, none⟩ = some (.int .i64 ((rd_T59 l1 x16_1).f0.f1)) := (blk_cell BK285.out 1).trans rfl
              have hcz95_2 : w89.cell? ⟨gb285, 2, none⟩ = some (.int .i64 ((rd_T59 l1 x16_1).f0.f2)) := (blk_cell BK285.out 2).trans rfl
              have hcz95_3 : w89.cell? ⟨gb285, 3, none⟩ = some (.int .i64 ((rd_T59 l1 x16_1).f0.f3)) := (blk_cell BK285.out 3).trans rfl
              have hcz95_4 : w89.cell? ⟨gb285, 4, none⟩ = some (.int .i64 ((rd_T59 l1 x16_1).f1)) := (blk_cell BK285.out 4).trans rfl
              have hcz95_5 : w89.cell? ⟨gb285, 5, none⟩ = some (.int .i64 ((rd_T59 l1 x16_1).f2)) := (blk_cell BK285.out 5).trans rfl
              have hcz95_6 : w89.cell? ⟨gb285, 6, none⟩ = some (.bool ((rd_T59 l1 x16_1).f3)) := (blk_cell BK285.out 6).trans rfl
              have hfz95_0 := blk_frozen BK285.out 0
              have hfz95_1 := blk_frozen BK285.out 1
              have hfz95_2 := blk_frozen BK285.out 2
              have hfz95_3 := blk_frozen BK285.out 3
              have hfz95_4 := blk_frozen BK285.out 4
              have hfz95_5 := blk_frozen BK285.out 5
              have hfz95_6 := blk_frozen BK285.out 6
              try go_wp2_with (first | ((with_reducible refine gate_callee (f := 62) rfl ?_); refine goesL_ (some 39) rfl rfl Tryd.func62 (by kernel_rfl) rfl #[.agg #[.int .i64 ((rd_T59 l1 x16_1).f0.f0), .int .i64 ((rd_T59 l1 x16_1).f0.f1), .int .i64 ((rd_T59 l1 x16_1).f0.f2), .int .i64 ((rd_T59 l1 x16_1).f0.f3), .int .i64 ((rd_T59 l1 x16_1).f1), .int .i64 ((rd_T59 l1 x16_1).f2), .bool ((rd_T59 l1 x16_1).f3)], .int .i64 a0] rfl (by (try simp only [List.map_toArray, List.map_cons, List.map_nil]); first | done | rfl | (simp only [List.length_drop, List.length_take]; rfl)) ?_; (with_reducible refine (kissgateref10_Use.calls ((rd_T59 l1 x16_1).f0.f0) ((rd_T59 l1 x16_1).f0.f1) ((rd_T59 l1 x16_1).f0.f2) ((rd_T59 l1 x16_1).f0.f3) ((rd_T59 l1 x16_1).f1) ((rd_T59 l1 x16_1).f2) ((rd_T59 l1 x16_1).f3) a0 false _ A11.out).mono ?_); rintro e w96 ⟨rfl, hb⟩; refine ⟨_, rfl, ?_⟩; have n0_ := Aside0.mk (blk_below (g := gb282) (o := .cells #[.int .i64 0, .int .i64 0, .int .i64 0, .int .i64 0] 36 (0, 0)) (by (with_reducible repeat (first | refine blk_drewN ?_ _ | refine blk_drew ?_ | refine blk_alloc ?_ _)); refine blk_far ?_ NB282_287.out _; (with_reducible repeat (first | refine blk_drewN ?_ _ | refine blk_drew ?_ | refine blk_alloc ?_ _)); refine blk_far ?_ NB282_287.out _; (with_reducible repeat (first | refine blk_drewN ?_ _ | refine blk_drew ?_ | refine blk_alloc ?_ _)); refine blk_far ?_ NB282_287.out _; (with_reducible repeat (first | refine blk_drewN ?_ _ | refine blk_drew ?_ | refine blk_alloc ?_ _)); refine blk_far ?_ NB282_287.out _; (with_reducible repeat (first | refine blk_drewN ?_ _ | refine blk_drew ?_ | refine blk_alloc ?_ _)); exact BK282.out) hb); have n1_ := Aside0.mk (blk_below (g := gb283) (o := .cells #[.int .i64 x284000_1, .int .i64 x284001_1, .int .i64 x284002_1, .int .i64 x284003_1] 36 (0, 0)) (by (with_reducible repeat (first | refine blk_drewN ?_ _ | refine blk_drew ?_ | refine blk_alloc ?_ _)); refine blk_far ?_ NB283_287.out _; (with_reducible repeat (first | refine blk_drewN ?_ _ | refine blk_drew ?_ | refine blk_alloc ?_ _)); refine blk_far ?_ NB283_287.out _; (with_reducible repeat (first | refine blk_drewN ?_ _ | refine blk_drew ?_ | refine blk_alloc ?_ _)); refine blk_far ?_ NB283_287.out _; (with_reducible repeat (first | refine blk_drewN ?_ _ | refine blk_drew ?_ | refine blk_alloc ?_ _)); refine blk_far ?_ NB283_287.out _; (with_reducible repeat (first | refine blk_drewN ?_ _ | refine blk_drew ?_ | refine blk_alloc ?_ _)); exact BK283.out) hb); have n2_ := Aside0.mk (blk_below (g := gb285) (o := .cells #[.int .i64 ((rd_T59 l1 x16_1).f0.f0), .int .i64 ((rd_T59 l1 x16_1).f0.f1), .int .i64 ((rd_T59 l1 x16_1).f0.f2), .int .i64 ((rd_T59 l1 x16_1).f0.f3), .int .i64 ((rd_T59 l1 x16_1).f1), .int .i64 ((rd_T59 l1 x16_1).f2), .bool ((rd_T59 l1 x16_1).f3)] 59 (0, 0)) (by (with_reducible repeat (first | refine blk_drewN ?_ _ | refine blk_drew ?_ | refine blk_alloc ?_ _)); refine blk_far ?_ NB285_287.out _; (with_reducible repeat (first | refine blk_drewN ?_ _ | refine blk_drew ?_ | refine blk_alloc ?_ _)); refine blk_far ?_ NB285_287.out _; (with_reducible repeat (first | refine blk_drewN ?_ _ | refine blk_drew ?_ | refine blk_alloc ?_ _)); refine blk_far ?_ NB285_287.out _; (with_reducible repeat (first | refine blk_drewN ?_ _ | refine blk_drew ?_ | refine blk_alloc ?_ _)); refine blk_far ?_ NB285_287.out _; (with_reducible repeat (first | refine blk_drewN ?_ _ | refine blk_drew ?_ | refine blk_alloc ?_ _)); exact BK285.out) hb); have n3_ := Aside0.mk (blk_below (g := gb287) (o := .cells #[.int .i64 ((rd_T59 l1 x16_1).f0.f0), .int .i64 t286, .int .i64 ((rd_T59 l1 x16_1).f0.f2), .int .i64 ((rd_T59 l1 x16_1).f0.f3)] 36 (0, 0)) (by (with_reducible repeat (first | refine blk_drewN ?_ _ | refine blk_drew ?_ | refine blk_alloc ?_ _)); refine blk_put (cs := #[.int .i64 ((rd_T59 l1 x16_1).f0.f0), .int .i64 t286, .int .i64 ((rd_T59 l1 x16_1).f0.f2), .int .i64 0]) ?_ 3 _ rfl; (with_reducible repeat (first | refine blk_drewN ?_ _ | refine blk_drew ?_ | refine blk_alloc ?_ _)); refine blk_put (cs := #[.int .i64 ((rd_T59 l1 x16_1).f0.f0), .int .i64 t286, .int .i64 0, .int .i64 0]) ?_ 2 _ rfl; (with_reducible repeat (first | refine blk_drewN ?_ _ | refine blk_drew ?_ | refine blk_alloc ?_ _)); refine blk_put (cs := #[.int .i64 ((rd_T59 l1 x16_1).f0.f0), .int .i64 0, .int .i64 0, .int .i64 0]) ?_ 1 _ rfl; (with_reducible repeat (first | refine blk_drewN ?_ _ | refine blk_drew ?_ | refine blk_alloc ?_ _)); refine blk_put (cs := #[.int .i64 0, .int .i64 0, .int .i64 0, .int .i64 0]) ?_ 0 _ rfl; (with_reducible repeat (first | refine blk_drewN ?_ _ | refine blk_drew ?_ | refine blk_alloc ?_ _)); exact BK287.out) hb); have n4_ := Aside0.mk (below_step (by repeat (first | (with_reducible first | exact HB.out | apply below_alloc | apply pw_below_drewN | apply below_drew1 | refine below_set ?_ GE282.out | refine below_set ?_ GE283.out | refine below_set ?_ GE285.out | refine below_set ?_ GE287.out) | exact HB.out)) hb); clear BK282; clear BK283; clear BK285; clear BK287; clear HB; have BK282 := n0_; have BK283 := n1_; have BK285 := n2_; have BK287 := n3_; have HB := n4_; clear n0_ n1_ n2_ n3_ n4_; (try clear hb); (try clear hb2); (try clear hk); (try clear hi)))
              go_roundg k1
              case measure => have := HK1.out; omega
              case rel => exact ⟨(x7_1), (wrap64 (x16_1 + 1)), (x284000_1), (x284001_1), (x284002_1), (x284003_1), (by first | rfl | (simp; done) | (simp [*]; done)), (by first | rfl | (simp; done) | (simp [*]; done)), H', ⟨by have := HK1.out; omega⟩, ⟨by (with_reducible repeat (first | refine blk_drewN ?_ _ | refine blk_drew ?_ | refine blk_alloc ?_ _)); exact BK282.out⟩, ⟨by (with_reducible repeat (first | refine blk_drewN ?_ _ | refine blk_drew ?_ | refine blk_alloc ?_ _)); exact BK283.out⟩, ⟨by repeat (first | (with_reducible first | exact HB.out | apply below_alloc | apply pw_below_drewN | apply below_drew1 | refine below_set ?_ GE282.out | refine below_set ?_ GE283.out | refine below_set ?_ GE285.out | refine below_set ?_ GE287.out) | exact HB.out)⟩⟩
          · rw [if_neg c9] at H
            exact absurd H (by simp)
        · rw [if_neg c8] at H
          exact absurd H (by simp)
      · rw [if_neg c7] at H
        have c7b0 : decide (x16_1 < (l1.length : Int)) = false := decide_eq_false c7
        clear c7
        simp only [Option.some.injEq, Prod.mk.injEq] at H
        obtain ⟨rfl, rfl, rfl, rfl, rfl⟩ := H
        have hnb97 := NB283_282.out
        have hnc97 := NB282_283.out
        have hcz98_0 : wr.cell? ⟨gb283, 0, none⟩ = some (.int .i64 x284000_1) := (blk_cell BK283.out 0).trans rfl
        have hcz98_1 : wr.cell? ⟨gb283, 1, none⟩ = some (.int .i64 x284001_1) := (blk_cell BK283.out 1).trans rfl
        have hcz98_2 : wr.cell? ⟨gb283, 2, none⟩ = some (.int .i64 x284002_1) := (blk_cell BK283.out 2).trans rfl
        have hcz98_3 : wr.cell? ⟨gb283, 3, none⟩ = some (.int .i64 x284003_1) := (blk_cell BK283.out 3).trans rfl
        have hfz98_0 := blk_frozen BK283.out 0
        have hfz98_1 := blk_frozen BK283.out 1
        have hfz98_2 := blk_frozen BK283.out 2
        have hfz98_3 := blk_frozen BK283.out 3
        have hcz99_0 : wr.cell? ⟨gb282, 0, none⟩ = some (.int .i64 0) := (blk_cell BK282.out 0).trans rfl
        have hcz99_1 : wr.cell? ⟨gb282, 1, none⟩ = some (.int .i64 0) := (blk_cell BK282.out 1).trans rfl
        have hcz99_2 : wr.cell? ⟨gb282, 2, none⟩ = some (.int .i64 0) := (blk_cell BK282.out 2).trans rfl
        have hcz99_3 : wr.cell? ⟨gb282, 3, none⟩ = some (.int .i64 0) := (blk_cell BK282.out 3).trans rfl
        have hfz99_0 := blk_frozen BK282.out 0
        have hfz99_1 := blk_frozen BK282.out 1
        have hfz99_2 := blk_frozen BK282.out 2
        have hfz99_3 := blk_frozen BK282.out 3
        go_wp2
        refine bodyPost_ret (results_ct rfl _ _ gb282 36 #[.int .i64 x284000_1, .int .i64 x284001_1, .int .i64 x284002_1, .int .i64 x284003_1] (0, 0) _ rfl (by (with_reducible repeat (first | refine blk_drewN ?_ _ | refine blk_drew ?_ | refine blk_alloc ?_ _)); refine blk_put (cs := #[.int .i64 x284000_1, .int .i64 x284001_1, .int .i64 x284002_1, .int .i64 0]) ?_ 3 _ rfl; (with_reducible repeat (first | refine blk_drewN ?_ _ | refine blk_drew ?_ | refine blk_alloc ?_ _)); refine blk_put (cs := #[.int .i64 x284000_1, .int .i64 x284001_1, .int .i64 0, .int .i64 0]) ?_ 2 _ rfl; (with_reducible repeat (first | refine blk_drewN ?_ _ | refine blk_drew ?_ | refine blk_alloc ?_ _)); refine blk_put (cs := #[.int .i64 x284000_1, .int .i64 0, .int .i64 0, .int .i64 0]) ?_ 1 _ rfl; (with_reducible repeat (first | refine blk_drewN ?_ _ | refine blk_drew ?_ | refine blk_alloc ?_ _)); refine blk_put (cs := #[.int .i64 0, .int .i64 0, .int .i64 0, .int .i64 0]) ?_ 0 _ rfl; (with_reducible repeat (first | refine blk_drewN ?_ _ | refine blk_drew ?_ | refine blk_alloc ?_ _)); exact BK282.out) Tryd.underlying36 rfl (by kernel_rfl)) rfl ?_
        exact ⟨by first | rfl | (simp [errW_none, errW_some] <;> rfl) | (simp [*, errW_none, errW_some] <;> rfl), by repeat (first | (with_reducible first | exact HB.out | apply below_alloc | apply pw_below_drewN | apply below_drew1 | refine below_set ?_ GE282.out | refine below_set ?_ GE283.out) | exact HB.out)⟩
end Go.Proofs.YtfimhaodgekkgaaDoor.QTre
