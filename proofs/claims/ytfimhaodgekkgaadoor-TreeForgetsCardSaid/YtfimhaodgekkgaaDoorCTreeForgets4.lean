/- Functions of the program as plain Lean functions, what their calls do, and what follows of it. Conditions: each theorem's own. -/
import Derived.Test.YtfimhaodgekkgaaDoorCTreeForgets3
namespace Go.Proofs.YtfimhaodgekkgaaDoor.QTre
open Go.RowKit Go.Proofs.YtfimhaodgekkgaaDoorW.PrintWords Go.Proofs.YtfimhaodgekkgaaDoorW.PrintLast Go.Proofs.YtfimhaodgekkgaaDoorW.PrintMore
attribute [local go_sem] max2_int min2_int max_two min_two max_three min_three max_four min_four
set_option linter.unusedVariables false
set_option linter.unusedSimpArgs false
def kissgateref10_Role.f (k : Nat) (a0 : Int) (l1 : List (S59)) (a2 : Int) : Option (Int) := (kissgateref10_Best.f k a0 l1).bind fun bt290 => (if a2 = bt290.2.2.2.2 then (some 1) else (if 0 ≤ a2 then (if a2 < (l1.length : Int) then ((kissgateref10_Use.f ((rd_T59 l1 a2).f0.f0) ((rd_T59 l1 a2).f0.f1) ((rd_T59 l1 a2).f0.f2) ((rd_T59 l1 a2).f0.f3) ((rd_T59 l1 a2).f1) ((rd_T59 l1 a2).f2) ((rd_T59 l1 a2).f3) a0).bind fun t298 => (if t298 = true then ((kissgateref10_Better.f bt290.1 bt290.2.1 a0 a2 ((rd_T59 l1 a2).f0.f0) ((rd_T59 l1 a2).f0.f1) ((rd_T59 l1 a2).f0.f2) ((rd_T59 l1 a2).f0.f3)).bind fun t300 => (if t300 = true then (some 2) else (some 3))) else (some 2))) else (none)) else (none)))
def kissgateref10_Role.T5 : Bool × List (List Nat × List Nat) := (true, [([], []), ([], []), ([0, 1], [0, 1]), ([2], [2]), ([], []), ([3, 4], [3, 4]), ([5], [5]), ([6, 5], [6]), ([7], [7]), ([7], [7]), ([7], [7]), ([9, 10, 7], [7, 9, 10]), ([11, 7], [7, 11]), ([12, 7], [7, 12]), ([8, 13, 7, 7], [7, 8, 13]), ([7, 14], [7, 14])])
def kissgateref10_Role.B5 : List Nat := [0, 0, 3, 7, 0, 31, 63, 127, 255, 255, 255, 1791, 3839, 7935, 16383, 32767]
theorem kissgateref10_Role.tab5 : rtab .any (opsOf Tryd.f53 5) = kissgateref10_Role.T5 := by kernel_rfl
theorem kissgateref10_Role.bits5 : waitsOk kissgateref10_Role.T5.2 kissgateref10_Role.B5 = true := by kernel_rfl
set_option maxHeartbeats 8000000 in
set_option maxRecDepth 100000 in
theorem kissgateref10_Role.calls (k : Nat) (a0 : Int) (A1 : Option Addr) (c1 : Nat) (l1 : List (S59)) (a2 : Int) (r : Int) (w : World) (hr1 : Kd.C k59 w A1 l1.length l1) (hc1 : l1.length ≤ c1) (h : kissgateref10_Role.f k a0 l1 a2 = some r) :
    Calls Tryd.prog 53 #[.int .i64 a0, .slice A1 l1.length c1, .int .i64 a2] w fun e w' => e = .returned (.int .i64 r) ∧ Below w.heap.size w w' := by
  have hu36 := Tryd.underlying36
  have hu59 := Tryd.underlying59
  have HR1 := Aside0.mk hr1
  have HC1 := Aside0.mk hc1
  clear hr1 hc1
  have HB := Aside0.mk (Below.refl w.heap.size w)
  have H : ((kissgateref10_Best.f k a0 l1).bind fun bt290 => (if a2 = bt290.2.2.2.2 then (some 1) else (if 0 ≤ a2 then (if a2 < (l1.length : Int) then ((kissgateref10_Use.f ((rd_T59 l1 a2).f0.f0) ((rd_T59 l1 a2).f0.f1) ((rd_T59 l1 a2).f0.f2) ((rd_T59 l1 a2).f0.f3) ((rd_T59 l1 a2).f1) ((rd_T59 l1 a2).f2) ((rd_T59 l1 a2).f3) a0).bind fun t298 => (if t298 = true then ((kissgateref10_Better.f bt290.1 bt290.2.1 a0 a2 ((rd_T59 l1 a2).f0.f0) ((rd_T59 l1 a2).f0.f1) ((rd_T59 l1 a2).f0.f2) ((rd_T59 l1 a2).f0.f3)).bind fun t300 => (if t300 = true then (some 2) else (some 3))) else (some 2))) else (none)) else (none)))) = some r := h
  clear h
  replace H := Option.bind_eq_some_iff.mp H
  obtain ⟨⟨t290, t291, t292, t293, t294⟩, A40, H⟩ := H
  replace H : (if a2 = t294 then (some 1) else (if 0 ≤ a2 then (if a2 < (l1.length : Int) then ((kissgateref10_Use.f ((rd_T59 l1 a2).f0.f0) ((rd_T59 l1 a2).f0.f1) ((rd_T59 l1 a2).f0.f2) ((rd_T59 l1 a2).f0.f3) ((rd_T59 l1 a2).f1) ((rd_T59 l1 a2).f2) ((rd_T59 l1 a2).f3) a0).bind fun t298 => (if t298 = true then ((kissgateref10_Better.f t290 t291 a0 a2 ((rd_T59 l1 a2).f0.f0) ((rd_T59 l1 a2).f0.f1) ((rd_T59 l1 a2).f0.f2) ((rd_T59 l1 a2).f0.f3)).bind fun t300 => (if t300 = true then (some 2) else (some 3))) else (some 2))) else (none)) else (none))) = some r := H
  have A4 := Aside0.mk A40
  clear A40
  by_cases c5 : a2 = t294
  · rw [if_pos c5] at H
    have c5b0 : (a2 == t294) = true := beq_iff_eq.mpr c5
    have c5b1 : (a2 != t294) = false := bne_eq_false_iff_eq.mpr c5
    clear c5
    obtain rfl := Option.some.inj H
    go_enter Tryd.func53, Tryd.ntmps53
    go_wp2_with (first | ((with_reducible refine gate_callee (f := 56) rfl ?_); refine goesL_ (some 13) rfl rfl Tryd.func56 (by kernel_rfl) rfl #[.int .i64 a0, .slice A1 l1.length c1] rfl (by (try simp only [List.map_toArray, List.map_cons, List.map_nil]); first | done | rfl | (simp only [List.length_drop, List.length_take]; rfl)) ?_; (with_reducible refine (kissgateref10_Best.calls k a0 _ _ l1 t290 t291 t292 t293 t294 _ ?side1 ?side2 A4.out).mono ?_); (case side1 => repeat (first | exact HR1.out | (with_reducible refine Kd.C_alloc ?_ _) | (with_reducible refine Kd.C_drewN ?_ _) | (with_reducible refine Kd.C_drew ?_))); (case side2 => exact HC1.out); rintro e w6 ⟨rfl, hb⟩; refine ⟨_, rfl, ?_⟩; have n0_ := Aside0.mk (below_step (by repeat (first | (with_reducible first | exact HB.out | apply below_alloc | apply pw_below_drewN | apply below_drew1) | exact HB.out)) hb); clear HB; have HB := n0_; clear n0_; (try clear hb); (try clear hb2); (try clear hk); (try clear hi)) | ((with_reducible refine gate_dst (N := 7) rfl ?_); refine box_event ?hg (N := 7) ?hd (cs := #[.int .i64 0, .int .i64 0, .int .i64 0, .int .i64 0]) (t := 36) ?hr ?_; (case hd => rfl); (case hg => rfl); (case hr => first | (go_simp; done) | (go_simp; rfl)); intro gb295 hg w7 hbox hb; have n0_ := Aside0.mk (below_step (by repeat (first | (with_reducible first | exact HB.out | apply below_alloc | apply pw_below_drewN | apply below_drew1) | exact HB.out)) hb); have n1_ := Aside0.mk (hbox); have n2_ := Aside0.mk ((by rw [hg]; exact (below_size (by repeat (first | (with_reducible first | exact HB.out | apply below_alloc | apply pw_below_drewN | apply below_drew1) | exact HB.out))) : w.heap.size ≤ gb295)); have n3_ := Aside0.mk ((by rw [hg]; exact (below_size (by repeat (first | (with_reducible first | exact HB.out | apply below_alloc | apply pw_below_drewN | apply below_drew1) | exact HB.out))) : w.heap.size ≤ gb295)); clear HB; have HB := n0_; have BK295 := n1_; have GW295 := n2_; have GE295 := n3_; clear n0_ n1_ n2_ n3_; clear hb hbox hg; have hcz8_0 : w7.cell? ⟨gb295, 0, none⟩ = some (.int .i64 0) := (blk_cell BK295.out 0).trans rfl; have hcz8_1 : w7.cell? ⟨gb295, 1, none⟩ = some (.int .i64 0) := (blk_cell BK295.out 1).trans rfl; have hcz8_2 : w7.cell? ⟨gb295, 2, none⟩ = some (.int .i64 0) := (blk_cell BK295.out 2).trans rfl; have hcz8_3 : w7.cell? ⟨gb295, 3, none⟩ = some (.int .i64 0) := (blk_cell BK295.out 3).trans rfl; have hfz8_0 := blk_frozen BK295.out 0; have hfz8_1 := blk_frozen BK295.out 1; have hfz8_2 := blk_frozen BK295.out 2; have hfz8_3 := blk_frozen BK295.out 3))
    go_ret
    exact ⟨by first | rfl | (simp [errW_none, errW_some] <;> rfl) | (simp [*, errW_none, errW_some] <;> rfl), by repeat (first | (with_reducible first | exact HB.out | apply below_alloc | apply pw_below_drewN | apply below_drew1 | refine below_set ?_ GE295.out) | exact HB.out)⟩
  · rw [if_neg c5] at H
    have c5b0 : (a2 == t294) = false := beq_eq_false_iff_ne.mpr c5
    have c5b1 : (a2 != t294) = true := bne_iff_ne.mpr c5
    by_cases c9 : 0 ≤ a2
    · rw [if_pos c9] at H
      have c9b0 : decide (0 ≤ a2) = true := decide_eq_true c9
      clear c9
      by_cases c10 : a2 < (l1.length : Int)
      · rw [if_pos c10] at H
        have c10b0 : decide (a2 < (l1.length : Int)) = true := decide_eq_true c10
        clear c10
        replace H := Option.bind_eq_some_iff.mp H
        obtain ⟨t298, A110, H⟩ := H
        replace H : (if t298 = true then ((kissgateref10_Better.f t290 t291 a0 a2 ((rd_T59 l1 a2).f0.f0) ((rd_T59 l1 a2).f0.f1) ((rd_T59 l1 a2).f0.f2) ((rd_T59 l1 a2).f0.f3)).bind fun t300 => (if t300 = true then (some 2) else (some 3))) else (some 2)) = some r := H
        have A11 := Aside0.mk A110
        clear A110
        by_cases c12 : t298 = true
        · subst c12
          have H1 : ((kissgateref10_Better.f t290 t291 a0 a2 ((rd_T59 l1 a2).f0.f0) ((rd_T59 l1 a2).f0.f1) ((rd_T59 l1 a2).f0.f2) ((rd_T59 l1 a2).f0.f3)).bind fun t300 => (if t300 = true then (some 2) else (some 3))) = some r := by rw [if_pos rfl] at H; exact H
          clear H
          have H := H1
          clear H1
          replace H := Option.bind_eq_some_iff.mp H
          obtain ⟨t300, A130, H⟩ := H
          replace H : (if t300 = true then (some 2) else (some 3)) = some r := H
          have A13 := Aside0.mk A130
          clear A130
          by_cases c14 : t300 = true
          · subst c14
            have H1 : (some 2) = some r := by rw [if_pos rfl] at H; exact H
            clear H
            have H := H1
            clear H1
            obtain rfl := Option.some.inj H
            go_enter Tryd.func53, Tryd.ntmps53
            try go_wp2_with (first | ((with_reducible refine gate_callee (f := 56) rfl ?_); refine goesL_ (some 13) rfl rfl Tryd.func56 (by kernel_rfl) rfl #[.int .i64 a0, .slice A1 l1.length c1] rfl (by (try simp only [List.map_toArray, List.map_cons, List.map_nil]); first | done | rfl | (simp only [List.length_drop, List.length_take]; rfl)) ?_; (with_reducible refine (kissgateref10_Best.calls k a0 _ _ l1 t290 t291 t292 t293 t294 _ ?side1 ?side2 A4.out).mono ?_); (case side1 => repeat (first | exact HR1.out | (with_reducible refine Kd.C_alloc ?_ _) | (with_reducible refine Kd.C_drewN ?_ _) | (with_reducible refine Kd.C_drew ?_))); (case side2 => exact HC1.out); rintro e w15 ⟨rfl, hb⟩; refine ⟨_, rfl, ?_⟩; have n0_ := Aside0.mk (below_step (by repeat (first | (with_reducible first | exact HB.out | apply below_alloc | apply pw_below_drewN | apply below_drew1) | exact HB.out)) hb); clear HB; have HB := n0_; clear n0_; (try clear hb); (try clear hb2); (try clear hk); (try clear hi)) | ((with_reducible refine gate_dst (N := 7) rfl ?_); refine box_event ?hg (N := 7) ?hd (cs := #[.int .i64 0, .int .i64 0, .int .i64 0, .int .i64 0]) (t := 36) ?hr ?_; (case hd => rfl); (case hg => rfl); (case hr => first | (go_simp; done) | (go_simp; rfl)); intro gb295 hg w16 hbox hb; have n0_ := Aside0.mk (below_step (by repeat (first | (with_reducible first | exact HB.out | apply below_alloc | apply pw_below_drewN | apply below_drew1) | exact HB.out)) hb); have n1_ := Aside0.mk (hbox); have n2_ := Aside0.mk ((by rw [hg]; exact (below_size (by repeat (first | (with_reducible first | exact HB.out | apply below_alloc | apply pw_below_drewN | apply below_drew1) | exact HB.out))) : w.heap.size ≤ gb295)); have n3_ := Aside0.mk ((by rw [hg]; exact (below_size (by repeat (first | (with_reducible first | exact HB.out | apply below_alloc | apply pw_below_drewN | apply below_drew1) | exact HB.out))) : w.heap.size ≤ gb295)); clear HB; have HB := n0_; have BK295 := n1_; have GW295 := n2_; have GE295 := n3_; clear n0_ n1_ n2_ n3_; clear hb hbox hg; have hcz17_0 : w16.cell? ⟨gb295, 0, none⟩ = some (.int .i64 0) := (blk_cell BK295.out 0).trans rfl; have hcz17_1 : w16.cell? ⟨gb295, 1, none⟩ = some (.int .i64 0) := (blk_cell BK295.out 1).trans rfl; have hcz17_2 : w16.cell? ⟨gb295, 2, none⟩ = some (.int .i64 0) := (blk_cell BK295.out 2).trans rfl; have hcz17_3 : w16.cell? ⟨gb295, 3, none⟩ = some (.int .i64 0) := (blk_cell BK295.out 3).trans rfl; have hfz17_0 := blk_frozen BK295.out 0; have hfz17_1 := blk_frozen BK295.out 1; have hfz17_2 := blk_frozen BK295.out 2; have hfz17_3 := blk_frozen BK295.out 3) | ((with_reducible refine gate_dst (N := 9) rfl ?_); refine box_event ?hg (N := 9) ?hd (cs := #[.int .i64 0, .int .i64 0, .int .i64 0, .int .i64 0]) (t := 36) ?hr ?_; (case hd => rfl); (case hg => rfl); (case hr => first | (go_simp; done) | (go_simp; rfl)); intro gb296 hg w18 hbox hb; have n0_ := Aside0.mk (blk_below (g := gb295) (o := .cells #[.int .i64 t290, .int .i64 t291, .int .i64 t292, .int .i64 t293] 36 (0, 0)) (by (with_reducible repeat (first | refine blk_drewN ?_ _ | refine blk_drew ?_ | refine blk_alloc ?_ _)); refine blk_put (cs := #[.int .i64 t290, .int .i64 t291, .int .i64 t292, .int .i64 0]) ?_ 3 _ rfl; (with_reducible repeat (first | refine blk_drewN ?_ _ | refine blk_drew ?_ | refine blk_alloc ?_ _)); refine blk_put (cs := #[.int .i64 t290, .int .i64 t291, .int .i64 0, .int .i64 0]) ?_ 2 _ rfl; (with_reducible repeat (first | refine blk_drewN ?_ _ | refine blk_drew ?_ | refine blk_alloc ?_ _)); refine blk_put (cs := #[.int .i64 t290, .int .i64 0, .int .i64 0, .int .i64 0]) ?_ 1 _ rfl; (with_reducible repeat (first | refine blk_drewN ?_ _ | refine blk_drew ?_ | refine blk_alloc ?_ _)); refine blk_put (cs := #[.int .i64 0, .int .i64 0, .int .i64 0, .int .i64 0]) ?_ 0 _ rfl; (with_reducible repeat (first | refine blk_drewN ?_ _ | refine blk_drew ?_ | refine blk_alloc ?_ _)); exact BK295.out) hb); have n1_ := Aside0.mk (below_step (by repeat (first | (with_reducible first | exact HB.out | apply below_alloc | apply pw_below_drewN | apply below_drew1 | refine below_set ?_ GE295.out) | exact HB.out)) hb); have n2_ := Aside0.mk (hbox); have n3_ := Aside0.mk ((by rw [hg]; exact (below_size (by repeat (first | (with_reducible first | exact HB.out | apply below_alloc | apply pw_below_drewN | apply below_drew1 | refine below_set ?_ GE295.out) | exact HB.out))) : w.heap.size ≤ gb296)); have n4_ := Aside0.mk ((by rw [hg]; exact (below_size (by repeat (first | (with_reducible first | exact HB.out | apply below_alloc | apply pw_below_drewN | apply below_drew1 | refine below_set ?_ GE295.out) | exact HB.out))) : w.heap.size ≤ gb296)); have n5_ := Aside0.mk ((by rw [hg]; exact Nat.ne_of_lt (blk_lt (g := gb295) (o := .cells #[.int .i64 t290, .int .i64 t291, .int .i64 t292, .int .i64 t293] 36 (0, 0)) (by (with_reducible repeat (first | refine blk_drewN ?_ _ | refine blk_drew ?_ | refine blk_alloc ?_ _)); refine blk_put (cs := #[.int .i64 t290, .int .i64 t291, .int .i64 t292, .int .i64 0]) ?_ 3 _ rfl; (with_reducible repeat (first | refine blk_drewN ?_ _ | refine blk_drew ?_ | refine blk_alloc ?_ _)); refine blk_put (cs := #[.int .i64 t290, .int .i64 t291, .int .i64 0, .int .i64 0]) ?_ 2 _ rfl; (with_reducible repeat (first | refine blk_drewN ?_ _ | refine blk_drew ?_ | refine blk_alloc ?_ _)); refine blk_put (cs := #[.int .i64 t290, .int .i64 0, .int .i64 0, .int .i64 0]) ?_ 1 _ rfl; (with_reducible repeat (first | refine blk_drewN ?_ _ | refine blk_drew ?_ | refine blk_alloc ?_ _)); refine blk_put (cs := #[.int .i64 0, .int .i64 0, .int .i64 0, .int .i64 0]) ?_ 0 _ rfl; (with_reducible repeat (first | refine blk_drewN ?_ _ | refine blk_drew ?_ | refine blk_alloc ?_ _)); exact BK295.out)) : gb295 ≠ gb296)); have n6_ := Aside0.mk ((by rw [hg]; exact Nat.ne_of_gt (blk_lt (g := gb295) (o := .cells #[.int .i64 t290, .int .i64 t291, .int .i64 t292, .int .i64 t293] 36 (0, 0)) (by (with_reducible repeat (first | refine blk_drewN ?_ _ | refine blk_drew ?_ | refine blk_alloc ?_ _)); refine blk_put (cs := #[.int .i64 t290, .int .i64 t291, .int .i64 t292, .int .i64 0]) ?_ 3 _ rfl; (with_reducible repeat (first | refine blk_drewN ?_ _ | refine blk_drew ?_ | refine blk_alloc ?_ _)); refine blk_put (cs := #[.int .i64 t290, .int .i64 t291, .int .i64 0, .int .i64 0]) ?_ 2 _ rfl; (with_reducible repeat (first | refine blk_drewN ?_ _ | refine blk_drew ?_ | refine blk_alloc ?_ _)); refine blk_put (cs := #[.int .i64 t290, .int .i64 0, .int .i64 0, .int .i64 0]) ?_ 1 _ rfl; (with_reducible repeat (first | refine blk_drewN ?_ _ | refine blk_drew ?_ | refine blk_alloc ?_ _)); refine blk_put (cs := #[.int .i64 0, .int .i64 0, .int .i64 0, .int .i64 0]) ?_ 0 _ rfl; (with_reducible repeat (first | refine blk_drewN ?_ _ | refine blk_drew ?_ | refine blk_alloc ?_ _)); exact BK295.out)) : gb296 ≠ gb295)); clear BK295; clear HB; have BK295 := n0_; have HB := n1_; have BK296 := n2_; have GW296 := n3_; have GE296 := n4_; have NB295_296 := n5_; have NB296_295 := n6_; clear n0_ n1_ n2_ n3_ n4_ n5_ n6_; clear hb hbox hg; have hnb19 := NB296_295.out; have hnc19 := NB295_296.out; have hcz20_0 : w18.cell? ⟨gb296, 0, none⟩ = some (.int .i64 0) := (blk_cell BK296.out 0).trans rfl; have hcz20_1 : w18.cell? ⟨gb296, 1, none⟩ = some (.int .i64 0) := (blk_cell BK296.out 1).trans rfl; have hcz20_2 : w18.cell? ⟨gb296, 2, none⟩ = some (.int .i64 0) := (blk_cell BK296.out 2).trans rfl; have hcz20_3 : w18.cell? ⟨gb296, 3, none⟩ = some (.int .i64 0) := (blk_cell BK296.out 3).trans rfl; have hfz20_0 := blk_frozen BK296.out 0; have hfz20_1 := blk_frozen BK296.out 1; have hfz20_2 := blk_frozen BK296.out 2; have hfz20_3 := blk_frozen BK296.out 3))
            have n0_ : Aside0 (((((w18.setCell ⟨gb296, 0, none⟩ (.int .i64 t290)).setCell ⟨gb296, 1, none⟩ (.int .i64 t291)).setCell ⟨gb296, 2, none⟩ (.int .i64 a0)).setCell ⟨gb296, 3, none⟩ (.int .i64 a2)).heap[gb295]? = some (.cells #[.int .i64 t290, .int .i64 t291, .int .i64 t292, .int .i64 t293] 36 (0, 0))) := ⟨by (with_reducible repeat (first | refine blk_drewN ?_ _ | refine blk_drew ?_ | refine blk_alloc ?_ _)); refine blk_far ?_ NB295_296.out _; (with_reducible repeat (first | refine blk_drewN ?_ _ | refine blk_drew ?_ | refine blk_alloc ?_ _)); refine blk_far ?_ NB295_296.out _; (with_reducible repeat (first | refine blk_drewN ?_ _ | refine blk_drew ?_ | refine blk_alloc ?_ _)); refine blk_far ?_ NB295_296.out _; (with_reducible repeat (first | refine blk_drewN ?_ _ | refine blk_drew ?_ | refine blk_alloc ?_ _)); refine blk_far ?_ NB295_296.out _; (with_reducible repeat (first | refine blk_drewN ?_ _ | refine blk_drew ?_ | refine blk_alloc ?_ _)); exact BK295.out⟩
            have n1_ : Aside0 (((((w18.setCell ⟨gb296, 0, none⟩ (.int .i64 t290)).setCell ⟨gb296, 1, none⟩ (.int .i64 t291)).setCell ⟨gb296, 2, none⟩ (.int .i64 a0)).setCell ⟨gb296, 3, none⟩ (.int .i64 a2)).heap[gb296]? = some (.cells #[.int .i64 t290, .int .i64 t291, .int .i64 a0, .int .i64 a2] 36 (0, 0))) := ⟨by (with_reducible repeat (first | refine blk_drewN ?_ _ | refine blk_drew ?_ | refine blk_alloc ?_ _)); refine blk_put (cs := #[.int .i64 t290, .int .i64 t291, .int .i64 a0, .int .i64 0]) ?_ 3 _ rfl; (with_reducible repeat (first | refine blk_drewN ?_ _ | refine blk_drew ?_ | refine blk_alloc ?_ _)); refine blk_put (cs := #[.int .i64 t290, .int .i64 t291, .int .i64 0, .int .i64 0]) ?_ 2 _ rfl; (with_reducible repeat (first | refine blk_drewN ?_ _ | refine blk_drew ?_ | refine blk_alloc ?_ _)); refine blk_put (cs := #[.int .i64 t290, .int .i64 0, .int .i64 0, .int .i64 0]) ?_ 1 _ rfl; (with_reducible repeat (first | refine blk_drewN ?_ _ | refine blk_drew ?_ | refine blk_alloc ?_ _)); refine blk_put (cs := #[.int .i64 0, .int .i64 0, .int .i64 0, .int .i64 0]) ?_ 0 _ rfl; (with_reducible repeat (first | refine blk_drewN ?_ _ | refine blk_drew ?_ | refine blk_alloc ?_ _)); exact BK296.out⟩
            have n2_ : Aside0 (Below w.heap.size w ((((w18.setCell ⟨gb296, 0, none⟩ (.int .i64 t290)).setCell ⟨gb296, 1, none⟩ (.int .i64 t291)).setCell ⟨gb296, 2, none⟩ (.int .i64 a0)).setCell ⟨gb296, 3, none⟩ (.int .i64 a2))) := ⟨by repeat (first | (with_reducible first | exact HB.out | apply below_alloc | apply pw_below_drewN | apply below_drew1 | refine below_set ?_ GE295.out | refine below_set ?_ GE296.out) | exact HB.out)⟩
            (try clear BK295)
            (try clear BK296)
            (try clear HB)
            generalize ((((w18.setCell ⟨gb296, 0, none⟩ (.int .i64 t290)).setCell ⟨gb296, 1, none⟩ (.int .i64 t291)).setCell ⟨gb296, 2, none⟩ (.int .i64 a0)).setCell ⟨gb296, 3, none⟩ (.int .i64 a2)) = w21 at n0_ n1_ n2_ ⊢
            have BK295 := n0_
            have BK296 := n1_
            have HB := n2_
            clear n0_ n1_ n2_
            have n0_ := Aside0.mk (blk_drew BK295.out)
            have n1_ := Aside0.mk (blk_drew BK296.out)
            have n2_ := Aside0.mk (below_drew1 HB.out)
            clear BK295
            clear BK296
            clear HB
            have BK295 := n0_
            have BK296 := n1_
            have HB := n2_
            clear n0_ n1_ n2_
            have p297 : 0 ≤ (a2 : Int) := of_decide_eq_true (by first | (with_reducible assumption) | assumption)
            have q297 : a2 < (l1.length : Int) := of_decide_eq_true (by first | (with_reducible assumption) | assumption)
            obtain ⟨ad297, e297, hx297_0, hx297_1, hx297_2, hx297_3, hx297_4, hx297_5, hx297_6⟩ := at_T59 HR1.out a2 p297 q297
            have hw297_6 := hx297_6
            have hw297_5 := hx297_5
            have hw297_4 := hx297_4
            have hw297_3 := hx297_3
            have hw297_2 := hx297_2
            have hw297_1 := hx297_1
            have hw297_0 := hx297_0
            cases e297
            replace hx297_0 := (HB.out.cell (World.block_lt_of_cell? w _ hx297_0)).trans hx297_0
            replace hx297_1 := (HB.out.cell (World.block_lt_of_cell? w _ hx297_1)).trans hx297_1
            replace hx297_2 := (HB.out.cell (World.block_lt_of_cell? w _ hx297_2)).trans hx297_2
            replace hx297_3 := (HB.out.cell (World.block_lt_of_cell? w _ hx297_3)).trans hx297_3
            replace hx297_4 := (HB.out.cell (World.block_lt_of_cell? w _ hx297_4)).trans hx297_4
            replace hx297_5 := (HB.out.cell (World.block_lt_of_cell? w _ hx297_5)).trans hx297_5
            replace hx297_6 := (HB.out.cell (World.block_lt_of_cell? w _ hx297_6)).trans hx297_6
            replace p297 := eq_true p297
            replace q297 := eq_true q297
            have p299 : 0 ≤ (a2 : Int) := of_decide_eq_true (by first | (with_reducible assumption) | assumption)
            have q299 : a2 < (l1.length : Int) := of_decide_eq_true (by first | (with_reducible assumption) | assumption)
            obtain ⟨ad299, e299, hx299_0, hx299_1, hx299_2, hx299_3, hx299_4, hx299_5, hx299_6⟩ := at_T59 HR1.out a2 p299 q299
            have hw299_6 := hx299_6
            have hw299_5 := hx299_5
            have hw299_4 := hx299_4
            have hw299_3 := hx299_3
            have hw299_2 := hx299_2
            have hw299_1 := hx299_1
            have hw299_0 := hx299_0
            obtain rfl : ad297 = ad299 := (by injection e299)
            replace hx299_0 := (HB.out.cell (World.block_lt_of_cell? w _ hx299_0)).trans hx299_0
            replace hx299_1 := (HB.out.cell (World.block_lt_of_cell? w _ hx299_1)).trans hx299_1
            replace hx299_2 := (HB.out.cell (World.block_lt_of_cell? w _ hx299_2)).trans hx299_2
            replace hx299_3 := (HB.out.cell (World.block_lt_of_cell? w _ hx299_3)).trans hx299_3
            replace hx299_4 := (HB.out.cell (World.block_lt_of_cell? w _ hx299_4)).trans hx299_4
            replace hx299_5 := (HB.out.cell (World.block_lt_of_cell? w _ hx299_5)).trans hx299_5
            replace hx299_6 := (HB.out.cell (World.block_lt_of_cell? w _ hx299_6)).trans hx299_6
            replace p299 := eq_true p299
            replace q299 := eq_true q299
            refine start_ (n := 16) (S := fun w' => w'.cell? ⟨gb296, 0, none⟩ = some (.int .i64 t290) ∧ w'.cell? ⟨gb296, 1, none⟩ = some (.int .i64 t291) ∧ w'.cell? ⟨gb296, 2, none⟩ = some (.int .i64 a0) ∧ w'.cell? ⟨gb296, 3, none⟩ = some (.int .i64 a2) ∧ w'.cell? (ad297.add ((a2).toNat * 7)) = some (.int .i64 ((rd_T59 l1 a2).f0.f0)) ∧ w'.cell? ⟨(ad297.add ((a2).toNat * 7)).block, (ad297.add ((a2).toNat * 7)).off + 1, none⟩ = some (.int .i64 ((rd_T59 l1 a2).f0.f1)) ∧ w'.cell? ⟨(ad297.add ((a2).toNat * 7)).block, (ad297.add ((a2).toNat * 7)).off + 2, none⟩ = some (.int .i64 ((rd_T59 l1 a2).f0.f2)) ∧ w'.cell? ⟨(ad297.add ((a2).toNat * 7)).block, (ad297.add ((a2).toNat * 7)).off + 3, none⟩ = some (.int .i64 ((rd_T59 l1 a2).f0.f3)) ∧ w'.cell? ⟨(ad297.add ((a2).toNat * 7)).block, (ad297.add ((a2).toNat * 7)).off + 4, none⟩ = some (.int .i64 ((rd_T59 l1 a2).f1)) ∧ w'.cell? ⟨(ad297.add ((a2).toNat * 7)).block, (ad297.add ((a2).toNat * 7)).off + 5, none⟩ = some (.int .i64 ((rd_T59 l1 a2).f2)) ∧ w'.cell? ⟨(ad297.add ((a2).toNat * 7)).block, (ad297.add ((a2).toNat * 7)).off + 6, none⟩ = some (.bool ((rd_T59 l1 a2).f3)) ∧ w'.cell? (ad297.add ((a2).toNat * 7)) = some (.int .i64 ((rd_T59 l1 a2).f0.f0)) ∧ w'.cell? ⟨(ad297.add ((a2).toNat * 7)).block, (ad297.add ((a2).toNat * 7)).off + 1, none⟩ = some (.int .i64 ((rd_T59 l1 a2).f0.f1)) ∧ w'.cell? ⟨(ad297.add ((a2).toNat * 7)).block, (ad297.add ((a2).toNat * 7)).off + 2, none⟩ = some (.int .i64 ((rd_T59 l1 a2).f0.f2)) ∧ w'.cell? ⟨(ad297.add ((a2).toNat * 7)).block, (ad297.add ((a2).toNat * 7)).off + 3, none⟩ = some (.int .i64 ((rd_T59 l1 a2).f0.f3)) ∧ w'.cell? ⟨(ad297.add ((a2).toNat * 7)).block, (ad297.add ((a2).toNat * 7)).off + 4, none⟩ = some (.int .i64 ((rd_T59 l1 a2).f1)) ∧ w'.cell? ⟨(ad297.add ((a2).toNat * 7)).block, (ad297.add ((a2).toNat * 7)).off + 5, none⟩ = some (.int .i64 ((rd_T59 l1 a2).f2)) ∧ w'.cell? ⟨(ad297.add ((a2).toNat * 7)).block, (ad297.add ((a2).toNat * 7)).off + 6, none⟩ = some (.bool ((rd_T59 l1 a2).f3))) (ds := []) #[false, false, false, false, false, false, false, false, false, false, false, false, false, false, false, false] (by kernel_rfl) rfl rfl ⟨(blk_cell BK296.out 0).trans rfl, (blk_cell BK296.out 1).trans rfl, (blk_cell BK296.out 2).trans rfl, (blk_cell BK296.out 3).trans rfl, ((HB.out.cell (World.block_lt_of_cell? w _ hw297_0)).trans hw297_0), ((HB.out.cell (World.block_lt_of_cell? w _ hw297_1)).trans hw297_1), ((HB.out.cell (World.block_lt_of_cell? w _ hw297_2)).trans hw297_2), ((HB.out.cell (World.block_lt_of_cell? w _ hw297_3)).trans hw297_3), ((HB.out.cell (World.block_lt_of_cell? w _ hw297_4)).trans hw297_4), ((HB.out.cell (World.block_lt_of_cell? w _ hw297_5)).trans hw297_5), ((HB.out.cell (World.block_lt_of_cell? w _ hw297_6)).trans hw297_6), ((HB.out.cell (World.block_lt_of_cell? w _ hw299_0)).trans hw299_0), ((HB.out.cell (World.block_lt_of_cell? w _ hw299_1)).trans hw299_1), ((HB.out.cell (World.block_lt_of_cell? w _ hw299_2)).trans hw299_2), ((HB.out.cell (World.block_lt_of_cell? w _ hw299_3)).trans hw299_3), ((HB.out.cell (World.block_lt_of_cell? w _ hw299_4)).trans hw299_4), ((HB.out.cell (World.block_lt_of_cell? w _ hw299_5)).trans hw299_5), ((HB.out.cell (World.block_lt_of_cell? w _ hw299_6)).trans hw299_6)⟩ (fun hHeld => ?_); refine with_tabW kissgateref10_Role.tab5 kissgateref10_Role.bits5 (fun HT_ HW_ => ?_)
            generalize w21.drew = w22 at BK295 BK296 HB hx297_0 hx297_1 hx297_2 hx297_3 hx297_4 hx297_5 hx297_6 hx299_0 hx299_1 hx299_2 hx299_3 hx299_4 hx299_5 hx299_6 hHeld ⊢
            refine pure_ (i := 0) (N := some 26) (v := ?_) (a' := ?_) #[true, false, false, false, false, false, false, false, false, false, false, false, false, false, false, false] rfl rfl (any_of HT_.out (by kernel_rfl)) (fun _ _ _ h => h) (Or.inl ⟨by rfl, ?_⟩) ?_ ?_
            rotate_left
            · intro w'
              go_simp
              with_reducible rfl
            rotate_left
            · simp only [Act.put, List.setIfInBounds_toArray, List.set_cons_zero, List.set_cons_succ, i64_w, i32_w]
              rfl
            refine pure_ (i := 1) (N := some 27) (v := ?_) (a' := ?_) #[true, true, false, false, false, false, false, false, false, false, false, false, false, false, false, false] rfl rfl (any_of HT_.out (by kernel_rfl)) (fun _ _ _ h => h) (Or.inl ⟨by rfl, ?_⟩) ?_ ?_
            rotate_left
            · intro w'
              go_simp
              with_reducible rfl
            rotate_left
            · simp only [Act.put, List.setIfInBounds_toArray, List.set_cons_zero, List.set_cons_succ, i64_w, i32_w]
              rfl
            refine pure_ (i := 2) (N := some 28) (v := ?_) (a' := ?_) #[true, true, true, false, false, false, false, false, false, false, false, false, false, false, false, false] rfl rfl (any_of HT_.out (by kernel_rfl)) (fun _ _ _ h => h) (Or.inl ⟨by rfl, ?_⟩) ?_ ?_
            rotate_left
            · intro w'
              go_simp
              with_reducible rfl
            rotate_left
            · simp only [Act.put, List.setIfInBounds_toArray, List.set_cons_zero, List.set_cons_succ, i64_w, i32_w]
              rfl
            refine pure_ (i := 4) (N := some 30) (v := ?_) (a' := ?_) #[true, true, true, false, true, false, false, false, false, false, false, false, false, false, false, false] rfl rfl (any_of HT_.out (by kernel_rfl)) (fun _ _ _ h => h) (Or.inl ⟨by rfl, ?_⟩) ?_ ?_
            rotate_left
            · intro w'
              go_simp
              with_reducible rfl
            rotate_left
            · simp only [Act.put, List.setIfInBounds_toArray, List.set_cons_zero, List.set_cons_succ, i64_w, i32_w]
              rfl
            refine take_ (i := 3) (N := some 29) (v := ?_) (a' := ?_) #[true, true, true, true, true, false, false, false, false, false, false, false, false, false, false, false] rfl rfl (take_ofW HT_.out HW_.out (by kernel_rfl)) (fun _ _ _ h => h) (Or.inl ⟨by rfl, ?_⟩) hHeld ?_ ?_
            rotate_left
            · rintro w' ⟨s0, s1, s2, s3, s4, s5, s6, s7, s8, s9, s10, s11, s12, s13, s14, s15, s16, s17⟩
              go_simp
              with_reducible rfl
            rotate_left
            · simp only [Act.put, List.setIfInBounds_toArray, List.set_cons_zero, List.set_cons_succ, i64_w, i32_w]
              rfl
            refine one_ (i := 5) (N := some 31) #[true, true, true, true, true, true, false, false, false, false, false, false, false, false, false, false] rfl rfl (one_of HT_.out (by kernel_rfl)) (by decide) (fun K hK => ?_)
            refine goes_ Tryd.func62 (by kernel_rfl) rfl #[.agg #[.int .i64 ((rd_T59 l1 a2).f0.f0), .int .i64 ((rd_T59 l1 a2).f0.f1), .int .i64 ((rd_T59 l1 a2).f0.f2), .int .i64 ((rd_T59 l1 a2).f0.f3), .int .i64 ((rd_T59 l1 a2).f1), .int .i64 ((rd_T59 l1 a2).f2), .bool ((rd_T59 l1 a2).f3)], .int .i64 a0] (by rfl) rfl rfl (by (try simp only [List.map_toArray, List.map_cons, List.map_nil]); first | done | rfl | (simp only [List.length_drop, List.length_take]; rfl)) ?_
            with_reducible refine (kissgateref10_Use.calls ((rd_T59 l1 a2).f0.f0) ((rd_T59 l1 a2).f0.f1) ((rd_T59 l1 a2).f0.f2) ((rd_T59 l1 a2).f0.f3) ((rd_T59 l1 a2).f1) ((rd_T59 l1 a2).f2) ((rd_T59 l1 a2).f3) a0 true _ A11.out).mono ?_
            rintro e w23 ⟨rfl, hb⟩
            refine ⟨_, rfl, ?_⟩
            have n0_ := Aside0.mk (blk_below (g := gb295) (o := .cells #[.int .i64 t290, .int .i64 t291, .int .i64 t292, .int .i64 t293] 36 (0, 0)) (by (with_reducible repeat (first | refine blk_drewN ?_ _ | refine blk_drew ?_ | refine blk_alloc ?_ _)); exact BK295.out) hb)
            have n1_ := Aside0.mk (blk_below (g := gb296) (o := .cells #[.int .i64 t290, .int .i64 t291, .int .i64 a0, .int .i64 a2] 36 (0, 0)) (by (with_reducible repeat (first | refine blk_drewN ?_ _ | refine blk_drew ?_ | refine blk_alloc ?_ _)); exact BK296.out) hb)
            have n2_ := Aside0.mk (below_step (by repeat (first | (with_reducible first | exact HB.out | apply below_alloc | apply pw_below_drewN | apply below_drew1 | refine below_set ?_ GE295.out | refine below_set ?_ GE296.out) | exact HB.out)) hb)
            clear BK295
            clear BK296
            clear HB
            have BK295 := n0_
            have BK296 := n1_
            have HB := n2_
            clear n0_ n1_ n2_
            (try clear hb)
            (try clear hb2)
            (try clear hk)
            (try clear hi)
            refine hK.out _ _ ⟨(blk_cell BK296.out 0).trans rfl, (blk_cell BK296.out 1).trans rfl, (blk_cell BK296.out 2).trans rfl, (blk_cell BK296.out 3).trans rfl, ((HB.out.cell (World.block_lt_of_cell? w _ hw297_0)).trans hw297_0), ((HB.out.cell (World.block_lt_of_cell? w _ hw297_1)).trans hw297_1), ((HB.out.cell (World.block_lt_of_cell? w _ hw297_2)).trans hw297_2), ((HB.out.cell (World.block_lt_of_cell? w _ hw297_3)).trans hw297_3), ((HB.out.cell (World.block_lt_of_cell? w _ hw297_4)).trans hw297_4), ((HB.out.cell (World.block_lt_of_cell? w _ hw297_5)).trans hw297_5), ((HB.out.cell (World.block_lt_of_cell? w _ hw297_6)).trans hw297_6), ((HB.out.cell (World.block_lt_of_cell? w _ hw299_0)).trans hw299_0), ((HB.out.cell (World.block_lt_of_cell? w _ hw299_1)).trans hw299_1), ((HB.out.cell (World.block_lt_of_cell? w _ hw299_2)).trans hw299_2), ((HB.out.cell (World.block_lt_of_cell? w _ hw299_3)).trans hw299_3), ((HB.out.cell (World.block_lt_of_cell? w _ hw299_4)).trans hw299_4), ((HB.out.cell (World.block_lt_of_cell? w _ hw299_5)).trans hw299_5), ((HB.out.cell (World.block_lt_of_cell? w _ hw299_6)).trans hw299_6)⟩ (fun hHeld => ?_)
            clear hK K
            refine norm_ (a' := ?_) ?_ ?_
            rotate_left
            · show Act.put _ (some 31) _ = _
              simp only [Act.put, List.setIfInBounds_toArray, List.set_cons_zero, List.set_cons_succ, i64_w, i32_w]
              rfl
            refine pure_ (i := 6) (N := some 32) (v := ?_) (a' := ?_) #[true, true, true, true, true, true, true, false, false, false, false, false, false, false, false, false] rfl rfl (any_of HT_.out (by kernel_rfl)) (fun _ _ _ h => h) (Or.inl ⟨by rfl, ?_⟩) ?_ ?_
            rotate_left
            · intro w'
              go_simp
              with_reducible rfl
            rotate_left
            · simp only [Act.put, List.setIfInBounds_toArray, List.set_cons_zero, List.set_cons_succ, i64_w, i32_w]
              rfl
            refine pure_ (i := 7) (N := some 33) (v := ?_) (a' := ?_) #[true, true, true, true, true, true, true, true, false, false, false, false, false, false, false, false] rfl rfl (any_of HT_.out (by kernel_rfl)) (fun _ _ _ h => h) (Or.inl ⟨by rfl, ?_⟩) ?_ ?_
            rotate_left
            · intro w'
              go_simp
              with_reducible rfl
            rotate_left
            · simp only [Act.put, List.setIfInBounds_toArray, List.set_cons_zero, List.set_cons_succ, i64_w, i32_w]
              rfl
            refine pure_ (i := 9) (N := some 35) (v := ?_) (a' := ?_) #[true, true, true, true, true, true, true, true, false, true, false, false, false, false, false, false] rfl rfl (any_of HT_.out (by kernel_rfl)) (fun _ _ _ h => h) (Or.inl ⟨by rfl, ?_⟩) ?_ ?_
            rotate_left
            · intro w'
              go_simp
              with_reducible rfl
            rotate_left
            · simp only [Act.put, List.setIfInBounds_toArray, List.set_cons_zero, List.set_cons_succ, i64_w, i32_w]
              rfl
            refine pure_ (i := 10) (N := some 36) (v := ?_) (a' := ?_) #[true, true, true, true, true, true, true, true, false, true, true, false, false, false, false, false] rfl rfl (any_of HT_.out (by kernel_rfl)) (fun _ _ _ h => h) (Or.inl ⟨by rfl, ?_⟩) ?_ ?_
            rotate_left
            · intro w'
              go_simp
              with_reducible rfl
            rotate_left
            · simp only [Act.put, List.setIfInBounds_toArray, List.set_cons_zero, List.set_cons_succ, i64_w, i32_w]
              rfl
            refine pure_ (i := 11) (N := some 37) (v := ?_) (a' := ?_) #[true, true, true, true, true, true, true, true, false, true, true, true, false, false, false, false] rfl rfl (any_of HT_.out (by kernel_rfl)) (fun _ _ _ h => h) (Or.inl ⟨by rfl, ?_⟩) ?_ ?_
            rotate_left
            · intro w'
              go_simp
              with_reducible rfl
            rotate_left
            · simp only [Act.put, List.setIfInBounds_toArray, List.set_cons_zero, List.set_cons_succ, i64_w, i32_w]
              rfl
            refine pure_ (i := 12) (N := some 38) (v := ?_) (a' := ?_) #[true, true, true, true, true, true, true, true, false, true, true, true, true, false, false, false] rfl rfl (any_of HT_.out (by kernel_rfl)) (fun _ _ _ h => h) (Or.inl ⟨by rfl, ?_⟩) ?_ ?_
            rotate_left
            · intro w'
              go_simp
              with_reducible rfl
            rotate_left
            · simp only [Act.put, List.setIfInBounds_toArray, List.set_cons_zero, List.set_cons_succ, i64_w, i32_w]
              rfl
            refine take_ (i := 8) (N := some 34) (v := ?_) (a' := ?_) #[true, true, true, true, true, true, true, true, true, true, true, true, true, false, false, false] rfl rfl (take_ofW HT_.out HW_.out (by kernel_rfl)) (fun _ _ _ h => h) (Or.inl ⟨by rfl, ?_⟩) hHeld ?_ ?_
            rotate_left
            · rintro w' ⟨s0, s1, s2, s3, s4, s5, s6, s7, s8, s9, s10, s11, s12, s13, s14, s15, s16, s17⟩
              go_simp
              with_reducible rfl
            rotate_left
            · simp only [Act.put, List.setIfInBounds_toArray, List.set_cons_zero, List.set_cons_succ, i64_w, i32_w]
              rfl
            refine take_ (i := 13) (N := some 39) (v := ?_) (a' := ?_) #[true, true, true, true, true, true, true, true, true, true, true, true, true, true, false, false] rfl rfl (take_ofW HT_.out HW_.out (by kernel_rfl)) (fun _ _ _ h => h) (Or.inl ⟨by rfl, ?_⟩) hHeld ?_ ?_
            rotate_left
            · rintro w' ⟨s0, s1, s2, s3, s4, s5, s6, s7, s8, s9, s10, s11, s12, s13, s14, s15, s16, s17⟩
              go_simp
              with_reducible rfl
            rotate_left
            · simp only [Act.put, List.setIfInBounds_toArray, List.set_cons_zero, List.set_cons_succ, i64_w, i32_w]
              rfl
            refine one_ (i := 14) (N := some 40) #[true, true, true, true, true, true, true, true, true, true, true, true, true, true, true, false] rfl rfl (one_of HT_.out (by kernel_rfl)) (by decide) (fun K hK => ?_)
            refine goes_ Tryd.func57 (by kernel_rfl) rfl #[.agg #[.int .i64 t290, .int .i64 t291, .int .i64 a0, .int .i64 a2], .agg #[.int .i64 ((rd_T59 l1 a2).f0.f0), .int .i64 ((rd_T59 l1 a2).f0.f1), .int .i64 ((rd_T59 l1 a2).f0.f2), .int .i64 ((rd_T59 l1 a2).f0.f3)]] (by rfl) rfl rfl (by (try simp only [List.map_toArray, List.map_cons, List.map_nil]); first | done | rfl | (simp only [List.length_drop, List.length_take]; rfl)) ?_
            with_reducible refine (kissgateref10_Better.calls t290 t291 a0 a2 ((rd_T59 l1 a2).f0.f0) ((rd_T59 l1 a2).f0.f1) ((rd_T59 l1 a2).f0.f2) ((rd_T59 l1 a2).f0.f3) true _ A13.out).mono ?_
            rintro e w24 ⟨rfl, hb⟩
            refine ⟨_, rfl, ?_⟩
            have n0_ := Aside0.mk (blk_below (g := gb295) (o := .cells #[.int .i64 t290, .int .i64 t291, .int .i64 t292, .int .i64 t293] 36 (0, 0)) (by (with_reducible repeat (first | refine blk_drewN ?_ _ | refine blk_drew ?_ | refine blk_alloc ?_ _)); exact BK295.out) hb)
            have n1_ := Aside0.mk (blk_below (g := gb296) (o := .cells #[.int .i64 t290, .int .i64 t291, .int .i64 a0, .int .i64 a2] 36 (0, 0)) (by (with_reducible repeat (first | refine blk_drewN ?_ _ | refine blk_drew ?_ | refine blk_alloc ?_ _)); exact BK296.out) hb)
            have n2_ := Aside0.mk (below_step (by repeat (first | (with_reducible first | exact HB.out | apply below_alloc | apply pw_below_drewN | apply below_drew1 | refine below_set ?_ GE295.out | refine below_set ?_ GE296.out) | exact HB.out)) hb)
            clear BK295
            clear BK296
            clear HB
            have BK295 := n0_
            have BK296 := n1_
            have HB := n2_
            clear n0_ n1_ n2_
            (try clear hb)
            (try clear hb2)
            (try clear hk)
            (try clear hi)
            refine hK.out _ _ ⟨(blk_cell BK296.out 0).trans rfl, (blk_cell BK296.out 1).trans rfl, (blk_cell BK296.out 2).trans rfl, (blk_cell BK296.out 3).trans rfl, ((HB.out.cell (World.block_lt_of_cell? w _ hw297_0)).trans hw297_0), ((HB.out.cell (World.block_lt_of_cell? w _ hw297_1)).trans hw297_1), ((HB.out.cell (World.block_lt_of_cell? w _ hw297_2)).trans hw297_2), ((HB.out.cell (World.block_lt_of_cell? w _ hw297_3)).trans hw297_3), ((HB.out.cell (World.block_lt_of_cell? w _ hw297_4)).trans hw297_4), ((HB.out.cell (World.block_lt_of_cell? w _ hw297_5)).trans hw297_5), ((HB.out.cell (World.block_lt_of_cell? w _ hw297_6)).trans hw297_6), ((HB.out.cell (World.block_lt_of_cell? w _ hw299_0)).trans hw299_0), ((HB.out.cell (World.block_lt_of_cell? w _ hw299_1)).trans hw299_1), ((HB.out.cell (World.block_lt_of_cell? w _ hw299_2)).trans hw299_2), ((HB.out.cell (World.block_lt_of_cell? w _ hw299_3)).trans hw299_3), ((HB.out.cell (World.block_lt_of_cell? w _ hw299_4)).trans hw299_4), ((HB.out.cell (World.block_lt_of_cell? w _ hw299_5)).trans hw299_5), ((HB.out.cell (World.block_lt_of_cell? w _ hw299_6)).trans hw299_6)⟩ (fun hHeld => ?_)
            clear hK K
            refine norm_ (a' := ?_) ?_ ?_
            rotate_left
            · show Act.put _ (some 40) _ = _
              simp only [Act.put, List.setIfInBounds_toArray, List.set_cons_zero, List.set_cons_succ, i64_w, i32_w]
              rfl
            refine pure_ (i := 15) (N := some 41) (v := ?_) (a' := ?_) #[true, true, true, true, true, true, true, true, true, true, true, true, true, true, true, true] rfl rfl (any_of HT_.out (by kernel_rfl)) (fun _ _ _ h => h) (Or.inl ⟨by rfl, ?_⟩) ?_ ?_
            rotate_left
            · intro w'
              go_simp
              with_reducible rfl
            rotate_left
            · simp only [Act.put, List.setIfInBounds_toArray, List.set_cons_zero, List.set_cons_succ, i64_w, i32_w]
              rfl
            refine done_ (done_of HT_.out (by kernel_rfl)) ?_
            try go_wp2
            go_ret
            exact ⟨by first | rfl | (simp [errW_none, errW_some] <;> rfl) | (simp [*, errW_none, errW_some] <;> rfl), by repeat (first | (with_reducible first | exact HB.out | apply below_alloc | apply pw_below_drewN | apply below_drew1 | refine below_set ?_ GE295.out | refine below_set ?_ GE296.out) | exact HB.out)⟩
          · replace c14 := Bool.eq_false_iff.mpr c14
            subst c14
            have H1 : (some 3) = some r := by rw [if_neg (show ¬ (false = true) by decide)] at H; exact H
            clear H
            have H := H1
            clear H1
            obtain rfl := Option.some.inj H
            go_enter Tryd.func53, Tryd.ntmps53
            try go_wp2_with (first | ((with_reducible refine gate_callee (f := 56) rfl ?_); refine goesL_ (some 13) rfl rfl Tryd.func56 (by kernel_rfl) rfl #[.int .i64 a0, .slice A1 l1.length c1] rfl (by (try simp only [List.map_toArray, List.map_cons, List.map_nil]); first | done | rfl | (simp only [List.length_drop, List.length_take]; rfl)) ?_; (with_reducible refine (kissgateref10_Best.calls k a0 _ _ l1 t290 t291 t292 t293 t294 _ ?side1 ?side2 A4.out).mono ?_); (case side1 => repeat (first | exact HR1.out | (with_reducible refine Kd.C_alloc ?_ _) | (with_reducible refine Kd.C_drewN ?_ _) | (with_reducible refine Kd.C_drew ?_))); (case side2 => exact HC1.out); rintro e w25 ⟨rfl, hb⟩; refine ⟨_, rfl, ?_⟩; have n0_ := Aside0.mk (below_step (by repeat (first | (with_reducible first | exact HB.out | apply below_alloc | apply pw_below_drewN | apply below_drew1) | exact HB.out)) hb); clear HB; have HB := n0_; clear n0_; (try clear hb); (try clear hb2); (try clear hk); (try clear hi)) | ((with_reducible refine gate_dst (N := 7) rfl ?_); refine box_event ?hg (N := 7) ?hd (cs := #[.int .i64 0, .int .i64 0, .int .i64 0, .int .i64 0]) (t := 36) ?hr ?_; (case hd => rfl); (case hg => rfl); (case hr => first | (go_simp; done) | (go_simp; rfl)); intro gb295 hg w26 hbox hb; have n0_ := Aside0.mk (below_step (by repeat (first | (with_reducible first | exact HB.out | apply below_alloc | apply pw_below_drewN | apply below_drew1) | exact HB.out)) hb); have n1_ := Aside0.mk (hbox); have n2_ := Aside0.mk ((by rw [hg]; exact (below_size (by repeat (first | (with_reducible first | exact HB.out | apply below_alloc | apply pw_below_drewN | apply below_drew1) | exact HB.out))) : w.heap.size ≤ gb295)); have n3_ := Aside0.mk ((by rw [hg]; exact (below_size (by repeat (first | (with_reducible first | exact HB.out | apply below_alloc | apply pw_below_drewN | apply below_drew1) | exact HB.out))) : w.heap.size ≤ gb295)); clear HB; have HB := n0_; have BK295 := n1_; have GW295 := n2_; have GE295 := n3_; clear n0_ n1_ n2_ n3_; clear hb hbox hg; have hcz27_0 : w26.cell? ⟨gb295, 0, none⟩ = some (.int .i64 0) := (blk_cell BK295.out 0).trans rfl; have hcz27_1 : w26.cell? ⟨gb295, 1, none⟩ = some (.int .i64 0) := (blk_cell BK295.out 1).trans rfl; have hcz27_2 : w26.cell? ⟨gb295, 2, none⟩ = some (.int .i64 0) := (blk_cell BK295.out 2).trans rfl; have hcz27_3 : w26.cell? ⟨gb295, 3, none⟩ = some (.int .i64 0) := (blk_cell BK295.out 3).trans rfl; have hfz27_0 := blk_frozen BK295.out 0; have hfz27_1 := blk_frozen BK295.out 1; have hfz27_2 := blk_frozen BK295.out 2; have hfz27_3 := blk_frozen BK295.out 3) | ((with_reducible refine gate_dst (N := 9) rfl ?_); refine box_event ?hg (N := 9) ?hd (cs := #[.int .i64 0, .int .i64 0, .int .i64 0, .int .i64 0]) (t := 36) ?hr ?_; (case hd => rfl); (case hg => rfl); (case hr => first | (go_simp; done) | (go_simp; rfl)); intro gb296 hg w28 hbox hb; have n0_ := Aside0.mk (blk_below (g := gb295) (o := .cells #[.int .i64 t290, .int .i64 t291, .int .i64 t292, .int .i64 t293] 36 (0, 0)) (by (with_reducible repeat (first | refine blk_drewN ?_ _ | refine blk_drew ?_ | refine blk_alloc ?_ _)); refine blk_put (cs := #[.int .i64 t290, .int .i64 t291, .int .i64 t292, .int .i64 0]) ?_ 3 _ rfl; (with_reducible repeat (first | refine blk_drewN ?_ _ | refine blk_drew ?_ | refine blk_alloc ?_ _)); refine blk_put (cs := #[.int .i64 t290, .int .i64 t291, .int .i64 0, .int .i64 0]) ?_ 2 _ rfl; (with_reducible repeat (first | refine blk_drewN ?_ _ | refine blk_drew ?_ | refine blk_alloc ?_ _)); refine blk_put (cs := #[.int .i64 t290, .int .i64 0, .int .i64 0, .int .i64 0]) ?_ 1 _ rfl; (with_reducible repeat (first | refine blk_drewN ?_ _ | refine blk_drew ?_ | refine blk_alloc ?_ _)); refine blk_put (cs := #[.int .i64 0, .int .i64 0, .int .i64 0, .int .i64 0]) ?_ 0 _ rfl; (with_reducible repeat (first | refine blk_drewN ?_ _ | refine blk_drew ?_ | refine blk_alloc ?_ _)); exact BK295.out) hb); have n1_ := Aside0.mk (below_step (by repeat (first | (with_reducible first | exact HB.out | apply below_alloc | apply pw_below_drewN | apply below_drew1 | refine below_set ?_ GE295.out) | exact HB.out)) hb); have n2_ := Aside0.mk (hbox); have n3_ := Aside0.mk ((by rw [hg]; exact (below_size (by repeat (first | (with_reducible first | exact HB.out | apply below_alloc | apply pw_below_drewN | apply below_drew1 | refine below_set ?_ GE295.out) | exact HB.out))) : w.heap.size ≤ gb296)); have n4_ := Aside0.mk ((by rw [hg]; exact (below_size (by repeat (first | (with_reducible first | exact HB.out | apply below_alloc | apply pw_below_drewN | apply below_drew1 | refine below_set ?_ GE295.out) | exact HB.out))) : w.heap.size ≤ gb296)); have n5_ := Aside0.mk ((by rw [hg]; exact Nat.ne_of_lt (blk_lt (g := gb295) (o := .cells #[.int .i64 t290, .int .i64 t291, .int .i64 t292, .int .i64 t293] 36 (0, 0)) (by (with_reducible repeat (first | refine blk_drewN ?_ _ | refine blk_drew ?_ | refine blk_alloc ?_ _)); refine blk_put (cs := #[.int .i64 t290, .int .i64 t291, .int .i64 t292, .int .i64 0]) ?_ 3 _ rfl; (with_reducible repeat (first | refine blk_drewN ?_ _ | refine blk_drew ?_ | refine blk_alloc ?_ _)); refine blk_put (cs := #[.int .i64 t290, .int .i64 t291, .int .i64 0, .int .i64 0]) ?_ 2 _ rfl; (with_reducible repeat (first | refine blk_drewN ?_ _ | refine blk_drew ?_ | refine blk_alloc ?_ _)); refine blk_put (cs := #[.int .i64 t290, .int .i64 0, .int .i64 0, .int .i64 0]) ?_ 1 _ rfl; (with_reducible repeat (first | refine blk_drewN ?_ _ | refine blk_drew ?_ | refine blk_alloc ?_ _)); refine blk_put (cs := #[.int .i64 0, .int .i64 0, .int .i64 0, .int .i64 0]) ?_ 0 _ rfl; (with_reducible repeat (first | refine blk_drewN ?_ _ | refine blk_drew ?_ | refine blk_alloc ?_ _)); exact BK295.out)) : gb295 ≠ gb296)); have n6_ := Aside0.mk ((by rw [hg]; exact Nat.ne_of_gt (blk_lt (g := gb295) (o := .cells #[.int .i64 t290, .int .i64 t291, .int .i64 t292, .int .i64 t293] 36 (0, 0)) (by (with_reducible repeat (first | refine blk_drewN ?_ _ | refine blk_drew ?_ | refine blk_alloc ?_ _)); refine blk_put (cs := #[.int .i64 t290, .int .i64 t291, .int .i64 t292, .int .i64 0]) ?_ 3 _ rfl; (with_reducible repeat (first | refine blk_drewN ?_ _ | refine blk_drew ?_ | refine blk_alloc ?_ _)); refine blk_put (cs := #[.int .i64 t290, .int .i64 t291, .int .i64 0, .int .i64 0]) ?_ 2 _ rfl; (with_reducible repeat (first | refine blk_drewN ?_ _ | refine blk_drew ?_ | refine blk_alloc ?_ _)); refine blk_put (cs := #[.int .i64 t290, .int .i64 0, .int .i64 0, .int .i64 0]) ?_ 1 _ rfl; (with_reducible repeat (first | refine blk_drewN ?_ _ | refine blk_drew ?_ | refine blk_alloc ?_ _)); refine blk_put (cs := #[.int .i64 0, .int .i64 0, .int .i64 0, .int .i64 0]) ?_ 0 _ rfl; (with_reducible repeat (first | refine blk_drewN ?_ _ | refine blk_drew ?_ | refine blk_alloc ?_ _)); exact BK295.out)) : gb296 ≠ gb295)); clear BK295; clear HB; have BK295 := n0_; have HB := n1_; have BK296 := n2_; have GW296 := n3_; have GE296 := n4_; have NB295_296 := n5_; have NB296_295 := n6_; clear n0_ n1_ n2_ n3_ n4_ n5_ n6_; clear hb hbox hg; have hnb29 := NB296_295.out; have hnc29 := NB295_296.out; have hcz30_0 : w28.cell? ⟨gb296, 0, none⟩ = some (.int .i64 0) := (blk_cell BK296.out 0).trans rfl; have hcz30_1 : w28.cell? ⟨gb296, 1, none⟩ = some (.int .i64 0) := (blk_cell BK296.out 1).trans rfl; have hcz30_2 : w28.cell? ⟨gb296, 2, none⟩ = some (.int .i64 0) := (blk_cell BK296.out 2).trans rfl; have hcz30_3 : w28.cell? ⟨gb296, 3, none⟩ = some (.int .i64 0) := (blk_cell BK296.out 3).trans rfl; have hfz30_0 := blk_frozen BK296.out 0; have hfz30_1 := blk_frozen BK296.out 1; have hfz30_2 := blk_frozen BK296.out 2; have hfz30_3 := blk_frozen BK296.out 3))
            have n0_ : Aside0 (((((w28.setCell ⟨gb296, 0, none⟩ (.int .i64 t290)).setCell ⟨gb296, 1, none⟩ (.int .i64 t291)).setCell ⟨gb296, 2, none⟩ (.int .i64 a0)).setCell ⟨gb296, 3, none⟩ (.int .i64 a2)).heap[gb295]? = some (.cells #[.int .i64 t290, .int .i64 t291, .int .i64 t292, .int .i64 t293] 36 (0, 0))) := ⟨by (with_reducible repeat (first | refine blk_drewN ?_ _ | refine blk_drew ?_ | refine blk_alloc ?_ _)); refine blk_far ?_ NB295_296.out _; (with_reducible repeat (first | refine blk_drewN ?_ _ | refine blk_drew ?_ | refine blk_alloc ?_ _)); refine blk_far ?_ NB295_296.out _; (with_reducible repeat (first | refine blk_drewN ?_ _ | refine blk_drew ?_ | refine blk_alloc ?_ _)); refine blk_far ?_ NB295_296.out _; (with_reducible repeat (first | refine blk_drewN ?_ _ | refine blk_drew ?_ | refine blk_alloc ?_ _)); refine blk_far ?_ NB295_296.out _; (with_reducible repeat (first | refine blk_drewN ?_ _ | refine blk_drew ?_ | refine blk_alloc ?_ _)); exact BK295.out⟩
            have n1_ : Aside0 (((((w28.setCell ⟨gb296, 0, none⟩ (.int .i64 t290)).setCell ⟨gb296, 1, none⟩ (.int .i64 t291)).setCell ⟨gb296, 2, none⟩ (.int .i64 a0)).setCell ⟨gb296, 3, none⟩ (.int .i64 a2)).heap[gb296]? = some (.cells #[.int .i64 t290, .int .i64 t291, .int .i64 a0, .int .i64 a2] 36 (0, 0))) := ⟨by (with_reducible repeat (first | refine blk_drewN ?_ _ | refine blk_drew ?_ | refine blk_alloc ?_ _)); refine blk_put (cs := #[.int .i64 t290, .int .i64 t291, .int .i64 a0, .int .i64 0]) ?_ 3 _ rfl; (with_reducible repeat (first | refine blk_drewN ?_ _ | refine blk_drew ?_ | refine blk_alloc ?_ _)); refine blk_put (cs := #[.int .i64 t290, .int .i64 t291, .int .i64 0, .int .i64 0]) ?_ 2 _ rfl; (with_reducible repeat (first | refine blk_drewN ?_ _ | refine blk_drew ?_ | refine blk_alloc ?_ _)); refine blk_put (cs := #[.int .i64 t290, .int .i64 0, .int .i64 0, .int .i64 0]) ?_ 1 _ rfl; (with_reducible repeat (first | refine blk_drewN ?_ _ | refine blk_drew ?_ | refine blk_alloc ?_ _)); refine blk_put (cs := #[.int .i64 0, .int .i64 0, .int .i64 0, .int .i64 0]) ?_ 0 _ rfl; (with_reducible repeat (first | refine blk_drewN ?_ _ | refine blk_drew ?_ | refine blk_alloc ?_ _)); exact BK296.out⟩
            have n2_ : Aside0 (Below w.heap.size w ((((w28.setCell ⟨gb296, 0, none⟩ (.int .i64 t290)).setCell ⟨gb296, 1, none⟩ (.int .i64 t291)).setCell ⟨gb296, 2, none⟩ (.int .i64 a0)).setCell ⟨gb296, 3, none⟩ (.int .i64 a2))) := ⟨by repeat (first | (with_reducible first | exact HB.out | apply below_alloc | apply pw_below_drewN | apply below_drew1 | refine below_set ?_ GE295.out | refine below_set ?_ GE296.out) | exact HB.out)⟩
            (try clear BK295)
            (try clear BK296)
            (try clear HB)
            generalize ((((w28.setCell ⟨gb296, 0, none⟩ (.int .i64 t290)).setCell ⟨gb296, 1, none⟩ (.int .i64 t291)).setCell ⟨gb296, 2, none⟩ (.int .i64 a0)).setCell ⟨gb296, 3, none⟩ (.int .i64 a2)) = w31 at n0_ n1_ n2_ ⊢
            have BK295 := n0_
            have BK296 := n1_
            have HB := n2_
            clear n0_ n1_ n2_
            have n0_ := Aside0.mk (blk_drew BK295.out)
            have n1_ := Aside0.mk (blk_drew BK296.out)
            have n2_ := Aside0.mk (below_drew1 HB.out)
            clear BK295
            clear BK296
            clear HB
            have BK295 := n0_
            have BK296 := n1_
            have HB := n2_
            clear n0_ n1_ n2_
            have p297 : 0 ≤ (a2 : Int) := of_decide_eq_true (by first | (with_reducible assumption) | assumption)
            have q297 : a2 < (l1.length : Int) := of_decide_eq_true (by first | (with_reducible assumption) | assumption)
            obtain ⟨ad297, e297, hx297_0, hx297_1, hx297_2, hx297_3, hx297_4, hx297_5, hx297_6⟩ := at_T59 HR1.out a2 p297 q297
            have hw297_6 := hx297_6
            have hw297_5 := hx297_5
            have hw297_4 := hx297_4
            have hw297_3 := hx297_3
            have hw297_2 := hx297_2
            have hw297_1 := hx297_1
            have hw297_0 := hx297_0
            cases e297
            replace hx297_0 := (HB.out.cell (World.block_lt_of_cell? w _ hx297_0)).trans hx297_0
            replace hx297_1 := (HB.out.cell (World.block_lt_of_cell? w _ hx297_1)).trans hx297_1
            replace hx297_2 := (HB.out.cell (World.block_lt_of_cell? w _ hx297_2)).trans hx297_2
            replace hx297_3 := (HB.out.cell (World.block_lt_of_cell? w _ hx297_3)).trans hx297_3
            replace hx297_4 := (HB.out.cell (World.block_lt_of_cell? w _ hx297_4)).trans hx297_4
            replace hx297_5 := (HB.out.cell (World.block_lt_of_cell? w _ hx297_5)).trans hx297_5
            replace hx297_6 := (HB.out.cell (World.block_lt_of_cell? w _ hx297_6)).trans hx297_6
            replace p297 := eq_true p297
            replace q297 := eq_true q297
            have p299 : 0 ≤ (a2 : Int) := of_decide_eq_true (by first | (with_reducible assumption) | assumption)
            have q299 : a2 < (l1.length : Int) := of_decide_eq_true (by first | (with_reducible assumption) | assumption)
            obtain ⟨ad299, e299, hx299_0, hx299_1, hx299_2, hx299_3, hx299_4, hx299_5, hx299_6⟩ := at_T59 HR1.out a2 p299 q299
            have hw299_6 := hx299_6
            have hw299_5 := hx299_5
            have hw299_4 := hx299_4
            have hw299_3 := hx299_3
            have hw299_2 := hx299_2
            have hw299_1 := hx299_1
            have hw299_0 := hx299_0
            obtain rfl : ad297 = ad299 := (by injection e299)
            replace hx299_0 := (HB.out.cell (World.block_lt_of_cell? w _ hx299_0)).trans hx299_0
            replace hx299_1 := (HB.out.cell (World.block_lt_of_cell? w _ hx299_1)).trans hx299_1
            replace hx299_2 := (HB.out.cell (World.block_lt_of_cell? w _ hx299_2)).trans hx299_2
            replace hx299_3 := (HB.out.cell (World.block_lt_of_cell? w _ hx299_3)).trans hx299_3
            replace hx299_4 := (HB.out.cell (World.block_lt_of_cell? w _ hx299_4)).trans hx299_4
            replace hx299_5 := (HB.out.cell (World.block_lt_of_cell? w _ hx299_5)).trans hx299_5
            replace hx299_6 := (HB.out.cell (World.block_lt_of_cell? w _ hx299_6)).trans hx299_6
            replace p299 := eq_true p299
            replace q299 := eq_true q299
            refine start_ (n := 16) (S := fun w' => w'.cell? ⟨gb296, 0, none⟩ = some (.int .i64 t290) ∧ w'.cell? ⟨gb296, 1, none⟩ = some (.int .i64 t291) ∧ w'.cell? ⟨gb296, 2, none⟩ = some (.int .i64 a0) ∧ w'.cell? ⟨gb296, 3, none⟩ = some (.int .i64 a2) ∧ w'.cell? (ad297.add ((a2).toNat * 7)) = some (.int .i64 ((rd_T59 l1 a2).f0.f0)) ∧ w'.cell? ⟨(ad297.add ((a2).toNat * 7)).block, (ad297.add ((a2).toNat * 7)).off + 1, none⟩ = some (.int .i64 ((rd_T59 l1 a2).f0.f1)) ∧ w'.cell? ⟨(ad297.add ((a2).toNat * 7)).block, (ad297.add ((a2).toNat * 7)).off + 2, none⟩ = some (.int .i64 ((rd_T59 l1 a2).f0.f2)) ∧ w'.cell? ⟨(ad297.add ((a2).toNat * 7)).block, (ad297.add ((a2).toNat * 7)).off + 3, none⟩ = some (.int .i64 ((rd_T59 l1 a2).f0.f3)) ∧ w'.cell? ⟨(ad297.add ((a2).toNat * 7)).block, (ad297.add ((a2).toNat * 7)).off + 4, none⟩ = some (.int .i64 ((rd_T59 l1 a2).f1)) ∧ w'.cell? ⟨(ad297.add ((a2).toNat * 7)).block, (ad297.add ((a2).toNat * 7)).off + 5, none⟩ = some (.int .i64 ((rd_T59 l1 a2).f2)) ∧ w'.cell? ⟨(ad297.add ((a2).toNat * 7)).block, (ad297.add ((a2).toNat * 7)).off + 6, none⟩ = some (.bool ((rd_T59 l1 a2).f3)) ∧ w'.cell? (ad297.add ((a2).toNat * 7)) = some (.int .i64 ((rd_T59 l1 a2).f0.f0)) ∧ w'.cell? ⟨(ad297.add ((a2).toNat * 7)).block, (ad297.add ((a2).toNat * 7)).off + 1, none⟩ = some (.int .i64 ((rd_T59 l1 a2).f0.f1)) ∧ w'.cell? ⟨(ad297.add ((a2).toNat * 7)).block, (ad297.add ((a2).toNat * 7)).off + 2, none⟩ = some (.int .i64 ((rd_T59 l1 a2).f0.f2)) ∧ w'.cell? ⟨(ad297.add ((a2).toNat * 7)).block, (ad297.add ((a2).toNat * 7)).off + 3, none⟩ = some (.int .i64 ((rd_T59 l1 a2).f0.f3)) ∧ w'.cell? ⟨(ad297.add ((a2).toNat * 7)).block, (ad297.add ((a2).toNat * 7)).off + 4, none⟩ = some (.int .i64 ((rd_T59 l1 a2).f1)) ∧ w'.cell? ⟨(ad297.add ((a2).toNat * 7)).block, (ad297.add ((a2).toNat * 7)).off + 5, none⟩ = some (.int .i64 ((rd_T59 l1 a2).f2)) ∧ w'.cell? ⟨(ad297.add ((a2).toNat * 7)).block, (ad297.add ((a2).toNat * 7)).off + 6, none⟩ = some (.bool ((rd_T59 l1 a2).f3))) (ds := []) #[false, false, false, false, false, false, false, false, false, false, false, false, false, false, false, false] (by kernel_rfl) rfl rfl ⟨(blk_cell BK296.out 0).trans rfl, (blk_cell BK296.out 1).trans rfl, (blk_cell BK296.out 2).trans rfl, (blk_cell BK296.out 3).trans rfl, ((HB.out.cell (World.block_lt_of_cell? w _ hw297_0)).trans hw297_0), ((HB.out.cell (World.block_lt_of_cell? w _ hw297_1)).trans hw297_1), ((HB.out.cell (World.block_lt_of_cell? w _ hw297_2)).trans hw297_2), ((HB.out.cell (World.block_lt_of_cell? w _ hw297_3)).trans hw297_3), ((HB.out.cell (World.block_lt_of_cell? w _ hw297_4)).trans hw297_4), ((HB.out.cell (World.block_lt_of_cell? w _ hw297_5)).trans hw297_5), ((HB.out.cell (World.block_lt_of_cell? w _ hw297_6)).trans hw297_6), ((HB.out.cell (World.block_lt_of_cell? w _ hw299_0)).trans hw299_0), ((HB.out.cell (World.block_lt_of_cell? w _ hw299_1)).trans hw299_1), ((HB.out.cell (World.block_lt_of_cell? w _ hw299_2)).trans hw299_2), ((HB.out.cell (World.block_lt_of_cell? w _ hw299_3)).trans hw299_3), ((HB.out.cell (World.block_lt_of_cell? w _ hw299_4)).trans hw299_4), ((HB.out.cell (World.block_lt_of_cell? w _ hw299_5)).trans hw299_5), ((HB.out.cell (World.block_lt_of_cell? w _ hw299_6)).trans hw299_6)⟩ (fun hHeld => ?_); refine with_tabW kissgateref10_Role.tab5 kissgateref10_Role.bits5 (fun HT_ HW_ => ?_)
            generalize w31.drew = w32 at BK295 BK296 HB hx297_0 hx297_1 hx297_2 hx297_3 hx297_4 hx297_5 hx297_6 hx299_0 hx299_1 hx299_2 hx299_3 hx299_4 hx299_5 hx299_6 hHeld ⊢
            refine pure_ (i := 0) (N := some 26) (v := ?_) (a' := ?_) #[true, false, false, false, false, false, false, false, false, false, false, false, false, false, false, false] rfl rfl (any_of HT_.out (by kernel_rfl)) (fun _ _ _ h => h) (Or.inl ⟨by rfl, ?_⟩) ?_ ?_
            rotate_left
            · intro w'
              go_simp
              with_reducible rfl
            rotate_left
            · simp only [Act.put, List.setIfInBounds_toArray, List.set_cons_zero, List.set_cons_succ, i64_w, i32_w]
              rfl
            refine pure_ (i := 1) (N := some 27) (v := ?_) (a' := ?_) #[true, true, false, false, false, false, false, false, false, false, false, false, false, false, false, false] rfl rfl (any_of HT_.out (by kernel_rfl)) (fun _ _ _ h => h) (Or.inl ⟨by rfl, ?_⟩) ?_ ?_
            rotate_left
            · intro w'
              go_simp
              with_reducible rfl
            rotate_left
            · simp only [Act.put, List.setIfInBounds_toArray, List.set_cons_zero, List.set_cons_succ, i64_w, i32_w]
              rfl
            refine pure_ (i := 2) (N := some 28) (v := ?_) (a' := ?_) #[true, true, true, false, false, false, false, false, false, false, false, false, false, false, false, false] rfl rfl (any_of HT_.out (by kernel_rfl)) (fun _ _ _ h => h) (Or.inl ⟨by rfl, ?_⟩) ?_ ?_
            rotate_left
            · intro w'
              go_simp
              with_reducible rfl
            rotate_left
            · simp only [Act.put, List.setIfInBounds_toArray, List.set_cons_zero, List.set_cons_succ, i64_w, i32_w]
              rfl
            refine pure_ (i := 4) (N := some 30) (v := ?_) (a' := ?_) #[true, true, true, false, true, false, false, false, false, false, false, false, false, false, false, false] rfl rfl (any_of HT_.out (by kernel_rfl)) (fun _ _ _ h => h) (Or.inl ⟨by rfl, ?_⟩) ?_ ?_
            rotate_left
            · intro w'
              go_simp
              with_reducible rfl
            rotate_left
            · simp only [Act.put, List.setIfInBounds_toArray, List.set_cons_zero, List.set_cons_succ, i64_w, i32_w]
              rfl
            refine take_ (i := 3) (N := some 29) (v := ?_) (a' := ?_) #[true, true, true, true, true, false, false, false, false, false, false, false, false, false, false, false] rfl rfl (take_ofW HT_.out HW_.out (by kernel_rfl)) (fun _ _ _ h => h) (Or.inl ⟨by rfl, ?_⟩) hHeld ?_ ?_
            rotate_left
            · rintro w' ⟨s0, s1, s2, s3, s4, s5, s6, s7, s8, s9, s10, s11, s12, s13, s14, s15, s16, s17⟩
              go_simp
              with_reducible rfl
            rotate_left
            · simp only [Act.put, List.setIfInBounds_toArray, List.set_cons_zero, List.set_cons_succ, i64_w, i32_w]
              rfl
            refine one_ (i := 5) (N := some 31) #[true, true, true, true, true, true, false, false, false, false, false, false, false, false, false, false] rfl rfl (one_of HT_.out (by kernel_rfl)) (by decide) (fun K hK => ?_)
            refine goes_ Tryd.func62 (by kernel_rfl) rfl #[.agg #[.int .i64 ((rd_T59 l1 a2).f0.f0), .int .i64 ((rd_T59 l1 a2).f0.f1), .int .i64 ((rd_T59 l1 a2).f0.f2), .int .i64 ((rd_T59 l1 a2).f0.f3), .int .i64 ((rd_T59 l1 a2).f1), .int .i64 ((rd_T59 l1 a2).f2), .bool ((rd_T59 l1 a2).f3)], .int .i64 a0] (by rfl) rfl rfl (by (try simp only [List.map_toArray, List.map_cons, List.map_nil]); first | done | rfl | (simp only [List.length_drop, List.length_take]; rfl)) ?_
            with_reducible refine (kissgateref10_Use.calls ((rd_T59 l1 a2).f0.f0) ((rd_T59 l1 a2).f0.f1) ((rd_T59 l1 a2).f0.f2) ((rd_T59 l1 a2).f0.f3) ((rd_T59 l1 a2).f1) ((rd_T59 l1 a2).f2) ((rd_T59 l1 a2).f3) a0 true _ A11.out).mono ?_
            rintro e w33 ⟨rfl, hb⟩
            refine ⟨_, rfl, ?_⟩
            have n0_ := Aside0.mk (blk_below (g := gb295) (o := .cells #[.int .i64 t290, .int .i64 t291, .int .i64 t292, .int .i64 t293] 36 (0, 0)) (by (with_reducible repeat (first | refine blk_drewN ?_ _ | refine blk_drew ?_ | refine blk_alloc ?_ _)); exact BK295.out) hb)
            have n1_ := Aside0.mk (blk_below (g := gb296) (o := .cells #[.int .i64 t290, .int .i64 t291, .int .i64 a0, .int .i64 a2] 36 (0, 0)) (by (with_reducible repeat (first | refine blk_drewN ?_ _ | refine blk_drew ?_ | refine blk_alloc ?_ _)); exact BK296.out) hb)
            have n2_ := Aside0.mk (below_step (by repeat (first | (with_reducible first | exact HB.out | apply below_alloc | apply pw_below_drewN | apply below_drew1 | refine below_set ?_ GE295.out | refine below_set ?_ GE296.out) | exact HB.out)) hb)
            clear BK295
            clear BK296
            clear HB
            have BK295 := n0_
            have BK296 := n1_
            have HB := n2_
            clear n0_ n1_ n2_
            (try clear hb)
            (try clear hb2)
            (try clear hk)
            (try clear hi)
            refine hK.out _ _ ⟨(blk_cell BK296.out 0).trans rfl, (blk_cell BK296.out 1).trans rfl, (blk_cell BK296.out 2).trans rfl, (blk_cell BK296.out 3).trans rfl, ((HB.out.cell (World.block_lt_of_cell? w _ hw297_0)).trans hw297_0), ((HB.out.cell (World.block_lt_of_cell? w _ hw297_1)).trans hw297_1), ((HB.out.cell (World.block_lt_of_cell? w _ hw297_2)).trans hw297_2), ((HB.out.cell (World.block_lt_of_cell? w _ hw297_3)).trans hw297_3), ((HB.out.cell (World.block_lt_of_cell? w _ hw297_4)).trans hw297_4), ((HB.out.cell (World.block_lt_of_cell? w _ hw297_5)).trans hw297_5), ((HB.out.cell (World.block_lt_of_cell? w _ hw297_6)).trans hw297_6), ((HB.out.cell (World.block_lt_of_cell? w _ hw299_0)).trans hw299_0), ((HB.out.cell (World.block_lt_of_cell? w _ hw299_1)).trans hw299_1), ((HB.out.cell (World.block_lt_of_cell? w _ hw299_2)).trans hw299_2), ((HB.out.cell (World.block_lt_of_cell? w _ hw299_3)).trans hw299_3), ((HB.out.cell (World.block_lt_of_cell? w _ hw299_4)).trans hw299_4), ((HB.out.cell (World.block_lt_of_cell? w _ hw299_5)).trans hw299_5), ((HB.out.cell (World.block_lt_of_cell? w _ hw299_6)).trans hw299_6)⟩ (fun hHeld => ?_)
            clear hK K
            refine norm_ (a' := ?_) ?_ ?_
            rotate_left
            · show Act.put _ (some 31) _ = _
              simp only [Act.put, List.setIfInBounds_toArray, List.set_cons_zero, List.set_cons_succ, i64_w, i32_w]
              rfl
            refine pure_ (i := 6) (N := some 32) (v := ?_) (a' := ?_) #[true, true, true, true, true, true, true, false, false, false, false, false, false, false, false, false] rfl rfl (any_of HT_.out (by kernel_rfl)) (fun _ _ _ h => h) (Or.inl ⟨by rfl, ?_⟩) ?_ ?_
            rotate_left
            · intro w'
              go_simp
              with_reducible rfl
            rotate_left
            · simp only [Act.put, List.setIfInBounds_toArray, List.set_cons_zero, List.set_cons_succ, i64_w, i32_w]
              rfl
            refine pure_ (i := 7) (N := some 33) (v := ?_) (a' := ?_) #[true, true, true, true, true, true, true, true, false, false, false, false, false, false, false, false] rfl rfl (any_of HT_.out (by kernel_rfl)) (fun _ _ _ h => h) (Or.inl ⟨by rfl, ?_⟩) ?_ ?_
            rotate_left
            · intro w'
              go_simp
              with_reducible rfl
            rotate_left
            · simp only [Act.put, List.setIfInBounds_toArray, List.set_cons_zero, List.set_cons_succ, i64_w, i32_w]
              rfl
            refine pure_ (i := 9) (N := some 35) (v := ?_) (a' := ?_) #[true, true, true, true, true, true, true, true, false, true, false, false, false, false, false, false] rfl rfl (any_of HT_.out (by kernel_rfl)) (fun _ _ _ h => h) (Or.inl ⟨by rfl, ?_⟩) ?_ ?_
            rotate_left
            · intro w'
              go_simp
              with_reducible rfl
            rotate_left
            · simp only [Act.put, List.setIfInBounds_toArray, List.set_cons_zero, List.set_cons_succ, i64_w, i32_w]
              rfl
            refine pure_ (i := 10) (N := some 36) (v := ?_) (a' := ?_) #[true, true, true, true, true, true, true, true, false, true, true, false, false, false, false, false] rfl rfl (any_of HT_.out (by kernel_rfl)) (fun _ _ _ h => h) (Or.inl ⟨by rfl, ?_⟩) ?_ ?_
            rotate_left
            · intro w'
              go_simp
              with_reducible rfl
            rotate_left
            · simp only [Act.put, List.setIfInBounds_toArray, List.set_cons_zero, List.set_cons_succ, i64_w, i32_w]
              rfl
            refine pure_ (i := 11) (N := some 37) (v := ?_) (a' := ?_) #[true, true, true, true, true, true, true, true, false, true, true, true, false, false, false, false] rfl rfl (any_of HT_.out (by kernel_rfl)) (fun _ _ _ h => h) (Or.inl ⟨by rfl, ?_⟩) ?_ ?_
            rotate_left
            · intro w'
              go_simp
              with_reducible rfl
            rotate_left
            · simp only [Act.put, List.setIfInBounds_toArray, List.set_cons_zero, List.set_cons_succ, i64_w, i32_w]
              rfl
            refine pure_ (i := 12) (N := some 38) (v := ?_) (a' := ?_) #[true, true, true, true, true, true, true, true, false, true, true, true, true, false, false, false] rfl rfl (any_of HT_.out (by kernel_rfl)) (fun _ _ _ h => h) (Or.inl ⟨by rfl, ?_⟩) ?_ ?_
            rotate_left
            · intro w'
              go_simp
              with_reducible rfl
            rotate_left
            · simp only [Act.put, List.setIfInBounds_toArray, List.set_cons_zero, List.set_cons_succ, i64_w, i32_w]
              rfl
            refine take_ (i := 8) (N := some 34) (v := ?_) (a' := ?_) #[true, true, true, true, true, true, true, true, true, true, true, true, true, false, false, false] rfl rfl (take_ofW HT_.out HW_.out (by kernel_rfl)) (fun _ _ _ h => h) (Or.inl ⟨by rfl, ?_⟩) hHeld ?_ ?_
            rotate_left
            · rintro w' ⟨s0, s1, s2, s3, s4, s5, s6, s7, s8, s9, s10, s11, s12, s13, s14, s15, s16, s17⟩
              go_simp
              with_reducible rfl
            rotate_left
            · simp only [Act.put, List.setIfInBounds_toArray, List.set_cons_zero, List.set_cons_succ, i64_w, i32_w]
              rfl
            refine take_ (i := 13) (N := some 39) (v := ?_) (a' := ?_) #[true, true, true, true, true, true, true, true, true, true, true, true, true, true, false, false] rfl rfl (take_ofW HT_.out HW_.out (by kernel_rfl)) (fun _ _ _ h => h) (Or.inl ⟨by rfl, ?_⟩) hHeld ?_ ?_
            rotate_left
            · rintro w' ⟨s0, s1, s2, s3, s4, s5, s6, s7, s8, s9, s10, s11, s12, s13, s14, s15, s16, s17⟩
              go_simp
              with_reducible rfl
            rotate_left
            · simp only [Act.put, List.setIfInBounds_toArray, List.set_cons_zero, List.set_cons_succ, i64_w, i32_w]
              rfl
            refine one_ (i := 14) (N := some 40) #[true, true, true, true, true, true, true, true, true, true, true, true, true, true, true, false] rfl rfl (one_of HT_.out (by kernel_rfl)) (by decide) (fun K hK => ?_)
            refine goes_ Tryd.func57 (by kernel_rfl) rfl #[.agg #[.int .i64 t290, .int .i64 t291, .int .i64 a0, .int .i64 a2], .agg #[.int .i64 ((rd_T59 l1 a2).f0.f0), .int .i64 ((rd_T59 l1 a2).f0.f1), .int .i64 ((rd_T59 l1 a2).f0.f2), .int .i64 ((rd_T59 l1 a2).f0.f3)]] (by rfl) rfl rfl (by (try simp only [List.map_toArray, List.map_cons, List.map_nil]); first | done | rfl | (simp only [List.length_drop, List.length_take]; rfl)) ?_
            with_reducible refine (kissgateref10_Better.calls t290 t291 a0 a2 ((rd_T59 l1 a2).f0.f0) ((rd_T59 l1 a2).f0.f1) ((rd_T59 l1 a2).f0.f2) ((rd_T59 l1 a2).f0.f3) false _ A13.out).mono ?_
            rintro e w34 ⟨rfl, hb⟩
            refine ⟨_, rfl, ?_⟩
            have n0_ := Aside0.mk (blk_below (g := gb295) (o := .cells #[.int .i64 t290, .int .i64 t291, .int .i64 t292, .int .i64 t293] 36 (0, 0)) (by (with_reducible repeat (first | refine blk_drewN ?_ _ | refine blk_drew ?_ | refine blk_alloc ?_ _)); exact BK295.out) hb)
            have n1_ := Aside0.mk (blk_below (g := gb296) (o := .cells #[.int .i64 t290, .int .i64 t291, .int .i64 a0, .int .i64 a2] 36 (0, 0)) (by (with_reducible repeat (first | refine blk_drewN ?_ _ | refine blk_drew ?_ | refine blk_alloc ?_ _)); exact BK296.out) hb)
            have n2_ := Aside0.mk (below_step (by repeat (first | (with_reducible first | exact HB.out | apply below_alloc | apply pw_below_drewN | apply below_drew1 | refine below_set ?_ GE295.out | refine below_set ?_ GE296.out) | exact HB.out)) hb)
            clear BK295
            clear BK296
            clear HB
            have BK295 := n0_
            have BK296 := n1_
            have HB := n2_
            clear n0_ n1_ n2_
            (try clear hb)
            (try clear hb2)
            (try clear hk)
            (try clear hi)
            refine hK.out _ _ ⟨(blk_cell BK296.out 0).trans rfl, (blk_cell BK296.out 1).trans rfl, (blk_cell BK296.out 2).trans rfl, (blk_cell BK296.out 3).trans rfl, ((HB.out.cell (World.block_lt_of_cell? w _ hw297_0)).trans hw297_0), ((HB.out.cell (World.block_lt_of_cell? w _ hw297_1)).trans hw297_1), ((HB.out.cell (World.block_lt_of_cell? w _ hw297_2)).trans hw297_2), ((HB.out.cell (World.block_lt_of_cell? w _ hw297_3)).trans hw297_3), ((HB.out.cell (World.block_lt_of_cell? w _ hw297_4)).trans hw297_4), ((HB.out.cell (World.block_lt_of_cell? w _ hw297_5)).trans hw297_5), ((HB.out.cell (World.block_lt_of_cell? w _ hw297_6)).trans hw297_6), ((HB.out.cell (World.block_lt_of_cell? w _ hw299_0)).trans hw299_0), ((HB.out.cell (World.block_lt_of_cell? w _ hw299_1)).trans hw299_1), ((HB.out.cell (World.block_lt_of_cell? w _ hw299_2)).trans hw299_2), ((HB.out.cell (World.block_lt_of_cell? w _ hw299_3)).trans hw299_3), ((HB.out.cell (World.block_lt_of_cell? w _ hw299_4)).trans hw299_4), ((HB.out.cell (World.block_lt_of_cell? w _ hw299_5)).trans hw299_5), ((HB.out.cell (World.block_lt_of_cell? w _ hw299_6)).trans hw299_6)⟩ (fun hHeld => ?_)
            clear hK K
            refine norm_ (a' := ?_) ?_ ?_
            rotate_left
            · show Act.put _ (some 40) _ = _
              simp only [Act.put, List.setIfInBounds_toArray, List.set_cons_zero, List.set_cons_succ, i64_w, i32_w]
              rfl
            refine pure_ (i := 15) (N := some 41) (v := ?_) (a' := ?_) #[true, true, true, true, true, true, true, true, true, true, true, true, true, true, true, true] rfl rfl (any_of HT_.out (by kernel_rfl)) (fun _ _ _ h => h) (Or.inl ⟨by rfl, ?_⟩) ?_ ?_
            rotate_left
            · intro w'
              go_simp
              with_reducible rfl
            rotate_left
            · simp only [Act.put, List.setIfInBounds_toArray, List.set_cons_zero, List.set_cons_succ, i64_w, i32_w]
              rfl
            refine done_ (done_of HT_.out (by kernel_rfl)) ?_
            try go_wp2
            go_ret
            exact ⟨by first | rfl | (simp [errW_none, errW_some] <;> rfl) | (simp [*, errW_none, errW_some] <;> rfl), by repeat (first | (with_reducible first | exact HB.out | apply below_alloc | apply pw_below_drewN | apply below_drew1 | refine below_set ?_ GE295.out | refine below_set ?_ GE296.out) | exact HB.out)⟩
        · replace c12 := Bool.eq_false_iff.mpr c12
          subst c12
          have H1 : (some 2) = some r := by rw [if_neg (show ¬ (false = true) by decide)] at H; exact H
          clear H
          have H := H1
          clear H1
          obtain rfl := Option.some.inj H
          go_enter Tryd.func53, Tryd.ntmps53
          try go_wp2_with (first | ((with_reducible refine gate_callee (f := 56) rfl ?_); refine goesL_ (some 13) rfl rfl Tryd.func56 (by kernel_rfl) rfl #[.int .i64 a0, .slice A1 l1.length c1] rfl (by (try simp only [List.map_toArray, List.map_cons, List.map_nil]); first | done | rfl | (simp only [List.length_drop, List.length_take]; rfl)) ?_; (with_reducible refine (kissgateref10_Best.calls k a0 _ _ l1 t290 t291 t292 t293 t294 _ ?side1 ?side2 A4.out).mono ?_); (case side1 => repeat (first | exact HR1.out | (with_reducible refine Kd.C_alloc ?_ _) | (with_reducible refine Kd.C_drewN ?_ _) | (with_reducible refine Kd.C_drew ?_))); (case side2 => exact HC1.out); rintro e w35 ⟨rfl, hb⟩; refine ⟨_, rfl, ?_⟩; have n0_ := Aside0.mk (below_step (by repeat (first | (with_reducible first | exact HB.out | apply below_alloc | apply pw_below_drewN | apply below_drew1) | exact HB.out)) hb); clear HB; have HB := n0_; clear n0_; (try clear hb); (try clear hb2); (try clear hk); (try clear hi)) | ((with_reducible refine gate_dst (N := 7) rfl ?_); refine box_event ?hg (N := 7) ?hd (cs := #[.int .i64 0, .int .i64 0, .int .i64 0, .int .i64 0]) (t := 36) ?hr ?_; (case hd => rfl); (case hg => rfl); (case hr => first | (go_simp; done) | (go_simp; rfl)); intro gb295 hg w36 hbox hb; have n0_ := Aside0.mk (below_step (by repeat (first | (with_reducible first | exact HB.out | apply below_alloc | apply pw_below_drewN | apply below_drew1) | exact HB.out)) hb); have n1_ := Aside0.mk (hbox); have n2_ := Aside0.mk ((by rw [hg]; exact (below_size (by repeat (first | (with_reducible first | exact HB.out | apply below_alloc | apply pw_below_drewN | apply below_drew1) | exact HB.out))) : w.heap.size ≤ gb295)); have n3_ := Aside0.mk ((by rw [hg]; exact (below_size (by repeat (first | (with_reducible first | exact HB.out | apply below_alloc | apply pw_below_drewN | apply below_drew1) | exact HB.out))) : w.heap.size ≤ gb295)); clear HB; have HB := n0_; have BK295 := n1_; have GW295 := n2_; have GE295 := n3_; clear n0_ n1_ n2_ n3_; clear hb hbox hg; have hcz37_0 : w36.cell? ⟨gb295, 0, none⟩ = some (.int .i64 0) := (blk_cell BK295.out 0).trans rfl; have hcz37_1 : w36.cell? ⟨gb295, 1, none⟩ = some (.int .i64 0) := (blk_cell BK295.out 1).trans rfl; have hcz37_2 : w36.cell? ⟨gb295, 2, none⟩ = some (.int .i64 0) := (blk_cell BK295.out 2).trans rfl; have hcz37_3 : w36.cell? ⟨gb295, 3, none⟩ = some (.int .i64 0) := (blk_cell BK295.out 3).trans rfl; have hfz37_0 := blk_frozen BK295.out 0; have hfz37_1 := blk_frozen BK295.out 1; have hfz37_2 := blk_frozen BK295.out 2; have hfz37_3 := blk_frozen BK295.out 3) | ((with_reducible refine gate_dst (N := 9) rfl ?_); refine box_event ?hg (N := 9) ?hd (cs := #[.int .i64 0, .int .i64 0, .int .i64 0, .int .i64 0]) (t := 36) ?hr ?_; (case hd => rfl); (case hg => rfl); (case hr => first | (go_simp; done) | (go_simp; rfl)); intro gb296 hg w38 hbox hb; have n0_ := Aside0.mk (blk_below (g := gb295) (o := .cells #[.int .i64 t290, .int .i64 t291, .int .i64 t292, .int .i64 t293] 36 (0, 0)) (by (with_reducible repeat (first | refine blk_drewN ?_ _ | refine blk_drew ?_ | refine blk_alloc ?_ _)); refine blk_put (cs := #[.int .i64 t290, .int .i64 t291, .int .i64 t292, .int .i64 0]) ?_ 3 _ rfl; (with_reducible repeat (first | refine blk_drewN ?_ _ | refine blk_drew ?_ | refine blk_alloc ?_ _)); refine blk_put (cs := #[.int .i64 t290, .int .i64 t291, .int .i64 0, .int .i64 0]) ?_ 2 _ rfl; (with_reducible repeat (first | refine blk_drewN ?_ _ | refine blk_drew ?_ | refine blk_alloc ?_ _)); refine blk_put (cs := #[.int .i64 t290, .int .i64 0, .int .i64 0, .int .i64 0]) ?_ 1 _ rfl; (with_reducible repeat (first | refine blk_drewN ?_ _ | refine blk_drew ?_ | refine blk_alloc ?_ _)); refine blk_put (cs := #[.int .i64 0, .int .i64 0, .int .i64 0, .int .i64 0]) ?_ 0 _ rfl; (with_reducible repeat (first | refine blk_drewN ?_ _ | refine blk_drew ?_ | refine blk_alloc ?_ _)); exact BK295.out) hb); have n1_ := Aside0.mk (below_step (by repeat (first | (with_reducible first | exact HB.out | apply below_alloc | apply pw_below_drewN | apply below_drew1 | refine below_set ?_ GE295.out) | exact HB.out)) hb); have n2_ := Aside0.mk (hbox); have n3_ := Aside0.mk ((by rw [hg]; exact (below_size (by repeat (first | (with_reducible first | exact HB.out | apply below_alloc | apply pw_below_drewN | apply below_drew1 | refine below_set ?_ GE295.out) | exact HB.out))) : w.heap.size ≤ gb296)); have n4_ := Aside0.mk ((by rw [hg]; exact (below_size (by repeat (first | (with_reducible first | exact HB.out | apply below_alloc | apply pw_below_drewN | apply below_drew1 | refine below_set ?_ GE295.out) | exact HB.out))) : w.heap.size ≤ gb296)); have n5_ := Aside0.mk ((by rw [hg]; exact Nat.ne_of_lt (blk_lt (g := gb295) (o := .cells #[.int .i64 t290, .int .i64 t291, .int .i64 t292, .int .i64 t293] 36 (0, 0)) (by (with_reducible repeat (first | refine blk_drewN ?_ _ | refine blk_drew ?_ | refine blk_alloc ?_ _)); refine blk_put (cs := #[.int .i64 t290, .int .i64 t291, .int .i64 t292, .int .i64 0]) ?_ 3 _ rfl; (with_reducible repeat (first | refine blk_drewN ?_ _ | refine blk_drew ?_ | refine blk_alloc ?_ _)); refine blk_put (cs := #[.int .i64 t290, .int .i64 t291, .int .i64 0, .int .i64 0]) ?_ 2 _ rfl; (with_reducible repeat (first | refine blk_drewN ?_ _ | refine blk_drew ?_ | refine blk_alloc ?_ _)); refine blk_put (cs := #[.int .i64 t290, .int .i64 0, .int .i64 0, .int .i64 0]) ?_ 1 _ rfl; (with_reducible repeat (first | refine blk_drewN ?_ _ | refine blk_drew ?_ | refine blk_alloc ?_ _)); refine blk_put (cs := #[.int .i64 0, .int .i64 0, .int .i64 0, .int .i64 0]) ?_ 0 _ rfl; (with_reducible repeat (first | refine blk_drewN ?_ _ | refine blk_drew ?_ | refine blk_alloc ?_ _)); exact BK295.out)) : gb295 ≠ gb296)); have n6_ := Aside0.mk ((by rw [hg]; exact Nat.ne_of_gt (blk_lt (g := gb295) (o := .cells #[.int .i64 t290, .int .i64 t291, .int .i64 t292, .int .i64 t293] 36 (0, 0)) (by (with_reducible repeat (first | refine blk_drewN ?_ _ | refine blk_drew ?_ | refine blk_alloc ?_ _)); refine blk_put (cs := #[.int .i64 t290, .int .i64 t291, .int .i64 t292, .int .i64 0]) ?_ 3 _ rfl; (with_reducible repeat (first | refine blk_drewN ?_ _ | refine blk_drew ?_ | refine blk_alloc ?_ _)); refine blk_put (cs := #[.int .i64 t290, .int .i64 t291, .int .i64 0, .int .i64 0]) ?_ 2 _ rfl; (with_reducible repeat (first | refine blk_drewN ?_ _ | refine blk_drew ?_ | refine blk_alloc ?_ _)); refine blk_put (cs := #[.int .i64 t290, .int .i64 0, .int .i64 0, .int .i64 0]) ?_ 1 _ rfl; (with_reducible repeat (first | refine blk_drewN ?_ _ | refine blk_drew ?_ | refine blk_alloc ?_ _)); refine blk_put (cs := #[.int .i64 0, .int .i64 0, .int .i64 0, .int .i64 0]) ?_ 0 _ rfl; (with_reducible repeat (first | refine blk_drewN ?_ _ | refine blk_drew ?_ | refine blk_alloc ?_ _)); exact BK295.out)) : gb296 ≠ gb295)); clear BK295; clear HB; have BK295 := n0_; have HB := n1_; have BK296 := n2_; have GW296 := n3_; have GE296 := n4_; have NB295_296 := n5_; have NB296_295 := n6_; clear n0_ n1_ n2_ n3_ n4_ n5_ n6_; clear hb hbox hg; have hnb39 := NB296_295.out; have hnc39 := NB295_296.out; have hcz40_0 : w38.cell? ⟨gb296, 0, none⟩ = some (.int .i64 0) := (blk_cell BK296.out 0).trans rfl; have hcz40_1 : w38.cell? ⟨gb296, 1, none⟩ = some (.int .i64 0) := (blk_cell BK296.out 1).trans rfl; have hcz40_2 : w38.cell? ⟨gb296, 2, none⟩ = some (.int .i64 0) := (blk_cell BK296.out 2).trans rfl; have hcz40_3 : w38.cell? ⟨gb296, 3, none⟩ = some (.int .i64 0) := (blk_cell BK296.out 3).trans rfl; have hfz40_0 := blk_frozen BK296.out 0; have hfz40_1 := blk_frozen BK296.out 1; have hfz40_2 := blk_frozen BK296.out 2; have hfz40_3 := blk_frozen BK296.out 3))
          have n0_ : Aside0 (((((w38.setCell ⟨gb296, 0, none⟩ (.int .i64 t290)).setCell ⟨gb296, 1, none⟩ (.int .i64 t291)).setCell ⟨gb296, 2, none⟩ (.int .i64 a0)).setCell ⟨gb296, 3, none⟩ (.int .i64 a2)).heap[gb295]? = some (.cells #[.int .i64 t290, .int .i64 t291, .int .i64 t292, .int .i64 t293] 36 (0, 0))) := ⟨by (with_reducible repeat (first | refine blk_drewN ?_ _ | refine blk_drew ?_ | refine blk_alloc ?_ _)); refine blk_far ?_ NB295_296.out _; (with_reducible repeat (first | refine blk_drewN ?_ _ | refine blk_drew ?_ | refine blk_alloc ?_ _)); refine blk_far ?_ NB295_296.out _; (with_reducible repeat (first | refine blk_drewN ?_ _ | refine blk_drew ?_ | refine blk_alloc ?_ _)); refine blk_far ?_ NB295_296.out _; (with_reducible repeat (first | refine blk_drewN ?_ _ | refine blk_drew ?_ | refine blk_alloc ?_ _)); refine blk_far ?_ NB295_296.out _; (with_reducible repeat (first | refine blk_drewN ?_ _ | refine blk_drew ?_ | refine blk_alloc ?_ _)); exact BK295.out⟩
          have n1_ : Aside0 (((((w38.setCell ⟨gb296, 0, none⟩ (.int .i64 t290)).setCell ⟨gb296, 1, none⟩ (.int .i64 t291)).setCell ⟨gb296, 2, none⟩ (.int .i64 a0)).setCell ⟨gb296, 3, none⟩ (.int .i64 a2)).heap[gb296]? = some (.cells #[.int .i64 t290, .int .i64 t291, .int .i64 a0, .int .i64 a2] 36 (0, 0))) := ⟨by (with_reducible repeat (first | refine blk_drewN ?_ _ | refine blk_drew ?_ | refine blk_alloc ?_ _)); refine blk_put (cs := #[.int .i64 t290, .int .i64 t291, .int .i64 a0, .int .i64 0]) ?_ 3 _ rfl; (with_reducible repeat (first | refine blk_drewN ?_ _ | refine blk_drew ?_ | refine blk_alloc ?_ _)); refine blk_put (cs := #[.int .i64 t290, .int .i64 t291, .int .i64 0, .int .i64 0]) ?_ 2 _ rfl; (with_reducible repeat (first | refine blk_drewN ?_ _ | refine blk_drew ?_ | refine blk_alloc ?_ _)); refine blk_put (cs := #[.int .i64 t290, .int .i64 0, .int .i64 0, .int .i64 0]) ?_ 1 _ rfl; (with_reducible repeat (first | refine blk_drewN ?_ _ | refine blk_drew ?_ | refine blk_alloc ?_ _)); refine blk_put (cs := #[.int .i64 0, .int .i64 0, .int .i64 0, .int .i64 0]) ?_ 0 _ rfl; (with_reducible repeat (first | refine blk_drewN ?_ _ | refine blk_drew ?_ | refine blk_alloc ?_ _)); exact BK296.out⟩
          have n2_ : Aside0 (Below w.heap.size w ((((w38.setCell ⟨gb296, 0, none⟩ (.int .i64 t290)).setCell ⟨gb296, 1, none⟩ (.int .i64 t291)).setCell ⟨gb296, 2, none⟩ (.int .i64 a0)).setCell ⟨gb296, 3, none⟩ (.int .i64 a2))) := ⟨by repeat (first | (with_reducible first | exact HB.out | apply below_alloc | apply pw_below_drewN | apply below_drew1 | refine below_set ?_ GE295.out | refine below_set ?_ GE296.out) | exact HB.out)⟩
          (try clear BK295)
          (try clear BK296)
          (try clear HB)
          generalize ((((w38.setCell ⟨gb296, 0, none⟩ (.int .i64 t290)).setCell ⟨gb296, 1, none⟩ (.int .i64 t291)).setCell ⟨gb296, 2, none⟩ (.int .i64 a0)).setCell ⟨gb296, 3, none⟩ (.int .i64 a2)) = w41 at n0_ n1_ n2_ ⊢
          have BK295 := n0_
          have BK296 := n1_
          have HB := n2_
          clear n0_ n1_ n2_
          have n0_ := Aside0.mk (blk_drew BK295.out)
          have n1_ := Aside0.mk (blk_drew BK296.out)
          have n2_ := Aside0.mk (below_drew1 HB.out)
          clear BK295
          clear BK296
          clear HB
          have BK295 := n0_
          have BK296 := n1_
          have HB := n2_
          clear n0_ n1_ n2_
          have p297 : 0 ≤ (a2 : Int) := of_decide_eq_true (by first | (with_reducible assumption) | assumption)
          have q297 : a2 < (l1.length : Int) := of_decide_eq_true (by first | (with_reducible assumption) | assumption)
          obtain ⟨ad297, e297, hx297_0, hx297_1, hx297_2, hx297_3, hx297_4, hx297_5, hx297_6⟩ := at_T59 HR1.out a2 p297 q297
          have hw297_6 := hx297_6
          have hw297_5 := hx297_5
          have hw297_4 := hx297_4
          have hw297_3 := hx297_3
          have hw297_2 := hx297_2
          have hw297_1 := hx297_1
          have hw297_0 := hx297_0
          cases e297
          replace hx297_0 := (HB.out.cell (World.block_lt_of_cell? w _ hx297_0)).trans hx297_0
          replace hx297_1 := (HB.out.cell (World.block_lt_of_cell? w _ hx297_1)).trans hx297_1
          replace hx297_2 := (HB.out.cell (World.block_lt_of_cell? w _ hx297_2)).trans hx297_2
          replace hx297_3 := (HB.out.cell (World.block_lt_of_cell? w _ hx297_3)).trans hx297_3
          replace hx297_4 := (HB.out.cell (World.block_lt_of_cell? w _ hx297_4)).trans hx297_4
          replace hx297_5 := (HB.out.cell (World.block_lt_of_cell? w _ hx297_5)).trans hx297_5
          replace hx297_6 := (HB.out.cell (World.block_lt_of_cell? w _ hx297_6)).trans hx297_6
          replace p297 := eq_true p297
          replace q297 := eq_true q297
          refine start_ (n := 16) (S := fun w' => w'.cell? (ad297.add ((a2).toNat * 7)) = some (.int .i64 ((rd_T59 l1 a2).f0.f0)) ∧ w'.cell? ⟨(ad297.add ((a2).toNat * 7)).block, (ad297.add ((a2).toNat * 7)).off + 1, none⟩ = some (.int .i64 ((rd_T59 l1 a2).f0.f1)) ∧ w'.cell? ⟨(ad297.add ((a2).toNat * 7)).block, (ad297.add ((a2).toNat * 7)).off + 2, none⟩ = some (.int .i64 ((rd_T59 l1 a2).f0.f2)) ∧ w'.cell? ⟨(ad297.add ((a2).toNat * 7)).block, (ad297.add ((a2).toNat * 7)).off + 3, none⟩ = some (.int .i64 ((rd_T59 l1 a2).f0.f3)) ∧ w'.cell? ⟨(ad297.add ((a2).toNat * 7)).block, (ad297.add ((a2).toNat * 7)).off + 4, none⟩ = some (.int .i64 ((rd_T59 l1 a2).f1)) ∧ w'.cell? ⟨(ad297.add ((a2).toNat * 7)).block, (ad297.add ((a2).toNat * 7)).off + 5, none⟩ = some (.int .i64 ((rd_T59 l1 a2).f2)) ∧ w'.cell? ⟨(ad297.add ((a2).toNat * 7)).block, (ad297.add ((a2).toNat * 7)).off + 6, none⟩ = some (.bool ((rd_T59 l1 a2).f3))) (ds := []) #[false, false, false, false, false, false, false, false, false, false, false, false, false, false, false, false] (by kernel_rfl) rfl rfl ⟨((HB.out.cell (World.block_lt_of_cell? w _ hw297_0)).trans hw297_0), ((HB.out.cell (World.block_lt_of_cell? w _ hw297_1)).trans hw297_1), ((HB.out.cell (World.block_lt_of_cell? w _ hw297_2)).trans hw297_2), ((HB.out.cell (World.block_lt_of_cell? w _ hw297_3)).trans hw297_3), ((HB.out.cell (World.block_lt_of_cell? w _ hw297_4)).trans hw297_4), ((HB.out.cell (World.block_lt_of_cell? w _ hw297_5)).trans hw297_5), ((HB.out.cell (World.block_lt_of_cell? w _ hw297_6)).trans hw297_6)⟩ (fun hHeld => ?_); refine with_tabW kissgateref10_Role.tab5 kissgateref10_Role.bits5 (fun HT_ HW_ => ?_)
          generalize w41.drew = w42 at BK295 BK296 HB hx297_0 hx297_1 hx297_2 hx297_3 hx297_4 hx297_5 hx297_6 hHeld ⊢
          refine pure_ (i := 0) (N := some 26) (v := ?_) (a' := ?_) #[true, false, false, false, false, false, false, false, false, false, false, false, false, false, false, false] rfl rfl (any_of HT_.out (by kernel_rfl)) (fun _ _ _ h => h) (Or.inl ⟨by rfl, ?_⟩) ?_ ?_
          rotate_left
          · intro w'
            go_simp
            with_reducible rfl
          rotate_left
          · simp only [Act.put, List.setIfInBounds_toArray, List.set_cons_zero, List.set_cons_succ, i64_w, i32_w]
            rfl
          refine pure_ (i := 1) (N := some 27) (v := ?_) (a' := ?_) #[true, true, false, false, false, false, false, false, false, false, false, false, false, false, false, false] rfl rfl (any_of HT_.out (by kernel_rfl)) (fun _ _ _ h => h) (Or.inl ⟨by rfl, ?_⟩) ?_ ?_
          rotate_left
          · intro w'
            go_simp
            with_reducible rfl
          rotate_left
          · simp only [Act.put, List.setIfInBounds_toArray, List.set_cons_zero, List.set_cons_succ, i64_w, i32_w]
            rfl
          refine pure_ (i := 2) (N := some 28) (v := ?_) (a' := ?_) #[true, true, true, false, false, false, false, false, false, false, false, false, false, false, false, false] rfl rfl (any_of HT_.out (by kernel_rfl)) (fun _ _ _ h => h) (Or.inl ⟨by rfl, ?_⟩) ?_ ?_
          rotate_left
          · intro w'
            go_simp
            with_reducible rfl
          rotate_left
          · simp only [Act.put, List.setIfInBounds_toArray, List.set_cons_zero, List.set_cons_succ, i64_w, i32_w]
            rfl
          refine pure_ (i := 4) (N := some 30) (v := ?_) (a' := ?_) #[true, true, true, false, true, false, false, false, false, false, false, false, false, false, false, false] rfl rfl (any_of HT_.out (by kernel_rfl)) (fun _ _ _ h => h) (Or.inl ⟨by rfl, ?_⟩) ?_ ?_
          rotate_left
          · intro w'
            go_simp
            with_reducible rfl
          rotate_left
          · simp only [Act.put, List.setIfInBounds_toArray, List.set_cons_zero, List.set_cons_succ, i64_w, i32_w]
            rfl
          refine take_ (i := 3) (N := some 29) (v := ?_) (a' := ?_) #[true, true, true, true, true, false, false, false, false, false, false, false, false, false, false, false] rfl rfl (take_ofW HT_.out HW_.out (by kernel_rfl)) (fun _ _ _ h => h) (Or.inl ⟨by rfl, ?_⟩) hHeld ?_ ?_
          rotate_left
          · rintro w' ⟨s0, s1, s2, s3, s4, s5, s6⟩
            go_simp
            with_reducible rfl
          rotate_left
          · simp only [Act.put, List.setIfInBounds_toArray, List.set_cons_zero, List.set_cons_succ, i64_w, i32_w]
            rfl
          refine one_ (i := 5) (N := some 31) #[true, true, true, true, true, true, false, false, false, false, false, false, false, false, false, false] rfl rfl (one_of HT_.out (by kernel_rfl)) (by decide) (fun K hK => ?_)
          refine goes_ Tryd.func62 (by kernel_rfl) rfl #[.agg #[.int .i64 ((rd_T59 l1 a2).f0.f0), .int .i64 ((rd_T59 l1 a2).f0.f1), .int .i64 ((rd_T59 l1 a2).f0.f2), .int .i64 ((rd_T59 l1 a2).f0.f3), .int .i64 ((rd_T59 l1 a2).f1), .int .i64 ((rd_T59 l1 a2).f2), .bool ((rd_T59 l1 a2).f3)], .int .i64 a0] (by rfl) rfl rfl (by (try simp only [List.map_toArray, List.map_cons, List.map_nil]); first | done | rfl | (simp only [List.length_drop, List.length_take]; rfl)) ?_
          with_reducible refine (kissgateref10_Use.calls ((rd_T59 l1 a2).f0.f0) ((rd_T59 l1 a2).f0.f1) ((rd_T59 l1 a2).f0.f2) ((rd_T59 l1 a2).f0.f3) ((rd_T59 l1 a2).f1) ((rd_T59 l1 a2).f2) ((rd_T59 l1 a2).f3) a0 false _ A11.out).mono ?_
          rintro e w43 ⟨rfl, hb⟩
          refine ⟨_, rfl, ?_⟩
          have n0_ := Aside0.mk (blk_below (g := gb295) (o := .cells #[.int .i64 t290, .int .i64 t291, .int .i64 t292, .int .i64 t293] 36 (0, 0)) (by (with_reducible repeat (first | refine blk_drewN ?_ _ | refine blk_drew ?_ | refine blk_alloc ?_ _)); exact BK295.out) hb)
          have n1_ := Aside0.mk (blk_below (g := gb296) (o := .cells #[.int .i64 t290, .int .i64 t291, .int .i64 a0, .int .i64 a2] 36 (0, 0)) (by (with_reducible repeat (first | refine blk_drewN ?_ _ | refine blk_drew ?_ | refine blk_alloc ?_ _)); exact BK296.out) hb)
          have n2_ := Aside0.mk (below_step (by repeat (first | (with_reducible first | exact HB.out | apply below_alloc | apply pw_below_drewN | apply below_drew1 | refine below_set ?_ GE295.out | refine below_set ?_ GE296.out) | exact HB.out)) hb)
          clear BK295
          clear BK296
          clear HB
          have BK295 := n0_
          have BK296 := n1_
          have HB := n2_
          clear n0_ n1_ n2_
          (try clear hb)
          (try clear hb2)
          (try clear hk)
          (try clear hi)
          refine hK.out _ _ ⟨((HB.out.cell (World.block_lt_of_cell? w _ hw297_0)).trans hw297_0), ((HB.out.cell (World.block_lt_of_cell? w _ hw297_1)).trans hw297_1), ((HB.out.cell (World.block_lt_of_cell? w _ hw297_2)).trans hw297_2), ((HB.out.cell (World.block_lt_of_cell? w _ hw297_3)).trans hw297_3), ((HB.out.cell (World.block_lt_of_cell? w _ hw297_4)).trans hw297_4), ((HB.out.cell (World.block_lt_of_cell? w _ hw297_5)).trans hw297_5), ((HB.out.cell (World.block_lt_of_cell? w _ hw297_6)).trans hw297_6)⟩ (fun hHeld => ?_)
          clear hK K
          refine norm_ (a' := ?_) ?_ ?_
          rotate_left
          · show Act.put _ (some 31) _ = _
            simp only [Act.put, List.setIfInBounds_toArray, List.set_cons_zero, List.set_cons_succ, i64_w, i32_w]
            rfl
          refine pure_ (i := 6) (N := some 32) (v := ?_) (a' := ?_) #[true, true, true, true, true, true, true, false, false, false, false, false, false, false, false, false] rfl rfl (any_of HT_.out (by kernel_rfl)) (fun _ _ _ h => h) (Or.inl ⟨by rfl, ?_⟩) ?_ ?_
          rotate_left
          · intro w'
            go_simp
            with_reducible rfl
          rotate_left
          · simp only [Act.put, List.setIfInBounds_toArray, List.set_cons_zero, List.set_cons_succ, i64_w, i32_w]
            rfl
          refine pure_ (i := 7) (N := some 33) (v := ?_) (a' := ?_) #[true, true, true, true, true, true, true, true, false, false, false, false, false, false, false, false] rfl rfl (any_of HT_.out (by kernel_rfl)) (fun _ _ _ h => h) (Or.inl ⟨by rfl, ?_⟩) ?_ ?_
          rotate_left
          · intro w'
            go_simp
            with_reducible rfl
          rotate_left
          · simp only [Act.put, List.setIfInBounds_toArray, List.set_cons_zero, List.set_cons_succ, i64_w, i32_w]
            rfl
          refine pure_ (i := 8) (N := some 34) (v := undef) (a' := ?_) #[true, true, true, true, true, true, true, true, true, false, false, false, false, false, false, false] rfl rfl (any_of HT_.out (by kernel_rfl)) (fun _ _ _ h => h) (Or.inr ⟨by rfl, rfl⟩) ?_ ?_
          rotate_left
          · simp only [Act.put, List.setIfInBounds_toArray, List.set_cons_zero, List.set_cons_succ, i64_w, i32_w]
            rfl
          refine pure_ (i := 9) (N := some 35) (v := undef) (a' := ?_) #[true, true, true, true, true, true, true, true, true, true, false, false, false, false, false, false] rfl rfl (any_of HT_.out (by kernel_rfl)) (fun _ _ _ h => h) (Or.inr ⟨by rfl, rfl⟩) ?_ ?_
          rotate_left
          · simp only [Act.put, List.setIfInBounds_toArray, List.set_cons_zero, List.set_cons_succ, i64_w, i32_w]
            rfl
          refine pure_ (i := 10) (N := some 36) (v := undef) (a' := ?_) #[true, true, true, true, true, true, true, true, true, true, true, false, false, false, false, false] rfl rfl (any_of HT_.out (by kernel_rfl)) (fun _ _ _ h => h) (Or.inr ⟨by rfl, rfl⟩) ?_ ?_
          rotate_left
          · simp only [Act.put, List.setIfInBounds_toArray, List.set_cons_zero, List.set_cons_succ, i64_w, i32_w]
            rfl
          refine pure_ (i := 11) (N := some 37) (v := undef) (a' := ?_) #[true, true, true, true, true, true, true, true, true, true, true, true, false, false, false, false] rfl rfl (any_of HT_.out (by kernel_rfl)) (fun _ _ _ h => h) (Or.inr ⟨by rfl, rfl⟩) ?_ ?_
          rotate_left
          · simp only [Act.put, List.setIfInBounds_toArray, List.set_cons_zero, List.set_cons_succ, i64_w, i32_w]
            rfl
          refine pure_ (i := 12) (N := some 38) (v := undef) (a' := ?_) #[true, true, true, true, true, true, true, true, true, true, true, true, true, false, false, false] rfl rfl (any_of HT_.out (by kernel_rfl)) (fun _ _ _ h => h) (Or.inr ⟨by rfl, rfl⟩) ?_ ?_
          rotate_left
          · simp only [Act.put, List.setIfInBounds_toArray, List.set_cons_zero, List.set_cons_succ, i64_w, i32_w]
            rfl
          refine pure_ (i := 13) (N := some 39) (v := undef) (a' := ?_) #[true, true, true, true, true, true, true, true, true, true, true, true, true, true, false, false] rfl rfl (any_of HT_.out (by kernel_rfl)) (fun _ _ _ h => h) (Or.inr ⟨by rfl, rfl⟩) ?_ ?_
          rotate_left
          · simp only [Act.put, List.setIfInBounds_toArray, List.set_cons_zero, List.set_cons_succ, i64_w, i32_w]
            rfl
          refine pure_ (i := 14) (N := some 40) (v := undef) (a' := ?_) #[true, true, true, true, true, true, true, true, true, true, true, true, true, true, true, false] rfl rfl (any_of HT_.out (by kernel_rfl)) (fun _ _ _ h => h) (Or.inr ⟨by rfl, rfl⟩) ?_ ?_
          rotate_left
          · simp only [Act.put, List.setIfInBounds_toArray, List.set_cons_zero, List.set_cons_succ, i64_w, i32_w]
            rfl
          refine pure_ (i := 15) (N := some 41) (v := ?_) (a' := ?_) #[true, true, true, true, true, true, true, true, true, true, true, true, true, true, true, true] rfl rfl (any_of HT_.out (by kernel_rfl)) (fun _ _ _ h => h) (Or.inl ⟨by rfl, ?_⟩) ?_ ?_
          rotate_left
          · intro w'
            go_simp
            with_reducible rfl
          rotate_left
          · simp only [Act.put, List.setIfInBounds_toArray, List.set_cons_zero, List.set_cons_succ, i64_w, i32_w]
            rfl
          refine done_ (done_of HT_.out (by kernel_rfl)) ?_
          try go_wp2
          go_ret
          exact ⟨by first | rfl | (simp [errW_none, errW_some] <;> rfl) | (simp [*, errW_none, errW_some] <;> rfl), by repeat (first | (with_reducible first | exact HB.out | apply below_alloc | apply pw_below_drewN | apply below_drew1 | refine below_set ?_ GE295.out | refine below_set ?_ GE296.out) | exact HB.out)⟩
      · rw [if_neg c10] at H
        exact absurd H (by simp)
    · rw [if_neg c9] at H
      exact absurd H (by simp)
end Go.Proofs.YtfimhaodgekkgaaDoor.QTre
namespace Go.Proofs.YtfimhaodgekkgaaDoor.Pri
open Go.RowKit Go.Proofs.YtfimhaodgekkgaaDoorW.PrintWords Go.Proofs.YtfimhaodgekkgaaDoorW.PrintLast Go.Proofs.YtfimhaodgekkgaaDoorW.PrintMore Go.Proofs.YtfimhaodgekkgaaDoor.QTre
theorem better_ref (a b : S36) : kissgateref10_Better.f a.f0 a.f1 a.f2 a.f3 b.f0 b.f1 b.f2 b.f3 = some (bet a b) := by
  unfold kissgateref10_Better.f bet
  by_cases h0 : a.f0 = b.f0
  · rw [if_pos h0]
    by_cases h1 : a.f1 = b.f1
    · rw [if_pos h1]
      by_cases h2 : a.f2 = b.f2
      · rw [if_pos h2]; congr 1; rw [decide_eq_decide]; omega
      · rw [if_neg h2]; congr 1; rw [decide_eq_decide]; omega
    · rw [if_neg h1]; congr 1; rw [decide_eq_decide]; omega
  · rw [if_neg h0]; congr 1; rw [decide_eq_decide]; omega
theorem sum_ref {a b : Int} (ha : Fit a) (hb : Fit b) : kissgateref10_Sum.f a b = some (sumc a b) := by
  unfold kissgateref10_Sum.f sumc
  unfold Fit at ha hb
  unfold mx wrap64
  repeat' split
  all_goals first | rfl | omega | (congr 1; omega)
theorem bridge_ref {a : Int} (ha : Fit a) : kissgateref08_Bridge.f a = some (brid a) := by
  unfold Fit at ha
  unfold kissgateref08_Bridge.f brid
  by_cases h0 : a ≤ 0
  · rw [if_pos h0]
    congr 1
    symm
    exact decide_eq_false (by omega)
  · rw [if_neg h0]
    have hd : Int.tdiv a 281474976710656 = a / 281474976710656 := Int.tdiv_eq_ediv_of_nonneg (by omega)
    have hm : Int.tmod a 281474976710656 = a % 281474976710656 := Int.tmod_eq_emod_of_nonneg (by omega)
    have hw : wrap64 (a / 281474976710656) = a / 281474976710656 := by unfold wrap64; omega
    rw [hd, hm, hw]
    by_cases h1 : a / 281474976710656 > 15
    · rw [if_pos h1]
      congr 1
      symm
      exact decide_eq_false (by omega)
    · rw [if_neg h1]
      unfold kissgateref02_Many.f kissgateref02_Good.f
      have g1 : a % 281474976710656 ≥ 0 := by omega
      have g2 : decide (a % 281474976710656 < 281474976710656) = true := decide_eq_true (by omega)
      rw [if_pos g1, g2]
      simp only [Option.bind_some, if_true]
      have hd2 : Int.tdiv (a % 281474976710656) 1099511627776 = a % 281474976710656 / 1099511627776 := Int.tdiv_eq_ediv_of_nonneg (by omega)
      have hw2 : wrap64 (a % 281474976710656 / 1099511627776) = a % 281474976710656 / 1099511627776 := by unfold wrap64; omega
      have hm2 : Int.tmod (a % 281474976710656 / 1099511627776) 2 = a % 281474976710656 / 1099511627776 % 2 := Int.tmod_eq_emod_of_nonneg (by omega)
      rw [hd2, hw2, hm2]
      congr 1
      rw [Bool.eq_iff_iff]
      simp
      omega
def conv (h : S80) : S59 := ⟨⟨h.f0.f0, h.f0.f1, h.f0.f2, h.f0.f3⟩, h.f1, h.f2, h.f3⟩
theorem takes_ref (h : S80) (id : Int) (hr : Fit h.f0.f0) : kissgateref10_Use.f h.f0.f0 h.f0.f1 h.f0.f2 h.f0.f3 h.f1 h.f2 h.f3 id = some (takes h id) := by
  unfold kissgateref10_Use.f takes
  rw [bridge_ref hr]
  cases h.f3 with
  | true => simp
  | false =>
    simp only [Bool.false_eq_true, if_false, Option.bind_some]
    by_cases h1 : h.f1 ≥ 0
    · rw [if_pos h1]
      by_cases h2 : h.f1 ≤ 9
      · rw [if_pos h2]
        cases brid h.f0.f0 with
        | false => simp
        | true => simp only [if_true]; congr 1; rw [Bool.eq_iff_iff]; simp; omega
      · rw [if_neg h2]; congr 1; symm; exact decide_eq_false (by omega)
    · rw [if_neg h1]; congr 1; symm; exact decide_eq_false (by omega)
theorem rd59 {l : List S80} {i : Nat} (h : i < l.length) : rd_T59 (l.map conv) i = conv l[i] := by
  unfold rd_T59
  rw [Int.toNat_natCast, List.getD_eq_getElem?_getD, List.getElem?_map, List.getElem?_eq_getElem h]; rfl
theorem bref_loop (id : Int) (l : List S80) (hn : l.length ≤ 9223372036854775000) (hf : ∀ h ∈ l, FitH h) (d : Nat) : ∀ (i : Nat) (acc : S36 × Int), i + d = l.length →
    Ev (fun k => kissgateref10_Best.l0 k id acc.2 (l.map conv) l.length i acc.1.f0 acc.1.f1 acc.1.f2 acc.1.f3) (tup (best id i (l.drop i) acc)) := by
  induction d with
  | zero =>
    intro i acc hi
    rw [List.drop_of_length_le (by omega)]
    exact Ev.step (fun k => by rw [kissgateref10_Best.l0, if_neg (by omega)]; rfl) (Ev.now (tup acc))
  | succ d ih =>
    intro i acc hi
    have hlt : i < l.length := by omega
    have hlm : (l.map conv).length = l.length := List.length_map _
    obtain ⟨f0, f1, f2⟩ := hf l[i] (List.getElem_mem hlt)
    rw [List.drop_eq_getElem_cons hlt]
    simp only [best]
    have hs : ∀ k, kissgateref10_Best.l0 (k + 1) id acc.2 (l.map conv) l.length i acc.1.f0 acc.1.f1 acc.1.f2 acc.1.f3 =
        (if takes l[i] id = true then (if l[i].f0.f0 < id then (if bet (thr l[i]) acc.1 = true then kissgateref10_Best.l0 k id i (l.map conv) l.length ((i + 1 : Nat) : Int) (thr l[i]).f0 (thr l[i]).f1 (thr l[i]).f2 (thr l[i]).f3 else kissgateref10_Best.l0 k id acc.2 (l.map conv) l.length ((i + 1 : Nat) : Int) acc.1.f0 acc.1.f1 acc.1.f2 acc.1.f3) else kissgateref10_Best.l0 k id acc.2 (l.map conv) l.length ((i + 1 : Nat) : Int) acc.1.f0 acc.1.f1 acc.1.f2 acc.1.f3) else kissgateref10_Best.l0 k id acc.2 (l.map conv) l.length ((i + 1 : Nat) : Int) acc.1.f0 acc.1.f1 acc.1.f2 acc.1.f3) := by
      intro k
      rw [kissgateref10_Best.l0, if_pos (by omega), if_pos (by omega), if_pos (by omega), rd59 hlt, wrap_up (n := l.length) (by omega) (by omega) hn]
      have ht : kissgateref10_Use.f (conv l[i]).f0.f0 (conv l[i]).f0.f1 (conv l[i]).f0.f2 (conv l[i]).f0.f3 (conv l[i]).f1 (conv l[i]).f2 (conv l[i]).f3 id = some (takes l[i] id) := takes_ref l[i] id f0
      have hq : kissgateref10_Sum.f (conv l[i]).f0.f1 (conv l[i]).f2 = some (sumc l[i].f0.f1 l[i].f2) := sum_ref f1 f2
      rw [ht, hq]
      simp only [Option.bind_some]
      have hb : kissgateref10_Better.f (conv l[i]).f0.f0 (sumc l[i].f0.f1 l[i].f2) (conv l[i]).f0.f2 (conv l[i]).f0.f3 acc.1.f0 acc.1.f1 acc.1.f2 acc.1.f3 = some (bet (thr l[i]) acc.1) := better_ref (thr l[i]) acc.1
      rw [hb]
      rfl
    refine Ev.step hs ?_
    unfold step
    by_cases h1 : takes l[i] id = true
    · by_cases h2 : l[i].f0.f0 < id
      · by_cases h3 : bet (thr l[i]) acc.1 = true
        · simp only [h1, h2, h3, if_true, and_self]
          exact ih (i + 1) (thr l[i], (i : Int)) (by omega)
        · simp only [h1, h2, h3, if_true, and_false, Bool.false_eq_true, if_false]
          exact ih (i + 1) acc (by omega)
      · simp only [h1, h2, if_true, and_false, false_and, if_false]
        exact ih (i + 1) acc (by omega)
    · simp only [h1, Bool.false_eq_true, false_and, if_false]
      exact ih (i + 1) acc (by omega)
theorem best_ref (id : Int) (l : List S80) (hn : l.length ≤ 9223372036854775000) (hf : ∀ h ∈ l, FitH h) : Ev (fun k => kissgateref10_Best.f k id (l.map conv)) (tup (bestOf id l)) := by
  have := bref_loop id l hn hf l.length 0 (own id, -1) (by omega)
  rw [List.drop_zero] at this
  unfold kissgateref10_Best.f
  rw [List.length_map]
  exact this
theorem role_ref (id : Int) (l : List S80) (hn : l.length * 56 ≤ 140737488351232) (hf : ∀ h ∈ l, FitH h) (i : Nat) (hi : i < l.length) : Ev (fun k => kissgateref10_Role.f k id (l.map conv) i) (role id (bestOf id l) i l[i]) := by
  have hlm : (l.map conv).length = l.length := List.length_map _
  obtain ⟨f0, f1, f2⟩ := hf l[i] (List.getElem_mem hi)
  unfold kissgateref10_Role.f
  refine Ev.bind (best_ref id l (by omega) hf) ?_
  unfold role
  by_cases h0 : (i : Int) = (bestOf id l).2
  · rw [if_pos h0]
    exact Ev.congr (fun k => by rw [if_pos (by exact h0)]) (Ev.now _)
  · rw [if_neg h0]
    have ht : kissgateref10_Use.f (conv l[i]).f0.f0 (conv l[i]).f0.f1 (conv l[i]).f0.f2 (conv l[i]).f0.f3 (conv l[i]).f1 (conv l[i]).f2 (conv l[i]).f3 id = some (takes l[i] id) := takes_ref l[i] id f0
    have hb : kissgateref10_Better.f (bestOf id l).1.f0 (bestOf id l).1.f1 id i (conv l[i]).f0.f0 (conv l[i]).f0.f1 (conv l[i]).f0.f2 (conv l[i]).f0.f3 = some (bet (offer (bestOf id l).1 id i) l[i].f0) := better_ref (offer (bestOf id l).1 id i) l[i].f0
    refine Ev.congr (fun k => by rw [if_neg (by exact h0), if_pos (by omega), if_pos (by omega), rd59 hi, ht, Option.bind_some]) ?_
    cases takes l[i] id with
    | false => simp only [Bool.false_eq_true, if_false, false_and]; exact Ev.now _
    | true =>
      simp only [if_true, true_and]
      refine Ev.congr (fun k => by rw [show (tup (bestOf id l)).1 = (bestOf id l).1.f0 from rfl, show (tup (bestOf id l)).2.1 = (bestOf id l).1.f1 from rfl, hb, Option.bind_some]) ?_
      cases bet (offer (bestOf id l).1 id i) l[i].f0 with
      | false => simp only [Bool.false_eq_true, if_false, if_true]; exact Ev.now _
      | true => simp only [if_true, Bool.true_eq_false, if_false]; exact Ev.now _
end Go.Proofs.YtfimhaodgekkgaaDoor.Pri
namespace Go.Proofs.YtfimhaodgekkgaaDoor.QTre
open Go.RowKit Go.Proofs.YtfimhaodgekkgaaDoorW.PrintWords Go.Proofs.YtfimhaodgekkgaaDoorW.PrintLast Go.Proofs.YtfimhaodgekkgaaDoorW.PrintMore
open Go.Proofs.YtfimhaodgekkgaaDoor.Gen (Own Trn)
open Go.Proofs.YtfimhaodgekkgaaDoor.Pri (FitH roles bestOf role brid)
set_option linter.unusedVariables false
set_option linter.unusedSimpArgs false
def greatB (l : List S40) : Bool := l.any (fun c => decide (c.f5 < 0 ∨ c.f5 > 1000)) || decide ((l.length : Int) > 100)
theorem rd40 {l : List S40} {i : Nat} (h : i < l.length) : rd_T40 l (i : Int) = l[i] := by
  unfold rd_T40
  rw [Int.toNat_natCast, List.getD_eq_getElem?_getD, List.getElem?_eq_getElem h]
  rfl
theorem great_loop (l : List S40) (hm : l.length ≤ maxLen) : ∀ (k i : Nat), l.length - i < k → i ≤ l.length → kissgatelaw12_great.l0 k l l (l.length : Int) (i : Int) = some ((l.drop i).any (fun c => decide (c.f5 < 0 ∨ c.f5 > 1000)) || decide ((l.length : Int) > 100))
  | 0, i, h, _ => absurd h (Nat.not_lt_zero _)
  | k + 1, i, h, hi => by
    unfold kissgatelaw12_great.l0
    by_cases hl : i < l.length
    · have hz : (i : Int) < (l.length : Int) := by omega
      have h0 : (0 : Int) ≤ (i : Int) := by omega
      rw [if_pos hz, if_pos h0, if_pos hz, rd40 hl, List.drop_eq_getElem_cons hl, List.any_cons]
      by_cases h1 : l[i].f5 < 0
      · rw [if_pos h1]; simp [h1]
      · rw [if_neg h1]
        by_cases h2 : l[i].f5 > 1000
        · rw [if_pos h2]; simp [h2]
        · rw [if_neg h2]
          have hw : wrap64 ((i : Int) + 1) = ((i + 1 : Nat) : Int) := by unfold maxLen at hm; unfold wrap64; omega
          rw [hw, great_loop l hm k (i + 1) (by omega) (by omega)]
          have hd : decide (l[i].f5 < 0 ∨ l[i].f5 > 1000) = false := by simp; omega
          rw [hd, Bool.false_or]
    · have e : i = l.length := by omega
      subst e
      rw [if_neg (Int.lt_irrefl _), List.drop_length]
      rfl
theorem great_calls (A : Option Addr) (c : Nat) (l : List S40) (w : World) (hr : Kd.C k40 w A l.length l) (hc : l.length ≤ c) (hm : l.length ≤ maxLen) :
    Calls Tryd.prog 12 #[.slice A l.length c] w fun e w' => e = .returned (.bool (greatB l)) ∧ Below w.heap.size w w' := by
  refine kissgatelaw12_great.calls (l.length + 1) A c l (greatB l) w hr hc ?_
  have := great_loop l hm (l.length + 1) 0 (by omega) (Nat.zero_le _)
  rw [List.drop_zero] at this
  exact this
theorem great_no {l : List S40} (h : greatB l = false) : l.length ≤ 100 ∧ ∀ c ∈ l, 0 ≤ c.f5 ∧ c.f5 ≤ 1000 := by
  unfold greatB at h
  simp only [Bool.or_eq_false_iff, decide_eq_false_iff_not, List.any_eq_false, decide_eq_true_eq] at h
  exact ⟨by omega, fun c hc => by have := h.1 c hc; omega⟩
theorem rbridge_calls (id : Int) (h : Pri.Fit id) (w : World) : Calls Tryd.prog 13 #[.int .i64 id] w fun e w' => e = .returned (.bool (brid id)) ∧ Below w.heap.size w w' := by
  refine (kissgateref08_Bridge.calls id (brid id) w (Pri.bridge_ref h)).mono ?_
  rintro e w' ⟨rfl, h2⟩
  exact ⟨rfl, h2.below⟩
structure St where
  code : Int
  ports : List S84
  best : S36
  root : Int
def setF (id now : Int) (P : List S84) (best : S36) (root : Int) (i : Int) (up : Bool) (cost : Int) : St :=
  if (0 ≤ i ∧ i < (P.length : Int)) ∧ ¬ cost < 1 ∧ ¬ 16777216 < cost then
    ⟨0, upd id now (P.set i.toNat (setP (P.getD i.toNat port0) up cost)), (bst id (P.set i.toNat (setP (P.getD i.toNat port0) up cost))).1, (bst id (P.set i.toNat (setP (P.getD i.toNat port0) up cost))).2⟩
  else ⟨1, P, best, root⟩
def hearF (id now : Int) (P : List S84) (best : S36) (root : Int) (i : Int) (m : S38) : St :=
  if (0 ≤ i ∧ i < (P.length : Int)) ∧ goodB m = true ∧ m.f2 = 2 then
    if (P.getD i.toNat port0).f0 = true then ⟨0, upd id now (P.set i.toNat (hearP (P.getD i.toNat port0) m now)), (bst id (P.set i.toNat (hearP (P.getD i.toNat port0) m now))).1, (bst id (P.set i.toNat (hearP (P.getD i.toNat port0) m now))).2⟩
    else ⟨7, P, best, root⟩
  else ⟨1, P, best, root⟩
section
variable (base g b cap : Nat) (id : Int) (P : List S84) (best : S36) (root change now : Int) (w0 w : World)
theorem set_calls (hB : Below base w0 w) (hs : base ≤ w.heap.size) (hb0 : 0 < base) (hng : NG w0) (ht : Tre w base g b cap id P best root change) (hn : P.length ≤ 100) (hf : ∀ p ∈ P, FitP p) (i : Int) (up : Bool) (cost : Int) :
    Calls Tryd.prog 15 #[.pointer (some ⟨g, 0, none⟩), .int .i64 i, .bool up, .int .i64 cost, .int .i64 now] w fun e w' => e = .returned (.int .i64 (setF id now P best root i up cost).code) ∧ Tre w' base g b cap id (setF id now P best root i up cost).ports (setF id now P best root i up cost).best (setF id now P best root i up cost).root change ∧ Trn base w0 w (TF g b) (TF g b) w' := by
  unfold setF
  by_cases h : (0 ≤ i ∧ i < (P.length : Int)) ∧ ¬ cost < 1 ∧ ¬ 16777216 < cost
  · rw [if_pos h]
    obtain ⟨k, rfl⟩ : ∃ k : Nat, i = k := ⟨i.toNat, by omega⟩
    have hk : k < P.length := by omega
    rw [Int.toNat_natCast, getD_lt hk]
    exact set_ok base g b cap id P best root change w0 w hB hs (hng.below hB hb0) ht hn hf k hk up cost now h.2.1 h.2.2
  · rw [if_neg h]
    refine (set_bad base g b cap id P best root change w ht i up cost now (by omega)).mono ?_
    rintro e w' ⟨rfl, rfl⟩
    exact ⟨rfl, ht, Trn.refl hB⟩
theorem hear_calls (hB : Below base w0 w) (hs : base ≤ w.heap.size) (ht : Tre w base g b cap id P best root change) (hn : P.length ≤ 100) (hf : ∀ p ∈ P, FitP p) (i : Int) (m : S38) (hm : FitB m) :
    Calls Tryd.prog 16 #[.pointer (some ⟨g, 0, none⟩), .int .i64 i, val38 m, .int .i64 now] w fun e w' => e = .returned (.int .i64 (hearF id now P best root i m).code) ∧ Tre w' base g b cap id (hearF id now P best root i m).ports (hearF id now P best root i m).best (hearF id now P best root i m).root change ∧ Trn base w0 w (TF g b) (TF g b) w' := by
  unfold hearF
  by_cases h : (0 ≤ i ∧ i < (P.length : Int)) ∧ goodB m = true ∧ m.f2 = 2
  · rw [if_pos h]
    obtain ⟨k, rfl⟩ : ∃ k : Nat, i = k := ⟨i.toNat, by omega⟩
    have hk : k < P.length := by omega
    rw [Int.toNat_natCast, getD_lt hk]
    by_cases hu : P[k].f0 = true
    · rw [if_pos hu]
      exact hear_ok base g b cap id P best root change w0 w hB hs ht hn hf k hk m hm now h.2.1 h.2.2 hu
    · rw [if_neg hu]
      refine (hear_down base g b cap id P best root change w ht k hk m hm now h.2.1 h.2.2 (by simpa using hu)).mono ?_
      rintro e w' ⟨rfl, hb⟩
      exact ⟨rfl, ht.below hb, Trn.of_below hB hs hb⟩
  · rw [if_neg h]
    refine (hear_bad base g b cap id P best root change w ht i m hm now ?_).mono ?_
    · by_cases h1 : 0 ≤ i ∧ i < (P.length : Int)
      · rcases Bool.eq_false_or_eq_true (goodB m) with h2 | h2
        · exact .inr (.inr fun e => h ⟨h1, h2, e⟩)
        · exact .inr (.inl h2)
      · exact .inl h1
    · rintro e w' ⟨rfl, hb⟩
      exact ⟨rfl, ht.below hb, Trn.of_below hB hs hb⟩
end
theorem Tre.lower {w : World} {base base2 g b cap : Nat} {id root change : Int} {P : List S84} {best : S36} (h : Tre w base g b cap id P best root change) (hl : base2 ≤ base) : Tre w base2 g b cap id P best root change :=
  ⟨h.cell, h.row, h.ne, Nat.le_trans hl h.low, Nat.le_trans hl h.lowb, h.cap_le⟩
abbrev al0 : List S84 := List.replicate 2 port0
abbrev al1 : List S84 := al0.set 0 (setP port0 true 1)
abbrev al2 : List S84 := upd 5 0 al1
theorem alive2 : al2 = [⟨true, 1, none80, 0, ⟨2, 0, false⟩⟩, port0] := by rfl
theorem aliveB : bst 5 al1 = (⟨5, 0, 5, 0⟩, -1) := by rfl
theorem aliveP : tickP 5 2 [⟨true, 1, none80, 0, ⟨2, 0, false⟩⟩, port0] = [⟨true, 1, none80, 0, ⟨2, 0, false⟩⟩, port0] := by kernel_rfl
theorem aliveL : tickL 5 2 [⟨true, 1, none80, 0, ⟨2, 0, false⟩⟩, port0] (-1) = [⟨0, ⟨⟨5, 0, 5, 0⟩, 0, 2, false⟩⟩] := by kernel_rfl
theorem own_one47 {w : World} {base : Nat} {ok : Nat → Prop} {v : Value} {x : S47} (h : Kd.R k47 47 w base ok v [x]) : ∃ b c : Nat, v = .slice (some ⟨b, 0, none⟩) 1 c ∧ Own enc47 8 47 w b c [x] := by
  rcases Gen.Own.ofR (enc := enc47) (k := 8) enc47_len rfl (fun w base ok x cs h => k47_openM h) h with ⟨_, e⟩ | ⟨b, c, rfl, _, _, _, ho⟩
  · cases e
  · exact ⟨b, c, rfl, ho⟩
theorem fit_al0 : ∀ p ∈ List.replicate 2 port0, FitP p := by
  intro p hp
  rw [List.eq_of_mem_replicate hp]
  exact ⟨⟨by decide, by decide⟩, ⟨by decide, by decide⟩, ⟨by decide, by decide⟩⟩
abbrev alx : List S84 := [⟨true, 1, none80, 0, ⟨2, 0, false⟩⟩, port0]
theorem fit_alx : ∀ p ∈ alx, FitP p := by
  intro p hp
  simp only [alx, List.mem_cons, List.not_mem_nil, or_false] at hp
  rcases hp with rfl | rfl
  · exact ⟨⟨by decide, by decide⟩, ⟨by decide, by decide⟩, ⟨by decide, by decide⟩⟩
  · exact ⟨⟨by decide, by decide⟩, ⟨by decide, by decide⟩, ⟨by decide, by decide⟩⟩
set_option maxHeartbeats 4000000 in
set_option maxRecDepth 100000 in
theorem alive_calls (w : World) (hng : NG w) (h0 : 0 < w.heap.size) : Calls Tryd.prog 7 #[] w fun e w' => e = .returned (.bool true) ∧ Below w.heap.size w w' := by
  have e14 : ∀ args w, (callFunc 14 args).run Tryd.prog w = .ok (.enter 14 args) w := enters_of Tryd.func14 (by kernel_rfl) rfl
  have e15 : ∀ args w, (callFunc 15 args).run Tryd.prog w = .ok (.enter 15 args) w := enters_of Tryd.func15 (by kernel_rfl) rfl
  have e17 : ∀ args w, (callFunc 17 args).run Tryd.prog w = .ok (.enter 17 args) w := enters_of Tryd.func17 (by kernel_rfl) rfl
  have e20 : ∀ args w, (callFunc 20 args).run Tryd.prog w = .ok (.enter 20 args) w := enters_of Tryd.func20 (by kernel_rfl) rfl
  have hu36 := Tryd.underlying36
  have HN : Aside0 (Calls Tryd.prog 14 #[.int .i64 5, .int .i64 2] w fun e w' => ∃ g b cap : Nat, e = .returned (.pointer (some ⟨g, 0, none⟩)) ∧ Tre w' w.heap.size g b cap 5 (List.replicate 2 port0) ⟨5, 0, 5, 0⟩ (-1) (-1) ∧ Below w.heap.size w w') := ⟨new_ok 5 2 ⟨by decide, by decide⟩ (by decide) (by decide) (by decide) w hng h0⟩
  have HS : Aside0 (∀ (W : World) (g b cap : Nat), Below w.heap.size w W → Tre W w.heap.size g b cap 5 (List.replicate 2 port0) ⟨5, 0, 5, 0⟩ (-1) (-1) → Calls Tryd.prog 15 #[.pointer (some ⟨g, 0, none⟩), .int .i64 0, .bool true, .int .i64 1, .int .i64 0] W fun e w' => e = .returned (.int .i64 0) ∧ Tre w' w.heap.size g b cap 5 alx ⟨5, 0, 5, 0⟩ (-1) (-1) ∧ Trn w.heap.size w W (TF g b) (TF g b) w') := ⟨fun W g b cap hB ht => by
    have := set_ok w.heap.size g b cap 5 (List.replicate 2 port0) ⟨5, 0, 5, 0⟩ (-1) (-1) w W hB hB.size (hng.below hB h0) ht (by decide) fit_al0 0 (by decide) true 1 0 (by decide) (by decide)
    refine this.mono ?_
    rintro e w' ⟨h1, h2, h3⟩
    have h4 : Tre w' w.heap.size g b cap 5 al2 (bst 5 al1).1 (bst 5 al1).2 (-1) := h2
    rw [alive2, aliveB] at h4
    exact ⟨h1, h4, h3⟩⟩
  have HTK : Aside0 (∀ (W : World) (g b cap : Nat), Below w.heap.size w W → Tre W w.heap.size g b cap 5 alx ⟨5, 0, 5, 0⟩ (-1) (-1) → Calls Tryd.prog 17 #[.pointer (some ⟨g, 0, none⟩), .int .i64 2] W fun e w' => ∃ v, e = .returned v ∧ Kd.R k47 47 w' W.heap.size (fun _ => True) v [⟨0, ⟨⟨5, 0, 5, 0⟩, 0, 2, false⟩⟩] ∧ Tre w' w.heap.size g b cap 5 alx (tickB 5 2 alx).1 (tickB 5 2 alx).2 (tickC 5 2 alx (-1)) ∧ Trn w.heap.size w W (TF g b) (TF g b) w') := ⟨fun W g b cap hB ht => by
    have := tick_calls w.heap.size g b cap 5 alx ⟨5, 0, 5, 0⟩ (-1) (-1) 2 w W hB hB.size h0 hng ht (by decide) (by decide) fit_alx (by decide) (by decide)
    rw [aliveP, aliveL] at this
    exact this⟩
  clear hng h0
  go_enter Tryd.func7, Tryd.ntmps7
  go_wp2_with (first
    | (go_at_fn 14; refine HN.out.mono ?_; rintro e w1 ⟨g, b, cap, rfl, ht, hb⟩; have HT1 := Aside0.mk ht; have HB1 := Aside0.mk hb; clear ht hb)
    | (go_at_fn 15; refine (HS.out w1 g b cap HB1.out HT1.out).mono ?_; rintro e w2 ⟨rfl, ht, htn⟩; have HT2 := Aside0.mk ht; have HB2 := Aside0.mk htn.bel; clear ht htn)
    | (go_at_fn 17; refine (HTK.out w2 g b cap HB2.out HT2.out).mono ?_; rintro e w3 ⟨v3, rfl, hr3, ht, htn⟩; have HT3 := Aside0.mk ht; have HB3 := Aside0.mk htn.bel; obtain ⟨b3, c3, rfl, hO3⟩ : ∃ b3 c3 : Nat, v3 = .slice (some ⟨b3, 0, none⟩) 1 c3 ∧ Own enc47 8 47 w3 b3 c3 [⟨0, ⟨⟨5, 0, 5, 0⟩, 0, 2, false⟩⟩] := own_one47 hr3; have hz1 : w3.cell? ⟨b3, 1, none⟩ = some (.int .i64 5) := hO3.at_ enc47_len 0 1 (by decide) (by decide); have hz2 : w3.cell? ⟨b3, 2, none⟩ = some (.int .i64 0) := hO3.at_ enc47_len 0 2 (by decide) (by decide); have hz3 : w3.cell? ⟨b3, 3, none⟩ = some (.int .i64 5) := hO3.at_ enc47_len 0 3 (by decide) (by decide); have hz4 : w3.cell? ⟨b3, 4, none⟩ = some (.int .i64 0) := hO3.at_ enc47_len 0 4 (by decide) (by decide); clear ht htn hr3 hO3)
    | (go_at_fn 20; refine (role_calls HT3.out 0).mono ?_; rintro e w4 ⟨rfl, hb4⟩; have HB4 := Aside0.mk (below_step HB3.out hb4); clear hb4))
  go_ret
  exact ⟨rfl, HB4.out⟩
end Go.Proofs.YtfimhaodgekkgaaDoor.QTre
namespace Go.Proofs.YtfimhaodgekkgaaDoor.QTre
open Go.RowKit Go.Proofs.YtfimhaodgekkgaaDoorW.PrintWords Go.Proofs.YtfimhaodgekkgaaDoorW.PrintLast Go.Proofs.YtfimhaodgekkgaaDoorW.PrintMore
open Go.Proofs.YtfimhaodgekkgaaDoor.Gen (Own Trn)
open Go.Proofs.YtfimhaodgekkgaaDoor.Pri (FitH roles bestOf role brid)
set_option linter.unusedVariables false
set_option linter.unusedSimpArgs false
theorem all_updN {Q : S84 → Prop} {rs : List Int} {now : Int} {P : List S84} {j : Nat} (h : ∀ p ∈ P, Q p) (hq : ∀ r p, Q p → Q (setPort r now p)) : ∀ p ∈ updN rs now P j, Q p := by
  intro p hp
  obtain ⟨k, hk, rfl⟩ := List.mem_iff_getElem.1 hp
  rw [updN_at]
  split
  · exact hq _ _ (h _ (List.getElem_mem _))
  · exact h _ (List.getElem_mem _)
theorem all_set {Q : S84 → Prop} {P : List S84} (h : ∀ p ∈ P, Q p) (k : Nat) (x : S84) (hx : Q x) : ∀ p ∈ P.set k x, Q p := by
  intro p hp
  rcases List.mem_or_eq_of_mem_set hp with h1 | h1
  · exact h p h1
  · subst h1; exact hx
theorem heard_upd (id now : Int) (P : List S84) : (upd id now P).map heardOf = P.map heardOf := by
  apply List.ext_getElem
  · rw [List.length_map, List.length_map, updN_len]
  · intro k h1 h2
    rw [List.getElem_map, List.getElem_map, updN_at]
    split <;> rfl
theorem heard_opn (now : Int) (P : List S84) : (P.map (opnP now)).map heardOf = P.map heardOf := by
  rw [List.map_map]; rfl
theorem bst_upd (id now : Int) (P : List S84) (id2 : Int) : bst id2 (upd id now P) = bst id2 P := by unfold bst; rw [heard_upd]
theorem bst_tick (id now : Int) (P : List S84) : bst id (tickP id now P) = tickB id now P := by
  unfold bst tickP tickB
  rw [heard_opn, heard_upd]
theorem getD_mem {P : List S84} {k : Nat} (h : k < P.length) : P.getD k port0 ∈ P := by rw [getD_lt h]; exact List.getElem_mem h
theorem best_cases (id : Int) : ∀ (l : List S80) (j : Nat) (acc : S36 × Int), Pri.best id j l acc = acc ∨ ∃ k, ∃ h : k < l.length, Pri.best id j l acc = (Pri.thr l[k], ((j + k : Nat) : Int)) ∧ Pri.takes l[k] id = true ∧ l[k].f0.f0 < id
  | [], j, acc => .inl rfl
  | x :: t, j, acc => by
    unfold Pri.best
    rcases best_cases id t (j + 1) (Pri.step id j x acc) with h | ⟨k, hk, h1, h2, h3⟩
    · rw [h]
      unfold Pri.step
      split
      · rename_i hc
        exact .inr ⟨0, by simp, rfl, hc.1, hc.2.1⟩
      · exact .inl rfl
    · refine .inr ⟨k + 1, by simpa using hk, ?_, h2, h3⟩
      rw [h1, show j + 1 + k = j + (k + 1) by omega]
      rfl
theorem bst_cases (id : Int) (P : List S84) : bst id P = (Pri.own id, -1) ∨ ∃ k, ∃ h : k < P.length, bst id P = (Pri.thr (heardOf P[k]), (k : Int)) ∧ Pri.takes (heardOf P[k]) id = true ∧ P[k].f2.f0.f0 < id := by
  rcases best_cases id (P.map heardOf) 0 (Pri.own id, -1) with h | ⟨k, hk, h1, h2, h3⟩
  · exact .inl h
  · rw [List.getElem_map] at h1 h2 h3
    rw [Nat.zero_add] at h1
    exact .inr ⟨k, by simpa using hk, h1, h2, h3⟩
def OkP (c : Int) (p : S84) : Prop := FitP p ∧ 0 ≤ p.f1 ∧ p.f1 ≤ c ∧ 0 ≤ p.f2.f0.f1 ∧ p.f2.f0.f1 ≤ c
structure InvS (c id : Int) (n : Nat) (P : List S84) (best : S36) (root : Int) : Prop where
  len : P.length = n
  ok : ∀ p ∈ P, OkP c p
  bst : bst id P = (best, root)
section
variable {c id now : Int} {n : Nat} {P : List S84} {best : S36} {root : Int}
theorem InvS.fit (h : InvS c id n P best root) : ∀ p ∈ P, FitP p := fun p hp => (h.ok p hp).1
theorem okP_set (h : ∀ p ∈ P, OkP c p) (id now : Int) : ∀ p ∈ upd id now P, OkP c p := all_updN h (fun r p hp => hp)
theorem InvS.upd (hl : P.length = n) (h : ∀ p ∈ P, OkP c p) : InvS c id n (upd id now P) (QTre.bst id P).1 (QTre.bst id P).2 :=
  ⟨by rw [updN_len]; exact hl, okP_set h id now, bst_upd _ _ _ _⟩
theorem InvS.new (hc : 0 ≤ c) : InvS c id n (List.replicate n port0) ⟨id, 0, id, 0⟩ (-1) := by
  refine ⟨List.length_replicate, fun p hp => ?_, ?_⟩
  · rw [List.eq_of_mem_replicate hp]
    exact ⟨⟨fit0, fit0, fit0⟩, Int.le_refl _, hc, Int.le_refl _, hc⟩
  · rcases bst_cases id (List.replicate n port0) with h | ⟨k, hk, h1, h2, h3⟩
    · exact h
    · rw [List.getElem_replicate] at h2
      have : Pri.takes (heardOf port0) id = false := rfl
      rw [this] at h2
      cases h2
theorem InvS.setF (h : InvS c id n P best root) (i : Int) (up : Bool) (cost : Int) (hc : cost ≤ c) : InvS c id n (setF id now P best root i up cost).ports (setF id now P best root i up cost).best (setF id now P best root i up cost).root := by
  unfold QTre.setF
  by_cases hv : (0 ≤ i ∧ i < (P.length : Int)) ∧ ¬ cost < 1 ∧ ¬ 16777216 < cost
  · rw [if_pos hv]
    refine InvS.upd (by rw [List.length_set]; exact h.len) (all_set h.ok _ _ ?_)
    have hp := h.ok _ (getD_mem (P := P) (k := i.toNat) (by omega))
    have hcf : Pri.Fit cost := ⟨by omega, by omega⟩
    unfold setP
    refine ⟨⟨?_, ?_, hcf⟩, by show 0 ≤ cost; omega, hc, ?_, ?_⟩
    all_goals dsimp only
    all_goals split
    · exact fit0
    · exact hp.1.1
    · exact fit0
    · exact hp.1.2.1
    · exact Int.le_refl _
    · exact hp.2.2.2.1
    · show (0 : Int) ≤ c
      have := hp.2.2.2
      omega
    · exact hp.2.2.2.2
  · rw [if_neg hv]; exact h
theorem good_cost {m : S38} (h : goodB m = true) : 0 ≤ m.f0.f1 := by unfold goodB at h; exact (of_decide_eq_true h).2.2.1
theorem InvS.hearF (h : InvS c id n P best root) (i : Int) (m : S38) (hm : FitB m) (hc : m.f0.f1 ≤ c) : InvS c id n (hearF id now P best root i m).ports (hearF id now P best root i m).best (hearF id now P best root i m).root := by
  unfold QTre.hearF
  by_cases hv : (0 ≤ i ∧ i < (P.length : Int)) ∧ goodB m = true ∧ m.f2 = 2
  · rw [if_pos hv]
    split
    · refine InvS.upd (by rw [List.length_set]; exact h.len) (all_set h.ok _ _ ?_)
      have hp := h.ok _ (getD_mem (P := P) (k := i.toNat) (by omega))
      exact ⟨⟨hm.1, hm.2.1, hp.1.2.2⟩, hp.2.1, hp.2.2.1, good_cost hv.2.1, hc⟩
    · exact h
  · rw [if_neg hv]; exact h
theorem fgt_ok (h : ∀ p ∈ P, OkP c p) : ∀ p ∈ tk1 now P, OkP c p := by
  intro p hp
  obtain ⟨q, hq, rfl⟩ := List.mem_map.1 hp
  have := h q hq
  unfold fgtP
  split
  · exact ⟨⟨fit0, fit0, this.1.2.2⟩, this.2.1, this.2.2.1, Int.le_refl _, by show (0 : Int) ≤ c; have := this.2; omega⟩
  · exact this
theorem InvS.tick (h : InvS c id n P best root) : InvS c id n (tickP id now P) (tickB id now P).1 (tickB id now P).2 := by
  refine ⟨by rw [List.length_map, updN_len, List.length_map]; exact h.len, ?_, bst_tick _ _ _⟩
  intro p hp
  obtain ⟨q, hq, rfl⟩ := List.mem_map.1 hp
  exact okP_set (fgt_ok h.ok) id now q hq
theorem InvS.holds (h : InvS c id n P best root) (hid : Pri.Fit id) (hb : brid id = true) (hc : 0 ≤ c) (hc2 : c ≤ 1073741823) :
    (best = ⟨id, 0, id, 0⟩ ∧ root = -1 ∧ ageR P root = 0) ∨ (brid best.f0 = true ∧ Pri.Fit best.f0 ∧ best.f0 < id ∧ 0 ≤ best.f1 ∧ best.f1 ≤ 2147483647 ∧ 0 ≤ root ∧ 1 ≤ ageR P root ∧ ageR P root ≤ 10) := by
  rcases bst_cases id P with e | ⟨k, hk, e, ht, hl⟩
  · rw [h.bst] at e
    injection e with e1 e2
    subst e1 e2
    exact .inl ⟨rfl, rfl, rfl⟩
  · rw [h.bst] at e
    injection e with e1 e2
    subst e1 e2
    have hp := h.ok _ (List.getElem_mem hk)
    unfold Pri.takes at ht
    have ht := of_decide_eq_true ht
    have hs : Pri.sumc P[k].f2.f0.f1 P[k].f1 = P[k].f2.f0.f1 + P[k].f1 := by
      have h1 := hp.2
      unfold Pri.sumc mx
      repeat' split
      all_goals omega
    have ha : ageR P (k : Int) = P[k].f2.f1 + 1 := by
      unfold ageR
      rw [if_neg (by omega), Int.toNat_natCast, getD_lt hk, IntWalk.i64_left]
      have h1 := ht.2.1
      have h2 := ht.2.2.1
      exact IntWalk.wrap64_in _ ⟨by have : (heardOf P[k]).f1 = P[k].f2.f1 := rfl; omega, by have : (heardOf P[k]).f1 = P[k].f2.f1 := rfl; omega⟩
    refine .inr ⟨ht.2.2.2.1, hp.1.1, hl, ?_, ?_, by omega, ?_, ?_⟩
    · show 0 ≤ Pri.sumc P[k].f2.f0.f1 P[k].f1
      rw [hs]; have := hp.2; omega
    · show Pri.sumc P[k].f2.f0.f1 P[k].f1 ≤ 2147483647
      rw [hs]; have := hp.2; omega
    · rw [ha]; have : 0 ≤ P[k].f2.f1 := ht.2.1; omega
    · rw [ha]; have : P[k].f2.f1 < 10 := ht.2.2.1; omega
end
end Go.Proofs.YtfimhaodgekkgaaDoor.QTre
namespace Go.Proofs.YtfimhaodgekkgaaDoor.QTre
open Go.RowKit Go.Proofs.YtfimhaodgekkgaaDoorW.PrintWords Go.Proofs.YtfimhaodgekkgaaDoorW.PrintLast Go.Proofs.YtfimhaodgekkgaaDoorW.PrintMore
open Go.Proofs.YtfimhaodgekkgaaDoor.Gen (Own Trn)
open Go.Proofs.YtfimhaodgekkgaaDoor.Pri (FitH roles bestOf role brid)
set_option linter.unusedVariables false
set_option linter.unusedSimpArgs false
attribute [local go_sem] max2_int min2_int max_two min_two
abbrev lay40 (W : World) (gb : Nat) (v0 v1 v2 v3 v4 v5 v6 v7 v8 v9 v10 v11 : Value) : World := ((((((((((((W.setCell ⟨gb, 0, none⟩ v0).setCell ⟨gb, 1, none⟩ v1).setCell ⟨gb, 2, none⟩ v2).setCell ⟨gb, 3, none⟩ v3).setCell ⟨gb, 4, none⟩ v4).setCell ⟨gb, 5, none⟩ v5).setCell ⟨gb, 6, none⟩ v6).setCell ⟨gb, 7, none⟩ v7).setCell ⟨gb, 8, none⟩ v8).setCell ⟨gb, 9, none⟩ v9).setCell ⟨gb, 10, none⟩ v10).setCell ⟨gb, 11, none⟩ v11)
theorem lay40_blk {W : World} {gb : Nat} (v0 v1 v2 v3 v4 v5 v6 v7 v8 v9 v10 v11 : Value) (h : W.heap[gb]? = some (.cells #[.int .i64 0, .int .i64 0, .bool false, .int .i64 0, .int .i64 0, .int .i64 0, .int .i64 0, .int .i64 0, .int .i64 0, .int .i64 0, .bool false, .int .i64 0] 40 (0, 0))) : (lay40 W gb v0 v1 v2 v3 v4 v5 v6 v7 v8 v9 v10 v11).heap[gb]? = some (.cells #[v0, v1, v2, v3, v4, v5, v6, v7, v8, v9, v10, v11] 40 (0, 0)) := by
  refine blk_put (cs := #[v0, v1, v2, v3, v4, v5, v6, v7, v8, v9, v10, .int .i64 0]) ?_ 11 _ rfl
  refine blk_put (cs := #[v0, v1, v2, v3, v4, v5, v6, v7, v8, v9, .bool false, .int .i64 0]) ?_ 10 _ rfl
  refine blk_put (cs := #[v0, v1, v2, v3, v4, v5, v6, v7, v8, .int .i64 0, .bool false, .int .i64 0]) ?_ 9 _ rfl
  refine blk_put (cs := #[v0, v1, v2, v3, v4, v5, v6, v7, .int .i64 0, .int .i64 0, .bool false, .int .i64 0]) ?_ 8 _ rfl
  refine blk_put (cs := #[v0, v1, v2, v3, v4, v5, v6, .int .i64 0, .int .i64 0, .int .i64 0, .bool false, .int .i64 0]) ?_ 7 _ rfl
  refine blk_put (cs := #[v0, v1, v2, v3, v4, v5, .int .i64 0, .int .i64 0, .int .i64 0, .int .i64 0, .bool false, .int .i64 0]) ?_ 6 _ rfl
  refine blk_put (cs := #[v0, v1, v2, v3, v4, .int .i64 0, .int .i64 0, .int .i64 0, .int .i64 0, .int .i64 0, .bool false, .int .i64 0]) ?_ 5 _ rfl
  refine blk_put (cs := #[v0, v1, v2, v3, .int .i64 0, .int .i64 0, .int .i64 0, .int .i64 0, .int .i64 0, .int .i64 0, .bool false, .int .i64 0]) ?_ 4 _ rfl
  refine blk_put (cs := #[v0, v1, v2, .int .i64 0, .int .i64 0, .int .i64 0, .int .i64 0, .int .i64 0, .int .i64 0, .int .i64 0, .bool false, .int .i64 0]) ?_ 3 _ rfl
  refine blk_put (cs := #[v0, v1, .bool false, .int .i64 0, .int .i64 0, .int .i64 0, .int .i64 0, .int .i64 0, .int .i64 0, .int .i64 0, .bool false, .int .i64 0]) ?_ 2 _ rfl
  refine blk_put (cs := #[v0, .int .i64 0, .bool false, .int .i64 0, .int .i64 0, .int .i64 0, .int .i64 0, .int .i64 0, .int .i64 0, .int .i64 0, .bool false, .int .i64 0]) ?_ 1 _ rfl
  refine blk_put (cs := #[.int .i64 0, .int .i64 0, .bool false, .int .i64 0, .int .i64 0, .int .i64 0, .int .i64 0, .int .i64 0, .int .i64 0, .int .i64 0, .bool false, .int .i64 0]) ?_ 0 _ rfl
  exact h
theorem lay40_bel {w W : World} {gb : Nat} (v0 v1 v2 v3 v4 v5 v6 v7 v8 v9 v10 v11 : Value) (h : Below w.heap.size w W) (hg : w.heap.size ≤ gb) : Below w.heap.size w (lay40 W gb v0 v1 v2 v3 v4 v5 v6 v7 v8 v9 v10 v11) := (below_set (below_set (below_set (below_set (below_set (below_set (below_set (below_set (below_set (below_set (below_set (below_set h hg) hg) hg) hg) hg) hg) hg) hg) hg) hg) hg) hg)
end Go.Proofs.YtfimhaodgekkgaaDoor.QTre
namespace Go.Proofs.YtfimhaodgekkgaaDoor.QTre
open Go.RowKit Go.Proofs.YtfimhaodgekkgaaDoorW.PrintWords Go.Proofs.YtfimhaodgekkgaaDoorW.PrintLast Go.Proofs.YtfimhaodgekkgaaDoorW.PrintMore
open Go.Proofs.YtfimhaodgekkgaaDoor.Gen (Own Trn)
open Go.Proofs.YtfimhaodgekkgaaDoor.Pri (FitH roles bestOf role brid conv)
set_option linter.unusedVariables false
set_option linter.unusedSimpArgs false
def enc103 (x : S103) : List Value := [.int .i64 x.f0, .int .i64 x.f1]
theorem R103 {w : World} {base : Nat} {ok : Nat → Prop} {v : Value} {xs : List S103} (h : Kd.R k103 103 w base ok v xs) : (v = .slice none 0 0 ∧ xs = []) ∨ ∃ b cap, v = .slice (some ⟨b, 0, none⟩) xs.length cap ∧ ok b ∧ base ≤ b ∧ cap ≤ maxLen ∧ Own enc103 2 103 w b cap xs :=
  Gen.Own.ofR (enc := enc103) (k := 2) (fun _ => rfl) rfl (fun w base ok x cs h => k103_openM h) h
theorem R103_lt {w : World} {base : Nat} {ok : Nat → Prop} {v : Value} {xs : List S103} (h : Kd.R k103 103 w base ok v xs) {q : Nat} (hq : v.ownBlock = some q) : q < w.heap.size ∧ base ≤ q := by
  rcases R103 h with ⟨rfl, _⟩ | ⟨b, cap, rfl, _, hb, _, ho⟩
  · cases hq
  · have e : b = q := by simpa [Value.ownBlock] using hq
    subst e
    exact ⟨ho.lt, hb⟩
theorem R103_base {w : World} {base base2 : Nat} {ok : Nat → Prop} {v : Value} {xs : List S103} (h : Kd.R k103 103 w base ok v xs) (hl : base2 ≤ base) : Kd.R k103 103 w base2 ok v xs := by
  rcases R103 h with ⟨rfl, rfl⟩ | ⟨b, cap, rfl, ho, hb, hm, hO⟩
  · exact Kd.R_nil _ _ _ _ _
  · exact hO.toR (d := k103) (fun _ => rfl) rfl (fun w base ok x => k103_mkM w base ok x) (Nat.le_trans hl hb) ho hm
structure RQ where
  up : Bool
  cost : Int
  heard : S80
  at_ : Int
  turns : List S103
structure RP where
  q : RQ
  v : Value
def encR (x : RP) : List Value := [.bool x.q.up, .int .i64 x.q.cost, .int .i64 x.q.heard.f0.f0, .int .i64 x.q.heard.f0.f1, .int .i64 x.q.heard.f0.f2, .int .i64 x.q.heard.f0.f3, .int .i64 x.q.heard.f1, .int .i64 x.q.heard.f2, .bool x.q.heard.f3, .int .i64 x.q.at_, x.v]
theorem encR_len (x : RP) : (encR x).length = 11 := rfl
def encO (x : Bool) : List Value := [.bool x]
abbrev okT (g b ob : Nat) : Nat → Prop := fun q => q ≠ g ∧ q ≠ b ∧ q ≠ ob
structure RTre (w : World) (base g b cap ob ocap : Nat) (id : Int) (P : List RP) (change : Int) (opens : List Bool) : Prop where
  cell : w.heap[g]? = some (.cells #[.int .i64 id, .slice (some ⟨b, 0, none⟩) P.length cap, .int .i64 change, .slice (some ⟨ob, 0, none⟩) opens.length ocap] 57 (0, 0))
  row : Own encR 11 62 w b cap P
  opn : Own encO 1 4 w ob ocap opens
  turns : ∀ (k : Nat) (h : k < P.length), Kd.R k103 103 w base (okT g b ob) P[k].v P[k].q.turns
  apart : ∀ (i j : Nat) (hi : i < P.length) (hj : j < P.length), i ≠ j → ∀ q, P[i].v.ownBlock = some q → P[j].v.ownBlock ≠ some q
  ne1 : g ≠ b
  ne2 : g ≠ ob
  ne3 : b ≠ ob
  low : base ≤ g
  lowb : base ≤ b
  lowo : base ≤ ob
  cap_le : cap ≤ maxLen
def RF (g b ob : Nat) (P : List RP) : Nat → Prop := fun q => q = g ∨ q = b ∨ q = ob ∨ ∃ (k : Nat) (h : k < P.length), P[k].v.ownBlock = some q
section
variable {w W : World} {base g b cap ob ocap : Nat} {id change : Int} {P : List RP} {opens : List Bool} {S : Nat → Prop}
theorem RTre.kept (h : RTre w base g b cap ob ocap id P change opens) (hk : Kept w W S) (hn : ∀ q, RF g b ob P q → ¬ S q) : RTre W base g b cap ob ocap id P change opens :=
  ⟨blk_kept h.cell hk (hn g (.inl rfl)), h.row.kept hk (hn b (.inr (.inl rfl))), h.opn.kept hk (hn ob (.inr (.inr (.inl rfl)))), fun k hk2 => Gen.R_kept rfl (h.turns k hk2) hk (fun q hq => hn q (.inr (.inr (.inr ⟨k, hk2, hq⟩)))), h.apart, h.ne1, h.ne2, h.ne3, h.low, h.lowb, h.lowo, h.cap_le⟩
theorem RTre.below (h : RTre w base g b cap ob ocap id P change opens) (hb : Below w.heap.size w W) : RTre W base g b cap ob ocap id P change opens := h.kept (Kept.of_below hb (fun _ => False)) (fun _ _ h => h)
theorem RTre.lt (h : RTre w base g b cap ob ocap id P change opens) : ∀ q, RF g b ob P q → q < w.heap.size := by
  rintro q (rfl | rfl | rfl | ⟨k, hk, e⟩)
  · exact blk_lt h.cell
  · exact h.row.lt
  · exact h.opn.lt
  · exact (R103_lt (h.turns k hk) e).1
theorem RTre.low_all (h : RTre w base g b cap ob ocap id P change opens) : ∀ q, RF g b ob P q → base ≤ q := by
  rintro q (rfl | rfl | rfl | ⟨k, hk, e⟩)
  · exact h.low
  · exact h.lowb
  · exact h.lowo
  · exact (R103_lt (h.turns k hk) e).2
theorem RTre.lower {base2 : Nat} (h : RTre w base g b cap ob ocap id P change opens) (hl : base2 ≤ base) : RTre w base2 g b cap ob ocap id P change opens :=
  ⟨h.cell, h.row, h.opn, fun k hk => R103_base (h.turns k hk) hl, h.apart, h.ne1, h.ne2, h.ne3, Nat.le_trans hl h.low, Nat.le_trans hl h.lowb, Nat.le_trans hl h.lowo, h.cap_le⟩
end
theorem Trn.grow {base : Nat} {w0 w W W2 : World} {F F' F2 : Nat → Prop} {row : Option Nat} (a : Trn base w0 w F F' W) (hs : base ≤ w.heap.size) (hg : W.grownBy W2 row) (hr : ∀ q, row = some q → F' q ∧ base ≤ q) (h2 : ∀ q, F2 q → F' q ∨ W.heap.size ≤ q) : Trn base w0 w F F2 W2 :=
  ⟨Below.grown a.bel hg (Nat.le_trans hs a.kept.1) (fun q hq => (hr q hq).2), ⟨Nat.le_trans a.kept.1 hg.size, fun q hq hn => by
    have h1 : some q ≠ row := fun e => by
      rcases a.own q (hr q e.symm).1 with h | h
      · exact hn h
      · omega
    exact (hg.block q (Nat.lt_of_lt_of_le hq a.kept.1) h1).trans (a.kept.2 q hq hn)⟩, fun q hq => by
    rcases h2 q hq with h | h
    · exact a.own q h
    · exact .inr (Nat.le_trans a.kept.1 h)⟩
theorem Trn.weak {base : Nat} {w0 w W : World} {F F' F2 : Nat → Prop} (a : Trn base w0 w F F' W) (h : ∀ q, F2 q → F' q) : Trn base w0 w F F2 W := ⟨a.bel, a.kept, fun q hq => a.own q (h q hq)⟩
structure RCells (w : World) (b q : Nat) (x : RP) : Prop where
  c0 : w.cell? ⟨b, q, none⟩ = some (.bool x.q.up)
  c1 : w.cell? ⟨b, q + 1, none⟩ = some (.int .i64 x.q.cost)
  c2 : w.cell? ⟨b, q + 2, none⟩ = some (.int .i64 x.q.heard.f0.f0)
  c3 : w.cell? ⟨b, q + 3, none⟩ = some (.int .i64 x.q.heard.f0.f1)
  c4 : w.cell? ⟨b, q + 4, none⟩ = some (.int .i64 x.q.heard.f0.f2)
  c5 : w.cell? ⟨b, q + 5, none⟩ = some (.int .i64 x.q.heard.f0.f3)
  c6 : w.cell? ⟨b, q + 6, none⟩ = some (.int .i64 x.q.heard.f1)
  c7 : w.cell? ⟨b, q + 7, none⟩ = some (.int .i64 x.q.heard.f2)
  c8 : w.cell? ⟨b, q + 8, none⟩ = some (.bool x.q.heard.f3)
  c9 : w.cell? ⟨b, q + 9, none⟩ = some (.int .i64 x.q.at_)
  c10 : w.cell? ⟨b, q + 10, none⟩ = some x.v
theorem rcells {w : World} {b cap : Nat} {xs : List RP} (h : Own encR 11 62 w b cap xs) (i : Nat) (hi : i < xs.length) : RCells w b (i * 11) xs[i] := by
  have k := fun j hj => h.at_ encR_len i j hi hj
  exact ⟨k 0 (by decide), k 1 (by decide), k 2 (by decide), k 3 (by decide), k 4 (by decide), k 5 (by decide), k 6 (by decide), k 7 (by decide), k 8 (by decide), k 9 (by decide), k 10 (by decide)⟩
section
variable {w W W2 : World} {base g b cap ob ocap : Nat} {id change : Int} {P : List RP} {opens : List Bool}
theorem RTre.put (h : RTre w base g b cap ob ocap id P change opens) {k : Nat} (hk : k < P.length) (j : Nat) (hj : j < 11) (y : RP) (v : Value) (e : encR y = (encR P[k]).set j v) (hv : y.v = P[k].v) (ht : y.q.turns = P[k].q.turns) :
    RTre (w.setCell ⟨b, k * 11 + j, none⟩ v) base g b cap ob ocap id (P.set k y) change opens := by
  have hK := Gen.kept_set w b (k * 11 + j) v
  have gv : ∀ (i : Nat) (hi : i < (P.set k y).length), (P.set k y)[i].v = (P[i]'(by rw [List.length_set] at hi; exact hi)).v := by
    intro i hi
    rw [List.getElem_set]
    split
    · rename_i e2; subst e2; exact hv
    · rfl
  refine ⟨?_, h.row.put encR_len k j hk hj y v e, h.opn.kept hK (fun e => h.ne3 e.symm), ?_, ?_, h.ne1, h.ne2, h.ne3, h.low, h.lowb, h.lowo, h.cap_le⟩
  · rw [List.length_set]; exact blk_kept h.cell hK h.ne1
  · intro i hi
    have hi2 : i < P.length := by rw [List.length_set] at hi; exact hi
    have hr := Gen.R_kept rfl (h.turns i hi2) hK (fun q hq e => ((h.turns i hi2).1 q hq).2.1 e)
    rw [gv i hi]
    rw [List.getElem_set]
    split
    · rename_i e2; subst e2; rw [ht]; exact hr
    · exact hr
  · intro i j hi hj hne q hq
    rw [gv] at hq ⊢
    exact h.apart i j _ _ hne q hq
theorem RTre.chg (h : RTre w base g b cap ob ocap id P change opens) (c : Int) : RTre (w.setCell ⟨g, 2, none⟩ (.int .i64 c)) base g b cap ob ocap id P c opens := by
  have hK := Gen.kept_set w g 2 (.int .i64 c)
  exact ⟨blk_put h.cell 2 _ rfl, h.row.kept hK (fun e => h.ne1 e.symm), h.opn.kept hK (fun e => h.ne2 e.symm), fun i hi => Gen.R_kept rfl (h.turns i hi) hK (fun q hq e => ((h.turns i hi).1 q hq).1 e), h.apart, h.ne1, h.ne2, h.ne3, h.low, h.lowb, h.lowo, h.cap_le⟩
theorem RTre.turn (h : RTre w base g b cap ob ocap id P change opens) {k : Nat} (hk : k < P.length) (hg : w.grownBy W P[k].v.ownBlock) (v : Value) (T : List S103) (hr : Kd.R k103 103 W base (fun q => some q = P[k].v.ownBlock ∨ w.heap.size ≤ q) v T) :
    RTre (W.setCell ⟨b, k * 11 + 10, none⟩ v) base g b cap ob ocap id (P.set k ⟨⟨P[k].q.up, P[k].q.cost, P[k].q.heard, P[k].q.at_, T⟩, v⟩) change opens := by
  have hok := h.turns k hk
  have hKw : Kept w W (fun q => some q = P[k].v.ownBlock) := ⟨hg.size, fun q hq hn => hg.block q hq hn⟩
  have hK := Gen.kept_set W b (k * 11 + 10) v
  have nb : ∀ q, some q = P[k].v.ownBlock → okT g b ob q := fun q hq => hok.1 q hq.symm
  have nG : ¬ some g = P[k].v.ownBlock := fun e => (nb g e).1 rfl
  have nB : ¬ some b = P[k].v.ownBlock := fun e => (nb b e).2.1 rfl
  have nO : ¬ some ob = P[k].v.ownBlock := fun e => (nb ob e).2.2 rfl
  have lt := h.lt
  have own : ∀ q, v.ownBlock = some q → okT g b ob q := by
    intro q hq
    rcases hr.1 q hq with e | e
    · exact nb q e
    · have h1 := lt g (.inl rfl); have h2 := lt b (.inr (.inl rfl)); have h3 := lt ob (.inr (.inr (.inl rfl)))
      exact ⟨by omega, by omega, by omega⟩
  have gv : ∀ (i : Nat) (hi : i < P.length), i ≠ k → (P.set k ⟨⟨P[k].q.up, P[k].q.cost, P[k].q.heard, P[k].q.at_, T⟩, v⟩)[i]'(by rw [List.length_set]; exact hi) = P[i] := fun i hi hne => by
    rw [List.getElem_set, if_neg (fun e => hne e.symm)]
  have gk : (P.set k ⟨⟨P[k].q.up, P[k].q.cost, P[k].q.heard, P[k].q.at_, T⟩, v⟩)[k]'(by rw [List.length_set]; exact hk) = ⟨⟨P[k].q.up, P[k].q.cost, P[k].q.heard, P[k].q.at_, T⟩, v⟩ := by rw [List.getElem_set_self]
  have far : ∀ (i : Nat) (hi : i < P.length), i ≠ k → ∀ q, P[i].v.ownBlock = some q → v.ownBlock ≠ some q := by
    intro i hi hne q hq e
    rcases hr.1 q e with h1 | h1
    · exact h.apart i k hi hk hne q hq h1.symm
    · have := lt q (.inr (.inr (.inr ⟨i, hi, hq⟩))); omega
  refine ⟨?_, (h.row.kept hKw nB).put encR_len k 10 hk (by decide) ⟨⟨P[k].q.up, P[k].q.cost, P[k].q.heard, P[k].q.at_, T⟩, v⟩ v rfl, (h.opn.kept hKw nO).kept hK (fun e => h.ne3 e.symm), ?_, ?_, h.ne1, h.ne2, h.ne3, h.low, h.lowb, h.lowo, h.cap_le⟩
  · rw [List.length_set]; exact blk_kept (blk_kept h.cell hKw nG) hK h.ne1
  · intro i hi
    have hi2 : i < P.length := by rw [List.length_set] at hi; exact hi
    by_cases e : i = k
    · subst e
      rw [gk]
      exact Gen.R_kept rfl (Gen.R_kept (S := fun _ => False) rfl (Kd.R_reok rfl hr own) (Kept.refl _ _) (fun _ _ h => h)) hK (fun q hq e => (own q hq).2.1 e)
    · rw [gv i hi2 e]
      exact Gen.R_kept rfl (Gen.R_kept rfl (h.turns i hi2) hKw (fun q hq e2 => h.apart i k hi2 hk e q hq e2.symm)) hK (fun q hq e2 => ((h.turns i hi2).1 q hq).2.1 e2)
  · intro i j hi hj hne q hq
    have hi2 : i < P.length := by rw [List.length_set] at hi; exact hi
    have hj2 : j < P.length := by rw [List.length_set] at hj; exact hj
    by_cases e : i = k
    · subst e
      rw [gk] at hq
      rw [gv j hj2 (fun e => hne e.symm)]
      exact fun e2 => far j hj2 (fun e => hne e.symm) q e2 hq
    · rw [gv i hi2 e] at hq
      by_cases e3 : j = k
      · subst e3
        rw [gk]
        exact far i hi2 e q hq
      · rw [gv j hj2 e3]
        exact h.apart i j hi2 hj2 hne q hq
theorem RF_turn {k : Nat} (hk : k < P.length) {v : Value} {x : RQ} (hv : ∀ q, v.ownBlock = some q → some q = P[k].v.ownBlock ∨ w.heap.size ≤ q) : ∀ q, RF g b ob (P.set k ⟨x, v⟩) q → RF g b ob P q ∨ w.heap.size ≤ q := by
  rintro q (rfl | rfl | rfl | ⟨i, hi, e⟩)
  · exact .inl (.inl rfl)
  · exact .inl (.inr (.inl rfl))
  · exact .inl (.inr (.inr (.inl rfl)))
  · have hi2 : i < P.length := by rw [List.length_set] at hi; exact hi
    rw [List.getElem_set] at e
    split at e
    · rcases hv q e with h | h
      · exact .inl (.inr (.inr (.inr ⟨k, hk, h.symm⟩)))
      · exact .inr h
    · exact .inl (.inr (.inr (.inr ⟨i, hi2, e⟩)))
theorem RF_put {k : Nat} (hk : k < P.length) {y : RP} (hv : y.v = P[k].v) : ∀ q, RF g b ob (P.set k y) q → RF g b ob P q := by
  rintro q (rfl | rfl | rfl | ⟨i, hi, e⟩)
  · exact .inl rfl
  · exact .inr (.inl rfl)
  · exact .inr (.inr (.inl rfl))
  · have hi2 : i < P.length := by rw [List.length_set] at hi; exact hi
    rw [List.getElem_set] at e
    split at e
    · rw [hv] at e; exact .inr (.inr (.inr ⟨k, hk, e⟩))
    · exact .inr (.inr (.inr ⟨i, hi2, e⟩))
end
end Go.Proofs.YtfimhaodgekkgaaDoor.QTre
namespace Go.Proofs.YtfimhaodgekkgaaDoor.QTre
open Go.RowKit Go.Proofs.YtfimhaodgekkgaaDoorW.PrintWords Go.Proofs.YtfimhaodgekkgaaDoorW.PrintLast Go.Proofs.YtfimhaodgekkgaaDoorW.PrintMore
open Go.Proofs.YtfimhaodgekkgaaDoor.Gen (Own Trn)
open Go.Proofs.YtfimhaodgekkgaaDoor.Pri (FitH roles bestOf role brid conv)
set_option linter.unusedVariables false
set_option linter.unusedSimpArgs false
abbrev lay62 (W : World) (gb : Nat) (v0 v1 v2 v3 v4 v5 v6 v7 v8 v9 v10 : Value) : World := (((((((((((W.setCell ⟨gb, 0, none⟩ v0).setCell ⟨gb, 1, none⟩ v1).setCell ⟨gb, 2, none⟩ v2).setCell ⟨gb, 3, none⟩ v3).setCell ⟨gb, 4, none⟩ v4).setCell ⟨gb, 5, none⟩ v5).setCell ⟨gb, 6, none⟩ v6).setCell ⟨gb, 7, none⟩ v7).setCell ⟨gb, 8, none⟩ v8).setCell ⟨gb, 9, none⟩ v9).setCell ⟨gb, 10, none⟩ v10)
theorem lay62_blk {W : World} {gb : Nat} (v0 v1 v2 v3 v4 v5 v6 v7 v8 v9 v10 : Value) (h : W.heap[gb]? = some (.cells #[.bool false, .int .i64 0, .int .i64 0, .int .i64 0, .int .i64 0, .int .i64 0, .int .i64 0, .int .i64 0, .bool false, .int .i64 0, .slice none 0 0] 62 (0, 0))) : (lay62 W gb v0 v1 v2 v3 v4 v5 v6 v7 v8 v9 v10).heap[gb]? = some (.cells #[v0, v1, v2, v3, v4, v5, v6, v7, v8, v9, v10] 62 (0, 0)) := by
  refine blk_put (cs := #[v0, v1, v2, v3, v4, v5, v6, v7, v8, v9, .slice none 0 0]) ?_ 10 _ rfl
  refine blk_put (cs := #[v0, v1, v2, v3, v4, v5, v6, v7, v8, .int .i64 0, .slice none 0 0]) ?_ 9 _ rfl
  refine blk_put (cs := #[v0, v1, v2, v3, v4, v5, v6, v7, .bool false, .int .i64 0, .slice none 0 0]) ?_ 8 _ rfl
  refine blk_put (cs := #[v0, v1, v2, v3, v4, v5, v6, .int .i64 0, .bool false, .int .i64 0, .slice none 0 0]) ?_ 7 _ rfl
  refine blk_put (cs := #[v0, v1, v2, v3, v4, v5, .int .i64 0, .int .i64 0, .bool false, .int .i64 0, .slice none 0 0]) ?_ 6 _ rfl
  refine blk_put (cs := #[v0, v1, v2, v3, v4, .int .i64 0, .int .i64 0, .int .i64 0, .bool false, .int .i64 0, .slice none 0 0]) ?_ 5 _ rfl
  refine blk_put (cs := #[v0, v1, v2, v3, .int .i64 0, .int .i64 0, .int .i64 0, .int .i64 0, .bool false, .int .i64 0, .slice none 0 0]) ?_ 4 _ rfl
  refine blk_put (cs := #[v0, v1, v2, .int .i64 0, .int .i64 0, .int .i64 0, .int .i64 0, .int .i64 0, .bool false, .int .i64 0, .slice none 0 0]) ?_ 3 _ rfl
  refine blk_put (cs := #[v0, v1, .int .i64 0, .int .i64 0, .int .i64 0, .int .i64 0, .int .i64 0, .int .i64 0, .bool false, .int .i64 0, .slice none 0 0]) ?_ 2 _ rfl
  refine blk_put (cs := #[v0, .int .i64 0, .int .i64 0, .int .i64 0, .int .i64 0, .int .i64 0, .int .i64 0, .int .i64 0, .bool false, .int .i64 0, .slice none 0 0]) ?_ 1 _ rfl
  refine blk_put (cs := #[.bool false, .int .i64 0, .int .i64 0, .int .i64 0, .int .i64 0, .int .i64 0, .int .i64 0, .int .i64 0, .bool false, .int .i64 0, .slice none 0 0]) ?_ 0 _ rfl
  exact h
theorem lay62_bel {w W : World} {gb : Nat} (v0 v1 v2 v3 v4 v5 v6 v7 v8 v9 v10 : Value) (h : Below w.heap.size w W) (hg : w.heap.size ≤ gb) : Below w.heap.size w (lay62 W gb v0 v1 v2 v3 v4 v5 v6 v7 v8 v9 v10) := (below_set (below_set (below_set (below_set (below_set (below_set (below_set (below_set (below_set (below_set (below_set h hg) hg) hg) hg) hg) hg) hg) hg) hg) hg) hg)
abbrev lay59 (W : World) (gb : Nat) (v0 v1 v2 v3 v4 v5 v6 : Value) : World := (((((((W.setCell ⟨gb, 0, none⟩ v0).setCell ⟨gb, 1, none⟩ v1).setCell ⟨gb, 2, none⟩ v2).setCell ⟨gb, 3, none⟩ v3).setCell ⟨gb, 4, none⟩ v4).setCell ⟨gb, 5, none⟩ v5).setCell ⟨gb, 6, none⟩ v6)
theorem lay59_blk {W : World} {gb : Nat} (v0 v1 v2 v3 v4 v5 v6 : Value) (h : W.heap[gb]? = some (.cells #[.int .i64 0, .int .i64 0, .int .i64 0, .int .i64 0, .int .i64 0, .int .i64 0, .bool false] 59 (0, 0))) : (lay59 W gb v0 v1 v2 v3 v4 v5 v6).heap[gb]? = some (.cells #[v0, v1, v2, v3, v4, v5, v6] 59 (0, 0)) := by
  refine blk_put (cs := #[v0, v1, v2, v3, v4, v5, .bool false]) ?_ 6 _ rfl
  refine blk_put (cs := #[v0, v1, v2, v3, v4, .int .i64 0, .bool false]) ?_ 5 _ rfl
  refine blk_put (cs := #[v0, v1, v2, v3, .int .i64 0, .int .i64 0, .bool false]) ?_ 4 _ rfl
  refine blk_put (cs := #[v0, v1, v2, .int .i64 0, .int .i64 0, .int .i64 0, .bool false]) ?_ 3 _ rfl
  refine blk_put (cs := #[v0, v1, .int .i64 0, .int .i64 0, .int .i64 0, .int .i64 0, .bool false]) ?_ 2 _ rfl
  refine blk_put (cs := #[v0, .int .i64 0, .int .i64 0, .int .i64 0, .int .i64 0, .int .i64 0, .bool false]) ?_ 1 _ rfl
  refine blk_put (cs := #[.int .i64 0, .int .i64 0, .int .i64 0, .int .i64 0, .int .i64 0, .int .i64 0, .bool false]) ?_ 0 _ rfl
  exact h
theorem lay59_bel {w W : World} {gb : Nat} (v0 v1 v2 v3 v4 v5 v6 : Value) (h : Below w.heap.size w W) (hg : w.heap.size ≤ gb) : Below w.heap.size w (lay59 W gb v0 v1 v2 v3 v4 v5 v6) := (below_set (below_set (below_set (below_set (below_set (below_set (below_set h hg) hg) hg) hg) hg) hg) hg)
def heardQ (x : RQ) : S80 := ⟨x.heard.f0, x.heard.f1, x.cost, x.heard.f3 || !x.up⟩
abbrev listQ (P : List RP) : List S80 := P.map (fun x => heardQ x.q)
theorem info59 : (Tryd.prog.info? 59).map (fun i => (i.zero, i.size, i.bytes)) = some (some (.agg #[(.int .i64 0), (.int .i64 0), (.int .i64 0), (.int .i64 0), (.int .i64 0), (.int .i64 0), (.bool false)]), 7, 56) := by kernel_rfl
set_option maxHeartbeats 8000000 in
set_option maxRecDepth 100000 in
theorem rlist_calls (base g b cap ob ocap : Nat) (id : Int) (P : List RP) (change : Int) (opens : List Bool) (w : World) (ht : RTre w base g b cap ob ocap id P change opens) (hn : P.length ≤ 100) :
    Calls Tryd.prog 52 #[.pointer (some ⟨g, 0, none⟩)] w fun e w' => ∃ v, e = .returned v ∧ Kd.R k59 59 w' w.heap.size (fun _ => True) v ((listQ P).map conv) ∧ Below w.heap.size w w' := by
  have hu59 := Tryd.underlying59
  have hu62 := Tryd.underlying62
  have hg1 : w.cell? ⟨g, 1, none⟩ = some (.slice (some ⟨b, 0, none⟩) P.length cap) := (blk_cell ht.cell 1).trans rfl
  have HT := Aside0.mk ht
  clear ht
  go_enter Tryd.func52, Tryd.ntmps52
  go_wp2
  go_loopg [3, 12] P.length (fun gk s3 s12 wr => ∃ i : Nat, s12 = .int .i64 i ∧ i ≤ P.length ∧ P.length - i ≤ gk ∧ Aside0 (Kd.R k59 59 wr w.heap.size (fun _ => True) s3 ((listQ (P.take i)).map conv)) ∧ Aside0 (Below w.heap.size w wr))
  case atStart => exact ⟨0, rfl, Nat.zero_le _, by omega, ⟨Kd.R_nil _ _ _ _ _⟩, ⟨Below.refl _ _⟩⟩
  case round =>
    obtain ⟨i, rfl, hil, hgk, HO, HB⟩ := hrel
    by_cases hlt : i < P.length
    · have hlz : (i : Int) < (P.length : Int) := by omega
      have htr := HT.out.below HB.out
      obtain ⟨hx0, hx1, hx2, hx3, hx4, hx5, hx6, hx7, hx8, hx9, hx10⟩ := rcells htr.row i hlt
      obtain ⟨A, k, ev⟩ : ∃ A k, P[i].v = .slice A P[i].q.turns.length k := Kd.R_slice (htr.turns i hlt)
      rw [ev] at hx10
      clear ev htr
      have hst : (listQ (P.take (i + 1))).map conv = (listQ (P.take i)).map conv ++ [conv (heardQ P[i].q)] := by rw [List.take_succ_eq_append_getElem hlt, listQ, List.map_append, List.map_append]; rfl
      have HST := Aside0.mk hst
      have HLL := Aside0.mk (show (((listQ (P.take i)).map conv).length + 1) * 56 ≤ 140737488355328 by rw [List.length_map, List.length_map, List.length_take]; omega)
      clear hst
      generalize (listQ (P.take i)).map conv = Q at HO HST HLL
      generalize P[i].q = x at hx0 hx1 hx2 hx3 hx4 hx5 hx6 hx7 hx8 hx9 hx10 HST
      obtain ⟨u, c, ⟨⟨v0, v1, v2, v3⟩, v4, v5, v6⟩, a, T⟩ := x
      dsimp only at hx0 hx1 hx2 hx3 hx4 hx5 hx6 hx7 hx8 hx9 hx10
      generalize T.length = n at hx10
      have key : (v6 = true) ∨ (v6 = false ∧ u = true) ∨ (v6 = false ∧ u = false) := by cases v6 <;> cases u <;> simp
      rcases key with e6 | ⟨e6, e0⟩ | ⟨e6, e0⟩
      · subst e6
        go_upto_region 5 with ((with_reducible refine gate_dst (N := 5) rfl ?_); refine box_event ?hg (N := 5) ?hd (cs := #[.bool false, .int .i64 0, .int .i64 0, .int .i64 0, .int .i64 0, .int .i64 0, .int .i64 0, .int .i64 0, .bool false, .int .i64 0, .slice none 0 0]) (t := 62) ?hr ?_; (case hd => rfl); (case hg => rfl); (case hr => first | (go_simp; done) | (go_simp; rfl)); intro pb hg w4 hbox hb; have hcz0 : w4.cell? ⟨pb, 0, none⟩ = some (.bool false) := (blk_cell hbox 0).trans rfl; have hfz0 := blk_frozen hbox 0; have hcz1 : w4.cell? ⟨pb, 1, none⟩ = some (.int .i64 0) := (blk_cell hbox 1).trans rfl; have hfz1 := blk_frozen hbox 1; have hcz2 : w4.cell? ⟨pb, 2, none⟩ = some (.int .i64 0) := (blk_cell hbox 2).trans rfl; have hfz2 := blk_frozen hbox 2; have hcz3 : w4.cell? ⟨pb, 3, none⟩ = some (.int .i64 0) := (blk_cell hbox 3).trans rfl; have hfz3 := blk_frozen hbox 3; have hcz4 : w4.cell? ⟨pb, 4, none⟩ = some (.int .i64 0) := (blk_cell hbox 4).trans rfl; have hfz4 := blk_frozen hbox 4; have hcz5 : w4.cell? ⟨pb, 5, none⟩ = some (.int .i64 0) := (blk_cell hbox 5).trans rfl; have hfz5 := blk_frozen hbox 5; have hcz6 : w4.cell? ⟨pb, 6, none⟩ = some (.int .i64 0) := (blk_cell hbox 6).trans rfl; have hfz6 := blk_frozen hbox 6; have hcz7 : w4.cell? ⟨pb, 7, none⟩ = some (.int .i64 0) := (blk_cell hbox 7).trans rfl; have hfz7 := blk_frozen hbox 7; have hcz8 : w4.cell? ⟨pb, 8, none⟩ = some (.bool false) := (blk_cell hbox 8).trans rfl; have hfz8 := blk_frozen hbox 8; have hcz9 : w4.cell? ⟨pb, 9, none⟩ = some (.int .i64 0) := (blk_cell hbox 9).trans rfl; have hfz9 := blk_frozen hbox 9; have hcz10 : w4.cell? ⟨pb, 10, none⟩ = some (.slice none 0 0) := (blk_cell hbox 10).trans rfl; have hfz10 := blk_frozen hbox 10; have BX := Aside0.mk hbox; have KX := Aside0.mk hb; have HGB := Aside0.mk hg; clear hbox hb hg)
        have B5 : Below wr.heap.size wr (((((((((((w4.setCell ⟨pb, 0, none⟩ (.bool u)).setCell ⟨pb, 1, none⟩ (.int .i64 c)).setCell ⟨pb, 2, none⟩ (.int .i64 v0)).setCell ⟨pb, 3, none⟩ (.int .i64 v1)).setCell ⟨pb, 4, none⟩ (.int .i64 v2)).setCell ⟨pb, 5, none⟩ (.int .i64 v3)).setCell ⟨pb, 6, none⟩ (.int .i64 v4)).setCell ⟨pb, 7, none⟩ (.int .i64 v5)).setCell ⟨pb, 8, none⟩ (.bool true)).setCell ⟨pb, 9, none⟩ (.int .i64 a)).setCell ⟨pb, 10, none⟩ (.slice A n k)) := lay62_bel (.bool u) (.int .i64 c) (.int .i64 v0) (.int .i64 v1) (.int .i64 v2) (.int .i64 v3) (.int .i64 v4) (.int .i64 v5) (.bool true) (.int .i64 a) (.slice A n k) KX.out (Nat.le_of_eq HGB.out.symm)
        have X5 : (((((((((((w4.setCell ⟨pb, 0, none⟩ (.bool u)).setCell ⟨pb, 1, none⟩ (.int .i64 c)).setCell ⟨pb, 2, none⟩ (.int .i64 v0)).setCell ⟨pb, 3, none⟩ (.int .i64 v1)).setCell ⟨pb, 4, none⟩ (.int .i64 v2)).setCell ⟨pb, 5, none⟩ (.int .i64 v3)).setCell ⟨pb, 6, none⟩ (.int .i64 v4)).setCell ⟨pb, 7, none⟩ (.int .i64 v5)).setCell ⟨pb, 8, none⟩ (.bool true)).setCell ⟨pb, 9, none⟩ (.int .i64 a)).setCell ⟨pb, 10, none⟩ (.slice A n k)).heap[pb]? = some (.cells #[.bool u, .int .i64 c, .int .i64 v0, .int .i64 v1, .int .i64 v2, .int .i64 v3, .int .i64 v4, .int .i64 v5, .bool true, .int .i64 a, .slice A n k] 62 (0, 0)) := lay62_blk (.bool u) (.int .i64 c) (.int .i64 v0) (.int .i64 v1) (.int .i64 v2) (.int .i64 v3) (.int .i64 v4) (.int .i64 v5) (.bool true) (.int .i64 a) (.slice A n k) BX.out
        generalize (((((((((((w4.setCell ⟨pb, 0, none⟩ (.bool u)).setCell ⟨pb, 1, none⟩ (.int .i64 c)).setCell ⟨pb, 2, none⟩ (.int .i64 v0)).setCell ⟨pb, 3, none⟩ (.int .i64 v1)).setCell ⟨pb, 4, none⟩ (.int .i64 v2)).setCell ⟨pb, 5, none⟩ (.int .i64 v3)).setCell ⟨pb, 6, none⟩ (.int .i64 v4)).setCell ⟨pb, 7, none⟩ (.int .i64 v5)).setCell ⟨pb, 8, none⟩ (.bool true)).setCell ⟨pb, 9, none⟩ (.int .i64 a)).setCell ⟨pb, 10, none⟩ (.slice A n k)) = w5 at B5 X5 ⊢
        have hp0 : w5.cell? ⟨pb, 0, none⟩ = some (.bool u) := (blk_cell X5 0).trans rfl
        have hp1 : w5.cell? ⟨pb, 1, none⟩ = some (.int .i64 c) := (blk_cell X5 1).trans rfl
        have hp2 : w5.cell? ⟨pb, 2, none⟩ = some (.int .i64 v0) := (blk_cell X5 2).trans rfl
        have hp3 : w5.cell? ⟨pb, 3, none⟩ = some (.int .i64 v1) := (blk_cell X5 3).trans rfl
        have hp4 : w5.cell? ⟨pb, 4, none⟩ = some (.int .i64 v2) := (blk_cell X5 4).trans rfl
        have hp5 : w5.cell? ⟨pb, 5, none⟩ = some (.int .i64 v3) := (blk_cell X5 5).trans rfl
        have hp6 : w5.cell? ⟨pb, 6, none⟩ = some (.int .i64 v4) := (blk_cell X5 6).trans rfl
        have hp7 : w5.cell? ⟨pb, 7, none⟩ = some (.int .i64 v5) := (blk_cell X5 7).trans rfl
        have hp8 : w5.cell? ⟨pb, 8, none⟩ = some (.bool true) := (blk_cell X5 8).trans rfl
        have hp9 : w5.cell? ⟨pb, 9, none⟩ = some (.int .i64 a) := (blk_cell X5 9).trans rfl
        have hp10 : w5.cell? ⟨pb, 10, none⟩ = some (.slice A n k) := (blk_cell X5 10).trans rfl
        clear hcz0 hfz0 hcz1 hfz1 hcz2 hfz2 hcz3 hfz3 hcz4 hfz4 hcz5 hfz5 hcz6 hfz6 hcz7 hfz7 hcz8 hfz8 hcz9 hfz9 hcz10 hfz10 BX KX HGB X5 hx0 hx1 hx2 hx3 hx4 hx5 hx6 hx7 hx8 hx9 hx10
        go_upto_region 6 with ((with_reducible refine gate_dst (N := 6) rfl ?_); refine box_event ?hg (N := 6) ?hd (cs := #[.int .i64 0, .int .i64 0, .int .i64 0, .int .i64 0, .int .i64 0, .int .i64 0, .bool false]) (t := 59) ?hr ?_; (case hd => rfl); (case hg => rfl); (case hr => first | (go_simp; done) | (go_simp; rfl)); intro qb hg w6 hbox hb; have hcz0 : w6.cell? ⟨qb, 0, none⟩ = some (.int .i64 0) := (blk_cell hbox 0).trans rfl; have hfz0 := blk_frozen hbox 0; have hcz1 : w6.cell? ⟨qb, 1, none⟩ = some (.int .i64 0) := (blk_cell hbox 1).trans rfl; have hfz1 := blk_frozen hbox 1; have hcz2 : w6.cell? ⟨qb, 2, none⟩ = some (.int .i64 0) := (blk_cell hbox 2).trans rfl; have hfz2 := blk_frozen hbox 2; have hcz3 : w6.cell? ⟨qb, 3, none⟩ = some (.int .i64 0) := (blk_cell hbox 3).trans rfl; have hfz3 := blk_frozen hbox 3; have hcz4 : w6.cell? ⟨qb, 4, none⟩ = some (.int .i64 0) := (blk_cell hbox 4).trans rfl; have hfz4 := blk_frozen hbox 4; have hcz5 : w6.cell? ⟨qb, 5, none⟩ = some (.int .i64 0) := (blk_cell hbox 5).trans rfl; have hfz5 := blk_frozen hbox 5; have hcz6 : w6.cell? ⟨qb, 6, none⟩ = some (.bool false) := (blk_cell hbox 6).trans rfl; have hfz6 := blk_frozen hbox 6; have BX := Aside0.mk hbox; have KX := Aside0.mk hb; have HGB := Aside0.mk hg; clear hbox hb hg)
        have B7 : Below w5.heap.size w5 (((((((w6.setCell ⟨qb, 0, none⟩ (.int .i64 v0)).setCell ⟨qb, 1, none⟩ (.int .i64 v1)).setCell ⟨qb, 2, none⟩ (.int .i64 v2)).setCell ⟨qb, 3, none⟩ (.int .i64 v3)).setCell ⟨qb, 4, none⟩ (.int .i64 v4)).setCell ⟨qb, 5, none⟩ (.int .i64 v5)).setCell ⟨qb, 6, none⟩ (.bool true)) := lay59_bel (.int .i64 v0) (.int .i64 v1) (.int .i64 v2) (.int .i64 v3) (.int .i64 v4) (.int .i64 v5) (.bool true) KX.out (Nat.le_of_eq HGB.out.symm)
        have X7 : (((((((w6.setCell ⟨qb, 0, none⟩ (.int .i64 v0)).setCell ⟨qb, 1, none⟩ (.int .i64 v1)).setCell ⟨qb, 2, none⟩ (.int .i64 v2)).setCell ⟨qb, 3, none⟩ (.int .i64 v3)).setCell ⟨qb, 4, none⟩ (.int .i64 v4)).setCell ⟨qb, 5, none⟩ (.int .i64 v5)).setCell ⟨qb, 6, none⟩ (.bool true)).heap[qb]? = some (.cells #[.int .i64 v0, .int .i64 v1, .int .i64 v2, .int .i64 v3, .int .i64 v4, .int .i64 v5, .bool true] 59 (0, 0)) := lay59_blk (.int .i64 v0) (.int .i64 v1) (.int .i64 v2) (.int .i64 v3) (.int .i64 v4) (.int .i64 v5) (.bool true) BX.out
        have hqb : w5.heap.size ≤ qb := Nat.le_of_eq HGB.out.symm
        generalize (((((((w6.setCell ⟨qb, 0, none⟩ (.int .i64 v0)).setCell ⟨qb, 1, none⟩ (.int .i64 v1)).setCell ⟨qb, 2, none⟩ (.int .i64 v2)).setCell ⟨qb, 3, none⟩ (.int .i64 v3)).setCell ⟨qb, 4, none⟩ (.int .i64 v4)).setCell ⟨qb, 5, none⟩ (.int .i64 v5)).setCell ⟨qb, 6, none⟩ (.bool true)) = w7 at B7 X7 ⊢
        have hq0 : w7.cell? ⟨qb, 5, none⟩ = some (.int .i64 v5) := (blk_cell X7 5).trans rfl
        have hq6 : w7.cell? ⟨qb, 6, none⟩ = some (.bool true) := (blk_cell X7 6).trans rfl
        have hqf := blk_frozen X7 5
        have hqf6 := blk_frozen X7 6
        have hy0 : w7.cell? ⟨pb, 0, none⟩ = some (.bool u) := pw_cell_below B7 hp0
        have hy1 : w7.cell? ⟨pb, 1, none⟩ = some (.int .i64 c) := pw_cell_below B7 hp1
        have hpl : pb < w5.heap.size := World.block_lt_of_cell? w5 _ hp0
        have hpq : ¬ (pb = qb) := by omega
        have hqp : ¬ (qb = pb) := by omega
        clear hcz0 hfz0 hcz1 hfz1 hcz2 hfz2 hcz3 hfz3 hcz4 hfz4 hcz5 hfz5 hcz6 hfz6 BX KX HGB hp0 hp1 hp2 hp3 hp4 hp5 hp6 hp7 hp8 hp9 hp10
        go_upto_region 8 with fail
        have B8 : Below w5.heap.size w5 ((w7.setCell ⟨qb, 5, none⟩ (.int .i64 c)).setCell ⟨qb, 6, none⟩ (.bool true)) := below_set (below_set B7 hqb) hqb
        have X8 : ((w7.setCell ⟨qb, 5, none⟩ (.int .i64 c)).setCell ⟨qb, 6, none⟩ (.bool true)).heap[qb]? = some (.cells #[.int .i64 v0, .int .i64 v1, .int .i64 v2, .int .i64 v3, .int .i64 v4, .int .i64 c, .bool true] 59 (0, 0)) := blk_put (cs := #[.int .i64 v0, .int .i64 v1, .int .i64 v2, .int .i64 v3, .int .i64 v4, .int .i64 c, .bool true]) (blk_put X7 5 _ rfl) 6 _ rfl
        generalize (w7.setCell ⟨qb, 5, none⟩ (.int .i64 c)).setCell ⟨qb, 6, none⟩ (.bool true) = w8 at B8 X8 ⊢
        have hr0 : w8.cell? ⟨qb, 0, none⟩ = some (.int .i64 v0) := (blk_cell X8 0).trans rfl
        have hr1 : w8.cell? ⟨qb, 1, none⟩ = some (.int .i64 v1) := (blk_cell X8 1).trans rfl
        have hr2 : w8.cell? ⟨qb, 2, none⟩ = some (.int .i64 v2) := (blk_cell X8 2).trans rfl
        have hr3 : w8.cell? ⟨qb, 3, none⟩ = some (.int .i64 v3) := (blk_cell X8 3).trans rfl
        have hr4 : w8.cell? ⟨qb, 4, none⟩ = some (.int .i64 v4) := (blk_cell X8 4).trans rfl
        have hr5 : w8.cell? ⟨qb, 5, none⟩ = some (.int .i64 c) := (blk_cell X8 5).trans rfl
        have hr6 : w8.cell? ⟨qb, 6, none⟩ = some (.bool true) := (blk_cell X8 6).trans rfl
        have HB8 := Aside0.mk (below_step HB.out (below_step B5 B8))
        have HO8 := Aside0.mk (Gen.R_kept rfl HO.out (Kept.of_below (below_step B5 B8) (fun _ => False)) (fun _ _ h => h))
        have HBB := Aside0.mk (below_step B5 B8)
        clear B5 B7 B8 X7 X8 hq0 hq6 hqf hqf6 hy0 hy1 HO
        go_wp2_with ((with_reducible refine gate_builtin (b := .append) (xs := #[.tmp 29, .tmp 31]) rfl ?_); at_builtin; refine Kd.R_append k59 (w0 := w) w.heap.size rfl (.tmp 29) (.tmp 31) 99 59 (.agg #[(.int .i64 0), (.int .i64 0), (.int .i64 0), (.int .i64 0), (.int .i64 0), (.int .i64 0), (.bool false)]) 56 rfl Tryd.underlying99 info59 rfl (by decide) (by decide) u3 Q ⟨⟨v0, v1, v2, v3⟩, v4, c, true⟩ [.int .i64 v0, .int .i64 v1, .int .i64 v2, .int .i64 v3, .int .i64 v4, .int .i64 c, .bool true] (fun _ => True) (fun _ => False) rfl ?hx ?aP (fun _ hk => hk.elim) ?aF ?aO ?aB ?aS ?aL ?_; (case hx => simp [Act.eval, World.size_alloc]); (case aP => exact k59_mkM _ _ _ ⟨⟨v0, v1, v2, v3⟩, v4, c, true⟩); (case aB => repeat (with_reducible first | exact HB8.out | apply below_alloc | apply pw_below_drewN | apply below_drew1)); (case aF => exact fun _ _ => trivial); (case aO => (with_reducible repeat (first | apply Kd.R_alloc | apply Kd.R_drewN | apply Kd.R_drew)); exact HO8.out); (case aS => exact (by repeat (with_reducible first | exact HB8.out | apply below_alloc | apply pw_below_drewN | apply below_drew1) : Below w.heap.size w _).size); (case aL => exact HLL.out); intro u9 w9 ho9 hb9 hg9 hat9; have HO9 := Aside0.mk ho9; have HB9 := Aside0.mk hb9; clear ho9 hb9 hg9 hat9)
        go_roundg (P.length - (i + 1))
        case measure => omega
        case rel => exact ⟨i + 1, by go_num, by omega, Nat.le_refl _, ⟨by rw [HST.out]; exact HO9.out⟩, HB9⟩
      · subst e6; subst e0
        go_upto_region 5 with ((with_reducible refine gate_dst (N := 5) rfl ?_); refine box_event ?hg (N := 5) ?hd (cs := #[.bool false, .int .i64 0, .int .i64 0, .int .i64 0, .int .i64 0, .int .i64 0, .int .i64 0, .int .i64 0, .bool false, .int .i64 0, .slice none 0 0]) (t := 62) ?hr ?_; (case hd => rfl); (case hg => rfl); (case hr => first | (go_simp; done) | (go_simp; rfl)); intro pb hg w4 hbox hb; have hcz0 : w4.cell? ⟨pb, 0, none⟩ = some (.bool false) := (blk_cell hbox 0).trans rfl; have hfz0 := blk_frozen hbox 0; have hcz1 : w4.cell? ⟨pb, 1, none⟩ = some (.int .i64 0) := (blk_cell hbox 1).trans rfl; have hfz1 := blk_frozen hbox 1; have hcz2 : w4.cell? ⟨pb, 2, none⟩ = some (.int .i64 0) := (blk_cell hbox 2).trans rfl; have hfz2 := blk_frozen hbox 2; have hcz3 : w4.cell? ⟨pb, 3, none⟩ = some (.int .i64 0) := (blk_cell hbox 3).trans rfl; have hfz3 := blk_frozen hbox 3; have hcz4 : w4.cell? ⟨pb, 4, none⟩ = some (.int .i64 0) := (blk_cell hbox 4).trans rfl; have hfz4 := blk_frozen hbox 4; have hcz5 : w4.cell? ⟨pb, 5, none⟩ = some (.int .i64 0) := (blk_cell hbox 5).trans rfl; have hfz5 := blk_frozen hbox 5; have hcz6 : w4.cell? ⟨pb, 6, none⟩ = some (.int .i64 0) := (blk_cell hbox 6).trans rfl; have hfz6 := blk_frozen hbox 6; have hcz7 : w4.cell? ⟨pb, 7, none⟩ = some (.int .i64 0) := (blk_cell hbox 7).trans rfl; have hfz7 := blk_frozen hbox 7; have hcz8 : w4.cell? ⟨pb, 8, none⟩ = some (.bool false) := (blk_cell hbox 8).trans rfl; have hfz8 := blk_frozen hbox 8; have hcz9 : w4.cell? ⟨pb, 9, none⟩ = some (.int .i64 0) := (blk_cell hbox 9).trans rfl; have hfz9 := blk_frozen hbox 9; have hcz10 : w4.cell? ⟨pb, 10, none⟩ = some (.slice none 0 0) := (blk_cell hbox 10).trans rfl; have hfz10 := blk_frozen hbox 10; have BX := Aside0.mk hbox; have KX := Aside0.mk hb; have HGB := Aside0.mk hg; clear hbox hb hg)
        have B5 : Below wr.heap.size wr (((((((((((w4.setCell ⟨pb, 0, none⟩ (.bool true)).setCell ⟨pb, 1, none⟩ (.int .i64 c)).setCell ⟨pb, 2, none⟩ (.int .i64 v0)).setCell ⟨pb, 3, none⟩ (.int .i64 v1)).setCell ⟨pb, 4, none⟩ (.int .i64 v2)).setCell ⟨pb, 5, none⟩ (.int .i64 v3)).setCell ⟨pb, 6, none⟩ (.int .i64 v4)).setCell ⟨pb, 7, none⟩ (.int .i64 v5)).setCell ⟨pb, 8, none⟩ (.bool false)).setCell ⟨pb, 9, none⟩ (.int .i64 a)).setCell ⟨pb, 10, none⟩ (.slice A n k)) := lay62_bel (.bool true) (.int .i64 c) (.int .i64 v0) (.int .i64 v1) (.int .i64 v2) (.int .i64 v3) (.int .i64 v4) (.int .i64 v5) (.bool false) (.int .i64 a) (.slice A n k) KX.out (Nat.le_of_eq HGB.out.symm)
        have X5 : (((((((((((w4.setCell ⟨pb, 0, none⟩ (.bool true)).setCell ⟨pb, 1, none⟩ (.int .i64 c)).setCell ⟨pb, 2, none⟩ (.int .i64 v0)).setCell ⟨pb, 3, none⟩ (.int .i64 v1)).setCell ⟨pb, 4, none⟩ (.int .i64 v2)).setCell ⟨pb, 5, none⟩ (.int .i64 v3)).setCell ⟨pb, 6, none⟩ (.int .i64 v4)).setCell ⟨pb, 7, none⟩ (.int .i64 v5)).setCell ⟨pb, 8, none⟩ (.bool false)).setCell ⟨pb, 9, none⟩ (.int .i64 a)).setCell ⟨pb, 10, none⟩ (.slice A n k)).heap[pb]? = some (.cells #[.bool true, .int .i64 c, .int .i64 v0, .int .i64 v1, .int .i64 v2, .int .i64 v3, .int .i64 v4, .int .i64 v5, .bool false, .int .i64 a, .slice A n k] 62 (0, 0)) := lay62_blk (.bool true) (.int .i64 c) (.int .i64 v0) (.int .i64 v1) (.int .i64 v2) (.int .i64 v3) (.int .i64 v4) (.int .i64 v5) (.bool false) (.int .i64 a) (.slice A n k) BX.out
        generalize (((((((((((w4.setCell ⟨pb, 0, none⟩ (.bool true)).setCell ⟨pb, 1, none⟩ (.int .i64 c)).setCell ⟨pb, 2, none⟩ (.int .i64 v0)).setCell ⟨pb, 3, none⟩ (.int .i64 v1)).setCell ⟨pb, 4, none⟩ (.int .i64 v2)).setCell ⟨pb, 5, none⟩ (.int .i64 v3)).setCell ⟨pb, 6, none⟩ (.int .i64 v4)).setCell ⟨pb, 7, none⟩ (.int .i64 v5)).setCell ⟨pb, 8, none⟩ (.bool false)).setCell ⟨pb, 9, none⟩ (.int .i64 a)).setCell ⟨pb, 10, none⟩ (.slice A n k)) = w5 at B5 X5 ⊢
        have hp0 : w5.cell? ⟨pb, 0, none⟩ = some (.bool true) := (blk_cell X5 0).trans rfl
        have hp1 : w5.cell? ⟨pb, 1, none⟩ = some (.int .i64 c) := (blk_cell X5 1).trans rfl
        have hp2 : w5.cell? ⟨pb, 2, none⟩ = some (.int .i64 v0) := (blk_cell X5 2).trans rfl
        have hp3 : w5.cell? ⟨pb, 3, none⟩ = some (.int .i64 v1) := (blk_cell X5 3).trans rfl
        have hp4 : w5.cell? ⟨pb, 4, none⟩ = some (.int .i64 v2) := (blk_cell X5 4).trans rfl
        have hp5 : w5.cell? ⟨pb, 5, none⟩ = some (.int .i64 v3) := (blk_cell X5 5).trans rfl
        have hp6 : w5.cell? ⟨pb, 6, none⟩ = some (.int .i64 v4) := (blk_cell X5 6).trans rfl
        have hp7 : w5.cell? ⟨pb, 7, none⟩ = some (.int .i64 v5) := (blk_cell X5 7).trans rfl
        have hp8 : w5.cell? ⟨pb, 8, none⟩ = some (.bool false) := (blk_cell X5 8).trans rfl
        have hp9 : w5.cell? ⟨pb, 9, none⟩ = some (.int .i64 a) := (blk_cell X5 9).trans rfl
        have hp10 : w5.cell? ⟨pb, 10, none⟩ = some (.slice A n k) := (blk_cell X5 10).trans rfl
        clear hcz0 hfz0 hcz1 hfz1 hcz2 hfz2 hcz3 hfz3 hcz4 hfz4 hcz5 hfz5 hcz6 hfz6 hcz7 hfz7 hcz8 hfz8 hcz9 hfz9 hcz10 hfz10 BX KX HGB X5 hx0 hx1 hx2 hx3 hx4 hx5 hx6 hx7 hx8 hx9 hx10
        go_upto_region 6 with ((with_reducible refine gate_dst (N := 6) rfl ?_); refine box_event ?hg (N := 6) ?hd (cs := #[.int .i64 0, .int .i64 0, .int .i64 0, .int .i64 0, .int .i64 0, .int .i64 0, .bool false]) (t := 59) ?hr ?_; (case hd => rfl); (case hg => rfl); (case hr => first | (go_simp; done) | (go_simp; rfl)); intro qb hg w6 hbox hb; have hcz0 : w6.cell? ⟨qb, 0, none⟩ = some (.int .i64 0) := (blk_cell hbox 0).trans rfl; have hfz0 := blk_frozen hbox 0; have hcz1 : w6.cell? ⟨qb, 1, none⟩ = some (.int .i64 0) := (blk_cell hbox 1).trans rfl; have hfz1 := blk_frozen hbox 1; have hcz2 : w6.cell? ⟨qb, 2, none⟩ = some (.int .i64 0) := (blk_cell hbox 2).trans rfl; have hfz2 := blk_frozen hbox 2; have hcz3 : w6.cell? ⟨qb, 3, none⟩ = some (.int .i64 0) := (blk_cell hbox 3).trans rfl; have hfz3 := blk_frozen hbox 3; have hcz4 : w6.cell? ⟨qb, 4, none⟩ = some (.int .i64 0) := (blk_cell hbox 4).trans rfl; have hfz4 := blk_frozen hbox 4; have hcz5 : w6.cell? ⟨qb, 5, none⟩ = some (.int .i64 0) := (blk_cell hbox 5).trans rfl; have hfz5 := blk_frozen hbox 5; have hcz6 : w6.cell? ⟨qb, 6, none⟩ = some (.bool false) := (blk_cell hbox 6).trans rfl; have hfz6 := blk_frozen hbox 6; have BX := Aside0.mk hbox; have KX := Aside0.mk hb; have HGB := Aside0.mk hg; clear hbox hb hg)
        have B7 : Below w5.heap.size w5 (((((((w6.setCell ⟨qb, 0, none⟩ (.int .i64 v0)).setCell ⟨qb, 1, none⟩ (.int .i64 v1)).setCell ⟨qb, 2, none⟩ (.int .i64 v2)).setCell ⟨qb, 3, none⟩ (.int .i64 v3)).setCell ⟨qb, 4, none⟩ (.int .i64 v4)).setCell ⟨qb, 5, none⟩ (.int .i64 v5)).setCell ⟨qb, 6, none⟩ (.bool false)) := lay59_bel (.int .i64 v0) (.int .i64 v1) (.int .i64 v2) (.int .i64 v3) (.int .i64 v4) (.int .i64 v5) (.bool false) KX.out (Nat.le_of_eq HGB.out.symm)
        have X7 : (((((((w6.setCell ⟨qb, 0, none⟩ (.int .i64 v0)).setCell ⟨qb, 1, none⟩ (.int .i64 v1)).setCell ⟨qb, 2, none⟩ (.int .i64 v2)).setCell ⟨qb, 3, none⟩ (.int .i64 v3)).setCell ⟨qb, 4, none⟩ (.int .i64 v4)).setCell ⟨qb, 5, none⟩ (.int .i64 v5)).setCell ⟨qb, 6, none⟩ (.bool false)).heap[qb]? = some (.cells #[.int .i64 v0, .int .i64 v1, .int .i64 v2, .int .i64 v3, .int .i64 v4, .int .i64 v5, .bool false] 59 (0, 0)) := lay59_blk (.int .i64 v0) (.int .i64 v1) (.int .i64 v2) (.int .i64 v3) (.int .i64 v4) (.int .i64 v5) (.bool false) BX.out
        have hqb : w5.heap.size ≤ qb := Nat.le_of_eq HGB.out.symm
        generalize (((((((w6.setCell ⟨qb, 0, none⟩ (.int .i64 v0)).setCell ⟨qb, 1, none⟩ (.int .i64 v1)).setCell ⟨qb, 2, none⟩ (.int .i64 v2)).setCell ⟨qb, 3, none⟩ (.int .i64 v3)).setCell ⟨qb, 4, none⟩ (.int .i64 v4)).setCell ⟨qb, 5, none⟩ (.int .i64 v5)).setCell ⟨qb, 6, none⟩ (.bool false)) = w7 at B7 X7 ⊢
        have hq0 : w7.cell? ⟨qb, 5, none⟩ = some (.int .i64 v5) := (blk_cell X7 5).trans rfl
        have hq6 : w7.cell? ⟨qb, 6, none⟩ = some (.bool false) := (blk_cell X7 6).trans rfl
        have hqf := blk_frozen X7 5
        have hqf6 := blk_frozen X7 6
        have hy0 : w7.cell? ⟨pb, 0, none⟩ = some (.bool true) := pw_cell_below B7 hp0
        have hy1 : w7.cell? ⟨pb, 1, none⟩ = some (.int .i64 c) := pw_cell_below B7 hp1
        have hpl : pb < w5.heap.size := World.block_lt_of_cell? w5 _ hp0
        have hpq : ¬ (pb = qb) := by omega
        have hqp : ¬ (qb = pb) := by omega
        clear hcz0 hfz0 hcz1 hfz1 hcz2 hfz2 hcz3 hfz3 hcz4 hfz4 hcz5 hfz5 hcz6 hfz6 BX KX HGB hp0 hp1 hp2 hp3 hp4 hp5 hp6 hp7 hp8 hp9 hp10
        go_upto_region 8 with fail
        have B8 : Below w5.heap.size w5 ((w7.setCell ⟨qb, 5, none⟩ (.int .i64 c)).setCell ⟨qb, 6, none⟩ (.bool false)) := below_set (below_set B7 hqb) hqb
        have X8 : ((w7.setCell ⟨qb, 5, none⟩ (.int .i64 c)).setCell ⟨qb, 6, none⟩ (.bool false)).heap[qb]? = some (.cells #[.int .i64 v0, .int .i64 v1, .int .i64 v2, .int .i64 v3, .int .i64 v4, .int .i64 c, .bool false] 59 (0, 0)) := blk_put (cs := #[.int .i64 v0, .int .i64 v1, .int .i64 v2, .int .i64 v3, .int .i64 v4, .int .i64 c, .bool false]) (blk_put X7 5 _ rfl) 6 _ rfl
        generalize (w7.setCell ⟨qb, 5, none⟩ (.int .i64 c)).setCell ⟨qb, 6, none⟩ (.bool false) = w8 at B8 X8 ⊢
        have hr0 : w8.cell? ⟨qb, 0, none⟩ = some (.int .i64 v0) := (blk_cell X8 0).trans rfl
        have hr1 : w8.cell? ⟨qb, 1, none⟩ = some (.int .i64 v1) := (blk_cell X8 1).trans rfl
        have hr2 : w8.cell? ⟨qb, 2, none⟩ = some (.int .i64 v2) := (blk_cell X8 2).trans rfl
        have hr3 : w8.cell? ⟨qb, 3, none⟩ = some (.int .i64 v3) := (blk_cell X8 3).trans rfl
        have hr4 : w8.cell? ⟨qb, 4, none⟩ = some (.int .i64 v4) := (blk_cell X8 4).trans rfl
        have hr5 : w8.cell? ⟨qb, 5, none⟩ = some (.int .i64 c) := (blk_cell X8 5).trans rfl
        have hr6 : w8.cell? ⟨qb, 6, none⟩ = some (.bool false) := (blk_cell X8 6).trans rfl
        have HB8 := Aside0.mk (below_step HB.out (below_step B5 B8))
        have HO8 := Aside0.mk (Gen.R_kept rfl HO.out (Kept.of_below (below_step B5 B8) (fun _ => False)) (fun _ _ h => h))
        have HBB := Aside0.mk (below_step B5 B8)
        clear B5 B7 B8 X7 X8 hq0 hq6 hqf hqf6 hy0 hy1 HO
        go_wp2_with ((with_reducible refine gate_builtin (b := .append) (xs := #[.tmp 29, .tmp 31]) rfl ?_); at_builtin; refine Kd.R_append k59 (w0 := w) w.heap.size rfl (.tmp 29) (.tmp 31) 99 59 (.agg #[(.int .i64 0), (.int .i64 0), (.int .i64 0), (.int .i64 0), (.int .i64 0), (.int .i64 0), (.bool false)]) 56 rfl Tryd.underlying99 info59 rfl (by decide) (by decide) u3 Q ⟨⟨v0, v1, v2, v3⟩, v4, c, false⟩ [.int .i64 v0, .int .i64 v1, .int .i64 v2, .int .i64 v3, .int .i64 v4, .int .i64 c, .bool false] (fun _ => True) (fun _ => False) rfl ?hx ?aP (fun _ hk => hk.elim) ?aF ?aO ?aB ?aS ?aL ?_; (case hx => simp [Act.eval, World.size_alloc]); (case aP => exact k59_mkM _ _ _ ⟨⟨v0, v1, v2, v3⟩, v4, c, false⟩); (case aB => repeat (with_reducible first | exact HB8.out | apply below_alloc | apply pw_below_drewN | apply below_drew1)); (case aF => exact fun _ _ => trivial); (case aO => (with_reducible repeat (first | apply Kd.R_alloc | apply Kd.R_drewN | apply Kd.R_drew)); exact HO8.out); (case aS => exact (by repeat (with_reducible first | exact HB8.out | apply below_alloc | apply pw_below_drewN | apply below_drew1) : Below w.heap.size w _).size); (case aL => exact HLL.out); intro u9 w9 ho9 hb9 hg9 hat9; have HO9 := Aside0.mk ho9; have HB9 := Aside0.mk hb9; clear ho9 hb9 hg9 hat9)
        go_roundg (P.length - (i + 1))
        case measure => omega
        case rel => exact ⟨i + 1, by go_num, by omega, Nat.le_refl _, ⟨by rw [HST.out]; exact HO9.out⟩, HB9⟩
      · subst e6; subst e0
        go_upto_region 5 with ((with_reducible refine gate_dst (N := 5) rfl ?_); refine box_event ?hg (N := 5) ?hd (cs := #[.bool false, .int .i64 0, .int .i64 0, .int .i64 0, .int .i64 0, .int .i64 0, .int .i64 0, .int .i64 0, .bool false, .int .i64 0, .slice none 0 0]) (t := 62) ?hr ?_; (case hd => rfl); (case hg => rfl); (case hr => first | (go_simp; done) | (go_simp; rfl)); intro pb hg w4 hbox hb; have hcz0 : w4.cell? ⟨pb, 0, none⟩ = some (.bool false) := (blk_cell hbox 0).trans rfl; have hfz0 := blk_frozen hbox 0; have hcz1 : w4.cell? ⟨pb, 1, none⟩ = some (.int .i64 0) := (blk_cell hbox 1).trans rfl; have hfz1 := blk_frozen hbox 1; have hcz2 : w4.cell? ⟨pb, 2, none⟩ = some (.int .i64 0) := (blk_cell hbox 2).trans rfl; have hfz2 := blk_frozen hbox 2; have hcz3 : w4.cell? ⟨pb, 3, none⟩ = some (.int .i64 0) := (blk_cell hbox 3).trans rfl; have hfz3 := blk_frozen hbox 3; have hcz4 : w4.cell? ⟨pb, 4, none⟩ = some (.int .i64 0) := (blk_cell hbox 4).trans rfl; have hfz4 := blk_frozen hbox 4; have hcz5 : w4.cell? ⟨pb, 5, none⟩ = some (.int .i64 0) := (blk_cell hbox 5).trans rfl; have hfz5 := blk_frozen hbox 5; have hcz6 : w4.cell? ⟨pb, 6, none⟩ = some (.int .i64 0) := (blk_cell hbox 6).trans rfl; have hfz6 := blk_frozen hbox 6; have hcz7 : w4.cell? ⟨pb, 7, none⟩ = some (.int .i64 0) := (blk_cell hbox 7).trans rfl; have hfz7 := blk_frozen hbox 7; have hcz8 : w4.cell? ⟨pb, 8, none⟩ = some (.bool false) := (blk_cell hbox 8).trans rfl; have hfz8 := blk_frozen hbox 8; have hcz9 : w4.cell? ⟨pb, 9, none⟩ = some (.int .i64 0) := (blk_cell hbox 9).trans rfl; have hfz9 := blk_frozen hbox 9; have hcz10 : w4.cell? ⟨pb, 10, none⟩ = some (.slice none 0 0) := (blk_cell hbox 10).trans rfl; have hfz10 := blk_frozen hbox 10; have BX := Aside0.mk hbox; have KX := Aside0.mk hb; have HGB := Aside0.mk hg; clear hbox hb hg)
        have B5 : Below wr.heap.size wr (((((((((((w4.setCell ⟨pb, 0, none⟩ (.bool false)).setCell ⟨pb, 1, none⟩ (.int .i64 c)).setCell ⟨pb, 2, none⟩ (.int .i64 v0)).setCell ⟨pb, 3, none⟩ (.int .i64 v1)).setCell ⟨pb, 4, none⟩ (.int .i64 v2)).setCell ⟨pb, 5, none⟩ (.int .i64 v3)).setCell ⟨pb, 6, none⟩ (.int .i64 v4)).setCell ⟨pb, 7, none⟩ (.int .i64 v5)).setCell ⟨pb, 8, none⟩ (.bool false)).setCell ⟨pb, 9, none⟩ (.int .i64 a)).setCell ⟨pb, 10, none⟩ (.slice A n k)) := lay62_bel (.bool false) (.int .i64 c) (.int .i64 v0) (.int .i64 v1) (.int .i64 v2) (.int .i64 v3) (.int .i64 v4) (.int .i64 v5) (.bool false) (.int .i64 a) (.slice A n k) KX.out (Nat.le_of_eq HGB.out.symm)
        have X5 : (((((((((((w4.setCell ⟨pb, 0, none⟩ (.bool false)).setCell ⟨pb, 1, none⟩ (.int .i64 c)).setCell ⟨pb, 2, none⟩ (.int .i64 v0)).setCell ⟨pb, 3, none⟩ (.int .i64 v1)).setCell ⟨pb, 4, none⟩ (.int .i64 v2)).setCell ⟨pb, 5, none⟩ (.int .i64 v3)).setCell ⟨pb, 6, none⟩ (.int .i64 v4)).setCell ⟨pb, 7, none⟩ (.int .i64 v5)).setCell ⟨pb, 8, none⟩ (.bool false)).setCell ⟨pb, 9, none⟩ (.int .i64 a)).setCell ⟨pb, 10, none⟩ (.slice A n k)).heap[pb]? = some (.cells #[.bool false, .int .i64 c, .int .i64 v0, .int .i64 v1, .int .i64 v2, .int .i64 v3, .int .i64 v4, .int .i64 v5, .bool false, .int .i64 a, .slice A n k] 62 (0, 0)) := lay62_blk (.bool false) (.int .i64 c) (.int .i64 v0) (.int .i64 v1) (.int .i64 v2) (.int .i64 v3) (.int .i64 v4) (.int .i64 v5) (.bool false) (.int .i64 a) (.slice A n k) BX.out
        generalize (((((((((((w4.setCell ⟨pb, 0, none⟩ (.bool false)).setCell ⟨pb, 1, none⟩ (.int .i64 c)).setCell ⟨pb, 2, none⟩ (.int .i64 v0)).setCell ⟨pb, 3, none⟩ (.int .i64 v1)).setCell ⟨pb, 4, none⟩ (.int .i64 v2)).setCell ⟨pb, 5, none⟩ (.int .i64 v3)).setCell ⟨pb, 6, none⟩ (.int .i64 v4)).setCell ⟨pb, 7, none⟩ (.int .i64 v5)).setCell ⟨pb, 8, none⟩ (.bool false)).setCell ⟨pb, 9, none⟩ (.int .i64 a)).setCell ⟨pb, 10, none⟩ (.slice A n k)) = w5 at B5 X5 ⊢
        have hp0 : w5.cell? ⟨pb, 0, none⟩ = some (.bool false) := (blk_cell X5 0).trans rfl
        have hp1 : w5.cell? ⟨pb, 1, none⟩ = some (.int .i64 c) := (blk_cell X5 1).trans rfl
        have hp2 : w5.cell? ⟨pb, 2, none⟩ = some (.int .i64 v0) := (blk_cell X5 2).trans rfl
        have hp3 : w5.cell? ⟨pb, 3, none⟩ = some (.int .i64 v1) := (blk_cell X5 3).trans rfl
        have hp4 : w5.cell? ⟨pb, 4, none⟩ = some (.int .i64 v2) := (blk_cell X5 4).trans rfl
        have hp5 : w5.cell? ⟨pb, 5, none⟩ = some (.int .i64 v3) := (blk_cell X5 5).trans rfl
        have hp6 : w5.cell? ⟨pb, 6, none⟩ = some (.int .i64 v4) := (blk_cell X5 6).trans rfl
        have hp7 : w5.cell? ⟨pb, 7, none⟩ = some (.int .i64 v5) := (blk_cell X5 7).trans rfl
        have hp8 : w5.cell? ⟨pb, 8, none⟩ = some (.bool false) := (blk_cell X5 8).trans rfl
        have hp9 : w5.cell? ⟨pb, 9, none⟩ = some (.int .i64 a) := (blk_cell X5 9).trans rfl
        have hp10 : w5.cell? ⟨pb, 10, none⟩ = some (.slice A n k) := (blk_cell X5 10).trans rfl
        clear hcz0 hfz0 hcz1 hfz1 hcz2 hfz2 hcz3 hfz3 hcz4 hfz4 hcz5 hfz5 hcz6 hfz6 hcz7 hfz7 hcz8 hfz8 hcz9 hfz9 hcz10 hfz10 BX KX HGB X5 hx0 hx1 hx2 hx3 hx4 hx5 hx6 hx7 hx8 hx9 hx10
        go_upto_region 6 with ((with_reducible refine gate_dst (N := 6) rfl ?_); refine box_event ?hg (N := 6) ?hd (cs := #[.int .i64 0, .int .i64 0, .int .i64 0, .int .i64 0, .int .i64 0, .int .i64 0, .bool false]) (t := 59) ?hr ?_; (case hd => rfl); (case hg => rfl); (case hr => first | (go_simp; done) | (go_simp; rfl)); intro qb hg w6 hbox hb; have hcz0 : w6.cell? ⟨qb, 0, none⟩ = some (.int .i64 0) := (blk_cell hbox 0).trans rfl; have hfz0 := blk_frozen hbox 0; have hcz1 : w6.cell? ⟨qb, 1, none⟩ = some (.int .i64 0) := (blk_cell hbox 1).trans rfl; have hfz1 := blk_frozen hbox 1; have hcz2 : w6.cell? ⟨qb, 2, none⟩ = some (.int .i64 0) := (blk_cell hbox 2).trans rfl; have hfz2 := blk_frozen hbox 2; have hcz3 : w6.cell? ⟨qb, 3, none⟩ = some (.int .i64 0) := (blk_cell hbox 3).trans rfl; have hfz3 := blk_frozen hbox 3; have hcz4 : w6.cell? ⟨qb, 4, none⟩ = some (.int .i64 0) := (blk_cell hbox 4).trans rfl; have hfz4 := blk_frozen hbox 4; have hcz5 : w6.cell? ⟨qb, 5, none⟩ = some (.int .i64 0) := (blk_cell hbox 5).trans rfl; have hfz5 := blk_frozen hbox 5; have hcz6 : w6.cell? ⟨qb, 6, none⟩ = some (.bool false) := (blk_cell hbox 6).trans rfl; have hfz6 := blk_frozen hbox 6; have BX := Aside0.mk hbox; have KX := Aside0.mk hb; have HGB := Aside0.mk hg; clear hbox hb hg)
        have B7 : Below w5.heap.size w5 (((((((w6.setCell ⟨qb, 0, none⟩ (.int .i64 v0)).setCell ⟨qb, 1, none⟩ (.int .i64 v1)).setCell ⟨qb, 2, none⟩ (.int .i64 v2)).setCell ⟨qb, 3, none⟩ (.int .i64 v3)).setCell ⟨qb, 4, none⟩ (.int .i64 v4)).setCell ⟨qb, 5, none⟩ (.int .i64 v5)).setCell ⟨qb, 6, none⟩ (.bool false)) := lay59_bel (.int .i64 v0) (.int .i64 v1) (.int .i64 v2) (.int .i64 v3) (.int .i64 v4) (.int .i64 v5) (.bool false) KX.out (Nat.le_of_eq HGB.out.symm)
        have X7 : (((((((w6.setCell ⟨qb, 0, none⟩ (.int .i64 v0)).setCell ⟨qb, 1, none⟩ (.int .i64 v1)).setCell ⟨qb, 2, none⟩ (.int .i64 v2)).setCell ⟨qb, 3, none⟩ (.int .i64 v3)).setCell ⟨qb, 4, none⟩ (.int .i64 v4)).setCell ⟨qb, 5, none⟩ (.int .i64 v5)).setCell ⟨qb, 6, none⟩ (.bool false)).heap[qb]? = some (.cells #[.int .i64 v0, .int .i64 v1, .int .i64 v2, .int .i64 v3, .int .i64 v4, .int .i64 v5, .bool false] 59 (0, 0)) := lay59_blk (.int .i64 v0) (.int .i64 v1) (.int .i64 v2) (.int .i64 v3) (.int .i64 v4) (.int .i64 v5) (.bool false) BX.out
        have hqb : w5.heap.size ≤ qb := Nat.le_of_eq HGB.out.symm
        generalize (((((((w6.setCell ⟨qb, 0, none⟩ (.int .i64 v0)).setCell ⟨qb, 1, none⟩ (.int .i64 v1)).setCell ⟨qb, 2, none⟩ (.int .i64 v2)).setCell ⟨qb, 3, none⟩ (.int .i64 v3)).setCell ⟨qb, 4, none⟩ (.int .i64 v4)).setCell ⟨qb, 5, none⟩ (.int .i64 v5)).setCell ⟨qb, 6, none⟩ (.bool false)) = w7 at B7 X7 ⊢
        have hq0 : w7.cell? ⟨qb, 5, none⟩ = some (.int .i64 v5) := (blk_cell X7 5).trans rfl
        have hq6 : w7.cell? ⟨qb, 6, none⟩ = some (.bool false) := (blk_cell X7 6).trans rfl
        have hqf := blk_frozen X7 5
        have hqf6 := blk_frozen X7 6
        have hy0 : w7.cell? ⟨pb, 0, none⟩ = some (.bool false) := pw_cell_below B7 hp0
        have hy1 : w7.cell? ⟨pb, 1, none⟩ = some (.int .i64 c) := pw_cell_below B7 hp1
        have hpl : pb < w5.heap.size := World.block_lt_of_cell? w5 _ hp0
        have hpq : ¬ (pb = qb) := by omega
        have hqp : ¬ (qb = pb) := by omega
        clear hcz0 hfz0 hcz1 hfz1 hcz2 hfz2 hcz3 hfz3 hcz4 hfz4 hcz5 hfz5 hcz6 hfz6 BX KX HGB hp0 hp1 hp2 hp3 hp4 hp5 hp6 hp7 hp8 hp9 hp10
        go_upto_region 8 with fail
        have B8 : Below w5.heap.size w5 ((w7.setCell ⟨qb, 5, none⟩ (.int .i64 c)).setCell ⟨qb, 6, none⟩ (.bool true)) := below_set (below_set B7 hqb) hqb
        have X8 : ((w7.setCell ⟨qb, 5, none⟩ (.int .i64 c)).setCell ⟨qb, 6, none⟩ (.bool true)).heap[qb]? = some (.cells #[.int .i64 v0, .int .i64 v1, .int .i64 v2, .int .i64 v3, .int .i64 v4, .int .i64 c, .bool true] 59 (0, 0)) := blk_put (cs := #[.int .i64 v0, .int .i64 v1, .int .i64 v2, .int .i64 v3, .int .i64 v4, .int .i64 c, .bool false]) (blk_put X7 5 _ rfl) 6 _ rfl
        generalize (w7.setCell ⟨qb, 5, none⟩ (.int .i64 c)).setCell ⟨qb, 6, none⟩ (.bool true) = w8 at B8 X8 ⊢
        have hr0 : w8.cell? ⟨qb, 0, none⟩ = some (.int .i64 v0) := (blk_cell X8 0).trans rfl
        have hr1 : w8.cell? ⟨qb, 1, none⟩ = some (.int .i64 v1) := (blk_cell X8 1).trans rfl
        have hr2 : w8.cell? ⟨qb, 2, none⟩ = some (.int .i64 v2) := (blk_cell X8 2).trans rfl
        have hr3 : w8.cell? ⟨qb, 3, none⟩ = some (.int .i64 v3) := (blk_cell X8 3).trans rfl
        have hr4 : w8.cell? ⟨qb, 4, none⟩ = some (.int .i64 v4) := (blk_cell X8 4).trans rfl
        have hr5 : w8.cell? ⟨qb, 5, none⟩ = some (.int .i64 c) := (blk_cell X8 5).trans rfl
        have hr6 : w8.cell? ⟨qb, 6, none⟩ = some (.bool true) := (blk_cell X8 6).trans rfl
        have HB8 := Aside0.mk (below_step HB.out (below_step B5 B8))
        have HO8 := Aside0.mk (Gen.R_kept rfl HO.out (Kept.of_below (below_step B5 B8) (fun _ => False)) (fun _ _ h => h))
        have HBB := Aside0.mk (below_step B5 B8)
        clear B5 B7 B8 X7 X8 hq0 hq6 hqf hqf6 hy0 hy1 HO
        go_wp2_with ((with_reducible refine gate_builtin (b := .append) (xs := #[.tmp 29, .tmp 31]) rfl ?_); at_builtin; refine Kd.R_append k59 (w0 := w) w.heap.size rfl (.tmp 29) (.tmp 31) 99 59 (.agg #[(.int .i64 0), (.int .i64 0), (.int .i64 0), (.int .i64 0), (.int .i64 0), (.int .i64 0), (.bool false)]) 56 rfl Tryd.underlying99 info59 rfl (by decide) (by decide) u3 Q ⟨⟨v0, v1, v2, v3⟩, v4, c, true⟩ [.int .i64 v0, .int .i64 v1, .int .i64 v2, .int .i64 v3, .int .i64 v4, .int .i64 c, .bool true] (fun _ => True) (fun _ => False) rfl ?hx ?aP (fun _ hk => hk.elim) ?aF ?aO ?aB ?aS ?aL ?_; (case hx => simp [Act.eval, World.size_alloc]); (case aP => exact k59_mkM _ _ _ ⟨⟨v0, v1, v2, v3⟩, v4, c, true⟩); (case aB => repeat (with_reducible first | exact HB8.out | apply below_alloc | apply pw_below_drewN | apply below_drew1)); (case aF => exact fun _ _ => trivial); (case aO => (with_reducible repeat (first | apply Kd.R_alloc | apply Kd.R_drewN | apply Kd.R_drew)); exact HO8.out); (case aS => exact (by repeat (with_reducible first | exact HB8.out | apply below_alloc | apply pw_below_drewN | apply below_drew1) : Below w.heap.size w _).size); (case aL => exact HLL.out); intro u9 w9 ho9 hb9 hg9 hat9; have HO9 := Aside0.mk ho9; have HB9 := Aside0.mk hb9; clear ho9 hb9 hg9 hat9)
        go_roundg (P.length - (i + 1))
        case measure => omega
        case rel => exact ⟨i + 1, by go_num, by omega, Nat.le_refl _, ⟨by rw [HST.out]; exact HO9.out⟩, HB9⟩
    · have e : i = P.length := by omega
      subst e
      rw [List.take_length] at HO
      go_wp2
      go_ret
      exact ⟨_, rfl, HO.out, HB.out⟩
end Go.Proofs.YtfimhaodgekkgaaDoor.QTre
namespace Go.Proofs.YtfimhaodgekkgaaDoor.QTre
open Go.RowKit Go.Proofs.YtfimhaodgekkgaaDoorW.PrintWords Go.Proofs.YtfimhaodgekkgaaDoorW.PrintLast Go.Proofs.YtfimhaodgekkgaaDoorW.PrintMore
open Go.Proofs.YtfimhaodgekkgaaDoor.Gen (Own Trn)
open Go.Proofs.YtfimhaodgekkgaaDoor.Pri (FitH roles bestOf role brid conv)
set_option linter.unusedVariables false
set_option linter.unusedSimpArgs false
theorem info103 : (Tryd.prog.info? 103).map (fun i => (i.zero, i.size, i.bytes)) = some (some (.agg #[(.int .i64 0), (.int .i64 0)]), 2, 16) := by kernel_rfl
theorem C_one103 (x : S103) {w : World} {b : Nat} (h : w.heap[b]? = some (.cells (enc103 x).toArray 103 (0, 0))) : Kd.C k103 w (some ⟨b, 0, none⟩) 1 [x] := by
  have o : Own enc103 2 103 w b 1 [x] := ⟨⟨_, h, rfl, by simp [Gen.flat]; rfl⟩, Nat.le_refl _⟩
  have r := o.toR (d := k103) (base := 0) (ok := fun _ => True) (fun _ => rfl) rfl (fun w base ok x => k103_mkM w base ok x) (Nat.zero_le _) trivial (by decide)
  obtain ⟨A, c, e, _, hC⟩ := Gen.R_open r
  injection e with e1
  subst e1
  exact hC
theorem rrole10_calls (id : Int) (L : List S80) (A : Option Addr) (c n : Nat) (i : Nat) (w : World) (hln : L.length = n) (hr : Kd.C k59 w A n (L.map conv)) (hc : n ≤ c) (hn : n ≤ 1000) (hf : ∀ h ∈ L, FitH h) (hi : i < L.length) :
    Calls Tryd.prog 53 #[.int .i64 id, .slice A n c, .int .i64 i] w fun e w' => e = .returned (.int .i64 (role id (bestOf id L) i L[i])) ∧ Below w.heap.size w w' := by
  subst hln
  obtain ⟨k, hk⟩ := (Pri.role_ref id L (by omega) hf i hi).rounds
  have hl : (L.map conv).length = L.length := List.length_map _
  have := kissgateref10_Role.calls k id A c (L.map conv) i _ w (by rw [hl]; exact hr) (by rw [hl]; exact hc) hk
  rw [hl] at this
  exact this
def turnQ (id now : Int) (L : List S80) (i : Nat) (x : RQ) : RQ := ⟨x.up, x.cost, x.heard, x.at_, x.turns ++ [⟨if x.up = true then role id (bestOf id L) i (L.getD i ⟨⟨0, 0, 0, 0⟩, 0, 0, false⟩) else 0, now⟩]⟩
def updQ (id now : Int) (L : List S80) (Q : List RQ) (j : Nat) : List RQ := Q.mapIdx fun k x => if k < j then turnQ id now L k x else x
theorem updQ_len (id now : Int) (L : List S80) (Q : List RQ) (j : Nat) : (updQ id now L Q j).length = Q.length := by unfold updQ; simp
theorem updQ_zero (id now : Int) (L : List S80) (Q : List RQ) : updQ id now L Q 0 = Q := by
  apply List.ext_getElem
  · exact updQ_len _ _ _ _ _
  · intro k h1 h2; unfold updQ; simp
theorem updQ_at (id now : Int) (L : List S80) (Q : List RQ) (j k : Nat) (h : k < (updQ id now L Q j).length) : (updQ id now L Q j)[k] = if k < j then turnQ id now L k (Q[k]'(by rw [updQ_len] at h; exact h)) else Q[k]'(by rw [updQ_len] at h; exact h) := by
  simp only [updQ, List.getElem_mapIdx]
theorem upd_turn {id now : Int} {L : List S80} {P Pj : List RP} {j : Nat} (hm : Pj.map (·.q) = updQ id now L (P.map (·.q)) j) (hj : j < P.length) (hjq : j < Pj.length) (v : Value) {r : Int} (hr : r = if Pj[j].q.up = true then role id (bestOf id L) j (L.getD j ⟨⟨0, 0, 0, 0⟩, 0, 0, false⟩) else 0) :
    (Pj.set j ⟨⟨Pj[j].q.up, Pj[j].q.cost, Pj[j].q.heard, Pj[j].q.at_, Pj[j].q.turns ++ [⟨r, now⟩]⟩, v⟩).map (·.q) = updQ id now L (P.map (·.q)) (j + 1) := by
  have hl : Pj.length = P.length := by
    have := congrArg List.length hm
    rw [List.length_map, updQ_len, List.length_map] at this
    exact this
  have hg : ∀ k (hk : k < Pj.length), Pj[k].q = if k < j then turnQ id now L k (P[k]'(by omega)).q else (P[k]'(by omega)).q := by
    intro k hk
    have h1 : (Pj.map (·.q))[k]'(by rw [List.length_map]; exact hk) = (updQ id now L (P.map (·.q)) j)[k]'(by rw [updQ_len, List.length_map]; omega) := by simp only [hm]
    rw [List.getElem_map, updQ_at] at h1
    rw [h1]
    simp only [List.getElem_map]
  apply List.ext_getElem
  · rw [List.length_map, List.length_set, updQ_len, List.length_map]; exact hl
  · intro k h1 h2
    have hk : k < Pj.length := by rw [List.length_map, List.length_set] at h1; exact h1
    rw [List.getElem_map, List.getElem_set, updQ_at]
    by_cases e : j = k
    · subst e
      have hgj := hg j hjq
      rw [if_neg (by omega)] at hgj
      rw [if_pos rfl, if_pos (by omega)]
      unfold turnQ
      rw [List.getElem_map, hr, hgj]
    · rw [if_neg e, hg k hk]
      simp only [List.getElem_map]
      by_cases h3 : k < j
      · rw [if_pos h3, if_pos (by omega)]
      · rw [if_neg h3, if_neg (by omega)]
def enc59 (x : S59) : List Value := [.int .i64 x.f0.f0, .int .i64 x.f0.f1, .int .i64 x.f0.f2, .int .i64 x.f0.f3, .int .i64 x.f1, .int .i64 x.f2, .bool x.f3]
theorem R59_lt {w : World} {base : Nat} {ok : Nat → Prop} {v : Value} {xs : List S59} (h : Kd.R k59 59 w base ok v xs) {q : Nat} (hq : v.ownBlock = some q) : q < w.heap.size ∧ base ≤ q := by
  rcases Gen.Own.ofR (enc := enc59) (k := 7) (fun _ => rfl) rfl (fun w base ok x cs h => k59_openM h) h with ⟨rfl, _⟩ | ⟨b, cap, rfl, _, hb, _, ho⟩
  · cases hq
  · have e : b = q := by simpa [Value.ownBlock] using hq
    subst e
    exact ⟨ho.lt, hb⟩
theorem list_kept {W W2 : World} {base g b cap ob ocap n : Nat} {id change : Int} {P : List RP} {opens : List Bool} {vl : Value} {L : List S59} {A : Option Addr} {k0 k : Nat} (hL : Kd.R k59 59 W n (fun q => ¬ RF g b ob P q) vl L) (hg : W.grownBy W2 (Value.slice A k0 k).ownBlock) (h : RTre W base g b cap ob ocap id P change opens) {j : Nat} (hj : j < P.length) (hv : P[j].v = .slice A k0 k) (x : RQ) (v : Value) (hnew : ∀ q, v.ownBlock = some q → some q = (Value.slice A k0 k).ownBlock ∨ W.heap.size ≤ q) :
    Kd.R k59 59 (W2.setCell ⟨b, j * 11 + 10, none⟩ v) n (fun q => ¬ RF g b ob (P.set j ⟨x, v⟩) q) vl L := by
  have hK : Kept W W2 (fun q => some q = (Value.slice A k0 k).ownBlock) := ⟨hg.size, fun q hq hn => hg.block q hq hn⟩
  have h1 := Gen.R_kept rfl hL hK (fun q hq e => hL.1 q hq (.inr (.inr (.inr ⟨j, hj, by rw [hv]; exact e.symm⟩))))
  have h2 := Gen.R_kept rfl h1 (Gen.kept_set W2 b (j * 11 + 10) v) (fun q hq e => hL.1 q hq (.inr (.inl e)))
  refine Kd.R_reok rfl h2 (fun q hq hf => ?_)
  rcases RF_turn hj (w := W) (by rw [hv]; exact hnew) q hf with e | e
  · exact hL.1 q hq e
  · have := (R59_lt hL hq).1; omega
theorem turn_cell {W W4 : World} {base g b cap ob ocap : Nat} {id change : Int} {P : List RP} {opens : List Bool} {A : Option Addr} {k0 k : Nat} (h : RTre W base g b cap ob ocap id P change opens) {j : Nat} (hj : j < P.length) (hv : P[j].v = .slice A k0 k) (hg : W.grownBy W4 (Value.slice A k0 k).ownBlock) : W4.cell? ⟨b, j * 11 + 10, none⟩ = some (.slice A k0 k) := by
  have hK : Kept W W4 (fun q => some q = (Value.slice A k0 k).ownBlock) := ⟨hg.size, fun q hq hn => hg.block q hq hn⟩
  have := (rcells (h.row.kept hK (fun e => ((h.turns j hj).1 b (by rw [hv]; exact e.symm)).2.1 rfl)) j hj).c10
  rw [hv] at this
  exact this
theorem turn_slice {W W4 : World} {base g b cap ob ocap n : Nat} {id change : Int} {P : List RP} {opens : List Bool} {A : Option Addr} {k0 k : Nat} (h : RTre W base g b cap ob ocap id P change opens) {j : Nat} (hj : j < P.length) (hv : P[j].v = .slice A k0 k) (hg : W.grownBy W4 (Value.slice A k0 k).ownBlock) (hn : P.length = n) : W4.cell? ⟨g, 1, none⟩ = some (.slice (some ⟨b, 0, none⟩) n cap) := by
  have hK : Kept W W4 (fun q => some q = (Value.slice A k0 k).ownBlock) := ⟨hg.size, fun q hq hn => hg.block q hq hn⟩
  have := blk_kept h.cell hK (fun e => ((h.turns j hj).1 g (by rw [hv]; exact e.symm)).1 rfl)
  rw [hn] at this
  exact (blk_cell this 1).trans rfl
theorem turn_frozen {W W4 : World} {base g b cap ob ocap : Nat} {id change : Int} {P : List RP} {opens : List Bool} {A : Option Addr} {k0 k : Nat} (h : RTre W base g b cap ob ocap id P change opens) {j : Nat} (hj : j < P.length) (hv : P[j].v = .slice A k0 k) (hg : W.grownBy W4 (Value.slice A k0 k).ownBlock) : W4.frozen? ⟨b, j * 11 + 10, none⟩ = false := by
  have hK : Kept W W4 (fun q => some q = (Value.slice A k0 k).ownBlock) := ⟨hg.size, fun q hq hn => hg.block q hq hn⟩
  exact (h.row.kept hK (fun e => ((h.turns j hj).1 b (by rw [hv]; exact e.symm)).2.1 rfl)).fz _
set_option maxHeartbeats 8000000 in
set_option maxRecDepth 100000 in
theorem rupd_calls (base g b cap ob ocap : Nat) (id : Int) (P : List RP) (change now : Int) (opens : List Bool) (w0 w : World) (hB : Below base w0 w) (hs : base ≤ w.heap.size) (ht : RTre w base g b cap ob ocap id P change opens) (hn : P.length ≤ 100) (hf : ∀ h ∈ listQ P, FitH h) (hT : ∀ (k : Nat) (h : k < P.length), P[k].q.turns.length ≤ 1000) :
    Calls Tryd.prog 42 #[.pointer (some ⟨g, 0, none⟩), .int .i64 now] w fun e w' => e = .returned (.tuple #[]) ∧ ∃ P2 : List RP, RTre w' base g b cap ob ocap id P2 change opens ∧ P2.map (·.q) = updQ id now (listQ P) (P.map (·.q)) P.length ∧ Trn base w0 w (RF g b ob P) (RF g b ob P2) w' := by
  have e52 : ∀ args w, (callFunc 52 args).run Tryd.prog w = .ok (.enter 52 args) w := enters_of Tryd.func52 (by kernel_rfl) rfl
  have e53 : ∀ args w, (callFunc 53 args).run Tryd.prog w = .ok (.enter 53 args) w := enters_of Tryd.func53 (by kernel_rfl) rfl
  have mixed : Tryd.prog.follows .mixedOrders = true := by kernel_rfl
  have HT := Aside0.mk ht
  have HF := Aside0.mk hf
  have HTL := Aside0.mk hT
  have HSZ := Aside0.mk hs
  have HTN0 := Aside0.mk (fun (W : World) (hb : Below w.heap.size w W) => Trn.of_below (F := RF g b ob P) hB hs hb)
  have HLS := Aside0.mk (rlist_calls base g b cap ob ocap id P change opens w ht hn)
  have HLN := Aside0.mk (show (listQ P).length = P.length from List.length_map _)
  clear ht hf hT hs hB
  go_enter Tryd.func42, Tryd.ntmps42
  go_wp2_with (go_at_fn 52; refine HLS.out.mono ?_; rintro e w1 ⟨v1, rfl, h1, hb1⟩; have HL1 := Aside0.mk h1; have HB1 := Aside0.mk hb1; have hg1 : w1.cell? ⟨g, 1, none⟩ = some (.slice (some ⟨b, 0, none⟩) P.length cap) := (blk_cell (HT.out.below hb1).cell 1).trans rfl; clear h1 hb1)
  have HLI0 : Aside0 (Kd.R k59 59 w1 w.heap.size (fun q => ¬ RF g b ob P q) v1 ((listQ P).map conv)) := ⟨Kd.R_reok rfl HL1.out (fun q hq hf => by have h1 := (R59_lt HL1.out hq).2; have h2 := HT.out.lt q hf; omega)⟩
  go_loopg [14] P.length (fun gk s14 wr => ∃ (j : Nat) (Pj : List RP), s14 = .int .i64 j ∧ j ≤ P.length ∧ P.length - j ≤ gk ∧ Aside0 (RTre wr base g b cap ob ocap id Pj change opens) ∧ Aside0 (Pj.map (·.q) = updQ id now (listQ P) (P.map (·.q)) j) ∧ Aside0 (Trn base w0 w (RF g b ob P) (RF g b ob Pj) wr) ∧ Aside0 (Kd.R k59 59 wr w.heap.size (fun q => ¬ RF g b ob Pj q) v1 ((listQ P).map conv)))
  case atStart => exact ⟨0, P, rfl, Nat.zero_le _, by omega, ⟨HT.out.below HB1.out⟩, ⟨by rw [updQ_zero]⟩, ⟨HTN0.out w1 HB1.out⟩, HLI0⟩
  case round =>
    obtain ⟨j, Pj, rfl, hjl, hgk, HRT, HMP, HTN, HLI⟩ := hrel
    have HPJ : Aside0 (Pj.length = P.length) := ⟨by
      have := congrArg List.length HMP.out
      rw [List.length_map, updQ_len, List.length_map] at this
      exact this⟩
    by_cases hlt : j < P.length
    · have hlz : (j : Int) < (P.length : Int) := by omega
      have hjq : j < Pj.length := by (rw [HPJ.out]; exact hlt)
      have hgr : wr.cell? ⟨g, 1, none⟩ = some (.slice (some ⟨b, 0, none⟩) P.length cap) := by
        have := HRT.out.cell
        rw [HPJ.out] at this
        exact (blk_cell this 1).trans rfl
      have hg0 : wr.cell? ⟨g, 0, none⟩ = some (.int .i64 id) := (blk_cell HRT.out.cell 0).trans rfl
      have hx0 := (rcells HRT.out.row j hjq).c0
      have hqe : Pj[j].q = P[j].q := by
        have h1 : (Pj.map (·.q))[j]'(by rw [List.length_map]; exact hjq) = (updQ id now (listQ P) (P.map (·.q)) j)[j]'(by rw [updQ_len, List.length_map]; exact hlt) := by simp only [HMP.out]
        rw [List.getElem_map, updQ_at, if_neg (by omega), List.getElem_map] at h1
        exact h1
      obtain ⟨A, k, hvk⟩ : ∃ A k, Pj[j].v = .slice A Pj[j].q.turns.length k := Kd.R_slice (HRT.out.turns j hjq)
      have hlt2 : (Pj[j].q.turns.length + 1) * 16 ≤ 140737488355328 := by
        have := HTL.out j hlt
        rw [hqe]; omega
      have htx := HRT.out.turns j hjq
      rw [hvk] at htx
      have HRR0 : Aside0 (Pj[j].q.up = Pj[j].q.up) := ⟨rfl⟩
      obtain ⟨T, hte⟩ : ∃ T, Pj[j].q.turns = T := ⟨_, rfl⟩
      rw [hte] at hvk hlt2 htx
      have HVK := Aside0.mk hvk
      have HLT := Aside0.mk hlt2
      have HTX := Aside0.mk htx
      have HTE := Aside0.mk hte
      clear hvk hlt2 htx hte hqe HRR0
      cases hup : Pj[j].q.up
      · have HRR : Aside0 ((0 : Int) = if Pj[j].q.up = true then role id (bestOf id (listQ P)) j ((listQ P).getD j ⟨⟨0, 0, 0, 0⟩, 0, 0, false⟩) else 0) := ⟨by rw [hup]; rfl⟩
        rw [hup] at hx0
        clear hup
        have hbx := Below.refl wr.heap.size wr
        have HBS := Aside0.mk (show base ≤ wr.heap.size from Nat.le_trans HSZ.out HTN.out.size)
        have HTR := Aside0.mk (Kd.R_reok (ok := fun q => some q = (Value.slice A T.length k).ownBlock ∨ wr.heap.size ≤ q) rfl HTX.out (fun q hq => .inl hq.symm))
        have HCK := Aside0.mk (fun (w4 : World) (hg : wr.grownBy w4 (Value.slice A T.length k).ownBlock) => turn_cell HRT.out hjq HVK.out hg)
        have HFK := Aside0.mk (fun (w4 : World) (hg : wr.grownBy w4 (Value.slice A T.length k).ownBlock) => turn_frozen HRT.out hjq HVK.out hg)
        have HGK := Aside0.mk (fun (w4 : World) (hg : wr.grownBy w4 (Value.slice A T.length k).ownBlock) => turn_slice HRT.out hjq HVK.out hg HPJ.out)
        have hc10 : wr.cell? ⟨b, j * 11 + 10, none⟩ = some (.slice A T.length k) := by
          have := (rcells HRT.out.row j hjq).c10
          rw [HVK.out] at this
          exact this
        have hf10 : wr.frozen? ⟨b, j * 11 + 10, none⟩ = false := HRT.out.row.fz _
        have hbl : b < wr.heap.size := HRT.out.row.lt
        have hn1 : ¬ (b = wr.heap.size) := by omega
        have hgl : g < wr.heap.size := blk_lt HRT.out.cell
        have hn2 : ¬ (g = wr.heap.size) := by omega
        go_wp2_with fail
        go_region_law_o (refine Kd.R_append_rows_step k103 (w0 := wr) base (by rfl) (.tmp 44) (.tmp 48) 60 103 (.agg #[(.int .i64 0), (.int .i64 0)]) 16 rfl Tryd.underlying60 info103 rfl (by decide) (by decide) (.slice A T.length k) T [⟨0, now⟩] _ 1 1 (fun q => some q = (Value.slice A T.length k).ownBlock ∨ wr.heap.size ≤ q) (fun _ => False) rfl rfl ?aO ?aR (fun _ _ h => h) (fun _ h => h.elim) ?aF ?aB ?aS ?aL ?_; (case aR => exact C_one103 ⟨0, now⟩ (by first | exact blk_new _ _ | exact blk_drew (blk_new _ _))); (case aB => exact (show Below wr.heap.size wr _ from (by repeat (with_reducible first | assumption | apply below_alloc | apply pw_below_drewN | apply below_drew1))).mono HBS.out); (case aF => exact fun q hq => .inr (Nat.le_trans (show Below wr.heap.size wr _ from (by repeat (with_reducible first | assumption | apply below_alloc | apply pw_below_drewN | apply below_drew1))).size hq)); (case aO => (with_reducible repeat (first | apply Kd.R_alloc | apply Kd.R_drewN | apply Kd.R_drew)); exact HTR.out); (case aS => exact Nat.le_trans HBS.out (show Below wr.heap.size wr _ from (by repeat (with_reducible first | assumption | apply below_alloc | apply pw_below_drewN | apply below_drew1))).size); (case aL => exact HLT.out); intro u5 w4 ho4 hb4 hg4 hat4; obtain ⟨A5, c5, rfl⟩ := Kd.R_slice ho4; have hg5 : wr.grownBy w4 (Value.slice A T.length k).ownBlock := Gen.grownBy_trans (Gen.grownBy_below (by repeat (with_reducible first | assumption | apply below_alloc | apply pw_below_drewN | apply below_drew1))) (show World.grownBy _ w4 _ from hg4); have hc4 : w4.cell? ⟨b, j * 11 + 10, none⟩ = some (.slice A T.length k) := HCK.out w4 hg5; have hf4 : w4.frozen? ⟨b, j * 11 + 10, none⟩ = false := HFK.out w4 hg5; have hgr4 : w4.cell? ⟨g, 1, none⟩ = some (.slice (some ⟨b, 0, none⟩) P.length cap) := HGK.out w4 hg5; have HG5 := Aside0.mk hg5; have HO4 := Aside0.mk ho4; clear ho4 hb4 hg4 hat4 hg5)
        all_goals
          go_wp2
          go_roundg (P.length - (j + 1))
          case measure => omega
          case rel =>
            have hR := HO4.out
            have hT := HRT.out.turn hjq (by rw [HVK.out]; exact HG5.out) _ _ (by rw [HVK.out]; exact hR)
            have hU := upd_turn HMP.out hlt hjq (Value.slice A5 (T ++ [(⟨0, now⟩ : S103)]).length c5) HRR.out
            rw [HTE.out] at hU
            have t1 := Trn.grow HTN.out HSZ.out HG5.out (fun q hq => by rw [← HVK.out] at hq; exact ⟨.inr (.inr (.inr ⟨j, hjq, hq⟩)), (R103_lt (HRT.out.turns j hjq) hq).2⟩) (RF_turn (x := ⟨Pj[j].q.up, Pj[j].q.cost, Pj[j].q.heard, Pj[j].q.at_, T ++ [⟨0, now⟩]⟩) hjq (fun q hq => by rw [HVK.out]; exact hR.1 q hq))
            have hl := list_kept HLI.out HG5.out HRT.out hjq HVK.out ⟨Pj[j].q.up, Pj[j].q.cost, Pj[j].q.heard, Pj[j].q.at_, T ++ [⟨0, now⟩]⟩ _ hR.1
            have hlen : (T ++ [(⟨0, now⟩ : S103)]).length = T.length + 1 := by rw [List.length_append]; rfl
            rw [hlen] at hT hU t1 hl
            exact ⟨j + 1, _, by go_num, by omega, Nat.le_refl _, ⟨hT⟩, ⟨hU⟩, ⟨t1.set HSZ.out (.inr (.inl rfl)) HRT.out.lowb _ _⟩, ⟨hl⟩⟩
      · have hRL : (listQ P).getD j ⟨⟨0, 0, 0, 0⟩, 0, 0, false⟩ = (listQ P)[j]'(by rw [HLN.out]; exact hlt) := by rw [List.getD_eq_getElem?_getD, List.getElem?_eq_getElem (by rw [HLN.out]; exact hlt)]; rfl
        have HRR : Aside0 (role id (bestOf id (listQ P)) j ((listQ P)[j]'(by rw [HLN.out]; exact hlt)) = if Pj[j].q.up = true then role id (bestOf id (listQ P)) j ((listQ P).getD j ⟨⟨0, 0, 0, 0⟩, 0, 0, false⟩) else 0) := ⟨by rw [hup, if_pos rfl, hRL]⟩
        obtain ⟨A1, c1, ev1, hc1, hC1⟩ := Gen.R_open HLI.out
        rw [List.length_map, HLN.out] at ev1 hc1 hC1
        have HRC : Aside0 (Calls Tryd.prog 53 #[.int .i64 id, v1, .int .i64 j] wr fun e w' => e = .returned (.int .i64 (role id (bestOf id (listQ P)) j ((listQ P)[j]'(by rw [HLN.out]; exact hlt)))) ∧ Below wr.heap.size wr w') := ⟨by
          rw [ev1]
          exact rrole10_calls id (listQ P) A1 c1 P.length j wr HLN.out hC1 hc1 (by omega) HF.out (by rw [HLN.out]; exact hlt)⟩
        generalize role id (bestOf id (listQ P)) j ((listQ P)[j]'(by rw [HLN.out]; exact hlt)) = rr at HRR HRC
        rw [hup] at hx0
        clear hup ev1 hc1 hC1 hRL
        go_upto_region 7 with (go_at_fn 53; refine HRC.out.mono ?_; rintro e wx ⟨rfl, hbx0⟩; have HBX := Aside0.mk hbx0; clear hbx0)
        have HRTx := Aside0.mk (HRT.out.below HBX.out)
        have HTXx := Aside0.mk (Gen.R_kept rfl HTX.out (Kept.of_below HBX.out (fun _ => False)) (fun _ _ h => h))
        have HTNx := Aside0.mk (Trn.below HTN.out HSZ.out HBX.out)
        have HLIx := Aside0.mk (Gen.R_kept rfl HLI.out (Kept.of_below HBX.out (fun _ => False)) (fun _ _ h => h))
        have hgr2 : wx.cell? ⟨g, 1, none⟩ = some (.slice (some ⟨b, 0, none⟩) P.length cap) := pw_cell_below HBX.out hgr
        clear HRT HTX HTN HLI HRC hgr hg0 hx0
        have hbx := Below.refl wx.heap.size wx
        have HBS := Aside0.mk (show base ≤ wx.heap.size from Nat.le_trans HSZ.out HTNx.out.size)
        have HTR := Aside0.mk (Kd.R_reok (ok := fun q => some q = (Value.slice A T.length k).ownBlock ∨ wx.heap.size ≤ q) rfl HTXx.out (fun q hq => .inl hq.symm))
        have HCK := Aside0.mk (fun (w4 : World) (hg : wx.grownBy w4 (Value.slice A T.length k).ownBlock) => turn_cell HRTx.out hjq HVK.out hg)
        have HFK := Aside0.mk (fun (w4 : World) (hg : wx.grownBy w4 (Value.slice A T.length k).ownBlock) => turn_frozen HRTx.out hjq HVK.out hg)
        have HGK := Aside0.mk (fun (w4 : World) (hg : wx.grownBy w4 (Value.slice A T.length k).ownBlock) => turn_slice HRTx.out hjq HVK.out hg HPJ.out)
        have hc10 : wx.cell? ⟨b, j * 11 + 10, none⟩ = some (.slice A T.length k) := by
          have := (rcells HRTx.out.row j hjq).c10
          rw [HVK.out] at this
          exact this
        have hf10 : wx.frozen? ⟨b, j * 11 + 10, none⟩ = false := HRTx.out.row.fz _
        have hbl : b < wx.heap.size := HRTx.out.row.lt
        have hn1 : ¬ (b = wx.heap.size) := by omega
        have hgl : g < wx.heap.size := blk_lt HRTx.out.cell
        have hn2 : ¬ (g = wx.heap.size) := by omega
        go_wp2_with fail
        go_region_law_o (refine Kd.R_append_rows_step k103 (w0 := wx) base (by rfl) (.tmp 44) (.tmp 48) 60 103 (.agg #[(.int .i64 0), (.int .i64 0)]) 16 rfl Tryd.underlying60 info103 rfl (by decide) (by decide) (.slice A T.length k) T [⟨rr, now⟩] _ 1 1 (fun q => some q = (Value.slice A T.length k).ownBlock ∨ wx.heap.size ≤ q) (fun _ => False) rfl rfl ?aO ?aR (fun _ _ h => h) (fun _ h => h.elim) ?aF ?aB ?aS ?aL ?_; (case aR => exact C_one103 ⟨rr, now⟩ (by first | exact blk_new _ _ | exact blk_drew (blk_new _ _))); (case aB => exact (show Below wx.heap.size wx _ from (by repeat (with_reducible first | assumption | apply below_alloc | apply pw_below_drewN | apply below_drew1))).mono HBS.out); (case aF => exact fun q hq => .inr (Nat.le_trans (show Below wx.heap.size wx _ from (by repeat (with_reducible first | assumption | apply below_alloc | apply pw_below_drewN | apply below_drew1))).size hq)); (case aO => (with_reducible repeat (first | apply Kd.R_alloc | apply Kd.R_drewN | apply Kd.R_drew)); exact HTR.out); (case aS => exact Nat.le_trans HBS.out (show Below wx.heap.size wx _ from (by repeat (with_reducible first | assumption | apply below_alloc | apply pw_below_drewN | apply below_drew1))).size); (case aL => exact HLT.out); intro u5 w4 ho4 hb4 hg4 hat4; obtain ⟨A5, c5, rfl⟩ := Kd.R_slice ho4; have hg5 : wx.grownBy w4 (Value.slice A T.length k).ownBlock := Gen.grownBy_trans (Gen.grownBy_below (by repeat (with_reducible first | assumption | apply below_alloc | apply pw_below_drewN | apply below_drew1))) (show World.grownBy _ w4 _ from hg4); have hc4 : w4.cell? ⟨b, j * 11 + 10, none⟩ = some (.slice A T.length k) := HCK.out w4 hg5; have hf4 : w4.frozen? ⟨b, j * 11 + 10, none⟩ = false := HFK.out w4 hg5; have hgr4 : w4.cell? ⟨g, 1, none⟩ = some (.slice (some ⟨b, 0, none⟩) P.length cap) := HGK.out w4 hg5; have HG5 := Aside0.mk hg5; have HO4 := Aside0.mk ho4; clear ho4 hb4 hg4 hat4 hg5)
        all_goals
          go_wp2
          go_roundg (P.length - (j + 1))
          case measure => omega
          case rel =>
            have hR := HO4.out
            have hT := HRTx.out.turn hjq (by rw [HVK.out]; exact HG5.out) _ _ (by rw [HVK.out]; exact hR)
            have hU := upd_turn HMP.out hlt hjq (Value.slice A5 (T ++ [(⟨rr, now⟩ : S103)]).length c5) HRR.out
            rw [HTE.out] at hU
            have t1 := Trn.grow HTNx.out HSZ.out HG5.out (fun q hq => by rw [← HVK.out] at hq; exact ⟨.inr (.inr (.inr ⟨j, hjq, hq⟩)), (R103_lt (HRTx.out.turns j hjq) hq).2⟩) (RF_turn (x := ⟨Pj[j].q.up, Pj[j].q.cost, Pj[j].q.heard, Pj[j].q.at_, T ++ [⟨rr, now⟩]⟩) hjq (fun q hq => by rw [HVK.out]; exact hR.1 q hq))
            have hl := list_kept HLIx.out HG5.out HRTx.out hjq HVK.out ⟨Pj[j].q.up, Pj[j].q.cost, Pj[j].q.heard, Pj[j].q.at_, T ++ [⟨rr, now⟩]⟩ _ hR.1
            have hlen : (T ++ [(⟨rr, now⟩ : S103)]).length = T.length + 1 := by rw [List.length_append]; rfl
            rw [hlen] at hT hU t1 hl
            exact ⟨j + 1, _, by go_num, by omega, Nat.le_refl _, ⟨hT⟩, ⟨hU⟩, ⟨t1.set HSZ.out (.inr (.inl rfl)) HRTx.out.lowb _ _⟩, ⟨hl⟩⟩
    · have e : j = P.length := by omega
      subst e
      go_wp2
      go_end0
      exact ⟨rfl, Pj, HRT.out, HMP.out, HTN.out⟩
end Go.Proofs.YtfimhaodgekkgaaDoor.QTre
namespace Go.Proofs.YtfimhaodgekkgaaDoor.QTre
open Go.RowKit Go.Proofs.YtfimhaodgekkgaaDoorW.PrintWords Go.Proofs.YtfimhaodgekkgaaDoorW.PrintLast Go.Proofs.YtfimhaodgekkgaaDoorW.PrintMore
open Go.Proofs.YtfimhaodgekkgaaDoor.Gen (Own Trn)
open Go.Proofs.YtfimhaodgekkgaaDoor.Pri (FitH roles bestOf role brid conv)
set_option linter.unusedVariables false
set_option linter.unusedSimpArgs false
section
variable {w W : World} {base g b cap ob ocap : Nat} {id change : Int} {P : List RP} {opens : List Bool} {k : Nat} {x : RP}
theorem RTre.put2 (h : RTre w base g b cap ob ocap id (P.set k x) change opens) (hk : k < P.length) (j : Nat) (hj : j < 11) (y : RP) (v : Value) (e : encR y = (encR x).set j v) (hv : y.v = x.v) (ht : y.q.turns = x.q.turns) :
    RTre (w.setCell ⟨b, k * 11 + j, none⟩ v) base g b cap ob ocap id (P.set k y) change opens := by
  have hk2 : k < (P.set k x).length := by rw [List.length_set]; exact hk
  have hx : (P.set k x)[k] = x := List.getElem_set_self _
  have := h.put hk2 j hj y v (by rw [hx]; exact e) (by rw [hx]; exact hv) (by rw [hx]; exact ht)
  rw [List.set_set] at this
  exact this
theorem RTre.same (h : RTre w base g b cap ob ocap id P change opens) (k : Nat) (hk : k < P.length) : RTre w base g b cap ob ocap id (P.set k P[k]) change opens := by
  rw [List.set_getElem_self]; exact h
abbrev rforget (w : World) (b k : Nat) : World := ((((((w.setCell ⟨b, k * 11 + 2, none⟩ (.int .i64 0)).setCell ⟨b, k * 11 + 2 + 1, none⟩ (.int .i64 0)).setCell ⟨b, k * 11 + 2 + 2, none⟩ (.int .i64 0)).setCell ⟨b, k * 11 + 2 + 3, none⟩ (.int .i64 0)).setCell ⟨b, k * 11 + 2 + 4, none⟩ (.int .i64 0)).setCell ⟨b, k * 11 + 2 + 5, none⟩ (.int .i64 0)).setCell ⟨b, k * 11 + 2 + 6, none⟩ (.bool true)
theorem RTre.forget (h : RTre w base g b cap ob ocap id (P.set k x) change opens) (hk : k < P.length) : RTre (rforget w b k) base g b cap ob ocap id (P.set k ⟨⟨x.q.up, x.q.cost, none80, x.q.at_, x.q.turns⟩, x.v⟩) change opens :=
  ((((((h.put2 hk 2 (by decide) ⟨⟨x.q.up, x.q.cost, ⟨⟨0, x.q.heard.f0.f1, x.q.heard.f0.f2, x.q.heard.f0.f3⟩, x.q.heard.f1, x.q.heard.f2, x.q.heard.f3⟩, x.q.at_, x.q.turns⟩, x.v⟩ _ rfl rfl rfl).put2 hk 3 (by decide) ⟨⟨x.q.up, x.q.cost, ⟨⟨0, 0, x.q.heard.f0.f2, x.q.heard.f0.f3⟩, x.q.heard.f1, x.q.heard.f2, x.q.heard.f3⟩, x.q.at_, x.q.turns⟩, x.v⟩ _ rfl rfl rfl).put2 hk 4 (by decide) ⟨⟨x.q.up, x.q.cost, ⟨⟨0, 0, 0, x.q.heard.f0.f3⟩, x.q.heard.f1, x.q.heard.f2, x.q.heard.f3⟩, x.q.at_, x.q.turns⟩, x.v⟩ _ rfl rfl rfl).put2 hk 5 (by decide) ⟨⟨x.q.up, x.q.cost, ⟨⟨0, 0, 0, 0⟩, x.q.heard.f1, x.q.heard.f2, x.q.heard.f3⟩, x.q.at_, x.q.turns⟩, x.v⟩ _ rfl rfl rfl).put2 hk 6 (by decide) ⟨⟨x.q.up, x.q.cost, ⟨⟨0, 0, 0, 0⟩, 0, x.q.heard.f2, x.q.heard.f3⟩, x.q.at_, x.q.turns⟩, x.v⟩ _ rfl rfl rfl).put2 hk 7 (by decide) ⟨⟨x.q.up, x.q.cost, ⟨⟨0, 0, 0, 0⟩, 0, 0, x.q.heard.f3⟩, x.q.at_, x.q.turns⟩, x.v⟩ _ rfl rfl rfl).put2 hk 8 (by decide) ⟨⟨x.q.up, x.q.cost, none80, x.q.at_, x.q.turns⟩, x.v⟩ _ rfl rfl rfl
abbrev rsetUC (w : World) (b k : Nat) (up : Bool) (cost : Int) : World := (w.setCell ⟨b, k * 11, none⟩ (.bool up)).setCell ⟨b, k * 11 + 1, none⟩ (.int .i64 cost)
theorem RTre.uc (h : RTre w base g b cap ob ocap id (P.set k x) change opens) (hk : k < P.length) (up : Bool) (cost : Int) : RTre (rsetUC w b k up cost) base g b cap ob ocap id (P.set k ⟨⟨up, cost, x.q.heard, x.q.at_, x.q.turns⟩, x.v⟩) change opens :=
  (h.put2 hk 0 (by decide) ⟨⟨up, x.q.cost, x.q.heard, x.q.at_, x.q.turns⟩, x.v⟩ _ rfl rfl rfl).put2 hk 1 (by decide) ⟨⟨up, cost, x.q.heard, x.q.at_, x.q.turns⟩, x.v⟩ _ rfl rfl rfl
theorem trn_rforget {w0 : World} {F F' : Nat → Prop} (a : Trn base w0 w F F' W) (hs : base ≤ w.heap.size) (hF : F' b) (hb : base ≤ b) (k : Nat) : Trn base w0 w F F' (rforget W b k) :=
  ((((((a.set hs hF hb _ _).set hs hF hb _ _).set hs hF hb _ _).set hs hF hb _ _).set hs hF hb _ _).set hs hF hb _ _).set hs hF hb _ _
theorem trn_ruc {w0 : World} {F F' : Nat → Prop} (a : Trn base w0 w F F' W) (hs : base ≤ w.heap.size) (hF : F' b) (hb : base ≤ b) (k : Nat) (up : Bool) (cost : Int) : Trn base w0 w F F' (rsetUC W b k up cost) :=
  (a.set hs hF hb _ _).set hs hF hb _ _
end
def FitQ (x : RQ) : Prop := Pri.Fit x.heard.f0.f0 ∧ Pri.Fit x.heard.f0.f1 ∧ Pri.Fit x.cost
theorem fit_listQ {P : List RP} (h : ∀ x ∈ P, FitQ x.q) : ∀ s ∈ listQ P, FitH s := by
  intro s hs
  obtain ⟨x, hx, rfl⟩ := List.mem_map.1 hs
  exact h x hx
theorem fitq_set {P : List RP} (h : ∀ x ∈ P, FitQ x.q) (k : Nat) (y : RP) (hy : FitQ y.q) : ∀ x ∈ P.set k y, FitQ x.q := by
  intro p hp
  rcases List.mem_or_eq_of_mem_set hp with h1 | h1
  · exact h p h1
  · subst h1; exact hy
theorem turns_set {P : List RP} {m : Nat} (h : ∀ (k : Nat) (hk : k < P.length), P[k].q.turns.length ≤ m) (k : Nat) (hk : k < P.length) (y : RP) (hy : y.q.turns = P[k].q.turns) : ∀ (i : Nat) (hi : i < (P.set k y).length), (P.set k y)[i].q.turns.length ≤ m := by
  intro i hi
  have hi2 : i < P.length := by rw [List.length_set] at hi; exact hi
  rw [List.getElem_set]
  split
  · rename_i e; subst e; rw [hy]; exact h k hk
  · exact h i hi2
def setQ (x : RQ) (up : Bool) (cost : Int) : RQ := ⟨up, cost, if x.up != up then none80 else x.heard, x.at_, x.turns⟩
set_option maxHeartbeats 4000000 in
set_option maxRecDepth 100000 in
theorem rset_bad (base g b cap ob ocap : Nat) (id : Int) (P : List RP) (change now : Int) (opens : List Bool) (w : World) (ht : RTre w base g b cap ob ocap id P change opens) (i : Int) (up : Bool) (cost : Int) (hbad : ¬ (0 ≤ i ∧ i < (P.length : Int)) ∨ cost < 1 ∨ 16777216 < cost) :
    Calls Tryd.prog 23 #[.pointer (some ⟨g, 0, none⟩), .int .i64 i, .bool up, .int .i64 cost, .int .i64 now] w fun e w' => e = .returned (.int .i64 1) ∧ w' = w := by
  have hg1 : w.cell? ⟨g, 1, none⟩ = some (.slice (some ⟨b, 0, none⟩) P.length cap) := (blk_cell ht.cell 1).trans rfl
  clear ht
  have key : i < 0 ∨ (¬ i < 0 ∧ (P.length : Int) ≤ i) ∨ (¬ i < 0 ∧ ¬ (P.length : Int) ≤ i ∧ cost < 1) ∨ (¬ i < 0 ∧ ¬ (P.length : Int) ≤ i ∧ ¬ cost < 1 ∧ 16777216 < cost) := by omega
  clear hbad
  rcases key with d1 | ⟨d1, d2⟩ | ⟨d1, d2, d3⟩ | ⟨d1, d2, d3, d4⟩
  · have q1 : decide (i < 0) = true := decide_eq_true d1
    go_enter Tryd.func23, Tryd.ntmps23
    go_wp2
    go_ret
    exact ⟨rfl, rfl⟩
  · have q1 : decide (i < 0) = false := decide_eq_false d1
    have q2 : decide ((P.length : Int) ≤ i) = true := decide_eq_true d2
    go_enter Tryd.func23, Tryd.ntmps23
    go_wp2
    go_ret
    exact ⟨rfl, rfl⟩
  · have q1 : decide (i < 0) = false := decide_eq_false d1
    have q2 : decide ((P.length : Int) ≤ i) = false := decide_eq_false d2
    have q3 : decide (cost < 1) = true := decide_eq_true d3
    go_enter Tryd.func23, Tryd.ntmps23
    go_wp2
    go_ret
    exact ⟨rfl, rfl⟩
  · have q1 : decide (i < 0) = false := decide_eq_false d1
    have q2 : decide ((P.length : Int) ≤ i) = false := decide_eq_false d2
    have q3 : decide (cost < 1) = false := decide_eq_false d3
    have q4 : decide (16777216 < cost) = true := decide_eq_true d4
    go_enter Tryd.func23, Tryd.ntmps23
    go_wp2
    go_ret
    exact ⟨rfl, rfl⟩
set_option maxHeartbeats 4000000 in
set_option maxRecDepth 100000 in
theorem rset_ok (base g b cap ob ocap : Nat) (id : Int) (P : List RP) (change now : Int) (opens : List Bool) (w0 w : World) (hB : Below base w0 w) (hs : base ≤ w.heap.size) (ht : RTre w base g b cap ob ocap id P change opens) (hn : P.length ≤ 100) (hf : ∀ x ∈ P, FitQ x.q) (hT : ∀ (k : Nat) (h : k < P.length), P[k].q.turns.length ≤ 1000) (k : Nat) (hk : k < P.length) (up : Bool) (cost : Int) (hc1 : ¬ cost < 1) (hc2 : ¬ 16777216 < cost) :
    Calls Tryd.prog 23 #[.pointer (some ⟨g, 0, none⟩), .int .i64 k, .bool up, .int .i64 cost, .int .i64 now] w fun e w' => e = .returned (.int .i64 0) ∧ ∃ P2 : List RP, RTre w' base g b cap ob ocap id P2 change opens ∧ P2.map (·.q) = updQ id now (listQ (P.set k ⟨setQ P[k].q up cost, P[k].v⟩)) ((P.set k ⟨setQ P[k].q up cost, P[k].v⟩).map (·.q)) P.length ∧ Trn base w0 w (RF g b ob P) (RF g b ob P2) w' := by
  have e42 : ∀ args w, (callFunc 42 args).run Tryd.prog w = .ok (.enter 42 args) w := enters_of Tryd.func42 (by kernel_rfl) rfl
  have hg1 : w.cell? ⟨g, 1, none⟩ = some (.slice (some ⟨b, 0, none⟩) P.length cap) := (blk_cell ht.cell 1).trans rfl
  have hlz : (k : Int) < (P.length : Int) := by omega
  have d1 : decide ((k : Int) < 0) = false := decide_eq_false (by omega)
  have d2 : decide ((P.length : Int) ≤ (k : Int)) = false := decide_eq_false (by omega)
  have d3 : decide (cost < 1) = false := decide_eq_false hc1
  have d4 : decide (16777216 < cost) = false := decide_eq_false hc2
  obtain ⟨hx0, hx1, hx2, hx3, hx4, hx5, hx6, hx7, hx8, hx9, hx10⟩ := rcells ht.row k hk
  have hz := ht.row.fz
  have hbl := ht.row.lt
  have hne := ht.ne1
  have hgl := blk_lt ht.cell
  have HT := Aside0.mk ht
  have HSZ := Aside0.mk hs
  have hc : Pri.Fit cost := ⟨by omega, by omega⟩
  have hset : (setQ P[k].q up cost).turns = P[k].q.turns := rfl
  have hfx := hf _ (List.getElem_mem hk)
  have hfit : FitQ (setQ P[k].q up cost) := by
    unfold setQ
    refine ⟨?_, ?_, hc⟩
    all_goals dsimp only
    all_goals split
    · exact fit0
    · exact hfx.1
    · exact fit0
    · exact hfx.2.1
  have HFS := Aside0.mk (fit_listQ (fitq_set hf k ⟨setQ P[k].q up cost, P[k].v⟩ hfit))
  have HTS := Aside0.mk (turns_set hT k hk ⟨setQ P[k].q up cost, P[k].v⟩ rfl)
  have HTN0 := Aside0.mk (Trn.refl (F := RF g b ob P) hB (w := w))
  clear ht hs hB hf hT hfx hfit hset
  have key : (up = true ∧ P[k].q.up = false) ∨ (up = false ∧ P[k].q.up = true) ∨ (up = true ∧ P[k].q.up = true) ∨ (up = false ∧ P[k].q.up = false) := by cases up <;> cases P[k].q.up <;> simp
  rcases key with ⟨e, e2⟩ | ⟨e, e2⟩ | ⟨e, e2⟩ | ⟨e, e2⟩
  · subst e
    have ep : setQ P[k].q true cost = ⟨true, cost, none80, P[k].q.at_, P[k].q.turns⟩ := by unfold setQ; rw [e2]; rfl
    have HTr := Aside0.mk (((HT.out.same k hk).forget hk).uc hk true cost)
    have HTn := Aside0.mk (Trn.weak (trn_ruc (trn_rforget HTN0.out HSZ.out (.inr (.inl rfl)) HT.out.lowb k) HSZ.out (.inr (.inl rfl)) HT.out.lowb k true cost) (F2 := RF g b ob (P.set k ⟨setQ P[k].q true cost, P[k].v⟩)) (RF_put hk rfl))
    rw [← ep] at HTr
    have HU := Aside0.mk (rupd_calls base g b cap ob ocap id (P.set k ⟨setQ P[k].q true cost, P[k].v⟩) change now opens w0 (rsetUC (rforget w b k) b k true cost) HTn.out.bel (Nat.le_trans HSZ.out HTn.out.size) HTr.out (by rw [List.length_set]; exact hn) HFS.out HTS.out)
    rw [List.length_set] at HU
    clear HTr HFS HTS ep
    rw [e2] at hx0
    clear e2
    generalize P.set k ⟨setQ P[k].q true cost, P[k].v⟩ = PS at *
    go_enter Tryd.func23, Tryd.ntmps23
    go_wp2_with (go_at_fn 42; refine HU.out.mono ?_; rintro e w9 ⟨rfl, P2, h9, m9, t9⟩; have H9 := Aside0.mk h9; have M9 := Aside0.mk m9; have T9 := Aside0.mk t9; clear h9 m9 t9)
    go_ret
    exact ⟨rfl, P2, H9.out, M9.out, HTn.out.trans T9.out⟩
  · subst e
    have ep : setQ P[k].q false cost = ⟨false, cost, none80, P[k].q.at_, P[k].q.turns⟩ := by unfold setQ; rw [e2]; rfl
    have HTr := Aside0.mk (((HT.out.same k hk).forget hk).uc hk false cost)
    have HTn := Aside0.mk (Trn.weak (trn_ruc (trn_rforget HTN0.out HSZ.out (.inr (.inl rfl)) HT.out.lowb k) HSZ.out (.inr (.inl rfl)) HT.out.lowb k false cost) (F2 := RF g b ob (P.set k ⟨setQ P[k].q false cost, P[k].v⟩)) (RF_put hk rfl))
    rw [← ep] at HTr
    have HU := Aside0.mk (rupd_calls base g b cap ob ocap id (P.set k ⟨setQ P[k].q false cost, P[k].v⟩) change now opens w0 (rsetUC (rforget w b k) b k false cost) HTn.out.bel (Nat.le_trans HSZ.out HTn.out.size) HTr.out (by rw [List.length_set]; exact hn) HFS.out HTS.out)
    rw [List.length_set] at HU
    clear HTr HFS HTS ep
    rw [e2] at hx0
    clear e2
    generalize P.set k ⟨setQ P[k].q false cost, P[k].v⟩ = PS at *
    go_enter Tryd.func23, Tryd.ntmps23
    go_wp2_with (go_at_fn 42; refine HU.out.mono ?_; rintro e w9 ⟨rfl, P2, h9, m9, t9⟩; have H9 := Aside0.mk h9; have M9 := Aside0.mk m9; have T9 := Aside0.mk t9; clear h9 m9 t9)
    go_ret
    exact ⟨rfl, P2, H9.out, M9.out, HTn.out.trans T9.out⟩
  · subst e
    have ep : setQ P[k].q true cost = ⟨true, cost, P[k].q.heard, P[k].q.at_, P[k].q.turns⟩ := by unfold setQ; rw [e2]; rfl
    have HTr := Aside0.mk ((HT.out.same k hk).uc hk true cost)
    have HTn := Aside0.mk (Trn.weak (trn_ruc HTN0.out HSZ.out (.inr (.inl rfl)) HT.out.lowb k true cost) (F2 := RF g b ob (P.set k ⟨setQ P[k].q true cost, P[k].v⟩)) (RF_put hk rfl))
    rw [← ep] at HTr
    have HU := Aside0.mk (rupd_calls base g b cap ob ocap id (P.set k ⟨setQ P[k].q true cost, P[k].v⟩) change now opens w0 (rsetUC w b k true cost) HTn.out.bel (Nat.le_trans HSZ.out HTn.out.size) HTr.out (by rw [List.length_set]; exact hn) HFS.out HTS.out)
    rw [List.length_set] at HU
    clear HTr HFS HTS ep
    rw [e2] at hx0
    clear e2
    generalize P.set k ⟨setQ P[k].q true cost, P[k].v⟩ = PS at *
    go_enter Tryd.func23, Tryd.ntmps23
    go_wp2_with (go_at_fn 42; refine HU.out.mono ?_; rintro e w9 ⟨rfl, P2, h9, m9, t9⟩; have H9 := Aside0.mk h9; have M9 := Aside0.mk m9; have T9 := Aside0.mk t9; clear h9 m9 t9)
    go_ret
    exact ⟨rfl, P2, H9.out, M9.out, HTn.out.trans T9.out⟩
  · subst e
    have ep : setQ P[k].q false cost = ⟨false, cost, P[k].q.heard, P[k].q.at_, P[k].q.turns⟩ := by unfold setQ; rw [e2]; rfl
    have HTr := Aside0.mk ((HT.out.same k hk).uc hk false cost)
    have HTn := Aside0.mk (Trn.weak (trn_ruc HTN0.out HSZ.out (.inr (.inl rfl)) HT.out.lowb k false cost) (F2 := RF g b ob (P.set k ⟨setQ P[k].q false cost, P[k].v⟩)) (RF_put hk rfl))
    rw [← ep] at HTr
    have HU := Aside0.mk (rupd_calls base g b cap ob ocap id (P.set k ⟨setQ P[k].q false cost, P[k].v⟩) change now opens w0 (rsetUC w b k false cost) HTn.out.bel (Nat.le_trans HSZ.out HTn.out.size) HTr.out (by rw [List.length_set]; exact hn) HFS.out HTS.out)
    rw [List.length_set] at HU
    clear HTr HFS HTS ep
    rw [e2] at hx0
    clear e2
    generalize P.set k ⟨setQ P[k].q false cost, P[k].v⟩ = PS at *
    go_enter Tryd.func23, Tryd.ntmps23
    go_wp2_with (go_at_fn 42; refine HU.out.mono ?_; rintro e w9 ⟨rfl, P2, h9, m9, t9⟩; have H9 := Aside0.mk h9; have M9 := Aside0.mk m9; have T9 := Aside0.mk t9; clear h9 m9 t9)
    go_ret
    exact ⟨rfl, P2, H9.out, M9.out, HTn.out.trans T9.out⟩
def kRP : Kd RP where
  sz := 11
  E := []
  K := fun _ x cs => cs = encR x ∧ x.v.oneCell' = true
  M := fun _ _ _ x cs => cs = encR x ∧ x.v.oneCell' = true
  K_len := fun h => by rw [h.1]; rfl
  K_one := fun {w x cs} h u hu => by
    rw [h.1] at hu
    simp only [encR, List.mem_cons, List.not_mem_nil, or_false] at hu
    rcases hu with rfl | rfl | rfl | rfl | rfl | rfl | rfl | rfl | rfl | rfl | rfl
    all_goals first | rfl | exact h.2
  K_below := fun _ h => h
  K_of_M := fun h => h
  M_mono := fun _ h => h
  M_bound := fun h => h
  M_move := fun _ h => h
  M_lower := fun _ h => h
theorem make_bool {w : World} {base : Nat} {ok : Nat → Prop} {v : Value} {n : Int} {m : Nat} (hm : 1 ≤ m) (hn : n = (m : Int) := by rfl) (h : Kd.R Kd.bool 4 w base ok v (List.replicate n.toNat false)) : ∃ ob ocap, v = .slice (some ⟨ob, 0, none⟩) m ocap ∧ base ≤ ob ∧ Own encO 1 4 w ob ocap (List.replicate m false) := by
  subst hn
  rw [Int.toNat_natCast] at h
  rcases Gen.Own.ofR (enc := encO) (k := 1) (fun _ => rfl) rfl (fun w base ok x cs h => h) h with ⟨_, e⟩ | ⟨b, c, rfl, _, hb, _, ho⟩
  · have := congrArg List.length e
    rw [List.length_replicate] at this
    simp at this; omega
  · rw [List.length_replicate]
    exact ⟨b, c, rfl, hb, ho⟩
def rp0 : RP := ⟨⟨false, 0, none80, 0, []⟩, .slice none 0 0⟩
theorem info62b : (Tryd.prog.info? 62).map (fun i => (i.zero, i.size, i.bytes)) = some (some (.agg #[(.bool false), (.int .i64 0), (.int .i64 0), (.int .i64 0), (.int .i64 0), (.int .i64 0), (.int .i64 0), (.int .i64 0), (.bool false), (.int .i64 0), (.slice none 0 0)]), 11, 104) := by kernel_rfl
abbrev rnewCells (id : Int) (v u : Value) : Array Value := #[.int .i64 id, v, .int .i64 (-1), u]
set_option maxHeartbeats 4000000 in
set_option maxRecDepth 100000 in
theorem rnew_calls (id : Int) (n : Nat) (h1 : 1 ≤ n) (h6 : n ≤ 6) (w : World) :
    Calls Tryd.prog 22 #[.int .i64 id, .int .i64 n] w fun e w' => ∃ g b cap ob ocap : Nat, e = .returned (.pointer (some ⟨g, 0, none⟩)) ∧ RTre w' w.heap.size g b cap ob ocap id (List.replicate n rp0) (-1) (List.replicate n false) ∧ Below w.heap.size w w' := by
  have hu57 := Tryd.underlying57
  have HH6 := Aside0.mk h6
  have HH1 := Aside0.mk h1
  clear h1 h6
  go_enter Tryd.func22, Tryd.ntmps22
  go_wp2_with (first
    | ((with_reducible refine gate_dst (N := 9) rfl ?_); refine Kd.R_make Kd.bool w.heap.size 4 rfl (N := 9) rfl 26 _ _ rfl (n : Int) rfl rfl Tryd.underlying26 (.bool false) 1 info4 rfl (by decide) (by decide) false (ok := fun _ => True) (okp := fun _ => True) (rfl) (fun _ hk => hk) trivial (by omega) (by have := HH6.out; omega) (w0 := w) (by repeat (first | exact Below.refl _ _ | apply below_alloc | apply pw_below_drewN | apply below_drew1)) (Nat.le_refl _) ?_; intro v1 w1 ho1 hb1 hg1 hn1; obtain ⟨ob, ocap, rfl, hob, hown⟩ := make_bool HH1.out rfl ho1; have HOB := Aside0.mk hown; have HOBL := Aside0.mk hob; have HB1 := Aside0.mk hb1; clear ho1 hb1 hg1 hn1 hown hob)
    | ((with_reducible refine gate_dst (N := 11) rfl ?_); refine box_event ?hg (N := 11) ?hd (cs := rnewCells id (.slice none 0 0) (.slice (some ⟨ob, 0, none⟩) n ocap)) (t := 57) ?hr ?_; (case hd => rfl); (case hg => rfl); (case hr => first | (go_simp; done) | (go_simp; rfl)); intro gb hg w3 hbox hb; have HB3 := Aside0.mk (below_step HB1.out hb); have BK := Aside0.mk hbox; have HOB3 := Aside0.mk (HOB.out.below hb); have HGO := Aside0.mk (show ob < gb by rw [hg]; exact HOB.out.lt); clear hb hbox hg))
  have hobg : ob < gb := HGO.out
  go_loopg [6] n (fun gk s6 wr => ∃ i : Nat, s6 = .int .i64 i ∧ i ≤ n ∧ n - i ≤ gk ∧ ∃ v : Value, Aside0 (wr.heap[gb]? = some (.cells (rnewCells id v (.slice (some ⟨ob, 0, none⟩) n ocap)) 57 (0, 0))) ∧ Aside0 (Own encO 1 4 wr ob ocap (List.replicate n false)) ∧ Aside0 (Kd.R kRP 62 wr w.heap.size (fun q => q ≠ gb ∧ q ≠ ob) v (List.replicate i rp0)) ∧ Aside0 (Below w.heap.size w wr))
  case atStart => exact ⟨0, rfl, Nat.zero_le _, by omega, _, BK, HOB3, ⟨Kd.R_nil _ _ _ _ _⟩, HB3⟩
  case round =>
    obtain ⟨i, rfl, hil, hgk, v, HC, HOO, HO, HB⟩ := hrel
    by_cases hlt : i < n
    · have hlz : (i : Int) < (n : Int) := by omega
      have hcg : wr.cell? ⟨gb, 1, none⟩ = some v := (blk_cell HC.out 1).trans rfl
      have hfz := blk_frozen HC.out 1
      have hgl := blk_lt HC.out
      have hol := HOO.out.lt
      have hbw := Below.refl wr.heap.size wr
      have hi6 : i ≤ 6 := by have := HH6.out; omega
      have HLL := Aside0.mk (show ((List.replicate i rp0).length + 1) * 104 ≤ 140737488355328 by rw [List.length_replicate]; have := HH6.out; omega)
      go_wp2_with ((with_reducible refine gate_builtin (b := .append) (xs := #[.tmp 21, .tmp 24]) rfl ?_); at_builtin; refine Kd.R_append kRP (w0 := w) w.heap.size rfl (.tmp 21) (.tmp 24) 55 62 (.agg #[(.bool false), (.int .i64 0), (.int .i64 0), (.int .i64 0), (.int .i64 0), (.int .i64 0), (.int .i64 0), (.int .i64 0), (.bool false), (.int .i64 0), (.slice none 0 0)]) 104 rfl Tryd.underlying55 info62b rfl (by decide) (by decide) v (List.replicate i rp0) rp0 [.bool false, .int .i64 0, .int .i64 0, .int .i64 0, .int .i64 0, .int .i64 0, .int .i64 0, .int .i64 0, .bool true, .int .i64 0, .slice none 0 0] (fun q => q ≠ gb ∧ q ≠ ob) (fun _ => False) rfl ?hx ?aP (fun _ hk => hk.elim) ?aF ?aO ?aB ?aS ?aL ?_; (case hx => simp [Act.eval, World.size_alloc]); (case aP => exact ⟨rfl, rfl⟩); (case aB => exact below_step HB.out (by repeat (with_reducible first | assumption | apply below_alloc | apply pw_below_drewN | apply below_drew1))); (case aF => exact fun q hq => by have h2 : wr.heap.size ≤ q := Nat.le_trans (show Below wr.heap.size wr _ from (by repeat (with_reducible first | assumption | apply below_alloc | apply pw_below_drewN | apply below_drew1))).size hq; omega); (case aO => (with_reducible repeat (first | apply Kd.R_alloc | apply Kd.R_drewN | apply Kd.R_drew)); exact HO.out); (case aS => exact Nat.le_trans HB.out.size (by repeat (with_reducible first | assumption | apply below_alloc | apply pw_below_drewN | apply below_drew1) : Below wr.heap.size wr _).size); (case aL => exact HLL.out); intro u5 w4 ho4 hb4 hg4 hat4; have hg5 : wr.grownBy w4 v.ownBlock := Gen.grownBy_trans (Gen.grownBy_below (by repeat (with_reducible first | assumption | apply below_alloc | apply pw_below_drewN | apply below_drew1))) (show World.grownBy _ w4 _ from hg4); have hc4 : w4.heap[gb]? = some (.cells (rnewCells id v (.slice (some ⟨ob, 0, none⟩) n ocap)) 57 (0, 0)) := blk_grown HC.out hg5 (fun e => (HO.out.1 _ e.symm).1 rfl); have hf4 := blk_frozen hc4 1; have hx4 : w4.cell? ⟨gb, 1, none⟩ = some v := (blk_cell hc4 1).trans rfl; have HC4 := Aside0.mk hc4; have HO4 := Aside0.mk ho4; have HB4 := Aside0.mk hb4; have HG4 := Aside0.mk hg5; obtain ⟨A5, c5, rfl⟩ := Kd.R_slice ho4; clear hc4 ho4 hb4 hg4 hat4 hg5)
      go_roundg (n - (i + 1))
      case measure => omega
      case rel =>
        have hO := Gen.R_kept rfl HO4.out (Gen.kept_set w4 gb 1 (.slice A5 (i + 1) c5)) (fun q hq e => (HO4.out.1 q hq).1 e)
        rw [← List.replicate_succ', List.length_replicate] at hO
        have hK : Kept wr w4 (fun q => some q = v.ownBlock) := ⟨HG4.out.size, fun q hq hn => HG4.out.block q hq hn⟩
        have hO2 := (HOO.out.kept hK (fun e => (HO.out.1 _ e.symm).2 rfl)).kept (Gen.kept_set w4 gb 1 (.slice A5 (i + 1) c5)) (fun (e : ob = gb) => by omega)
        exact ⟨i + 1, by go_num, by omega, Nat.le_refl _, _, ⟨blk_put HC4.out 1 (.slice A5 (i + 1) c5) rfl⟩, ⟨hO2⟩, ⟨hO⟩, ⟨below_set HB4.out (Nat.le_trans HOBL.out (Nat.le_of_lt hobg))⟩⟩
    · have e : i = n := by omega
      subst e
      rcases Gen.Own.ofR (d := kRP) (enc := encR) (k := 11) encR_len rfl (fun w base ok x cs h => h.1) HO.out with ⟨_, e⟩ | ⟨b, cap, rfl, hbok, hbb, hcap, hown⟩
      · have := congrArg List.length e
        rw [List.length_replicate] at this
        have h1 := HH1.out
        simp at this
        omega
      · have HW := Aside0.mk hown
        clear hown
        go_wp2
        go_ret
        have hc := HC.out
        have gr : ∀ (k : Nat) (hk : k < (List.replicate i rp0).length), (List.replicate i rp0)[k] = rp0 := fun k hk => List.getElem_replicate hk
        refine ⟨gb, b, cap, ob, ocap, rfl, ⟨?_, HW.out, HOO.out, fun k hk => ?_, fun a c ha hc hne q hq => ?_, fun e => hbok.1 e.symm, fun e => by omega, hbok.2, Nat.le_trans HOBL.out (Nat.le_of_lt hobg), hbb, HOBL.out, hcap⟩, HB.out⟩
        · have e1 : (List.replicate i false).length = i := List.length_replicate
          rw [e1]; exact hc
        · rw [gr]; exact Kd.R_nil _ _ _ _ _
        · rw [gr] at hq; cases hq
end Go.Proofs.YtfimhaodgekkgaaDoor.QTre
namespace Go.Proofs.YtfimhaodgekkgaaDoor.QTre
open Go.RowKit Go.Proofs.YtfimhaodgekkgaaDoorW.PrintWords Go.Proofs.YtfimhaodgekkgaaDoorW.PrintLast Go.Proofs.YtfimhaodgekkgaaDoorW.PrintMore
open Go.Proofs.YtfimhaodgekkgaaDoor.Gen (Own Trn)
open Go.Proofs.YtfimhaodgekkgaaDoor.Pri (FitH roles bestOf role brid conv)
set_option linter.unusedVariables false
set_option linter.unusedSimpArgs false
def clampR (r : Int) : Int := if r < 0 ∨ 3 < r then 0 else r
def stepT (a : Int × Int) (t : S103) : Int × Int := if clampR t.f0 = a.1 then a else (clampR t.f0, t.f1)
def lastTn (l : List S103) : Int × Int := l.foldl stepT (0, 0)
theorem lastTn_snoc (l : List S103) (t : S103) : lastTn (l ++ [t]) = stepT (lastTn l) t := by unfold lastTn; rw [List.foldl_append]; rfl
theorem clampR_in (r : Int) : 0 ≤ clampR r ∧ clampR r ≤ 3 := by unfold clampR; split <;> omega
theorem fold_in : ∀ (l : List S103) (a : Int × Int), 0 ≤ a.1 ∧ a.1 ≤ 3 → 0 ≤ (l.foldl stepT a).1 ∧ (l.foldl stepT a).1 ≤ 3
  | [], a, h => h
  | t :: l, a, h => by
    rw [List.foldl_cons]
    refine fold_in l _ ?_
    unfold stepT
    split
    · exact h
    · exact clampR_in _
theorem lastTn_in (l : List S103) : 0 ≤ (lastTn l).1 ∧ (lastTn l).1 ≤ 3 := fold_in l _ ⟨by decide, by decide⟩
theorem setR_step (p : S82) (r now : Int) (h : 0 ≤ p.f0 ∧ p.f0 ≤ 3) : ((setR p r now).2.f0, (setR p r now).2.f1) = stepT (p.f0, p.f1) ⟨r, now⟩ := by
  have e : (if r < 0 ∨ 3 < r then 0 else r) = clampR r := rfl
  unfold setR stepT
  rw [e]
  dsimp only
  by_cases h1 : r = p.f0
  · rw [if_pos h1, if_pos (by unfold clampR; rw [if_neg (by omega)]; exact h1)]
  · rw [if_neg h1]
    by_cases h2 : clampR r = p.f0
    · rw [if_pos h2, if_pos h2]
    · rw [if_neg h2, if_neg h2]
def SmP (p : S84) (q : RQ) : Prop := p.f0 = q.up ∧ p.f1 = q.cost ∧ p.f2 = q.heard ∧ p.f3 = q.at_ ∧ (p.f4.f0, p.f4.f1) = lastTn q.turns
structure Sm (P : List S84) (Q : List RQ) : Prop where
  len : P.length = Q.length
  each : ∀ (k : Nat) (h : k < P.length) (h' : k < Q.length), SmP P[k] Q[k]
section
variable {P : List S84} {Q : List RQ}
theorem Sm.list (h : Sm P Q) : P.map heardOf = Q.map heardQ := by
  apply List.ext_getElem
  · rw [List.length_map, List.length_map]; exact h.len
  · intro k h1 h2
    rw [List.length_map] at h1 h2
    rw [List.getElem_map, List.getElem_map]
    obtain ⟨e0, e1, e2, e3, _⟩ := h.each k h1 h2
    unfold heardOf heardQ
    rw [e0, e1, e2]
theorem Sm.set (h : Sm P Q) (k : Nat) (x : S84) (y : RQ) (hxy : SmP x y) : Sm (P.set k x) (Q.set k y) := by
  refine ⟨by rw [List.length_set, List.length_set]; exact h.len, fun i h1 h2 => ?_⟩
  rw [List.length_set] at h1 h2
  rw [List.getElem_set, List.getElem_set]
  split
  · exact hxy
  · exact h.each i h1 h2
theorem roles_at (id : Int) (L : List S80) (k : Nat) (h : k < L.length) : (roles id L).getD k 0 = role id (bestOf id L) k L[k] := by
  have := Pri.roles_get id L k h
  unfold rd at this
  simpa using this
theorem Sm.upd (h : Sm P Q) (id now : Int) : Sm (QTre.upd id now P) (updQ id now (Q.map heardQ) Q Q.length) := by
  refine ⟨by rw [updN_len, updQ_len]; exact h.len, fun k h1 h2 => ?_⟩
  rw [updN_len] at h1
  rw [updQ_len] at h2
  rw [updN_at, updQ_at, if_pos h1, if_pos h2]
  obtain ⟨e0, e1, e2, e3, e4⟩ := h.each k h1 h2
  have hl : k < (P.map heardOf).length := by rw [List.length_map]; exact h1
  have hr : (roles id (P.map heardOf)).getD k 0 = role id (bestOf id (Q.map heardQ)) k ((Q.map heardQ).getD k ⟨⟨0, 0, 0, 0⟩, 0, 0, false⟩) := by
    rw [roles_at id _ k hl]
    have h3 : k < (Q.map heardQ).length := by rw [List.length_map]; exact h2
    rw [List.getD_eq_getElem?_getD, List.getElem?_eq_getElem h3]
    simp only [h.list, Option.getD_some]
  unfold setPort turnQ
  rw [hr]
  refine ⟨e0, e1, e2, e3, ?_⟩
  dsimp only
  rw [lastTn_snoc, ← e4, e0]
  refine setR_step _ _ _ ?_
  have := lastTn_in Q[k].turns
  rw [← e4] at this
  exact this
end
abbrev QS (D : List RP) : List RQ := D.map (·.q)
theorem listQ_QS (D : List RP) : listQ D = (QS D).map heardQ := by unfold listQ QS; rw [List.map_map]; rfl
def rq0 : RQ := ⟨false, 0, none80, 0, []⟩
def rsetF (id now : Int) (Q : List RQ) (i : Int) (up : Bool) (cost : Int) : Int × List RQ :=
  if (0 ≤ i ∧ i < (Q.length : Int)) ∧ ¬ cost < 1 ∧ ¬ 16777216 < cost then
    (0, updQ id now ((Q.set i.toNat (setQ (Q.getD i.toNat rq0) up cost)).map heardQ) (Q.set i.toNat (setQ (Q.getD i.toNat rq0) up cost)) Q.length)
  else (1, Q)
theorem dset_calls (base g b cap ob ocap : Nat) (id : Int) (D : List RP) (change now : Int) (opens : List Bool) (w0 w : World) (hB : Below base w0 w) (hs : base ≤ w.heap.size) (ht : RTre w base g b cap ob ocap id D change opens) (hn : D.length ≤ 100) (hf : ∀ x ∈ D, FitQ x.q) (hT : ∀ (k : Nat) (h : k < D.length), D[k].q.turns.length ≤ 1000) (i : Int) (up : Bool) (cost : Int) :
    Calls Tryd.prog 23 #[.pointer (some ⟨g, 0, none⟩), .int .i64 i, .bool up, .int .i64 cost, .int .i64 now] w fun e w' => e = .returned (.int .i64 (rsetF id now (QS D) i up cost).1) ∧ ∃ D2 : List RP, RTre w' base g b cap ob ocap id D2 change opens ∧ QS D2 = (rsetF id now (QS D) i up cost).2 ∧ Trn base w0 w (RF g b ob D) (RF g b ob D2) w' := by
  have hl : (QS D).length = D.length := List.length_map _
  unfold rsetF
  rw [hl]
  by_cases h : (0 ≤ i ∧ i < (D.length : Int)) ∧ ¬ cost < 1 ∧ ¬ 16777216 < cost
  · rw [if_pos h]
    obtain ⟨k, rfl⟩ : ∃ k : Nat, i = k := ⟨i.toNat, by omega⟩
    have hk : k < D.length := by omega
    have hk2 : k < (QS D).length := by rw [hl]; exact hk
    rw [Int.toNat_natCast]
    have hg : (QS D).getD k rq0 = D[k].q := by
      rw [List.getD_eq_getElem?_getD, List.getElem?_eq_getElem hk2]
      simp only [Option.getD_some, QS, List.getElem_map]
    rw [hg]
    refine (rset_ok base g b cap ob ocap id D change now opens w0 w hB hs ht hn hf hT k hk up cost h.2.1 h.2.2).mono ?_
    rintro e w' ⟨rfl, D2, h1, h2, h3⟩
    refine ⟨rfl, D2, h1, ?_, h3⟩
    rw [listQ_QS] at h2
    have hs2 : QS (D.set k ⟨setQ D[k].q up cost, D[k].v⟩) = (QS D).set k (setQ D[k].q up cost) := by unfold QS; rw [List.map_set]
    rw [hs2] at h2
    have h4 : (D.set k ⟨setQ D[k].q up cost, D[k].v⟩).map (·.q) = (QS D).set k (setQ D[k].q up cost) := hs2
    rw [h4] at h2
    exact h2
  · rw [if_neg h]
    refine (rset_bad base g b cap ob ocap id D change now opens w ht i up cost (by omega)).mono ?_
    rintro e w' ⟨rfl, rfl⟩
    exact ⟨rfl, D, ht, rfl, Trn.refl hB⟩
theorem smP_set {p : S84} {q : RQ} (h : SmP p q) (up : Bool) (cost : Int) : SmP (setP p up cost) (setQ q up cost) := by
  obtain ⟨e0, e1, e2, e3, e4⟩ := h
  unfold setP setQ
  refine ⟨rfl, rfl, ?_, e3, e4⟩
  dsimp only
  rw [e0, e2]
  cases up <;> cases q.up <;> rfl
section
variable {P : List S84} {Q : List RQ}
theorem Sm.getD (h : Sm P Q) (k : Nat) (hk : k < P.length) : SmP (P.getD k port0) (Q.getD k rq0) := by
  have hk2 : k < Q.length := by rw [← h.len]; exact hk
  rw [getD_lt hk, List.getD_eq_getElem?_getD, List.getElem?_eq_getElem hk2]
  exact h.each k hk hk2
theorem Sm.setF (h : Sm P Q) (id now : Int) (best : S36) (root i : Int) (up : Bool) (cost : Int) : (QTre.setF id now P best root i up cost).code = (rsetF id now Q i up cost).1 ∧ Sm (QTre.setF id now P best root i up cost).ports (rsetF id now Q i up cost).2 := by
  unfold QTre.setF rsetF
  rw [← h.len]
  by_cases hv : (0 ≤ i ∧ i < (P.length : Int)) ∧ ¬ cost < 1 ∧ ¬ 16777216 < cost
  · rw [if_pos hv, if_pos hv]
    have h2 := h.set i.toNat _ _ (smP_set (h.getD i.toNat (by omega)) up cost)
    have h3 := h2.upd id now
    rw [List.length_set, ← h.len] at h3
    exact ⟨rfl, h3⟩
  · rw [if_neg hv, if_neg hv]
    exact ⟨rfl, h⟩
theorem Sm.ups (h : Sm P Q) : P.map (·.f0) = Q.map (·.up) := by
  apply List.ext_getElem
  · rw [List.length_map, List.length_map]; exact h.len
  · intro k h1 h2
    rw [List.length_map] at h1 h2
    rw [List.getElem_map, List.getElem_map]
    exact (h.each k h1 h2).1
end
theorem ups_upd (id now : Int) (P : List S84) : (upd id now P).map (·.f0) = P.map (·.f0) := by
  apply List.ext_getElem
  · rw [List.length_map, List.length_map, updN_len]
  · intro k h1 h2
    rw [List.getElem_map, List.getElem_map, updN_at]
    split <;> rfl
theorem ups_updQ (id now : Int) (L : List S80) (Q : List RQ) (j : Nat) : (updQ id now L Q j).map (·.up) = Q.map (·.up) := by
  apply List.ext_getElem
  · rw [List.length_map, List.length_map, updQ_len]
  · intro k h1 h2
    rw [List.getElem_map, List.getElem_map, updQ_at]
    split <;> rfl
theorem ups_tick (id now : Int) (P : List S84) : (tickP id now P).map (·.f0) = P.map (·.f0) := by
  have h1 : (tickP id now P).map (·.f0) = (upd id now (tk1 now P)).map (·.f0) := by unfold tickP; rw [List.map_map]; rfl
  have h2 : (tk1 now P).map (·.f0) = P.map (·.f0) := by
    unfold tk1
    rw [List.map_map]
    apply List.map_congr_left
    intro p _
    show (fgtP now p).f0 = p.f0
    unfold fgtP
    split <;> rfl
  rw [h1, ups_upd, h2]
theorem ups_hear (id now : Int) (P : List S84) (best : S36) (root i : Int) (m : S38) : (hearF id now P best root i m).ports.map (·.f0) = P.map (·.f0) := by
  unfold hearF
  by_cases hv : (0 ≤ i ∧ i < (P.length : Int)) ∧ goodB m = true ∧ m.f2 = 2
  · rw [if_pos hv]
    split
    · rw [ups_upd, List.map_set]
      have hk : i.toNat < P.length := by omega
      rw [getD_lt hk]
      have : (hearP P[i.toNat] m now).f0 = (P.map (·.f0))[i.toNat]'(by rw [List.length_map]; exact hk) := by rw [List.getElem_map]; rfl
      rw [this, List.set_getElem_self]
    · rfl
  · rw [if_neg hv]
theorem ups_set {P : List S84} {Q : List RQ} (h : P.map (·.f0) = Q.map (·.up)) (id now : Int) (best : S36) (root i : Int) (up : Bool) (cost : Int) : (setF id now P best root i up cost).ports.map (·.f0) = (rsetF id now Q i up cost).2.map (·.up) := by
  have hl : P.length = Q.length := by
    have := congrArg List.length h
    rw [List.length_map, List.length_map] at this
    exact this
  unfold setF rsetF
  rw [← hl]
  by_cases hv : (0 ≤ i ∧ i < (P.length : Int)) ∧ ¬ cost < 1 ∧ ¬ 16777216 < cost
  · rw [if_pos hv, if_pos hv, ups_upd, ups_updQ, List.map_set, List.map_set, h]
    rfl
  · rw [if_neg hv, if_neg hv]; exact h
structure InvQ (n i : Nat) (Q : List RQ) : Prop where
  len : Q.length = n
  fit : ∀ x ∈ Q, FitQ x
  turns : ∀ x ∈ Q, x.turns.length ≤ i
theorem InvQ.more {n i j : Nat} {Q : List RQ} (h : InvQ n i Q) (hij : i ≤ j) : InvQ n j Q := ⟨h.len, h.fit, fun x hx => Nat.le_trans (h.turns x hx) hij⟩
theorem InvQ.upd {n i : Nat} {Q : List RQ} (h : InvQ n i Q) (id now : Int) (L : List S80) : InvQ n (i + 1) (updQ id now L Q Q.length) := by
  refine ⟨by rw [updQ_len]; exact h.len, fun x hx => ?_, fun x hx => ?_⟩
  all_goals
    obtain ⟨k, hk, rfl⟩ := List.mem_iff_getElem.1 hx
    rw [updQ_at]
    have hk2 : k < Q.length := by rw [updQ_len] at hk; exact hk
    rw [if_pos hk2]
  · have := h.fit _ (List.getElem_mem hk2)
    exact this
  · show (Q[k].turns ++ _).length ≤ i + 1
    rw [List.length_append]
    have := h.turns _ (List.getElem_mem hk2)
    simp; omega
theorem InvQ.put {n i : Nat} {Q : List RQ} (h : InvQ n i Q) (k : Nat) (y : RQ) (hf : FitQ y) (ht : y.turns.length ≤ i) : InvQ n i (Q.set k y) := by
  refine ⟨by rw [List.length_set]; exact h.len, fun x hx => ?_, fun x hx => ?_⟩
  all_goals rcases List.mem_or_eq_of_mem_set hx with h1 | h1
  · exact h.fit x h1
  · subst h1; exact hf
  · exact h.turns x h1
  · subst h1; exact ht
theorem getDQ_mem {Q : List RQ} {k : Nat} (hk : k < Q.length) : Q.getD k rq0 ∈ Q := by
  rw [List.getD_eq_getElem?_getD, List.getElem?_eq_getElem hk]
  exact List.getElem_mem hk
theorem setQ_fit {x : RQ} (h : FitQ x) (up : Bool) {cost : Int} (hc : Pri.Fit cost) : FitQ (setQ x up cost) := by
  unfold setQ
  refine ⟨?_, ?_, hc⟩
  all_goals dsimp only
  all_goals split
  · exact fit0
  · exact h.1
  · exact fit0
  · exact h.2.1
theorem InvQ.set {n i : Nat} {Q : List RQ} (h : InvQ n i Q) (id now : Int) (p : Int) (up : Bool) (cost : Int) : InvQ n (i + 1) (rsetF id now Q p up cost).2 := by
  unfold rsetF
  by_cases hv : (0 ≤ p ∧ p < (Q.length : Int)) ∧ ¬ cost < 1 ∧ ¬ 16777216 < cost
  · rw [if_pos hv]
    have hm := getDQ_mem (Q := Q) (k := p.toNat) (by omega)
    have hc : Pri.Fit cost := ⟨by omega, by omega⟩
    have h2 := (h.put p.toNat (setQ (Q.getD p.toNat rq0) up cost) (setQ_fit (h.fit _ hm) up hc) (show (Q.getD p.toNat rq0).turns.length ≤ i from h.turns _ hm)).upd id now ((Q.set p.toNat (setQ (Q.getD p.toNat rq0) up cost)).map heardQ)
    rw [List.length_set] at h2
    exact h2
  · rw [if_neg hv]; exact h.more (by omega)
theorem InvQ.new (n : Nat) : InvQ n 0 (QS (List.replicate n rp0)) := by
  have e : QS (List.replicate n rp0) = List.replicate n rq0 := by unfold QS; rw [List.map_replicate]; rfl
  rw [e]
  refine ⟨List.length_replicate, fun x hx => ?_, fun x hx => ?_⟩
  all_goals rw [List.eq_of_mem_replicate hx]
  · exact ⟨fit0, fit0, fit0⟩
  · exact Nat.le_refl _
theorem InvQ.of {n i : Nat} {D : List RP} (h : InvQ n i (QS D)) : D.length = n ∧ (∀ x ∈ D, FitQ x.q) ∧ ∀ (k : Nat) (hk : k < D.length), D[k].q.turns.length ≤ i := by
  refine ⟨by have := h.len; rw [List.length_map] at this; exact this, fun x hx => h.fit _ (List.mem_map.2 ⟨x, hx, rfl⟩), fun k hk => h.turns _ (List.mem_map.2 ⟨_, List.getElem_mem hk, rfl⟩)⟩
structure InvF (id : Int) (n : Nat) (T : Int) (P : List S84) (best : S36) (root : Int) : Prop where
  len : P.length = n
  fit : ∀ p ∈ P, FitP p
  at_ : ∀ p ∈ P, 0 ≤ p.f3 ∧ p.f3 ≤ T ∧ 0 ≤ p.f4.f1 ∧ p.f4.f1 ≤ T
theorem setR_at (p : S82) (r now : Int) : (setR p r now).2.f1 = p.f1 ∨ (setR p r now).2.f1 = now := by
  unfold setR
  repeat' split
  all_goals first | exact .inl rfl | exact .inr rfl
section
variable {id T : Int} {n : Nat} {P : List S84} {best : S36} {root : Int}
theorem InvF.new : InvF id n 0 (List.replicate n port0) best root := by
  refine ⟨List.length_replicate, fun p hp => ?_, fun p hp => ?_⟩
  all_goals rw [List.eq_of_mem_replicate hp]
  · exact ⟨fit0, fit0, fit0⟩
  · exact ⟨by decide, by decide, by decide, by decide⟩
theorem InvF.later (h : InvF id n T P best root) {T2 : Int} (hT : T ≤ T2) : InvF id n T2 P best root := ⟨h.len, h.fit, fun p hp => by have := h.at_ p hp; omega⟩
theorem upd_fit (h : ∀ p ∈ P, FitP p) (id now : Int) : ∀ p ∈ upd id now P, FitP p := all_updN h (fun r p hp => hp)
theorem upd_at (h : ∀ p ∈ P, 0 ≤ p.f3 ∧ p.f3 ≤ T ∧ 0 ≤ p.f4.f1 ∧ p.f4.f1 ≤ T) (hT : 0 ≤ T) (id : Int) : ∀ p ∈ upd id T P, 0 ≤ p.f3 ∧ p.f3 ≤ T ∧ 0 ≤ p.f4.f1 ∧ p.f4.f1 ≤ T :=
  all_updN h (fun r p hp => by
    refine ⟨hp.1, hp.2.1, ?_⟩
    show 0 ≤ (setR p.f4 (if p.f0 = true then r else 0) T).2.f1 ∧ (setR p.f4 (if p.f0 = true then r else 0) T).2.f1 ≤ T
    rcases setR_at p.f4 (if p.f0 = true then r else 0) T with e | e
    · rw [e]; exact hp.2.2
    · rw [e]; omega)
theorem InvF.setF (h : InvF id n T P best root) (hT : 0 ≤ T) (i : Int) (up : Bool) (cost : Int) : InvF id n T (setF id T P best root i up cost).ports (setF id T P best root i up cost).best (setF id T P best root i up cost).root := by
  unfold QTre.setF
  by_cases hv : (0 ≤ i ∧ i < (P.length : Int)) ∧ ¬ cost < 1 ∧ ¬ 16777216 < cost
  · rw [if_pos hv]
    have hm := getD_mem (P := P) (k := i.toNat) (by omega)
    have hc : Pri.Fit cost := ⟨by omega, by omega⟩
    have hf : FitP (setP (P.getD i.toNat port0) up cost) := by
      unfold setP
      refine ⟨?_, ?_, hc⟩
      all_goals dsimp only
      all_goals split
      · exact fit0
      · exact (h.fit _ hm).1
      · exact fit0
      · exact (h.fit _ hm).2.1
    exact ⟨by rw [updN_len, List.length_set]; exact h.len, upd_fit (all_set h.fit _ _ hf) id T, upd_at (all_set h.at_ i.toNat (setP (P.getD i.toNat port0) up cost) (show 0 ≤ (P.getD i.toNat port0).f3 ∧ (P.getD i.toNat port0).f3 ≤ T ∧ 0 ≤ (P.getD i.toNat port0).f4.f1 ∧ (P.getD i.toNat port0).f4.f1 ≤ T from h.at_ _ hm)) hT id⟩
  · rw [if_neg hv]; exact h
theorem InvF.hearF (h : InvF id n T P best root) (hT : 0 ≤ T) (i : Int) (m : S38) (hm : FitB m) : InvF id n T (hearF id T P best root i m).ports (hearF id T P best root i m).best (hearF id T P best root i m).root := by
  unfold QTre.hearF
  by_cases hv : (0 ≤ i ∧ i < (P.length : Int)) ∧ goodB m = true ∧ m.f2 = 2
  · rw [if_pos hv]
    split
    · have hp := getD_mem (P := P) (k := i.toNat) (by omega)
      have ha := h.at_ _ hp
      exact ⟨by rw [updN_len, List.length_set]; exact h.len, upd_fit (all_set h.fit i.toNat (hearP (P.getD i.toNat port0) m T) ⟨hm.1, hm.2.1, (h.fit _ hp).2.2⟩) id T, upd_at (all_set h.at_ i.toNat (hearP (P.getD i.toNat port0) m T) ⟨hT, Int.le_refl _, ha.2.2.1, ha.2.2.2⟩) hT id⟩
    · exact h
  · rw [if_neg hv]; exact h
theorem fgt_at {now : Int} {p : S84} : (fgtP now p).f3 = p.f3 ∧ (fgtP now p).f4 = p.f4 ∧ (fgtP now p).f0 = p.f0 := by
  unfold fgtP
  split <;> exact ⟨rfl, rfl, rfl⟩
theorem InvF.tick (h : InvF id n T P best root) {now : Int} (hn : T ≤ now) (h0 : 0 ≤ now) : InvF id n now (tickP id now P) (tickB id now P).1 (tickB id now P).2 := by
  have hf : ∀ p ∈ tk1 now P, FitP p := fgt_fit h.fit
  have ha : ∀ p ∈ tk1 now P, 0 ≤ p.f3 ∧ p.f3 ≤ now ∧ 0 ≤ p.f4.f1 ∧ p.f4.f1 ≤ now := by
    intro p hp
    obtain ⟨q, hq, rfl⟩ := List.mem_map.1 hp
    have := h.at_ q hq
    rw [fgt_at.1, fgt_at.2.1]
    omega
  refine ⟨by rw [List.length_map, updN_len, List.length_map]; exact h.len, fun p hp => ?_, fun p hp => ?_⟩
  · obtain ⟨q, hq, rfl⟩ := List.mem_map.1 hp
    exact upd_fit hf id now q hq
  · obtain ⟨q, hq, rfl⟩ := List.mem_map.1 hp
    exact upd_at ha h0 id q hq
end
structure InvK (id : Int) (n : Nat) (T : Int) (k : Nat) (ups : List Bool) (P : List S84) (best : S36) (root : Int) : Prop where
  len : P.length = n
  fit : ∀ p ∈ P, FitP p
  at_ : ∀ p ∈ P, 0 ≤ p.f3 ∧ p.f3 ≤ T ∧ 0 ≤ p.f4.f1 ∧ p.f4.f1 ≤ T + k
  ups : P.map (·.f0) = ups
  late : 15 ≤ k → ∀ p ∈ P, p.f2 = none80 ∧ p.f4.f0 = (if p.f0 = true then 2 else 0) ∧ p.f4.f1 ≤ T + 15
  best_ : 15 ≤ k → best = Pri.own id ∧ root = -1
section
variable {id T : Int} {n k : Nat} {ups : List Bool} {P : List S84} {best : S36} {root : Int}
theorem InvK.start (h : InvF id n T P best root) : InvK id n T 0 (P.map (·.f0)) P best root :=
  ⟨h.len, h.fit, fun p hp => by have := h.at_ p hp; omega, rfl, fun h => by omega, fun h => by omega⟩
theorem none_bst (h : ∀ p ∈ P, p.f2 = none80) (id : Int) : bst id P = (Pri.own id, -1) := by
  rcases bst_cases id P with e | ⟨j, hj, _, ht, _⟩
  · exact e
  · have hp := h _ (List.getElem_mem hj)
    unfold heardOf at ht
    rw [hp] at ht
    unfold Pri.takes at ht
    have := of_decide_eq_true ht
    simp [none80] at this
theorem none_role (h : ∀ p ∈ P, p.f2 = none80) (id : Int) (j : Nat) (hj : j < P.length) : (roles id (P.map heardOf)).getD j 0 = 2 := by
  have hl : j < (P.map heardOf).length := by rw [List.length_map]; exact hj
  rw [roles_at id _ j hl]
  have hb : bestOf id (P.map heardOf) = (Pri.own id, -1) := none_bst h id
  rw [hb, List.getElem_map]
  unfold role
  rw [if_neg (show ¬ (j : Int) = -1 by omega), if_neg]
  rintro ⟨ht, _⟩
  unfold heardOf at ht
  rw [h _ (List.getElem_mem hj)] at ht
  unfold Pri.takes at ht
  have := of_decide_eq_true ht
  simp [none80] at this
theorem InvK.tick (h : InvK id n T k ups P best root) (hT : 0 ≤ T) (hT2 : T ≤ 1000000) (hk : k ≤ 100) : InvK id n T (k + 1) ups (tickP id (T + (k + 1 : Nat)) P) (tickB id (T + (k + 1 : Nat)) P).1 (tickB id (T + (k + 1 : Nat)) P).2 := by
  have hF : InvF id n (T + k) P best root := ⟨h.len, h.fit, fun p hp => by have := h.at_ p hp; omega⟩
  have hF2 := hF.tick (now := T + (k + 1 : Nat)) (by omega) (by omega)
  have hel : ∀ p ∈ tickP id (T + (k + 1 : Nat)) P, ∃ (j : Nat) (hj : j < P.length), p = opnP (T + (k + 1 : Nat)) (setPort ((roles id ((tk1 (T + (k + 1 : Nat)) P).map heardOf)).getD j 0) (T + (k + 1 : Nat)) (fgtP (T + (k + 1 : Nat)) P[j])) := by
    intro p hp
    obtain ⟨q, hq, rfl⟩ := List.mem_map.1 hp
    obtain ⟨j, hj, rfl⟩ := List.mem_iff_getElem.1 hq
    have hj2 : j < P.length := by rw [updN_len, List.length_map] at hj; exact hj
    refine ⟨j, hj2, ?_⟩
    rw [updN_at, if_pos (by rw [List.length_map]; exact hj2), List.getElem_map]
  have hf3 : ∀ p ∈ tickP id (T + (k + 1 : Nat)) P, p.f3 ≤ T := by
    intro p hp
    obtain ⟨j, hj, rfl⟩ := hel p hp
    show (fgtP (T + (k + 1 : Nat)) P[j]).f3 ≤ T
    rw [fgt_at.1]
    exact (h.at_ _ (List.getElem_mem hj)).2.1
  have hnone : 15 ≤ k + 1 → ∀ p ∈ tk1 (T + (k + 1 : Nat)) P, p.f2 = none80 := by
    intro hk15 p hp
    obtain ⟨q, hq, rfl⟩ := List.mem_map.1 hp
    have ha := h.at_ q hq
    unfold fgtP
    rw [if_pos]
    unfold wrap64
    omega
  refine ⟨hF2.len, hF2.fit, fun p hp => ?_, ?_, fun hk15 p hp => ?_, fun hk15 => ?_⟩
  · have h1 := hF2.at_ p hp
    exact ⟨h1.1, hf3 p hp, h1.2.2.1, h1.2.2.2⟩
  · rw [ups_tick]; exact h.ups
  · obtain ⟨j, hj, rfl⟩ := hel p hp
    have hm : fgtP (T + (k + 1 : Nat)) P[j] ∈ tk1 (T + (k + 1 : Nat)) P := List.mem_map.2 ⟨_, List.getElem_mem hj, rfl⟩
    have hr := none_role (hnone hk15) id j (by rw [List.length_map]; exact hj)
    rw [hr]
    have hn2 := hnone hk15 _ hm
    refine ⟨hn2, ?_⟩
    show (setR (fgtP (T + (k + 1 : Nat)) P[j]).f4 (if (fgtP (T + (k + 1 : Nat)) P[j]).f0 = true then 2 else 0) (T + (k + 1 : Nat))).2.f0 = (if (fgtP (T + (k + 1 : Nat)) P[j]).f0 = true then 2 else 0) ∧ (setR (fgtP (T + (k + 1 : Nat)) P[j]).f4 (if (fgtP (T + (k + 1 : Nat)) P[j]).f0 = true then 2 else 0) (T + (k + 1 : Nat))).2.f1 ≤ T + 15
    rw [fgt_at.2.1, fgt_at.2.2]
    have ha := h.at_ _ (List.getElem_mem hj)
    by_cases hl : 15 ≤ k
    · have hq := h.late hl _ (List.getElem_mem hj)
      unfold setR
      rw [if_pos hq.2.1.symm]
      exact ⟨hq.2.1, hq.2.2⟩
    · generalize hrr : (if P[j].f0 = true then (2 : Int) else 0) = r
      have hr2 : r = 0 ∨ r = 2 := by rw [← hrr]; split <;> simp
      unfold setR
      by_cases h1 : r = P[j].f4.f0
      · rw [if_pos h1]; exact ⟨h1.symm, by show P[j].f4.f1 ≤ T + 15; omega⟩
      · rw [if_neg h1]
        have h2 : (if r < 0 ∨ 3 < r then 0 else r) = r := if_neg (by omega)
        rw [h2, if_neg h1]
        exact ⟨rfl, by show T + ((k + 1 : Nat) : Int) ≤ T + 15; omega⟩
  · have hb := none_bst (hnone hk15) id
    have : tickB id (T + (k + 1 : Nat)) P = (Pri.own id, -1) := hb
    rw [this]
    exact ⟨rfl, rfl⟩
theorem InvK.ends (h : InvK id n T 24 ups P best root) (hT : 0 ≤ T) (hT2 : T ≤ 1000000) (j : Nat) (hj : j < P.length) : roleAt P (j : Int) = (if P[j].f0 = true then 2 else 0) ∧ (stateAt P (j : Int) (T + 24) == 2) = P[j].f0 := by
  have hl := h.late (by decide) _ (List.getElem_mem hj)
  have ha := h.at_ _ (List.getElem_mem hj)
  have hz : (0 : Int) ≤ (j : Int) := by omega
  unfold roleAt stateAt
  rw [if_pos hz, if_pos hz, Int.toNat_natCast, getD_lt hj]
  obtain ⟨_, hl2, hl3⟩ := hl
  generalize P[j] = p at *
  refine ⟨hl2, ?_⟩
  unfold stateR actv
  rw [hl2]
  have h1 : ¬ wrap64 (T + 24 - p.f4.f1) < 4 := by unfold wrap64; omega
  have h2 : ¬ wrap64 (T + 24 - p.f4.f1) < 8 := by unfold wrap64; omega
  cases p.f0
  · rfl
  · simp only [if_true, h1, h2, or_false, if_false]
    rfl
end
end Go.Proofs.YtfimhaodgekkgaaDoor.QTre
