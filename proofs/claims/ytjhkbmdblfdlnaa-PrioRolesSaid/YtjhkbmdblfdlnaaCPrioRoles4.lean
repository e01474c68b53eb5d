/- Functions of the program as plain Lean functions, what their calls do, and what follows of it. Conditions: each theorem's own. -/
import Derived.Test.YtjhkbmdblfdlnaaCPrioRoles3
namespace Go.Proofs.Ytjhkbmdblfdlnaa.QPrio
open Go.RowKit Go.Proofs.YtjhkbmdblfdlnaaW.PrintWords Go.Proofs.YtjhkbmdblfdlnaaW.PrintLast Go.Proofs.YtjhkbmdblfdlnaaW.PrintMore
attribute [local go_sem] max2_int min2_int max_two min_two max_three min_three max_four min_four
set_option linter.unusedVariables false
set_option linter.unusedSimpArgs false
def kissgateref10_Role.f (k : Nat) (a0 : Int) (l1 : List (S73)) (a2 : Int) : Option (Int) := (kissgateref10_Best.f k a0 l1).bind fun bt238 => (if a2 = bt238.2.2.2.2 then (some 1) else (if 0 ≤ a2 then (if a2 < (l1.length : Int) then ((kissgateref10_Use.f ((rd_T73 l1 a2).f0.f0) ((rd_T73 l1 a2).f0.f1) ((rd_T73 l1 a2).f0.f2) ((rd_T73 l1 a2).f0.f3) ((rd_T73 l1 a2).f1) ((rd_T73 l1 a2).f2) ((rd_T73 l1 a2).f3) a0).bind fun t246 => (if t246 = true then ((kissgateref10_Better.f bt238.1 bt238.2.1 a0 a2 ((rd_T73 l1 a2).f0.f0) ((rd_T73 l1 a2).f0.f1) ((rd_T73 l1 a2).f0.f2) ((rd_T73 l1 a2).f0.f3)).bind fun t248 => (if t248 = true then (some 2) else (some 3))) else (some 2))) else (none)) else (none)))
def kissgateref10_Role.T5 : Bool × List (List Nat × List Nat) := (true, [([], []), ([], []), ([0, 1], [0, 1]), ([2], [2]), ([], []), ([3, 4], [3, 4]), ([5], [5]), ([6, 5], [6]), ([7], [7]), ([7], [7]), ([7], [7]), ([9, 10, 7], [7, 9, 10]), ([11, 7], [7, 11]), ([12, 7], [7, 12]), ([8, 13, 7, 7], [7, 8, 13]), ([7, 14], [7, 14])])
def kissgateref10_Role.B5 : List Nat := [0, 0, 3, 7, 0, 31, 63, 127, 255, 255, 255, 1791, 3839, 7935, 16383, 32767]
theorem kissgateref10_Role.tab5 : rtab .any (opsOf Try.f24 5) = kissgateref10_Role.T5 := by kernel_rfl
theorem kissgateref10_Role.bits5 : waitsOk kissgateref10_Role.T5.2 kissgateref10_Role.B5 = true := by kernel_rfl
set_option maxHeartbeats 8000000 in
set_option maxRecDepth 100000 in
theorem kissgateref10_Role.calls (k : Nat) (a0 : Int) (A1 : Option Addr) (c1 : Nat) (l1 : List (S73)) (a2 : Int) (r : Int) (w : World) (hr1 : Kd.C k73 w A1 l1.length l1) (hc1 : l1.length ≤ c1) (h : kissgateref10_Role.f k a0 l1 a2 = some r) :
    Calls Try.prog 24 #[.int .i64 a0, .slice A1 l1.length c1, .int .i64 a2] w fun e w' => e = .returned (.int .i64 r) ∧ Below w.heap.size w w' := by
  have hu23 := Try.underlying23
  have hu73 := Try.underlying73
  have HR1 := Aside0.mk hr1
  have HC1 := Aside0.mk hc1
  clear hr1 hc1
  have HB := Aside0.mk (Below.refl w.heap.size w)
  have H : ((kissgateref10_Best.f k a0 l1).bind fun bt238 => (if a2 = bt238.2.2.2.2 then (some 1) else (if 0 ≤ a2 then (if a2 < (l1.length : Int) then ((kissgateref10_Use.f ((rd_T73 l1 a2).f0.f0) ((rd_T73 l1 a2).f0.f1) ((rd_T73 l1 a2).f0.f2) ((rd_T73 l1 a2).f0.f3) ((rd_T73 l1 a2).f1) ((rd_T73 l1 a2).f2) ((rd_T73 l1 a2).f3) a0).bind fun t246 => (if t246 = true then ((kissgateref10_Better.f bt238.1 bt238.2.1 a0 a2 ((rd_T73 l1 a2).f0.f0) ((rd_T73 l1 a2).f0.f1) ((rd_T73 l1 a2).f0.f2) ((rd_T73 l1 a2).f0.f3)).bind fun t248 => (if t248 = true then (some 2) else (some 3))) else (some 2))) else (none)) else (none)))) = some r := h
  clear h
  replace H := Option.bind_eq_some_iff.mp H
  obtain ⟨⟨t238, t239, t240, t241, t242⟩, A40, H⟩ := H
  replace H : (if a2 = t242 then (some 1) else (if 0 ≤ a2 then (if a2 < (l1.length : Int) then ((kissgateref10_Use.f ((rd_T73 l1 a2).f0.f0) ((rd_T73 l1 a2).f0.f1) ((rd_T73 l1 a2).f0.f2) ((rd_T73 l1 a2).f0.f3) ((rd_T73 l1 a2).f1) ((rd_T73 l1 a2).f2) ((rd_T73 l1 a2).f3) a0).bind fun t246 => (if t246 = true then ((kissgateref10_Better.f t238 t239 a0 a2 ((rd_T73 l1 a2).f0.f0) ((rd_T73 l1 a2).f0.f1) ((rd_T73 l1 a2).f0.f2) ((rd_T73 l1 a2).f0.f3)).bind fun t248 => (if t248 = true then (some 2) else (some 3))) else (some 2))) else (none)) else (none))) = some r := H
  have A4 := Aside0.mk A40
  clear A40
  by_cases c5 : a2 = t242
  · rw [if_pos c5] at H
    have c5b0 : (a2 == t242) = true := beq_iff_eq.mpr c5
    have c5b1 : (a2 != t242) = false := bne_eq_false_iff_eq.mpr c5
    clear c5
    obtain rfl := Option.some.inj H
    go_enter Try.func24, Try.ntmps24
    go_wp2_with (first | ((with_reducible refine gate_callee (f := 17) rfl ?_); refine goesL_ (some 13) rfl rfl Try.func17 (by kernel_rfl) rfl #[.int .i64 a0, .slice A1 l1.length c1] rfl (by (try simp only [List.map_toArray, List.map_cons, List.map_nil]); first | done | rfl | (simp only [List.length_drop, List.length_take]; rfl)) ?_; (with_reducible refine (kissgateref10_Best.calls k a0 _ _ l1 t238 t239 t240 t241 t242 _ ?side1 ?side2 A4.out).mono ?_); (case side1 => repeat (first | exact HR1.out | (with_reducible refine Kd.C_alloc ?_ _) | (with_reducible refine Kd.C_drewN ?_ _) | (with_reducible refine Kd.C_drew ?_))); (case side2 => exact HC1.out); rintro e w6 ⟨rfl, hb⟩; refine ⟨_, rfl, ?_⟩; have n0_ := Aside0.mk (below_step (by repeat (first | (with_reducible first | exact HB.out | apply below_alloc | apply pw_below_drewN | apply below_drew1) | exact HB.out)) hb); clear HB; have HB := n0_; clear n0_; (try clear hb); (try clear hb2); (try clear hk); (try clear hi)) | ((with_reducible refine gate_dst (N := 7) rfl ?_); refine box_event ?hg (N := 7) ?hd (cs := #[.int .i64 0, .int .i64 0, .int .i64 0, .int .i64 0]) (t := 23) ?hr ?_; (case hd => rfl); (case hg => rfl); (case hr => first | (go_simp; done) | (go_simp; rfl)); intro gb243 hg w7 hbox hb; have n0_ := Aside0.mk (below_step (by repeat (first | (with_reducible first | exact HB.out | apply below_alloc | apply pw_below_drewN | apply below_drew1) | exact HB.out)) hb); have n1_ := Aside0.mk (hbox); have n2_ := Aside0.mk ((by rw [hg]; exact (below_size (by repeat (first | (with_reducible first | exact HB.out | apply below_alloc | apply pw_below_drewN | apply below_drew1) | exact HB.out))) : w.heap.size ≤ gb243)); have n3_ := Aside0.mk ((by rw [hg]; exact (below_size (by repeat (first | (with_reducible first | exact HB.out | apply below_alloc | apply pw_below_drewN | apply below_drew1) | exact HB.out))) : w.heap.size ≤ gb243)); clear HB; have HB := n0_; have BK243 := n1_; have GW243 := n2_; have GE243 := n3_; clear n0_ n1_ n2_ n3_; clear hb hbox hg; have hcz8_0 : w7.cell? ⟨gb243, 0, none⟩ = some (.int .i64 0) := (blk_cell BK243.out 0).trans rfl; have hcz8_1 : w7.cell? ⟨gb243, 1, none⟩ = some (.int .i64 0) := (blk_cell BK243.out 1).trans rfl; have hcz8_2 : w7.cell? ⟨gb243, 2, none⟩ = some (.int .i64 0) := (blk_cell BK243.out 2).trans rfl; have hcz8_3 : w7.cell? ⟨gb243, 3, none⟩ = some (.int .i64 0) := (blk_cell BK243.out 3).trans rfl; have hfz8_0 := blk_frozen BK243.out 0; have hfz8_1 := blk_frozen BK243.out 1; have hfz8_2 := blk_frozen BK243.out 2; have hfz8_3 := blk_frozen BK243.out 3))
    go_ret
    exact ⟨by first | rfl | (simp [errW_none, errW_some] <;> rfl) | (simp [*, errW_none, errW_some] <;> rfl), by repeat (first | (with_reducible first | exact HB.out | apply below_alloc | apply pw_below_drewN | apply below_drew1 | refine below_set ?_ GE243.out) | exact HB.out)⟩
  · rw [if_neg c5] at H
    have c5b0 : (a2 == t242) = false := beq_eq_false_iff_ne.mpr c5
    have c5b1 : (a2 != t242) = true := bne_iff_ne.mpr c5
    by_cases c9 : 0 ≤ a2
    · rw [if_pos c9] at H
      have c9b0 : decide (0 ≤ a2) = true := decide_eq_true c9
      clear c9
      by_cases c10 : a2 < (l1.length : Int)
      · rw [if_pos c10] at H
        have c10b0 : decide (a2 < (l1.length : Int)) = true := decide_eq_true c10
        clear c10
        replace H := Option.bind_eq_some_iff.mp H
        obtain ⟨t246, A110, H⟩ := H
        replace H : (if t246 = true then ((kissgateref10_Better.f t238 t239 a0 a2 ((rd_T73 l1 a2).f0.f0) ((rd_T73 l1 a2).f0.f1) ((rd_T73 l1 a2).f0.f2) ((rd_T73 l1 a2).f0.f3)).bind fun t248 => (if t248 = true then (some 2) else (some 3))) else (some 2)) = some r := H
        have A11 := Aside0.mk A110
        clear A110
        by_cases c12 : t246 = true
        · subst c12
          have H1 : ((kissgateref10_Better.f t238 t239 a0 a2 ((rd_T73 l1 a2).f0.f0) ((rd_T73 l1 a2).f0.f1) ((rd_T73 l1 a2).f0.f2) ((rd_T73 l1 a2).f0.f3)).bind fun t248 => (if t248 = true then (some 2) else (some 3))) = some r := by rw [if_pos rfl] at H; exact H
          clear H
          have H := H1
          clear H1
          replace H := Option.bind_eq_some_iff.mp H
          obtain ⟨t248, A130, H⟩ := H
          replace H : (if t248 = true then (some 2) else (some 3)) = some r := H
          have A13 := Aside0.mk A130
          clear A130
          by_cases c14 : t248 = true
          · subst c14
            have H1 : (some 2) = some r := by rw [if_pos rfl] at H; exact H
            clear H
            have H := H1
            clear H1
            obtain rfl := Option.some.inj H
            go_enter Try.func24, Try.ntmps24
            try go_wp2_with (first | ((with_reducible refine gate_callee (f := 17) rfl ?_); refine goesL_ (some 13) rfl rfl Try.func17 (by kernel_rfl) rfl #[.int .i64 a0, .slice A1 l1.length c1] rfl (by (try simp only [List.map_toArray, List.map_cons, List.map_nil]); first | done | rfl | (simp only [List.length_drop, List.length_take]; rfl)) ?_; (with_reducible refine (kissgateref10_Best.calls k a0 _ _ l1 t238 t239 t240 t241 t242 _ ?side1 ?side2 A4.out).mono ?_); (case side1 => repeat (first | exact HR1.out | (with_reducible refine Kd.C_alloc ?_ _) | (with_reducible refine Kd.C_drewN ?_ _) | (with_reducible refine Kd.C_drew ?_))); (case side2 => exact HC1.out); rintro e w15 ⟨rfl, hb⟩; refine ⟨_, rfl, ?_⟩; have n0_ := Aside0.mk (below_step (by repeat (first | (with_reducible first | exact HB.out | apply below_alloc | apply pw_below_drewN | apply below_drew1) | exact HB.out)) hb); clear HB; have HB := n0_; clear n0_; (try clear hb); (try clear hb2); (try clear hk); (try clear hi)) | ((with_reducible refine gate_dst (N := 7) rfl ?_); refine box_event ?hg (N := 7) ?hd (cs := #[.int .i64 0, .int .i64 0, .int .i64 0, .int .i64 0]) (t := 23) ?hr ?_; (case hd => rfl); (case hg => rfl); (case hr => first | (go_simp; done) | (go_simp; rfl)); intro gb243 hg w16 hbox hb; have n0_ := Aside0.mk (below_step (by repeat (first | (with_reducible first | exact HB.out | apply below_alloc | apply pw_below_drewN | apply below_drew1) | exact HB.out)) hb); have n1_ := Aside0.mk (hbox); have n2_ := Aside0.mk ((by rw [hg]; exact (below_size (by repeat (first | (with_reducible first | exact HB.out | apply below_alloc | apply pw_below_drewN | apply below_drew1) | exact HB.out))) : w.heap.size ≤ gb243)); have n3_ := Aside0.mk ((by rw [hg]; exact (below_size (by repeat (first | (with_reducible first | exact HB.out | apply below_alloc | apply pw_below_drewN | apply below_drew1) | exact HB.out))) : w.heap.size ≤ gb243)); clear HB; have HB := n0_; have BK243 := n1_; have GW243 := n2_; have GE243 := n3_; clear n0_ n1_ n2_ n3_; clear hb hbox hg; have hcz17_0 : w16.cell? ⟨gb243, 0, none⟩ = some (.int .i64 0) := (blk_cell BK243.out 0).trans rfl; have hcz17_1 : w16.cell? ⟨gb243, 1, none⟩ = some (.int .i64 0) := (blk_cell BK243.out 1).trans rfl; have hcz17_2 : w16.cell? ⟨gb243, 2, none⟩ = some (.int .i64 0) := (blk_cell BK243.out 2).trans rfl; have hcz17_3 : w16.cell? ⟨gb243, 3, none⟩ = some (.int .i64 0) := (blk_cell BK243.out 3).trans rfl; have hfz17_0 := blk_frozen BK243.out 0; have hfz17_1 := blk_frozen BK243.out 1; have hfz17_2 := blk_frozen BK243.out 2; have hfz17_3 := blk_frozen BK243.out 3) | ((with_reducible refine gate_dst (N := 9) rfl ?_); refine box_event ?hg (N := 9) ?hd (cs := #[.int .i64 0, .int .i64 0, .int .i64 0, .int .i64 0]) (t := 23) ?hr ?_; (case hd => rfl); (case hg => rfl); (case hr => first | (go_simp; done) | (go_simp; rfl)); intro gb244 hg w18 hbox hb; have n0_ := Aside0.mk (blk_below (g := gb243) (o := .cells #[.int .i64 t238, .int .i64 t239, .int .i64 t240, .int .i64 t241] 23 (0, 0)) (by (with_reducible repeat (first | refine blk_drewN ?_ _ | refine blk_drew ?_ | refine blk_alloc ?_ _)); refine blk_put (cs := #[.int .i64 t238, .int .i64 t239, .int .i64 t240, .int .i64 0]) ?_ 3 _ rfl; (with_reducible repeat (first | refine blk_drewN ?_ _ | refine blk_drew ?_ | refine blk_alloc ?_ _)); refine blk_put (cs := #[.int .i64 t238, .int .i64 t239, .int .i64 0, .int .i64 0]) ?_ 2 _ rfl; (with_reducible repeat (first | refine blk_drewN ?_ _ | refine blk_drew ?_ | refine blk_alloc ?_ _)); refine blk_put (cs := #[.int .i64 t238, .int .i64 0, .int .i64 0, .int .i64 0]) ?_ 1 _ rfl; (with_reducible repeat (first | refine blk_drewN ?_ _ | refine blk_drew ?_ | refine blk_alloc ?_ _)); refine blk_put (cs := #[.int .i64 0, .int .i64 0, .int .i64 0, .int .i64 0]) ?_ 0 _ rfl; (with_reducible repeat (first | refine blk_drewN ?_ _ | refine blk_drew ?_ | refine blk_alloc ?_ _)); exact BK243.out) hb); have n1_ := Aside0.mk (below_step (by repeat (first | (with_reducible first | exact HB.out | apply below_alloc | apply pw_below_drewN | apply below_drew1 | refine below_set ?_ GE243.out) | exact HB.out)) hb); have n2_ := Aside0.mk (hbox); have n3_ := Aside0.mk ((by rw [hg]; exact (below_size (by repeat (first | (with_reducible first | exact HB.out | apply below_alloc | apply pw_below_drewN | apply below_drew1 | refine below_set ?_ GE243.out) | exact HB.out))) : w.heap.size ≤ gb244)); have n4_ := Aside0.mk ((by rw [hg]; exact (below_size (by repeat (first | (with_reducible first | exact HB.out | apply below_alloc | apply pw_below_drewN | apply below_drew1 | refine below_set ?_ GE243.out) | exact HB.out))) : w.heap.size ≤ gb244)); have n5_ := Aside0.mk ((by rw [hg]; exact Nat.ne_of_lt (blk_lt (g := gb243) (o := .cells #[.int .i64 t238, .int .i64 t239, .int .i64 t240, .int .i64 t241] 23 (0, 0)) (by (with_reducible repeat (first | refine blk_drewN ?_ _ | refine blk_drew ?_ | refine blk_alloc ?_ _)); refine blk_put (cs := #[.int .i64 t238, .int .i64 t239, .int .i64 t240, .int .i64 0]) ?_ 3 _ rfl; (with_reducible repeat (first | refine blk_drewN ?_ _ | refine blk_drew ?_ | refine blk_alloc ?_ _)); refine blk_put (cs := #[.int .i64 t238, .int .i64 t239, .int .i64 0, .int .i64 0]) ?_ 2 _ rfl; (with_reducible repeat (first | refine blk_drewN ?_ _ | refine blk_drew ?_ | refine blk_alloc ?_ _)); refine blk_put (cs := #[.int .i64 t238, .int .i64 0, .int .i64 0, .int .i64 0]) ?_ 1 _ rfl; (with_reducible repeat (first | refine blk_drewN ?_ _ | refine blk_drew ?_ | refine blk_alloc ?_ _)); refine blk_put (cs := #[.int .i64 0, .int .i64 0, .int .i64 0, .int .i64 0]) ?_ 0 _ rfl; (with_reducible repeat (first | refine blk_drewN ?_ _ | refine blk_drew ?_ | refine blk_alloc ?_ _)); exact BK243.out)) : gb243 ≠ gb244)); have n6_ := Aside0.mk ((by rw [hg]; exact Nat.ne_of_gt (blk_lt (g := gb243) (o := .cells #[.int .i64 t238, .int .i64 t239, .int .i64 t240, .int .i64 t241] 23 (0, 0)) (by (with_reducible repeat (first | refine blk_drewN ?_ _ | refine blk_drew ?_ | refine blk_alloc ?_ _)); refine blk_put (cs := #[.int .i64 t238, .int .i64 t239, .int .i64 t240, .int .i64 0]) ?_ 3 _ rfl; (with_reducible repeat (first | refine blk_drewN ?_ _ | refine blk_drew ?_ | refine blk_alloc ?_ _)); refine blk_put (cs := #[.int .i64 t238, .int .i64 t239, .int .i64 0, .int .i64 0]) ?_ 2 _ rfl; (with_reducible repeat (first | refine blk_drewN ?_ _ | refine blk_drew ?_ | refine blk_alloc ?_ _)); refine blk_put (cs := #[.int .i64 t238, .int .i64 0, .int .i64 0, .int .i64 0]) ?_ 1 _ rfl; (with_reducible repeat (first | refine blk_drewN ?_ _ | refine blk_drew ?_ | refine blk_alloc ?_ _)); refine blk_put (cs := #[.int .i64 0, .int .i64 0, .int .i64 0, .int .i64 0]) ?_ 0 _ rfl; (with_reducible repeat (first | refine blk_drewN ?_ _ | refine blk_drew ?_ | refine blk_alloc ?_ _)); exact BK243.out)) : gb244 ≠ gb243)); clear BK243; clear HB; have BK243 := n0_; have HB := n1_; have BK244 := n2_; have GW244 := n3_; have GE244 := n4_; have NB243_244 := n5_; have NB244_243 := n6_; clear n0_ n1_ n2_ n3_ n4_ n5_ n6_; clear hb hbox hg; have hnb19 := NB244_243.out; have hnc19 := NB243_244.out; have hcz20_0 : w18.cell? ⟨gb244, 0, none⟩ = some (.int .i64 0) := (blk_cell BK244.out 0).trans rfl; have hcz20_1 : w18.cell? ⟨gb244, 1, none⟩ = some (.int .i64 0) := (blk_cell BK244.out 1).trans rfl; have hcz20_2 : w18.cell? ⟨gb244, 2, none⟩ = some (.int .i64 0) := (blk_cell BK244.out 2).trans rfl; have hcz20_3 : w18.cell? ⟨gb244, 3, none⟩ = some (.int .i64 0) := (blk_cell BK244.out 3).trans rfl; have hfz20_0 := blk_frozen BK244.out 0; have hfz20_1 := blk_frozen BK244.out 1; have hfz20_2 := blk_frozen BK244.out 2; have hfz20_3 := blk_frozen BK244.out 3))
            have n0_ : Aside0 (((((w18.setCell ⟨gb244, 0, none⟩ (.int .i64 t238)).setCell ⟨gb244, 1, none⟩ (.int .i64 t239)).setCell ⟨gb244, 2, none⟩ (.int .i64 a0)).setCell ⟨gb244, 3, none⟩ (.int .i64 a2)).heap[gb243]? = some (.cells #[.int .i64 t238, .int .i64 t239, .int .i64 t240, .int .i64 t241] 23 (0, 0))) := ⟨by (with_reducible repeat (first | refine blk_drewN ?_ _ | refine blk_drew ?_ | refine blk_alloc ?_ _)); refine blk_far ?_ NB243_244.out _; (with_reducible repeat (first | refine blk_drewN ?_ _ | refine blk_drew ?_ | refine blk_alloc ?_ _)); refine blk_far ?_ NB243_244.out _; (with_reducible repeat (first | refine blk_drewN ?_ _ | refine blk_drew ?_ | refine blk_alloc ?_ _)); refine blk_far ?_ NB243_244.out _; (with_reducible repeat (first | refine blk_drewN ?_ _ | refine blk_drew ?_ | refine blk_alloc ?_ _)); refine blk_far ?_ NB243_244.out _; (with_reducible repeat (first | refine blk_drewN ?_ _ | refine blk_drew ?_ | refine blk_alloc ?_ _)); exact BK243.out⟩
            have n1_ : Aside0 (((((w18.setCell ⟨gb244, 0, none⟩ (.int .i64 t238)).setCell ⟨gb244, 1, none⟩ (.int .i64 t239)).setCell ⟨gb244, 2, none⟩ (.int .i64 a0)).setCell ⟨gb244, 3, none⟩ (.int .i64 a2)).heap[gb244]? = some (.cells #[.int .i64 t238, .int .i64 t239, .int .i64 a0, .int .i64 a2] 23 (0, 0))) := ⟨by (with_reducible repeat (first | refine blk_drewN ?_ _ | refine blk_drew ?_ | refine blk_alloc ?_ _)); refine blk_put (cs := #[.int .i64 t238, .int .i64 t239, .int .i64 a0, .int .i64 0]) ?_ 3 _ rfl; (with_reducible repeat (first | refine blk_drewN ?_ _ | refine blk_drew ?_ | refine blk_alloc ?_ _)); refine blk_put (cs := #[.int .i64 t238, .int .i64 t239, .int .i64 0, .int .i64 0]) ?_ 2 _ rfl; (with_reducible repeat (first | refine blk_drewN ?_ _ | refine blk_drew ?_ | refine blk_alloc ?_ _)); refine blk_put (cs := #[.int .i64 t238, .int .i64 0, .int .i64 0, .int .i64 0]) ?_ 1 _ rfl; (with_reducible repeat (first | refine blk_drewN ?_ _ | refine blk_drew ?_ | refine blk_alloc ?_ _)); refine blk_put (cs := #[.int .i64 0, .int .i64 0, .int .i64 0, .int .i64 0]) ?_ 0 _ rfl; (with_reducible repeat (first | refine blk_drewN ?_ _ | refine blk_drew ?_ | refine blk_alloc ?_ _)); exact BK244.out⟩
            have n2_ : Aside0 (Below w.heap.size w ((((w18.setCell ⟨gb244, 0, none⟩ (.int .i64 t238)).setCell ⟨gb244, 1, none⟩ (.int .i64 t239)).setCell ⟨gb244, 2, none⟩ (.int .i64 a0)).setCell ⟨gb244, 3, none⟩ (.int .i64 a2))) := ⟨by repeat (first | (with_reducible first | exact HB.out | apply below_alloc | apply pw_below_drewN | apply below_drew1 | refine below_set ?_ GE243.out | refine below_set ?_ GE244.out) | exact HB.out)⟩
            (try clear BK243)
            (try clear BK244)
            (try clear HB)
            generalize ((((w18.setCell ⟨gb244, 0, none⟩ (.int .i64 t238)).setCell ⟨gb244, 1, none⟩ (.int .i64 t239)).setCell ⟨gb244, 2, none⟩ (.int .i64 a0)).setCell ⟨gb244, 3, none⟩ (.int .i64 a2)) = w21 at n0_ n1_ n2_ ⊢
            have BK243 := n0_
            have BK244 := n1_
            have HB := n2_
            clear n0_ n1_ n2_
            have n0_ := Aside0.mk (blk_drew BK243.out)
            have n1_ := Aside0.mk (blk_drew BK244.out)
            have n2_ := Aside0.mk (below_drew1 HB.out)
            clear BK243
            clear BK244
            clear HB
            have BK243 := n0_
            have BK244 := n1_
            have HB := n2_
            clear n0_ n1_ n2_
            have p245 : 0 ≤ (a2 : Int) := of_decide_eq_true (by first | (with_reducible assumption) | assumption)
            have q245 : a2 < (l1.length : Int) := of_decide_eq_true (by first | (with_reducible assumption) | assumption)
            obtain ⟨ad245, e245, hx245_0, hx245_1, hx245_2, hx245_3, hx245_4, hx245_5, hx245_6⟩ := at_T73 HR1.out a2 p245 q245
            have hw245_6 := hx245_6
            have hw245_5 := hx245_5
            have hw245_4 := hx245_4
            have hw245_3 := hx245_3
            have hw245_2 := hx245_2
            have hw245_1 := hx245_1
            have hw245_0 := hx245_0
            cases e245
            replace hx245_0 := (HB.out.cell (World.block_lt_of_cell? w _ hx245_0)).trans hx245_0
            replace hx245_1 := (HB.out.cell (World.block_lt_of_cell? w _ hx245_1)).trans hx245_1
            replace hx245_2 := (HB.out.cell (World.block_lt_of_cell? w _ hx245_2)).trans hx245_2
            replace hx245_3 := (HB.out.cell (World.block_lt_of_cell? w _ hx245_3)).trans hx245_3
            replace hx245_4 := (HB.out.cell (World.block_lt_of_cell? w _ hx245_4)).trans hx245_4
            replace hx245_5 := (HB.out.cell (World.block_lt_of_cell? w _ hx245_5)).trans hx245_5
            replace hx245_6 := (HB.out.cell (World.block_lt_of_cell? w _ hx245_6)).trans hx245_6
            replace p245 := eq_true p245
            replace q245 := eq_true q245
            have p247 : 0 ≤ (a2 : Int) := of_decide_eq_true (by first | (with_reducible assumption) | assumption)
            have q247 : a2 < (l1.length : Int) := of_decide_eq_true (by first | (with_reducible assumption) | assumption)
            obtain ⟨ad247, e247, hx247_0, hx247_1, hx247_2, hx247_3, hx247_4, hx247_5, hx247_6⟩ := at_T73 HR1.out a2 p247 q247
            have hw247_6 := hx247_6
            have hw247_5 := hx247_5
            have hw247_4 := hx247_4
            have hw247_3 := hx247_3
            have hw247_2 := hx247_2
            have hw247_1 := hx247_1
            have hw247_0 := hx247_0
            obtain rfl : ad245 = ad247 := (by injection e247)
            replace hx247_0 := (HB.out.cell (World.block_lt_of_cell? w _ hx247_0)).trans hx247_0
            replace hx247_1 := (HB.out.cell (World.block_lt_of_cell? w _ hx247_1)).trans hx247_1
            replace hx247_2 := (HB.out.cell (World.block_lt_of_cell? w _ hx247_2)).trans hx247_2
            replace hx247_3 := (HB.out.cell (World.block_lt_of_cell? w _ hx247_3)).trans hx247_3
            replace hx247_4 := (HB.out.cell (World.block_lt_of_cell? w _ hx247_4)).trans hx247_4
            replace hx247_5 := (HB.out.cell (World.block_lt_of_cell? w _ hx247_5)).trans hx247_5
            replace hx247_6 := (HB.out.cell (World.block_lt_of_cell? w _ hx247_6)).trans hx247_6
            replace p247 := eq_true p247
            replace q247 := eq_true q247
            refine start_ (n := 16) (S := fun w' => w'.cell? ⟨gb244, 0, none⟩ = some (.int .i64 t238) ∧ w'.cell? ⟨gb244, 1, none⟩ = some (.int .i64 t239) ∧ w'.cell? ⟨gb244, 2, none⟩ = some (.int .i64 a0) ∧ w'.cell? ⟨gb244, 3, none⟩ = some (.int .i64 a2) ∧ w'.cell? (ad245.add ((a2).toNat * 7)) = some (.int .i64 ((rd_T73 l1 a2).f0.f0)) ∧ w'.cell? ⟨(ad245.add ((a2).toNat * 7)).block, (ad245.add ((a2).toNat * 7)).off + 1, none⟩ = some (.int .i64 ((rd_T73 l1 a2).f0.f1)) ∧ w'.cell? ⟨(ad245.add ((a2).toNat * 7)).block, (ad245.add ((a2).toNat * 7)).off + 2, none⟩ = some (.int .i64 ((rd_T73 l1 a2).f0.f2)) ∧ w'.cell? ⟨(ad245.add ((a2).toNat * 7)).block, (ad245.add ((a2).toNat * 7)).off + 3, none⟩ = some (.int .i64 ((rd_T73 l1 a2).f0.f3)) ∧ w'.cell? ⟨(ad245.add ((a2).toNat * 7)).block, (ad245.add ((a2).toNat * 7)).off + 4, none⟩ = some (.int .i64 ((rd_T73 l1 a2).f1)) ∧ w'.cell? ⟨(ad245.add ((a2).toNat * 7)).block, (ad245.add ((a2).toNat * 7)).off + 5, none⟩ = some (.int .i64 ((rd_T73 l1 a2).f2)) ∧ w'.cell? ⟨(ad245.add ((a2).toNat * 7)).block, (ad245.add ((a2).toNat * 7)).off + 6, none⟩ = some (.bool ((rd_T73 l1 a2).f3)) ∧ w'.cell? (ad245.add ((a2).toNat * 7)) = some (.int .i64 ((rd_T73 l1 a2).f0.f0)) ∧ w'.cell? ⟨(ad245.add ((a2).toNat * 7)).block, (ad245.add ((a2).toNat * 7)).off + 1, none⟩ = some (.int .i64 ((rd_T73 l1 a2).f0.f1)) ∧ w'.cell? ⟨(ad245.add ((a2).toNat * 7)).block, (ad245.add ((a2).toNat * 7)).off + 2, none⟩ = some (.int .i64 ((rd_T73 l1 a2).f0.f2)) ∧ w'.cell? ⟨(ad245.add ((a2).toNat * 7)).block, (ad245.add ((a2).toNat * 7)).off + 3, none⟩ = some (.int .i64 ((rd_T73 l1 a2).f0.f3)) ∧ w'.cell? ⟨(ad245.add ((a2).toNat * 7)).block, (ad245.add ((a2).toNat * 7)).off + 4, none⟩ = some (.int .i64 ((rd_T73 l1 a2).f1)) ∧ w'.cell? ⟨(ad245.add ((a2).toNat * 7)).block, (ad245.add ((a2).toNat * 7)).off + 5, none⟩ = some (.int .i64 ((rd_T73 l1 a2).f2)) ∧ w'.cell? ⟨(ad245.add ((a2).toNat * 7)).block, (ad245.add ((a2).toNat * 7)).off + 6, none⟩ = some (.bool ((rd_T73 l1 a2).f3))) (ds := []) #[false, false, false, false, false, false, false, false, false, false, false, false, false, false, false, false] (by kernel_rfl) rfl rfl ⟨(blk_cell BK244.out 0).trans rfl, (blk_cell BK244.out 1).trans rfl, (blk_cell BK244.out 2).trans rfl, (blk_cell BK244.out 3).trans rfl, ((HB.out.cell (World.block_lt_of_cell? w _ hw245_0)).trans hw245_0), ((HB.out.cell (World.block_lt_of_cell? w _ hw245_1)).trans hw245_1), ((HB.out.cell (World.block_lt_of_cell? w _ hw245_2)).trans hw245_2), ((HB.out.cell (World.block_lt_of_cell? w _ hw245_3)).trans hw245_3), ((HB.out.cell (World.block_lt_of_cell? w _ hw245_4)).trans hw245_4), ((HB.out.cell (World.block_lt_of_cell? w _ hw245_5)).trans hw245_5), ((HB.out.cell (World.block_lt_of_cell? w _ hw245_6)).trans hw245_6), ((HB.out.cell (World.block_lt_of_cell? w _ hw247_0)).trans hw247_0), ((HB.out.cell (World.block_lt_of_cell? w _ hw247_1)).trans hw247_1), ((HB.out.cell (World.block_lt_of_cell? w _ hw247_2)).trans hw247_2), ((HB.out.cell (World.block_lt_of_cell? w _ hw247_3)).trans hw247_3), ((HB.out.cell (World.block_lt_of_cell? w _ hw247_4)).trans hw247_4), ((HB.out.cell (World.block_lt_of_cell? w _ hw247_5)).trans hw247_5), ((HB.out.cell (World.block_lt_of_cell? w _ hw247_6)).trans hw247_6)⟩ (fun hHeld => ?_); refine with_tabW kissgateref10_Role.tab5 kissgateref10_Role.bits5 (fun HT_ HW_ => ?_)
            generalize w21.drew = w22 at BK243 BK244 HB hx245_0 hx245_1 hx245_2 hx245_3 hx245_4 hx245_5 hx245_6 hx247_0 hx247_1 hx247_2 hx247_3 hx247_4 hx247_5 hx247_6 hHeld ⊢
            refine pure_ (i := 0) (N := some 26) (v := ?_) (a' := ?_) #[true, false, false, false, false, false, false, false, false, false, false, false, false, false, false, false] rfl rfl (any_of HT_.out (by kernel_rfl)) (fun _ _ _ h => h) (Or.inl ⟨by rfl, ?_⟩) ?_ ?_
            rotate_left
            · intro w'
              go_simp
              with_reducible rfl
            rotate_left
            · simp only [Act.put, List.setIfInBounds_toArray, List.set_cons_zero, List.set_cons_succ, i64_w, i32_w]
              rfl
            refine pure_ (i := 1) (N := some 27) (v := ?_) (a' := ?_) #[true, true, false, false, false, false, false, false, false, false, false, false, false, false, false, false] rfl rfl (any_of HT_.out (by kernel_rfl)) (fun _ _ _ h => h) (Or.inl ⟨by rfl, ?_⟩) ?_ ?_
            rotate_left
            · intro w'
              go_simp
              with_reducible rfl
            rotate_left
            · simp only [Act.put, List.setIfInBounds_toArray, List.set_cons_zero, List.set_cons_succ, i64_w, i32_w]
              rfl
            refine pure_ (i := 2) (N := some 28) (v := ?_) (a' := ?_) #[true, true, true, false, false, false, false, false, false, false, false, false, false, false, false, false] rfl rfl (any_of HT_.out (by kernel_rfl)) (fun _ _ _ h => h) (Or.inl ⟨by rfl, ?_⟩) ?_ ?_
            rotate_left
            · intro w'
              go_simp
              with_reducible rfl
            rotate_left
            · simp only [Act.put, List.setIfInBounds_toArray, List.set_cons_zero, List.set_cons_succ, i64_w, i32_w]
              rfl
            refine pure_ (i := 4) (N := some 30) (v := ?_) (a' := ?_) #[true, true, true, false, true, false, false, false, false, false, false, false, false, false, false, false] rfl rfl (any_of HT_.out (by kernel_rfl)) (fun _ _ _ h => h) (Or.inl ⟨by rfl, ?_⟩) ?_ ?_
            rotate_left
            · intro w'
              go_simp
              with_reducible rfl
            rotate_left
            · simp only [Act.put, List.setIfInBounds_toArray, List.set_cons_zero, List.set_cons_succ, i64_w, i32_w]
              rfl
            refine take_ (i := 3) (N := some 29) (v := ?_) (a' := ?_) #[true, true, true, true, true, false, false, false, false, false, false, false, false, false, false, false] rfl rfl (take_ofW HT_.out HW_.out (by kernel_rfl)) (fun _ _ _ h => h) (Or.inl ⟨by rfl, ?_⟩) hHeld ?_ ?_
            rotate_left
            · rintro w' ⟨s0, s1, s2, s3, s4, s5, s6, s7, s8, s9, s10, s11, s12, s13, s14, s15, s16, s17⟩
              go_simp
              with_reducible rfl
            rotate_left
            · simp only [Act.put, List.setIfInBounds_toArray, List.set_cons_zero, List.set_cons_succ, i64_w, i32_w]
              rfl
            refine one_ (i := 5) (N := some 31) #[true, true, true, true, true, true, false, false, false, false, false, false, false, false, false, false] rfl rfl (one_of HT_.out (by kernel_rfl)) (by decide) (fun K hK => ?_)
            refine goes_ Try.func35 (by kernel_rfl) rfl #[.agg #[.int .i64 ((rd_T73 l1 a2).f0.f0), .int .i64 ((rd_T73 l1 a2).f0.f1), .int .i64 ((rd_T73 l1 a2).f0.f2), .int .i64 ((rd_T73 l1 a2).f0.f3), .int .i64 ((rd_T73 l1 a2).f1), .int .i64 ((rd_T73 l1 a2).f2), .bool ((rd_T73 l1 a2).f3)], .int .i64 a0] (by rfl) rfl rfl (by (try simp only [List.map_toArray, List.map_cons, List.map_nil]); first | done | rfl | (simp only [List.length_drop, List.length_take]; rfl)) ?_
            with_reducible refine (kissgateref10_Use.calls ((rd_T73 l1 a2).f0.f0) ((rd_T73 l1 a2).f0.f1) ((rd_T73 l1 a2).f0.f2) ((rd_T73 l1 a2).f0.f3) ((rd_T73 l1 a2).f1) ((rd_T73 l1 a2).f2) ((rd_T73 l1 a2).f3) a0 true _ A11.out).mono ?_
            rintro e w23 ⟨rfl, hb⟩
            refine ⟨_, rfl, ?_⟩
            have n0_ := Aside0.mk (blk_below (g := gb243) (o := .cells #[.int .i64 t238, .int .i64 t239, .int .i64 t240, .int .i64 t241] 23 (0, 0)) (by (with_reducible repeat (first | refine blk_drewN ?_ _ | refine blk_drew ?_ | refine blk_alloc ?_ _)); exact BK243.out) hb)
            have n1_ := Aside0.mk (blk_below (g := gb244) (o := .cells #[.int .i64 t238, .int .i64 t239, .int .i64 a0, .int .i64 a2] 23 (0, 0)) (by (with_reducible repeat (first | refine blk_drewN ?_ _ | refine blk_drew ?_ | refine blk_alloc ?_ _)); exact BK244.out) hb)
            have n2_ := Aside0.mk (below_step (by repeat (first | (with_reducible first | exact HB.out | apply below_alloc | apply pw_below_drewN | apply below_drew1 | refine below_set ?_ GE243.out | refine below_set ?_ GE244.out) | exact HB.out)) hb)
            clear BK243
            clear BK244
            clear HB
            have BK243 := n0_
            have BK244 := n1_
            have HB := n2_
            clear n0_ n1_ n2_
            (try clear hb)
            (try clear hb2)
            (try clear hk)
            (try clear hi)
            refine hK.out _ _ ⟨(blk_cell BK244.out 0).trans rfl, (blk_cell BK244.out 1).trans rfl, (blk_cell BK244.out 2).trans rfl, (blk_cell BK244.out 3).trans rfl, ((HB.out.cell (World.block_lt_of_cell? w _ hw245_0)).trans hw245_0), ((HB.out.cell (World.block_lt_of_cell? w _ hw245_1)).trans hw245_1), ((HB.out.cell (World.block_lt_of_cell? w _ hw245_2)).trans hw245_2), ((HB.out.cell (World.block_lt_of_cell? w _ hw245_3)).trans hw245_3), ((HB.out.cell (World.block_lt_of_cell? w _ hw245_4)).trans hw245_4), ((HB.out.cell (World.block_lt_of_cell? w _ hw245_5)).trans hw245_5), ((HB.out.cell (World.block_lt_of_cell? w _ hw245_6)).trans hw245_6), ((HB.out.cell (World.block_lt_of_cell? w _ hw247_0)).trans hw247_0), ((HB.out.cell (World.block_lt_of_cell? w _ hw247_1)).trans hw247_1), ((HB.out.cell (World.block_lt_of_cell? w _ hw247_2)).trans hw247_2), ((HB.out.cell (World.block_lt_of_cell? w _ hw247_3)).trans hw247_3), ((HB.out.cell (World.block_lt_of_cell? w _ hw247_4)).trans hw247_4), ((HB.out.cell (World.block_lt_of_cell? w _ hw247_5)).trans hw247_5), ((HB.out.cell (World.block_lt_of_cell? w _ hw247_6)).trans hw247_6)⟩ (fun hHeld => ?_)
            clear hK K
            refine norm_ (a' := ?_) ?_ ?_
            rotate_left
            · show Act.put _ (some 31) _ = _
              simp only [Act.put, List.setIfInBounds_toArray, List.set_cons_zero, List.set_cons_succ, i64_w, i32_w]
              rfl
            refine pure_ (i := 6) (N := some 32) (v := ?_) (a' := ?_) #[true, true, true, true, true, true, true, false, false, false, false, false, false, false, false, false] rfl rfl (any_of HT_.out (by kernel_rfl)) (fun _ _ _ h => h) (Or.inl ⟨by rfl, ?_⟩) ?_ ?_
            rotate_left
            · intro w'
              go_simp
              with_reducible rfl
            rotate_left
            · simp only [Act.put, List.setIfInBounds_toArray, List.set_cons_zero, List.set_cons_succ, i64_w, i32_w]
              rfl
            refine pure_ (i := 7) (N := some 33) (v := ?_) (a' := ?_) #[true, true, true, true, true, true, true, true, false, false, false, false, false, false, false, false] rfl rfl (any_of HT_.out (by kernel_rfl)) (fun _ _ _ h => h) (Or.inl ⟨by rfl, ?_⟩) ?_ ?_
            rotate_left
            · intro w'
              go_simp
              with_reducible rfl
            rotate_left
            · simp only [Act.put, List.setIfInBounds_toArray, List.set_cons_zero, List.set_cons_succ, i64_w, i32_w]
              rfl
            refine pure_ (i := 9) (N := some 35) (v := ?_) (a' := ?_) #[true, true, true, true, true, true, true, true, false, true, false, false, false, false, false, false] rfl rfl (any_of HT_.out (by kernel_rfl)) (fun _ _ _ h => h) (Or.inl ⟨by rfl, ?_⟩) ?_ ?_
            rotate_left
            · intro w'
              go_simp
              with_reducible rfl
            rotate_left
            · simp only [Act.put, List.setIfInBounds_toArray, List.set_cons_zero, List.set_cons_succ, i64_w, i32_w]
              rfl
            refine pure_ (i := 10) (N := some 36) (v := ?_) (a' := ?_) #[true, true, true, true, true, true, true, true, false, true, true, false, false, false, false, false] rfl rfl (any_of HT_.out (by kernel_rfl)) (fun _ _ _ h => h) (Or.inl ⟨by rfl, ?_⟩) ?_ ?_
            rotate_left
            · intro w'
              go_simp
              with_reducible rfl
            rotate_left
            · simp only [Act.put, List.setIfInBounds_toArray, List.set_cons_zero, List.set_cons_succ, i64_w, i32_w]
              rfl
            refine pure_ (i := 11) (N := some 37) (v := ?_) (a' := ?_) #[true, true, true, true, true, true, true, true, false, true, true, true, false, false, false, false] rfl rfl (any_of HT_.out (by kernel_rfl)) (fun _ _ _ h => h) (Or.inl ⟨by rfl, ?_⟩) ?_ ?_
            rotate_left
            · intro w'
              go_simp
              with_reducible rfl
            rotate_left
            · simp only [Act.put, List.setIfInBounds_toArray, List.set_cons_zero, List.set_cons_succ, i64_w, i32_w]
              rfl
            refine pure_ (i := 12) (N := some 38) (v := ?_) (a' := ?_) #[true, true, true, true, true, true, true, true, false, true, true, true, true, false, false, false] rfl rfl (any_of HT_.out (by kernel_rfl)) (fun _ _ _ h => h) (Or.inl ⟨by rfl, ?_⟩) ?_ ?_
            rotate_left
            · intro w'
              go_simp
              with_reducible rfl
            rotate_left
            · simp only [Act.put, List.setIfInBounds_toArray, List.set_cons_zero, List.set_cons_succ, i64_w, i32_w]
              rfl
            refine take_ (i := 8) (N := some 34) (v := ?_) (a' := ?_) #[true, true, true, true, true, true, true, true, true, true, true, true, true, false, false, false] rfl rfl (take_ofW HT_.out HW_.out (by kernel_rfl)) (fun _ _ _ h => h) (Or.inl ⟨by rfl, ?_⟩) hHeld ?_ ?_
            rotate_left
            · rintro w' ⟨s0, s1, s2, s3, s4, s5, s6, s7, s8, s9, s10, s11, s12, s13, s14, s15, s16, s17⟩
              go_simp
              with_reducible rfl
            rotate_left
            · simp only [Act.put, List.setIfInBounds_toArray, List.set_cons_zero, List.set_cons_succ, i64_w, i32_w]
              rfl
            refine take_ (i := 13) (N := some 39) (v := ?_) (a' := ?_) #[true, true, true, true, true, true, true, true, true, true, true, true, true, true, false, false] rfl rfl (take_ofW HT_.out HW_.out (by kernel_rfl)) (fun _ _ _ h => h) (Or.inl ⟨by rfl, ?_⟩) hHeld ?_ ?_
            rotate_left
            · rintro w' ⟨s0, s1, s2, s3, s4, s5, s6, s7, s8, s9, s10, s11, s12, s13, s14, s15, s16, s17⟩
              go_simp
              with_reducible rfl
            rotate_left
            · simp only [Act.put, List.setIfInBounds_toArray, List.set_cons_zero, List.set_cons_succ, i64_w, i32_w]
              rfl
            refine one_ (i := 14) (N := some 40) #[true, true, true, true, true, true, true, true, true, true, true, true, true, true, true, false] rfl rfl (one_of HT_.out (by kernel_rfl)) (by decide) (fun K hK => ?_)
            refine goes_ Try.func14 (by kernel_rfl) rfl #[.agg #[.int .i64 t238, .int .i64 t239, .int .i64 a0, .int .i64 a2], .agg #[.int .i64 ((rd_T73 l1 a2).f0.f0), .int .i64 ((rd_T73 l1 a2).f0.f1), .int .i64 ((rd_T73 l1 a2).f0.f2), .int .i64 ((rd_T73 l1 a2).f0.f3)]] (by rfl) rfl rfl (by (try simp only [List.map_toArray, List.map_cons, List.map_nil]); first | done | rfl | (simp only [List.length_drop, List.length_take]; rfl)) ?_
            with_reducible refine (kissgateref10_Better.calls t238 t239 a0 a2 ((rd_T73 l1 a2).f0.f0) ((rd_T73 l1 a2).f0.f1) ((rd_T73 l1 a2).f0.f2) ((rd_T73 l1 a2).f0.f3) true _ A13.out).mono ?_
            rintro e w24 ⟨rfl, hb⟩
            refine ⟨_, rfl, ?_⟩
            have n0_ := Aside0.mk (blk_below (g := gb243) (o := .cells #[.int .i64 t238, .int .i64 t239, .int .i64 t240, .int .i64 t241] 23 (0, 0)) (by (with_reducible repeat (first | refine blk_drewN ?_ _ | refine blk_drew ?_ | refine blk_alloc ?_ _)); exact BK243.out) hb)
            have n1_ := Aside0.mk (blk_below (g := gb244) (o := .cells #[.int .i64 t238, .int .i64 t239, .int .i64 a0, .int .i64 a2] 23 (0, 0)) (by (with_reducible repeat (first | refine blk_drewN ?_ _ | refine blk_drew ?_ | refine blk_alloc ?_ _)); exact BK244.out) hb)
            have n2_ := Aside0.mk (below_step (by repeat (first | (with_reducible first | exact HB.out | apply below_alloc | apply pw_below_drewN | apply below_drew1 | refine below_set ?_ GE243.out | refine below_set ?_ GE244.out) | exact HB.out)) hb)
            clear BK243
            clear BK244
            clear HB
            have BK243 := n0_
            have BK244 := n1_
            have HB := n2_
            clear n0_ n1_ n2_
            (try clear hb)
            (try clear hb2)
            (try clear hk)
            (try clear hi)
            refine hK.out _ _ ⟨(blk_cell BK244.out 0).trans rfl, (blk_cell BK244.out 1).trans rfl, (blk_cell BK244.out 2).trans rfl, (blk_cell BK244.out 3).trans rfl, ((HB.out.cell (World.block_lt_of_cell? w _ hw245_0)).trans hw245_0), ((HB.out.cell (World.block_lt_of_cell? w _ hw245_1)).trans hw245_1), ((HB.out.cell (World.block_lt_of_cell? w _ hw245_2)).trans hw245_2), ((HB.out.cell (World.block_lt_of_cell? w _ hw245_3)).trans hw245_3), ((HB.out.cell (World.block_lt_of_cell? w _ hw245_4)).trans hw245_4), ((HB.out.cell (World.block_lt_of_cell? w _ hw245_5)).trans hw245_5), ((HB.out.cell (World.block_lt_of_cell? w _ hw245_6)).trans hw245_6), ((HB.out.cell (World.block_lt_of_cell? w _ hw247_0)).trans hw247_0), ((HB.out.cell (World.block_lt_of_cell? w _ hw247_1)).trans hw247_1), ((HB.out.cell (World.block_lt_of_cell? w _ hw247_2)).trans hw247_2), ((HB.out.cell (World.block_lt_of_cell? w _ hw247_3)).trans hw247_3), ((HB.out.cell (World.block_lt_of_cell? w _ hw247_4)).trans hw247_4), ((HB.out.cell (World.block_lt_of_cell? w _ hw247_5)).trans hw247_5), ((HB.out.cell (World.block_lt_of_cell? w _ hw247_6)).trans hw247_6)⟩ (fun hHeld => ?_)
            clear hK K
            refine norm_ (a' := ?_) ?_ ?_
            rotate_left
            · show Act.put _ (some 40) _ = _
              simp only [Act.put, List.setIfInBounds_toArray, List.set_cons_zero, List.set_cons_succ, i64_w, i32_w]
              rfl
            refine pure_ (i := 15) (N := some 41) (v := ?_) (a' := ?_) #[true, true, true, true, true, true, true, true, true, true, true, true, true, true, true, true] rfl rfl (any_of HT_.out (by kernel_rfl)) (fun _ _ _ h => h) (Or.inl ⟨by rfl, ?_⟩) ?_ ?_
            rotate_left
            · intro w'
              go_simp
              with_reducible rfl
            rotate_left
            · simp only [Act.put, List.setIfInBounds_toArray, List.set_cons_zero, List.set_cons_succ, i64_w, i32_w]
              rfl
            refine done_ (done_of HT_.out (by kernel_rfl)) ?_
            try go_wp2
            go_ret
            exact ⟨by first | rfl | (simp [errW_none, errW_some] <;> rfl) | (simp [*, errW_none, errW_some] <;> rfl), by repeat (first | (with_reducible first | exact HB.out | apply below_alloc | apply pw_below_drewN | apply below_drew1 | refine below_set ?_ GE243.out | refine below_set ?_ GE244.out) | exact HB.out)⟩
          · replace c14 := Bool.eq_false_iff.mpr c14
            subst c14
            have H1 : (some 3) = some r := by rw [if_neg (show ¬ (false = true) by decide)] at H; exact H
            clear H
            have H := H1
            clear H1
            obtain rfl := Option.some.inj H
            go_enter Try.func24, Try.ntmps24
            try go_wp2_with (first | ((with_reducible refine gate_callee (f := 17) rfl ?_); refine goesL_ (some 13) rfl rfl Try.func17 (by kernel_rfl) rfl #[.int .i64 a0, .slice A1 l1.length c1] rfl (by (try simp only [List.map_toArray, List.map_cons, List.map_nil]); first | done | rfl | (simp only [List.length_drop, List.length_take]; rfl)) ?_; (with_reducible refine (kissgateref10_Best.calls k a0 _ _ l1 t238 t239 t240 t241 t242 _ ?side1 ?side2 A4.out).mono ?_); (case side1 => repeat (first | exact HR1.out | (with_reducible refine Kd.C_alloc ?_ _) | (with_reducible refine Kd.C_drewN ?_ _) | (with_reducible refine Kd.C_drew ?_))); (case side2 => exact HC1.out); rintro e w25 ⟨rfl, hb⟩; refine ⟨_, rfl, ?_⟩; have n0_ := Aside0.mk (below_step (by repeat (first | (with_reducible first | exact HB.out | apply below_alloc | apply pw_below_drewN | apply below_drew1) | exact HB.out)) hb); clear HB; have HB := n0_; clear n0_; (try clear hb); (try clear hb2); (try clear hk); (try clear hi)) | ((with_reducible refine gate_dst (N := 7) rfl ?_); refine box_event ?hg (N := 7) ?hd (cs := #[.int .i64 0, .int .i64 0, .int .i64 0, .int .i64 0]) (t := 23) ?hr ?_; (case hd => rfl); (case hg => rfl); (case hr => first | (go_simp; done) | (go_simp; rfl)); intro gb243 hg w26 hbox hb; have n0_ := Aside0.mk (below_step (by repeat (first | (with_reducible first | exact HB.out | apply below_alloc | apply pw_below_drewN | apply below_drew1) | exact HB.out)) hb); have n1_ := Aside0.mk (hbox); have n2_ := Aside0.mk ((by rw [hg]; exact (below_size (by repeat (first | (with_reducible first | exact HB.out | apply below_alloc | apply pw_below_drewN | apply below_drew1) | exact HB.out))) : w.heap.size ≤ gb243)); have n3_ := Aside0.mk ((by rw [hg]; exact (below_size (by repeat (first | (with_reducible first | exact HB.out | apply below_alloc | apply pw_below_drewN | apply below_drew1) | exact HB.out))) : w.heap.size ≤ gb243)); clear HB; have HB := n0_; have BK243 := n1_; have GW243 := n2_; have GE243 := n3_; clear n0_ n1_ n2_ n3_; clear hb hbox hg; have hcz27_0 : w26.cell? ⟨gb243, 0, none⟩ = some (.int .i64 0) := (blk_cell BK243.out 0).trans rfl; have hcz27_1 : w26.cell? ⟨gb243, 1, none⟩ = some (.int .i64 0) := (blk_cell BK243.out 1).trans rfl; have hcz27_2 : w26.cell? ⟨gb243, 2, none⟩ = some (.int .i64 0) := (blk_cell BK243.out 2).trans rfl; have hcz27_3 : w26.cell? ⟨gb243, 3, none⟩ = some (.int .i64 0) := (blk_cell BK243.out 3).trans rfl; have hfz27_0 := blk_frozen BK243.out 0; have hfz27_1 := blk_frozen BK243.out 1; have hfz27_2 := blk_frozen BK243.out 2; have hfz27_3 := blk_frozen BK243.out 3) | ((with_reducible refine gate_dst (N := 9) rfl ?_); refine box_event ?hg (N := 9) ?hd (cs := #[.int .i64 0, .int .i64 0, .int .i64 0, .int .i64 0]) (t := 23) ?hr ?_; (case hd => rfl); (case hg => rfl); (case hr => first | (go_simp; done) | (go_simp; rfl)); intro gb244 hg w28 hbox hb; have n0_ := Aside0.mk (blk_below (g := gb243) (o := .cells #[.int .i64 t238, .int .i64 t239, .int .i64 t240, .int .i64 t241] 23 (0, 0)) (by (with_reducible repeat (first | refine blk_drewN ?_ _ | refine blk_drew ?_ | refine blk_alloc ?_ _)); refine blk_put (cs := #[.int .i64 t238, .int .i64 t239, .int .i64 t240, .int .i64 0]) ?_ 3 _ rfl; (with_reducible repeat (first | refine blk_drewN ?_ _ | refine blk_drew ?_ | refine blk_alloc ?_ _)); refine blk_put (cs := #[.int .i64 t238, .int .i64 t239, .int .i64 0, .int .i64 0]) ?_ 2 _ rfl; (with_reducible repeat (first | refine blk_drewN ?_ _ | refine blk_drew ?_ | refine blk_alloc ?_ _)); refine blk_put (cs := #[.int .i64 t238, .int .i64 0, .int .i64 0, .int .i64 0]) ?_ 1 _ rfl; (with_reducible repeat (first | refine blk_drewN ?_ _ | refine blk_drew ?_ | refine blk_alloc ?_ _)); refine blk_put (cs := #[.int .i64 0, .int .i64 0, .int .i64 0, .int .i64 0]) ?_ 0 _ rfl; (with_reducible repeat (first | refine blk_drewN ?_ _ | refine blk_drew ?_ | refine blk_alloc ?_ _)); exact BK243.out) hb); have n1_ := Aside0.mk (below_step (by repeat (first | (with_reducible first | exact HB.out | apply below_alloc | apply pw_below_drewN | apply below_drew1 | refine below_set ?_ GE243.out) | exact HB.out)) hb); have n2_ := Aside0.mk (hbox); have n3_ := Aside0.mk ((by rw [hg]; exact (below_size (by repeat (first | (with_reducible first | exact HB.out | apply below_alloc | apply pw_below_drewN | apply below_drew1 | refine below_set ?_ GE243.out) | exact HB.out))) : w.heap.size ≤ gb244)); have n4_ := Aside0.mk ((by rw [hg]; exact (below_size (by repeat (first | (with_reducible first | exact HB.out | apply below_alloc | apply pw_below_drewN | apply below_drew1 | refine below_set ?_ GE243.out) | exact HB.out))) : w.heap.size ≤ gb244)); have n5_ := Aside0.mk ((by rw [hg]; exact Nat.ne_of_lt (blk_lt (g := gb243) (o := .cells #[.int .i64 t238, .int .i64 t239, .int .i64 t240, .int .i64 t241] 23 (0, 0)) (by (with_reducible repeat (first | refine blk_drewN ?_ _ | refine blk_drew ?_ | refine blk_alloc ?_ _)); refine blk_put (cs := #[.int .i64 t238, .int .i64 t239, .int .i64 t240, .int .i64 0]) ?_ 3 _ rfl; (with_reducible repeat (first | refine blk_drewN ?_ _ | refine blk_drew ?_ | refine blk_alloc ?_ _)); refine blk_put (cs := #[.int .i64 t238, .int .i64 t239, .int .i64 0, .int .i64 0]) ?_ 2 _ rfl; (with_reducible repeat (first | refine blk_drewN ?_ _ | refine blk_drew ?_ | refine blk_alloc ?_ _)); refine blk_put (cs := #[.int .i64 t238, .int .i64 0, .int .i64 0, .int .i64 0]) ?_ 1 _ rfl; (with_reducible repeat (first | refine blk_drewN ?_ _ | refine blk_drew ?_ | refine blk_alloc ?_ _)); refine blk_put (cs := #[.int .i64 0, .int .i64 0, .int .i64 0, .int .i64 0]) ?_ 0 _ rfl; (with_reducible repeat (first | refine blk_drewN ?_ _ | refine blk_drew ?_ | refine blk_alloc ?_ _)); exact BK243.out)) : gb243 ≠ gb244)); have n6_ := Aside0.mk ((by rw [hg]; exact Nat.ne_of_gt (blk_lt (g := gb243) (o := .cells #[.int .i64 t238, .int .i64 t239, .int .i64 t240, .int .i64 t241] 23 (0, 0)) (by (with_reducible repeat (first | refine blk_drewN ?_ _ | refine blk_drew ?_ | refine blk_alloc ?_ _)); refine blk_put (cs := #[.int .i64 t238, .int .i64 t239, .int .i64 t240, .int .i64 0]) ?_ 3 _ rfl; (with_reducible repeat (first | refine blk_drewN ?_ _ | refine blk_drew ?_ | refine blk_alloc ?_ _)); refine blk_put (cs := #[.int .i64 t238, .int .i64 t239, .int .i64 0, .int .i64 0]) ?_ 2 _ rfl; (with_reducible repeat (first | refine blk_drewN ?_ _ | refine blk_drew ?_ | refine blk_alloc ?_ _)); refine blk_put (cs := #[.int .i64 t238, .int .i64 0, .int .i64 0, .int .i64 0]) ?_ 1 _ rfl; (with_reducible repeat (first | refine blk_drewN ?_ _ | refine blk_drew ?_ | refine blk_alloc ?_ _)); refine blk_put (cs := #[.int .i64 0, .int .i64 0, .int .i64 0, .int .i64 0]) ?_ 0 _ rfl; (with_reducible repeat (first | refine blk_drewN ?_ _ | refine blk_drew ?_ | refine blk_alloc ?_ _)); exact BK243.out)) : gb244 ≠ gb243)); clear BK243; clear HB; have BK243 := n0_; have HB := n1_; have BK244 := n2_; have GW244 := n3_; have GE244 := n4_; have NB243_244 := n5_; have NB244_243 := n6_; clear n0_ n1_ n2_ n3_ n4_ n5_ n6_; clear hb hbox hg; have hnb29 := NB244_243.out; have hnc29 := NB243_244.out; have hcz30_0 : w28.cell? ⟨gb244, 0, none⟩ = some (.int .i64 0) := (blk_cell BK244.out 0).trans rfl; have hcz30_1 : w28.cell? ⟨gb244, 1, none⟩ = some (.int .i64 0) := (blk_cell BK244.out 1).trans rfl; have hcz30_2 : w28.cell? ⟨gb244, 2, none⟩ = some (.int .i64 0) := (blk_cell BK244.out 2).trans rfl; have hcz30_3 : w28.cell? ⟨gb244, 3, none⟩ = some (.int .i64 0) := (blk_cell BK244.out 3).trans rfl; have hfz30_0 := blk_frozen BK244.out 0; have hfz30_1 := blk_frozen BK244.out 1; have hfz30_2 := blk_frozen BK244.out 2; have hfz30_3 := blk_frozen BK244.out 3))
            have n0_ : Aside0 (((((w28.setCell ⟨gb244, 0, none⟩ (.int .i64 t238)).setCell ⟨gb244, 1, none⟩ (.int .i64 t239)).setCell ⟨gb244, 2, none⟩ (.int .i64 a0)).setCell ⟨gb244, 3, none⟩ (.int .i64 a2)).heap[gb243]? = some (.cells #[.int .i64 t238, .int .i64 t239, .int .i64 t240, .int .i64 t241] 23 (0, 0))) := ⟨by (with_reducible repeat (first | refine blk_drewN ?_ _ | refine blk_drew ?_ | refine blk_alloc ?_ _)); refine blk_far ?_ NB243_244.out _; (with_reducible repeat (first | refine blk_drewN ?_ _ | refine blk_drew ?_ | refine blk_alloc ?_ _)); refine blk_far ?_ NB243_244.out _; (with_reducible repeat (first | refine blk_drewN ?_ _ | refine blk_drew ?_ | refine blk_alloc ?_ _)); refine blk_far ?_ NB243_244.out _; (with_reducible repeat (first | refine blk_drewN ?_ _ | refine blk_drew ?_ | refine blk_alloc ?_ _)); refine blk_far ?_ NB243_244.out _; (with_reducible repeat (first | refine blk_drewN ?_ _ | refine blk_drew ?_ | refine blk_alloc ?_ _)); exact BK243.out⟩
            have n1_ : Aside0 (((((w28.setCell ⟨gb244, 0, none⟩ (.int .i64 t238)).setCell ⟨gb244, 1, none⟩ (.int .i64 t239)).setCell ⟨gb244, 2, none⟩ (.int .i64 a0)).setCell ⟨gb244, 3, none⟩ (.int .i64 a2)).heap[gb244]? = some (.cells #[.int .i64 t238, .int .i64 t239, .int .i64 a0, .int .i64 a2] 23 (0, 0))) := ⟨by (with_reducible repeat (first | refine blk_drewN ?_ _ | refine blk_drew ?_ | refine blk_alloc ?_ _)); refine blk_put (cs := #[.int .i64 t238, .int .i64 t239, .int .i64 a0, .int .i64 0]) ?_ 3 _ rfl; (with_reducible repeat (first | refine blk_drewN ?_ _ | refine blk_drew ?_ | refine blk_alloc ?_ _)); refine blk_put (cs := #[.int .i64 t238, .int .i64 t239, .int .i64 0, .int .i64 0]) ?_ 2 _ rfl; (with_reducible repeat (first | refine blk_drewN ?_ _ | refine blk_drew ?_ | refine blk_alloc ?_ _)); refine blk_put (cs := #[.int .i64 t238, .int .i64 0, .int .i64 0, .int .i64 0]) ?_ 1 _ rfl; (with_reducible repeat (first | refine blk_drewN ?_ _ | refine blk_drew ?_ | refine blk_alloc ?_ _)); refine blk_put (cs := #[.int .i64 0, .int .i64 0, .int .i64 0, .int .i64 0]) ?_ 0 _ rfl; (with_reducible repeat (first | refine blk_drewN ?_ _ | refine blk_drew ?_ | refine blk_alloc ?_ _)); exact BK244.out⟩
            have n2_ : Aside0 (Below w.heap.size w ((((w28.setCell ⟨gb244, 0, none⟩ (.int .i64 t238)).setCell ⟨gb244, 1, none⟩ (.int .i64 t239)).setCell ⟨gb244, 2, none⟩ (.int .i64 a0)).setCell ⟨gb244, 3, none⟩ (.int .i64 a2))) := ⟨by repeat (first | (with_reducible first | exact HB.out | apply below_alloc | apply pw_below_drewN | apply below_drew1 | refine below_set ?_ GE243.out | refine below_set ?_ GE244.out) | exact HB.out)⟩
            (try clear BK243)
            (try clear BK244)
            (try clear HB)
            generalize ((((w28.setCell ⟨gb244, 0, none⟩ (.int .i64 t238)).setCell ⟨gb244, 1, none⟩ (.int .i64 t239)).setCell ⟨gb244, 2, none⟩ (.int .i64 a0)).setCell ⟨gb244, 3, none⟩ (.int .i64 a2)) = w31 at n0_ n1_ n2_ ⊢
            have BK243 := n0_
            have BK244 := n1_
            have HB := n2_
            clear n0_ n1_ n2_
            have n0_ := Aside0.mk (blk_drew BK243.out)
            have n1_ := Aside0.mk (blk_drew BK244.out)
            have n2_ := Aside0.mk (below_drew1 HB.out)
            clear BK243
            clear BK244
            clear HB
            have BK243 := n0_
            have BK244 := n1_
            have HB := n2_
            clear n0_ n1_ n2_
            have p245 : 0 ≤ (a2 : Int) := of_decide_eq_true (by first | (with_reducible assumption) | assumption)
            have q245 : a2 < (l1.length : Int) := of_decide_eq_true (by first | (with_reducible assumption) | assumption)
            obtain ⟨ad245, e245, hx245_0, hx245_1, hx245_2, hx245_3, hx245_4, hx245_5, hx245_6⟩ := at_T73 HR1.out a2 p245 q245
            have hw245_6 := hx245_6
            have hw245_5 := hx245_5
            have hw245_4 := hx245_4
            have hw245_3 := hx245_3
            have hw245_2 := hx245_2
            have hw245_1 := hx245_1
            have hw245_0 := hx245_0
            cases e245
            replace hx245_0 := (HB.out.cell (World.block_lt_of_cell? w _ hx245_0)).trans hx245_0
            replace hx245_1 := (HB.out.cell (World.block_lt_of_cell? w _ hx245_1)).trans hx245_1
            replace hx245_2 := (HB.out.cell (World.block_lt_of_cell? w _ hx245_2)).trans hx245_2
            replace hx245_3 := (HB.out.cell (World.block_lt_of_cell? w _ hx245_3)).trans hx245_3
            replace hx245_4 := (HB.out.cell (World.block_lt_of_cell? w _ hx245_4)).trans hx245_4
            replace hx245_5 := (HB.out.cell (World.block_lt_of_cell? w _ hx245_5)).trans hx245_5
            replace hx245_6 := (HB.out.cell (World.block_lt_of_cell? w _ hx245_6)).trans hx245_6
            replace p245 := eq_true p245
            replace q245 := eq_true q245
            have p247 : 0 ≤ (a2 : Int) := of_decide_eq_true (by first | (with_reducible assumption) | assumption)
            have q247 : a2 < (l1.length : Int) := of_decide_eq_true (by first | (with_reducible assumption) | assumption)
            obtain ⟨ad247, e247, hx247_0, hx247_1, hx247_2, hx247_3, hx247_4, hx247_5, hx247_6⟩ := at_T73 HR1.out a2 p247 q247
            have hw247_6 := hx247_6
            have hw247_5 := hx247_5
            have hw247_4 := hx247_4
            have hw247_3 := hx247_3
            have hw247_2 := hx247_2
            have hw247_1 := hx247_1
            have hw247_0 := hx247_0
            obtain rfl : ad245 = ad247 := (by injection e247)
            replace hx247_0 := (HB.out.cell (World.block_lt_of_cell? w _ hx247_0)).trans hx247_0
            replace hx247_1 := (HB.out.cell (World.block_lt_of_cell? w _ hx247_1)).trans hx247_1
            replace hx247_2 := (HB.out.cell (World.block_lt_of_cell? w _ hx247_2)).trans hx247_2
            replace hx247_3 := (HB.out.cell (World.block_lt_of_cell? w _ hx247_3)).trans hx247_3
            replace hx247_4 := (HB.out.cell (World.block_lt_of_cell? w _ hx247_4)).trans hx247_4
            replace hx247_5 := (HB.out.cell (World.block_lt_of_cell? w _ hx247_5)).trans hx247_5
            replace hx247_6 := (HB.out.cell (World.block_lt_of_cell? w _ hx247_6)).trans hx247_6
            replace p247 := eq_true p247
            replace q247 := eq_true q247
            refine start_ (n := 16) (S := fun w' => w'.cell? ⟨gb244, 0, none⟩ = some (.int .i64 t238) ∧ w'.cell? ⟨gb244, 1, none⟩ = some (.int .i64 t239) ∧ w'.cell? ⟨gb244, 2, none⟩ = some (.int .i64 a0) ∧ w'.cell? ⟨gb244, 3, none⟩ = some (.int .i64 a2) ∧ w'.cell? (ad245.add ((a2).toNat * 7)) = some (.int .i64 ((rd_T73 l1 a2).f0.f0)) ∧ w'.cell? ⟨(ad245.add ((a2).toNat * 7)).block, (ad245.add ((a2).toNat * 7)).off + 1, none⟩ = some (.int .i64 ((rd_T73 l1 a2).f0.f1)) ∧ w'.cell? ⟨(ad245.add ((a2).toNat * 7)).block, (ad245.add ((a2).toNat * 7)).off + 2, none⟩ = some (.int .i64 ((rd_T73 l1 a2).f0.f2)) ∧ w'.cell? ⟨(ad245.add ((a2).toNat * 7)).block, (ad245.add ((a2).toNat * 7)).off + 3, none⟩ = some (.int .i64 ((rd_T73 l1 a2).f0.f3)) ∧ w'.cell? ⟨(ad245.add ((a2).toNat * 7)).block, (ad245.add ((a2).toNat * 7)).off + 4, none⟩ = some (.int .i64 ((rd_T73 l1 a2).f1)) ∧ w'.cell? ⟨(ad245.add ((a2).toNat * 7)).block, (ad245.add ((a2).toNat * 7)).off + 5, none⟩ = some (.int .i64 ((rd_T73 l1 a2).f2)) ∧ w'.cell? ⟨(ad245.add ((a2).toNat * 7)).block, (ad245.add ((a2).toNat * 7)).off + 6, none⟩ = some (.bool ((rd_T73 l1 a2).f3)) ∧ w'.cell? (ad245.add ((a2).toNat * 7)) = some (.int .i64 ((rd_T73 l1 a2).f0.f0)) ∧ w'.cell? ⟨(ad245.add ((a2).toNat * 7)).block, (ad245.add ((a2).toNat * 7)).off + 1, none⟩ = some (.int .i64 ((rd_T73 l1 a2).f0.f1)) ∧ w'.cell? ⟨(ad245.add ((a2).toNat * 7)).block, (ad245.add ((a2).toNat * 7)).off + 2, none⟩ = some (.int .i64 ((rd_T73 l1 a2).f0.f2)) ∧ w'.cell? ⟨(ad245.add ((a2).toNat * 7)).block, (ad245.add ((a2).toNat * 7)).off + 3, none⟩ = some (.int .i64 ((rd_T73 l1 a2).f0.f3)) ∧ w'.cell? ⟨(ad245.add ((a2).toNat * 7)).block, (ad245.add ((a2).toNat * 7)).off + 4, none⟩ = some (.int .i64 ((rd_T73 l1 a2).f1)) ∧ w'.cell? ⟨(ad245.add ((a2).toNat * 7)).block, (ad245.add ((a2).toNat * 7)).off + 5, none⟩ = some (.int .i64 ((rd_T73 l1 a2).f2)) ∧ w'.cell? ⟨(ad245.add ((a2).toNat * 7)).block, (ad245.add ((a2).toNat * 7)).off + 6, none⟩ = some (.bool ((rd_T73 l1 a2).f3))) (ds := []) #[false, false, false, false, false, false, false, false, false, false, false, false, false, false, false, false] (by kernel_rfl) rfl rfl ⟨(blk_cell BK244.out 0).trans rfl, (blk_cell BK244.out 1).trans rfl, (blk_cell BK244.out 2).trans rfl, (blk_cell BK244.out 3).trans rfl, ((HB.out.cell (World.block_lt_of_cell? w _ hw245_0)).trans hw245_0), ((HB.out.cell (World.block_lt_of_cell? w _ hw245_1)).trans hw245_1), ((HB.out.cell (World.block_lt_of_cell? w _ hw245_2)).trans hw245_2), ((HB.out.cell (World.block_lt_of_cell? w _ hw245_3)).trans hw245_3), ((HB.out.cell (World.block_lt_of_cell? w _ hw245_4)).trans hw245_4), ((HB.out.cell (World.block_lt_of_cell? w _ hw245_5)).trans hw245_5), ((HB.out.cell (World.block_lt_of_cell? w _ hw245_6)).trans hw245_6), ((HB.out.cell (World.block_lt_of_cell? w _ hw247_0)).trans hw247_0), ((HB.out.cell (World.block_lt_of_cell? w _ hw247_1)).trans hw247_1), ((HB.out.cell (World.block_lt_of_cell? w _ hw247_2)).trans hw247_2), ((HB.out.cell (World.block_lt_of_cell? w _ hw247_3)).trans hw247_3), ((HB.out.cell (World.block_lt_of_cell? w _ hw247_4)).trans hw247_4), ((HB.out.cell (World.block_lt_of_cell? w _ hw247_5)).trans hw247_5), ((HB.out.cell (World.block_lt_of_cell? w _ hw247_6)).trans hw247_6)⟩ (fun hHeld => ?_); refine with_tabW kissgateref10_Role.tab5 kissgateref10_Role.bits5 (fun HT_ HW_ => ?_)
            generalize w31.drew = w32 at BK243 BK244 HB hx245_0 hx245_1 hx245_2 hx245_3 hx245_4 hx245_5 hx245_6 hx247_0 hx247_1 hx247_2 hx247_3 hx247_4 hx247_5 hx247_6 hHeld ⊢
            refine pure_ (i := 0) (N := some 26) (v := ?_) (a' := ?_) #[true, false, false, false, false, false, false, false, false, false, false, false, false, false, false, false] rfl rfl (any_of HT_.out (by kernel_rfl)) (fun _ _ _ h => h) (Or.inl ⟨by rfl, ?_⟩) ?_ ?_
            rotate_left
            · intro w'
              go_simp
              with_reducible rfl
            rotate_left
            · simp only [Act.put, List.setIfInBounds_toArray, List.set_cons_zero, List.set_cons_succ, i64_w, i32_w]
              rfl
            refine pure_ (i := 1) (N := some 27) (v := ?_) (a' := ?_) #[true, true, false, false, false, false, false, false, false, false, false, false, false, false, false, false] rfl rfl (any_of HT_.out (by kernel_rfl)) (fun _ _ _ h => h) (Or.inl ⟨by rfl, ?_⟩) ?_ ?_
            rotate_left
            · intro w'
              go_simp
              with_reducible rfl
            rotate_left
            · simp only [Act.put, List.setIfInBounds_toArray, List.set_cons_zero, List.set_cons_succ, i64_w, i32_w]
              rfl
            refine pure_ (i := 2) (N := some 28) (v := ?_) (a' := ?_) #[true, true, true, false, false, false, false, false, false, false, false, false, false, false, false, false] rfl rfl (any_of HT_.out (by kernel_rfl)) (fun _ _ _ h => h) (Or.inl ⟨by rfl, ?_⟩) ?_ ?_
            rotate_left
            · intro w'
              go_simp
              with_reducible rfl
            rotate_left
            · simp only [Act.put, List.setIfInBounds_toArray, List.set_cons_zero, List.set_cons_succ, i64_w, i32_w]
              rfl
            refine pure_ (i := 4) (N := some 30) (v := ?_) (a' := ?_) #[true, true, true, false, true, false, false, false, false, false, false, false, false, false, false, false] rfl rfl (any_of HT_.out (by kernel_rfl)) (fun _ _ _ h => h) (Or.inl ⟨by rfl, ?_⟩) ?_ ?_
            rotate_left
            · intro w'
              go_simp
              with_reducible rfl
            rotate_left
            · simp only [Act.put, List.setIfInBounds_toArray, List.set_cons_zero, List.set_cons_succ, i64_w, i32_w]
              rfl
            refine take_ (i := 3) (N := some 29) (v := ?_) (a' := ?_) #[true, true, true, true, true, false, false, false, false, false, false, false, false, false, false, false] rfl rfl (take_ofW HT_.out HW_.out (by kernel_rfl)) (fun _ _ _ h => h) (Or.inl ⟨by rfl, ?_⟩) hHeld ?_ ?_
            rotate_left
            · rintro w' ⟨s0, s1, s2, s3, s4, s5, s6, s7, s8, s9, s10, s11, s12, s13, s14, s15, s16, s17⟩
              go_simp
              with_reducible rfl
            rotate_left
            · simp only [Act.put, List.setIfInBounds_toArray, List.set_cons_zero, List.set_cons_succ, i64_w, i32_w]
              rfl
            refine one_ (i := 5) (N := some 31) #[true, true, true, true, true, true, false, false, false, false, false, false, false, false, false, false] rfl rfl (one_of HT_.out (by kernel_rfl)) (by decide) (fun K hK => ?_)
            refine goes_ Try.func35 (by kernel_rfl) rfl #[.agg #[.int .i64 ((rd_T73 l1 a2).f0.f0), .int .i64 ((rd_T73 l1 a2).f0.f1), .int .i64 ((rd_T73 l1 a2).f0.f2), .int .i64 ((rd_T73 l1 a2).f0.f3), .int .i64 ((rd_T73 l1 a2).f1), .int .i64 ((rd_T73 l1 a2).f2), .bool ((rd_T73 l1 a2).f3)], .int .i64 a0] (by rfl) rfl rfl (by (try simp only [List.map_toArray, List.map_cons, List.map_nil]); first | done | rfl | (simp only [List.length_drop, List.length_take]; rfl)) ?_
            with_reducible refine (kissgateref10_Use.calls ((rd_T73 l1 a2).f0.f0) ((rd_T73 l1 a2).f0.f1) ((rd_T73 l1 a2).f0.f2) ((rd_T73 l1 a2).f0.f3) ((rd_T73 l1 a2).f1) ((rd_T73 l1 a2).f2) ((rd_T73 l1 a2).f3) a0 true _ A11.out).mono ?_
            rintro e w33 ⟨rfl, hb⟩
            refine ⟨_, rfl, ?_⟩
            have n0_ := Aside0.mk (blk_below (g := gb243) (o := .cells #[.int .i64 t238, .int .i64 t239, .int .i64 t240, .int .i64 t241] 23 (0, 0)) (by (with_reducible repeat (first | refine blk_drewN ?_ _ | refine blk_drew ?_ | refine blk_alloc ?_ _)); exact BK243.out) hb)
            have n1_ := Aside0.mk (blk_below (g := gb244) (o := .cells #[.int .i64 t238, .int .i64 t239, .int .i64 a0, .int .i64 a2] 23 (0, 0)) (by (with_reducible repeat (first | refine blk_drewN ?_ _ | refine blk_drew ?_ | refine blk_alloc ?_ _)); exact BK244.out) hb)
            have n2_ := Aside0.mk (below_step (by repeat (first | (with_reducible first | exact HB.out | apply below_alloc | apply pw_below_drewN | apply below_drew1 | refine below_set ?_ GE243.out | refine below_set ?_ GE244.out) | exact HB.out)) hb)
            clear BK243
            clear BK244
            clear HB
            have BK243 := n0_
            have BK244 := n1_
            have HB := n2_
            clear n0_ n1_ n2_
            (try clear hb)
            (try clear hb2)
            (try clear hk)
            (try clear hi)
            refine hK.out _ _ ⟨(blk_cell BK244.out 0).trans rfl, (blk_cell BK244.out 1).trans rfl, (blk_cell BK244.out 2).trans rfl, (blk_cell BK244.out 3).trans rfl, ((HB.out.cell (World.block_lt_of_cell? w _ hw245_0)).trans hw245_0), ((HB.out.cell (World.block_lt_of_cell? w _ hw245_1)).trans hw245_1), ((HB.out.cell (World.block_lt_of_cell? w _ hw245_2)).trans hw245_2), ((HB.out.cell (World.block_lt_of_cell? w _ hw245_3)).trans hw245_3), ((HB.out.cell (World.block_lt_of_cell? w _ hw245_4)).trans hw245_4), ((HB.out.cell (World.block_lt_of_cell? w _ hw245_5)).trans hw245_5), ((HB.out.cell (World.block_lt_of_cell? w _ hw245_6)).trans hw245_6), ((HB.out.cell (World.block_lt_of_cell? w _ hw247_0)).trans hw247_0), ((HB.out.cell (World.block_lt_of_cell? w _ hw247_1)).trans hw247_1), ((HB.out.cell (World.block_lt_of_cell? w _ hw247_2)).trans hw247_2), ((HB.out.cell (World.block_lt_of_cell? w _ hw247_3)).trans hw247_3), ((HB.out.cell (World.block_lt_of_cell? w _ hw247_4)).trans hw247_4), ((HB.out.cell (World.block_lt_of_cell? w _ hw247_5)).trans hw247_5), ((HB.out.cell (World.block_lt_of_cell? w _ hw247_6)).trans hw247_6)⟩ (fun hHeld => ?_)
            clear hK K
            refine norm_ (a' := ?_) ?_ ?_
            rotate_left
            · show Act.put _ (some 31) _ = _
              simp only [Act.put, List.setIfInBounds_toArray, List.set_cons_zero, List.set_cons_succ, i64_w, i32_w]
              rfl
            refine pure_ (i := 6) (N := some 32) (v := ?_) (a' := ?_) #[true, true, true, true, true, true, true, false, false, false, false, false, false, false, false, false] rfl rfl (any_of HT_.out (by kernel_rfl)) (fun _ _ _ h => h) (Or.inl ⟨by rfl, ?_⟩) ?_ ?_
            rotate_left
            · intro w'
              go_simp
              with_reducible rfl
            rotate_left
            · simp only [Act.put, List.setIfInBounds_toArray, List.set_cons_zero, List.set_cons_succ, i64_w, i32_w]
              rfl
            refine pure_ (i := 7) (N := some 33) (v := ?_) (a' := ?_) #[true, true, true, true, true, true, true, true, false, false, false, false, false, false, false, false] rfl rfl (any_of HT_.out (by kernel_rfl)) (fun _ _ _ h => h) (Or.inl ⟨by rfl, ?_⟩) ?_ ?_
            rotate_left
            · intro w'
              go_simp
              with_reducible rfl
            rotate_left
            · simp only [Act.put, List.setIfInBounds_toArray, List.set_cons_zero, List.set_cons_succ, i64_w, i32_w]
              rfl
            refine pure_ (i := 9) (N := some 35) (v := ?_) (a' := ?_) #[true, true, true, true, true, true, true, true, false, true, false, false, false, false, false, false] rfl rfl (any_of HT_.out (by kernel_rfl)) (fun _ _ _ h => h) (Or.inl ⟨by rfl, ?_⟩) ?_ ?_
            rotate_left
            · intro w'
              go_simp
              with_reducible rfl
            rotate_left
            · simp only [Act.put, List.setIfInBounds_toArray, List.set_cons_zero, List.set_cons_succ, i64_w, i32_w]
              rfl
            refine pure_ (i := 10) (N := some 36) (v := ?_) (a' := ?_) #[true, true, true, true, true, true, true, true, false, true, true, false, false, false, false, false] rfl rfl (any_of HT_.out (by kernel_rfl)) (fun _ _ _ h => h) (Or.inl ⟨by rfl, ?_⟩) ?_ ?_
            rotate_left
            · intro w'
              go_simp
              with_reducible rfl
            rotate_left
            · simp only [Act.put, List.setIfInBounds_toArray, List.set_cons_zero, List.set_cons_succ, i64_w, i32_w]
              rfl
            refine pure_ (i := 11) (N := some 37) (v := ?_) (a' := ?_) #[true, true, true, true, true, true, true, true, false, true, true, true, false, false, false, false] rfl rfl (any_of HT_.out (by kernel_rfl)) (fun _ _ _ h => h) (Or.inl ⟨by rfl, ?_⟩) ?_ ?_
            rotate_left
            · intro w'
              go_simp
              with_reducible rfl
            rotate_left
            · simp only [Act.put, List.setIfInBounds_toArray, List.set_cons_zero, List.set_cons_succ, i64_w, i32_w]
              rfl
            refine pure_ (i := 12) (N := some 38) (v := ?_) (a' := ?_) #[true, true, true, true, true, true, true, true, false, true, true, true, true, false, false, false] rfl rfl (any_of HT_.out (by kernel_rfl)) (fun _ _ _ h => h) (Or.inl ⟨by rfl, ?_⟩) ?_ ?_
            rotate_left
            · intro w'
              go_simp
              with_reducible rfl
            rotate_left
            · simp only [Act.put, List.setIfInBounds_toArray, List.set_cons_zero, List.set_cons_succ, i64_w, i32_w]
              rfl
            refine take_ (i := 8) (N := some 34) (v := ?_) (a' := ?_) #[true, true, true, true, true, true, true, true, true, true, true, true, true, false, false, false] rfl rfl (take_ofW HT_.out HW_.out (by kernel_rfl)) (fun _ _ _ h => h) (Or.inl ⟨by rfl, ?_⟩) hHeld ?_ ?_
            rotate_left
            · rintro w' ⟨s0, s1, s2, s3, s4, s5, s6, s7, s8, s9, s10, s11, s12, s13, s14, s15, s16, s17⟩
              go_simp
              with_reducible rfl
            rotate_left
            · simp only [Act.put, List.setIfInBounds_toArray, List.set_cons_zero, List.set_cons_succ, i64_w, i32_w]
              rfl
            refine take_ (i := 13) (N := some 39) (v := ?_) (a' := ?_) #[true, true, true, true, true, true, true, true, true, true, true, true, true, true, false, false] rfl rfl (take_ofW HT_.out HW_.out (by kernel_rfl)) (fun _ _ _ h => h) (Or.inl ⟨by rfl, ?_⟩) hHeld ?_ ?_
            rotate_left
            · rintro w' ⟨s0, s1, s2, s3, s4, s5, s6, s7, s8, s9, s10, s11, s12, s13, s14, s15, s16, s17⟩
              go_simp
              with_reducible rfl
            rotate_left
            · simp only [Act.put, List.setIfInBounds_toArray, List.set_cons_zero, List.set_cons_succ, i64_w, i32_w]
              rfl
            refine one_ (i := 14) (N := some 40) #[true, true, true, true, true, true, true, true, true, true, true, true, true, true, true, false] rfl rfl (one_of HT_.out (by kernel_rfl)) (by decide) (fun K hK => ?_)
            refine goes_ Try.func14 (by kernel_rfl) rfl #[.agg #[.int .i64 t238, .int .i64 t239, .int .i64 a0, .int .i64 a2], .agg #[.int .i64 ((rd_T73 l1 a2).f0.f0), .int .i64 ((rd_T73 l1 a2).f0.f1), .int .i64 ((rd_T73 l1 a2).f0.f2), .int .i64 ((rd_T73 l1 a2).f0.f3)]] (by rfl) rfl rfl (by (try simp only [List.map_toArray, List.map_cons, List.map_nil]); first | done | rfl | (simp only [List.length_drop, List.length_take]; rfl)) ?_
            with_reducible refine (kissgateref10_Better.calls t238 t239 a0 a2 ((rd_T73 l1 a2).f0.f0) ((rd_T73 l1 a2).f0.f1) ((rd_T73 l1 a2).f0.f2) ((rd_T73 l1 a2).f0.f3) false _ A13.out).mono ?_
            rintro e w34 ⟨rfl, hb⟩
            refine ⟨_, rfl, ?_⟩
            have n0_ := Aside0.mk (blk_below (g := gb243) (o := .cells #[.int .i64 t238, .int .i64 t239, .int .i64 t240, .int .i64 t241] 23 (0, 0)) (by (with_reducible repeat (first | refine blk_drewN ?_ _ | refine blk_drew ?_ | refine blk_alloc ?_ _)); exact BK243.out) hb)
            have n1_ := Aside0.mk (blk_below (g := gb244) (o := .cells #[.int .i64 t238, .int .i64 t239, .int .i64 a0, .int .i64 a2] 23 (0, 0)) (by (with_reducible repeat (first | refine blk_drewN ?_ _ | refine blk_drew ?_ | refine blk_alloc ?_ _)); exact BK244.out) hb)
            have n2_ := Aside0.mk (below_step (by repeat (first | (with_reducible first | exact HB.out | apply below_alloc | apply pw_below_drewN | apply below_drew1 | refine below_set ?_ GE243.out | refine below_set ?_ GE244.out) | exact HB.out)) hb)
            clear BK243
            clear BK244
            clear HB
            have BK243 := n0_
            have BK244 := n1_
            have HB := n2_
            clear n0_ n1_ n2_
            (try clear hb)
            (try clear hb2)
            (try clear hk)
            (try clear hi)
            refine hK.out _ _ ⟨(blk_cell BK244.out 0).trans rfl, (blk_cell BK244.out 1).trans rfl, (blk_cell BK244.out 2).trans rfl, (blk_cell BK244.out 3).trans rfl, ((HB.out.cell (World.block_lt_of_cell? w _ hw245_0)).trans hw245_0), ((HB.out.cell (World.block_lt_of_cell? w _ hw245_1)).trans hw245_1), ((HB.out.cell (World.block_lt_of_cell? w _ hw245_2)).trans hw245_2), ((HB.out.cell (World.block_lt_of_cell? w _ hw245_3)).trans hw245_3), ((HB.out.cell (World.block_lt_of_cell? w _ hw245_4)).trans hw245_4), ((HB.out.cell (World.block_lt_of_cell? w _ hw245_5)).trans hw245_5), ((HB.out.cell (World.block_lt_of_cell? w _ hw245_6)).trans hw245_6), ((HB.out.cell (World.block_lt_of_cell? w _ hw247_0)).trans hw247_0), ((HB.out.cell (World.block_lt_of_cell? w _ hw247_1)).trans hw247_1), ((HB.out.cell (World.block_lt_of_cell? w _ hw247_2)).trans hw247_2), ((HB.out.cell (World.block_lt_of_cell? w _ hw247_3)).trans hw247_3), ((HB.out.cell (World.block_lt_of_cell? w _ hw247_4)).trans hw247_4), ((HB.out.cell (World.block_lt_of_cell? w _ hw247_5)).trans hw247_5), ((HB.out.cell (World.block_lt_of_cell? w _ hw247_6)).trans hw247_6)⟩ (fun hHeld => ?_)
            clear hK K
            refine norm_ (a' := ?_) ?_ ?_
            rotate_left
            · show Act.put _ (some 40) _ = _
              simp only [Act.put, List.setIfInBounds_toArray, List.set_cons_zero, List.set_cons_succ, i64_w, i32_w]
              rfl
            refine pure_ (i := 15) (N := some 41) (v := ?_) (a' := ?_) #[true, true, true, true, true, true, true, true, true, true, true, true, true, true, true, true] rfl rfl (any_of HT_.out (by kernel_rfl)) (fun _ _ _ h => h) (Or.inl ⟨by rfl, ?_⟩) ?_ ?_
            rotate_left
            · intro w'
              go_simp
              with_reducible rfl
            rotate_left
            · simp only [Act.put, List.setIfInBounds_toArray, List.set_cons_zero, List.set_cons_succ, i64_w, i32_w]
              rfl
            refine done_ (done_of HT_.out (by kernel_rfl)) ?_
            try go_wp2
            go_ret
            exact ⟨by first | rfl | (simp [errW_none, errW_some] <;> rfl) | (simp [*, errW_none, errW_some] <;> rfl), by repeat (first | (with_reducible first | exact HB.out | apply below_alloc | apply pw_below_drewN | apply below_drew1 | refine below_set ?_ GE243.out | refine below_set ?_ GE244.out) | exact HB.out)⟩
        · replace c12 := Bool.eq_false_iff.mpr c12
          subst c12
          have H1 : (some 2) = some r := by rw [if_neg (show ¬ (false = true) by decide)] at H; exact H
          clear H
          have H := H1
          clear H1
          obtain rfl := Option.some.inj H
          go_enter Try.func24, Try.ntmps24
          try go_wp2_with (first | ((with_reducible refine gate_callee (f := 17) rfl ?_); refine goesL_ (some 13) rfl rfl Try.func17 (by kernel_rfl) rfl #[.int .i64 a0, .slice A1 l1.length c1] rfl (by (try simp only [List.map_toArray, List.map_cons, List.map_nil]); first | done | rfl | (simp only [List.length_drop, List.length_take]; rfl)) ?_; (with_reducible refine (kissgateref10_Best.calls k a0 _ _ l1 t238 t239 t240 t241 t242 _ ?side1 ?side2 A4.out).mono ?_); (case side1 => repeat (first | exact HR1.out | (with_reducible refine Kd.C_alloc ?_ _) | (with_reducible refine Kd.C_drewN ?_ _) | (with_reducible refine Kd.C_drew ?_))); (case side2 => exact HC1.out); rintro e w35 ⟨rfl, hb⟩; refine ⟨_, rfl, ?_⟩; have n0_ := Aside0.mk (below_step (by repeat (first | (with_reducible first | exact HB.out | apply below_alloc | apply pw_below_drewN | apply below_drew1) | exact HB.out)) hb); clear HB; have HB := n0_; clear n0_; (try clear hb); (try clear hb2); (try clear hk); (try clear hi)) | ((with_reducible refine gate_dst (N := 7) rfl ?_); refine box_event ?hg (N := 7) ?hd (cs := #[.int .i64 0, .int .i64 0, .int .i64 0, .int .i64 0]) (t := 23) ?hr ?_; (case hd => rfl); (case hg => rfl); (case hr => first | (go_simp; done) | (go_simp; rfl)); intro gb243 hg w36 hbox hb; have n0_ := Aside0.mk (below_step (by repeat (first | (with_reducible first | exact HB.out | apply below_alloc | apply pw_below_drewN | apply below_drew1) | exact HB.out)) hb); have n1_ := Aside0.mk (hbox); have n2_ := Aside0.mk ((by rw [hg]; exact (below_size (by repeat (first | (with_reducible first | exact HB.out | apply below_alloc | apply pw_below_drewN | apply below_drew1) | exact HB.out))) : w.heap.size ≤ gb243)); have n3_ := Aside0.mk ((by rw [hg]; exact (below_size (by repeat (first | (with_reducible first | exact HB.out | apply below_alloc | apply pw_below_drewN | apply below_drew1) | exact HB.out))) : w.heap.size ≤ gb243)); clear HB; have HB := n0_; have BK243 := n1_; have GW243 := n2_; have GE243 := n3_; clear n0_ n1_ n2_ n3_; clear hb hbox hg; have hcz37_0 : w36.cell? ⟨gb243, 0, none⟩ = some (.int .i64 0) := (blk_cell BK243.out 0).trans rfl; have hcz37_1 : w36.cell? ⟨gb243, 1, none⟩ = some (.int .i64 0) := (blk_cell BK243.out 1).trans rfl; have hcz37_2 : w36.cell? ⟨gb243, 2, none⟩ = some (.int .i64 0) := (blk_cell BK243.out 2).trans rfl; have hcz37_3 : w36.cell? ⟨gb243, 3, none⟩ = some (.int .i64 0) := (blk_cell BK243.out 3).trans rfl; have hfz37_0 := blk_frozen BK243.out 0; have hfz37_1 := blk_frozen BK243.out 1; have hfz37_2 := blk_frozen BK243.out 2; have hfz37_3 := blk_frozen BK243.out 3) | ((with_reducible refine gate_dst (N := 9) rfl ?_); refine box_event ?hg (N := 9) ?hd (cs := #[.int .i64 0, .int .i64 0, .int .i64 0, .int .i64 0]) (t := 23) ?hr ?_; (case hd => rfl); (case hg => rfl); (case hr => first | (go_simp; done) | (go_simp; rfl)); intro gb244 hg w38 hbox hb; have n0_ := Aside0.mk (blk_below (g := gb243) (o := .cells #[.int .i64 t238, .int .i64 t239, .int .i64 t240, .int .i64 t241] 23 (0, 0)) (by (with_reducible repeat (first | refine blk_drewN ?_ _ | refine blk_drew ?_ | refine blk_alloc ?_ _)); refine blk_put (cs := #[.int .i64 t238, .int .i64 t239, .int .i64 t240, .int .i64 0]) ?_ 3 _ rfl; (with_reducible repeat (first | refine blk_drewN ?_ _ | refine blk_drew ?_ | refine blk_alloc ?_ _)); refine blk_put (cs := #[.int .i64 t238, .int .i64 t239, .int .i64 0, .int .i64 0]) ?_ 2 _ rfl; (with_reducible repeat (first | refine blk_drewN ?_ _ | refine blk_drew ?_ | refine blk_alloc ?_ _)); refine blk_put (cs := #[.int .i64 t238, .int .i64 0, .int .i64 0, .int .i64 0]) ?_ 1 _ rfl; (with_reducible repeat (first | refine blk_drewN ?_ _ | refine blk_drew ?_ | refine blk_alloc ?_ _)); refine blk_put (cs := #[.int .i64 0, .int .i64 0, .int .i64 0, .int .i64 0]) ?_ 0 _ rfl; (with_reducible repeat (first | refine blk_drewN ?_ _ | refine blk_drew ?_ | refine blk_alloc ?_ _)); exact BK243.out) hb); have n1_ := Aside0.mk (below_step (by repeat (first | (with_reducible first | exact HB.out | apply below_alloc | apply pw_below_drewN | apply below_drew1 | refine below_set ?_ GE243.out) | exact HB.out)) hb); have n2_ := Aside0.mk (hbox); have n3_ := Aside0.mk ((by rw [hg]; exact (below_size (by repeat (first | (with_reducible first | exact HB.out | apply below_alloc | apply pw_below_drewN | apply below_drew1 | refine below_set ?_ GE243.out) | exact HB.out))) : w.heap.size ≤ gb244)); have n4_ := Aside0.mk ((by rw [hg]; exact (below_size (by repeat (first | (with_reducible first | exact HB.out | apply below_alloc | apply pw_below_drewN | apply below_drew1 | refine below_set ?_ GE243.out) | exact HB.out))) : w.heap.size ≤ gb244)); have n5_ := Aside0.mk ((by rw [hg]; exact Nat.ne_of_lt (blk_lt (g := gb243) (o := .cells #[.int .i64 t238, .int .i64 t239, .int .i64 t240, .int .i64 t241] 23 (0, 0)) (by (with_reducible repeat (first | refine blk_drewN ?_ _ | refine blk_drew ?_ | refine blk_alloc ?_ _)); refine blk_put (cs := #[.int .i64 t238, .int .i64 t239, .int .i64 t240, .int .i64 0]) ?_ 3 _ rfl; (with_reducible repeat (first | refine blk_drewN ?_ _ | refine blk_drew ?_ | refine blk_alloc ?_ _)); refine blk_put (cs := #[.int .i64 t238, .int .i64 t239, .int .i64 0, .int .i64 0]) ?_ 2 _ rfl; (with_reducible repeat (first | refine blk_drewN ?_ _ | refine blk_drew ?_ | refine blk_alloc ?_ _)); refine blk_put (cs := #[.int .i64 t238, .int .i64 0, .int .i64 0, .int .i64 0]) ?_ 1 _ rfl; (with_reducible repeat (first | refine blk_drewN ?_ _ | refine blk_drew ?_ | refine blk_alloc ?_ _)); refine blk_put (cs := #[.int .i64 0, .int .i64 0, .int .i64 0, .int .i64 0]) ?_ 0 _ rfl; (with_reducible repeat (first | refine blk_drewN ?_ _ | refine blk_drew ?_ | refine blk_alloc ?_ _)); exact BK243.out)) : gb243 ≠ gb244)); have n6_ := Aside0.mk ((by rw [hg]; exact Nat.ne_of_gt (blk_lt (g := gb243) (o := .cells #[.int .i64 t238, .int .i64 t239, .int .i64 t240, .int .i64 t241] 23 (0, 0)) (by (with_reducible repeat (first | refine blk_drewN ?_ _ | refine blk_drew ?_ | refine blk_alloc ?_ _)); refine blk_put (cs := #[.int .i64 t238, .int .i64 t239, .int .i64 t240, .int .i64 0]) ?_ 3 _ rfl; (with_reducible repeat (first | refine blk_drewN ?_ _ | refine blk_drew ?_ | refine blk_alloc ?_ _)); refine blk_put (cs := #[.int .i64 t238, .int .i64 t239, .int .i64 0, .int .i64 0]) ?_ 2 _ rfl; (with_reducible repeat (first | refine blk_drewN ?_ _ | refine blk_drew ?_ | refine blk_alloc ?_ _)); refine blk_put (cs := #[.int .i64 t238, .int .i64 0, .int .i64 0, .int .i64 0]) ?_ 1 _ rfl; (with_reducible repeat (first | refine blk_drewN ?_ _ | refine blk_drew ?_ | refine blk_alloc ?_ _)); refine blk_put (cs := #[.int .i64 0, .int .i64 0, .int .i64 0, .int .i64 0]) ?_ 0 _ rfl; (with_reducible repeat (first | refine blk_drewN ?_ _ | refine blk_drew ?_ | refine blk_alloc ?_ _)); exact BK243.out)) : gb244 ≠ gb243)); clear BK243; clear HB; have BK243 := n0_; have HB := n1_; have BK244 := n2_; have GW244 := n3_; have GE244 := n4_; have NB243_244 := n5_; have NB244_243 := n6_; clear n0_ n1_ n2_ n3_ n4_ n5_ n6_; clear hb hbox hg; have hnb39 := NB244_243.out; have hnc39 := NB243_244.out; have hcz40_0 : w38.cell? ⟨gb244, 0, none⟩ = some (.int .i64 0) := (blk_cell BK244.out 0).trans rfl; have hcz40_1 : w38.cell? ⟨gb244, 1, none⟩ = some (.int .i64 0) := (blk_cell BK244.out 1).trans rfl; have hcz40_2 : w38.cell? ⟨gb244, 2, none⟩ = some (.int .i64 0) := (blk_cell BK244.out 2).trans rfl; have hcz40_3 : w38.cell? ⟨gb244, 3, none⟩ = some (.int .i64 0) := (blk_cell BK244.out 3).trans rfl; have hfz40_0 := blk_frozen BK244.out 0; have hfz40_1 := blk_frozen BK244.out 1; have hfz40_2 := blk_frozen BK244.out 2; have hfz40_3 := blk_frozen BK244.out 3))
          have n0_ : Aside0 (((((w38.setCell ⟨gb244, 0, none⟩ (.int .i64 t238)).setCell ⟨gb244, 1, none⟩ (.int .i64 t239)).setCell ⟨gb244, 2, none⟩ (.int .i64 a0)).setCell ⟨gb244, 3, none⟩ (.int .i64 a2)).heap[gb243]? = some (.cells #[.int .i64 t238, .int .i64 t239, .int .i64 t240, .int .i64 t241] 23 (0, 0))) := ⟨by (with_reducible repeat (first | refine blk_drewN ?_ _ | refine blk_drew ?_ | refine blk_alloc ?_ _)); refine blk_far ?_ NB243_244.out _; (with_reducible repeat (first | refine blk_drewN ?_ _ | refine blk_drew ?_ | refine blk_alloc ?_ _)); refine blk_far ?_ NB243_244.out _; (with_reducible repeat (first | refine blk_drewN ?_ _ | refine blk_drew ?_ | refine blk_alloc ?_ _)); refine blk_far ?_ NB243_244.out _; (with_reducible repeat (first | refine blk_drewN ?_ _ | refine blk_drew ?_ | refine blk_alloc ?_ _)); refine blk_far ?_ NB243_244.out _; (with_reducible repeat (first | refine blk_drewN ?_ _ | refine blk_drew ?_ | refine blk_alloc ?_ _)); exact BK243.out⟩
          have n1_ : Aside0 (((((w38.setCell ⟨gb244, 0, none⟩ (.int .i64 t238)).setCell ⟨gb244, 1, none⟩ (.int .i64 t239)).setCell ⟨gb244, 2, none⟩ (.int .i64 a0)).setCell ⟨gb244, 3, none⟩ (.int .i64 a2)).heap[gb244]? = some (.cells #[.int .i64 t238, .int .i64 t239, .int .i64 a0, .int .i64 a2] 23 (0, 0))) := ⟨by (with_reducible repeat (first | refine blk_drewN ?_ _ | refine blk_drew ?_ | refine blk_alloc ?_ _)); refine blk_put (cs := #[.int .i64 t238, .int .i64 t239, .int .i64 a0, .int .i64 0]) ?_ 3 _ rfl; (with_reducible repeat (first | refine blk_drewN ?_ _ | refine blk_drew ?_ | refine blk_alloc ?_ _)); refine blk_put (cs := #[.int .i64 t238, .int .i64 t239, .int .i64 0, .int .i64 0]) ?_ 2 _ rfl; (with_reducible repeat (first | refine blk_drewN ?_ _ | refine blk_drew ?_ | refine blk_alloc ?_ _)); refine blk_put (cs := #[.int .i64 t238, .int .i64 0, .int .i64 0, .int .i64 0]) ?_ 1 _ rfl; (with_reducible repeat (first | refine blk_drewN ?_ _ | refine blk_drew ?_ | refine blk_alloc ?_ _)); refine blk_put (cs := #[.int .i64 0, .int .i64 0, .int .i64 0, .int .i64 0]) ?_ 0 _ rfl; (with_reducible repeat (first | refine blk_drewN ?_ _ | refine blk_drew ?_ | refine blk_alloc ?_ _)); exact BK244.out⟩
          have n2_ : Aside0 (Below w.heap.size w ((((w38.setCell ⟨gb244, 0, none⟩ (.int .i64 t238)).setCell ⟨gb244, 1, none⟩ (.int .i64 t239)).setCell ⟨gb244, 2, none⟩ (.int .i64 a0)).setCell ⟨gb244, 3, none⟩ (.int .i64 a2))) := ⟨by repeat (first | (with_reducible first | exact HB.out | apply below_alloc | apply pw_below_drewN | apply below_drew1 | refine below_set ?_ GE243.out | refine below_set ?_ GE244.out) | exact HB.out)⟩
          (try clear BK243)
          (try clear BK244)
          (try clear HB)
          generalize ((((w38.setCell ⟨gb244, 0, none⟩ (.int .i64 t238)).setCell ⟨gb244, 1, none⟩ (.int .i64 t239)).setCell ⟨gb244, 2, none⟩ (.int .i64 a0)).setCell ⟨gb244, 3, none⟩ (.int .i64 a2)) = w41 at n0_ n1_ n2_ ⊢
          have BK243 := n0_
          have BK244 := n1_
          have HB := n2_
          clear n0_ n1_ n2_
          have n0_ := Aside0.mk (blk_drew BK243.out)
          have n1_ := Aside0.mk (blk_drew BK244.out)
          have n2_ := Aside0.mk (below_drew1 HB.out)
          clear BK243
          clear BK244
          clear HB
          have BK243 := n0_
          have BK244 := n1_
          have HB := n2_
          clear n0_ n1_ n2_
          have p245 : 0 ≤ (a2 : Int) := of_decide_eq_true (by first | (with_reducible assumption) | assumption)
          have q245 : a2 < (l1.length : Int) := of_decide_eq_true (by first | (with_reducible assumption) | assumption)
          obtain ⟨ad245, e245, hx245_0, hx245_1, hx245_2, hx245_3, hx245_4, hx245_5, hx245_6⟩ := at_T73 HR1.out a2 p245 q245
          have hw245_6 := hx245_6
          have hw245_5 := hx245_5
          have hw245_4 := hx245_4
          have hw245_3 := hx245_3
          have hw245_2 := hx245_2
          have hw245_1 := hx245_1
          have hw245_0 := hx245_0
          cases e245
          replace hx245_0 := (HB.out.cell (World.block_lt_of_cell? w _ hx245_0)).trans hx245_0
          replace hx245_1 := (HB.out.cell (World.block_lt_of_cell? w _ hx245_1)).trans hx245_1
          replace hx245_2 := (HB.out.cell (World.block_lt_of_cell? w _ hx245_2)).trans hx245_2
          replace hx245_3 := (HB.out.cell (World.block_lt_of_cell? w _ hx245_3)).trans hx245_3
          replace hx245_4 := (HB.out.cell (World.block_lt_of_cell? w _ hx245_4)).trans hx245_4
          replace hx245_5 := (HB.out.cell (World.block_lt_of_cell? w _ hx245_5)).trans hx245_5
          replace hx245_6 := (HB.out.cell (World.block_lt_of_cell? w _ hx245_6)).trans hx245_6
          replace p245 := eq_true p245
          replace q245 := eq_true q245
          refine start_ (n := 16) (S := fun w' => w'.cell? (ad245.add ((a2).toNat * 7)) = some (.int .i64 ((rd_T73 l1 a2).f0.f0)) ∧ w'.cell? ⟨(ad245.add ((a2).toNat * 7)).block, (ad245.add ((a2).toNat * 7)).off + 1, none⟩ = some (.int .i64 ((rd_T73 l1 a2).f0.f1)) ∧ w'.cell? ⟨(ad245.add ((a2).toNat * 7)).block, (ad245.add ((a2).toNat * 7)).off + 2, none⟩ = some (.int .i64 ((rd_T73 l1 a2).f0.f2)) ∧ w'.cell? ⟨(ad245.add ((a2).toNat * 7)).block, (ad245.add ((a2).toNat * 7)).off + 3, none⟩ = some (.int .i64 ((rd_T73 l1 a2).f0.f3)) ∧ w'.cell? ⟨(ad245.add ((a2).toNat * 7)).block, (ad245.add ((a2).toNat * 7)).off + 4, none⟩ = some (.int .i64 ((rd_T73 l1 a2).f1)) ∧ w'.cell? ⟨(ad245.add ((a2).toNat * 7)).block, (ad245.add ((a2).toNat * 7)).off + 5, none⟩ = some (.int .i64 ((rd_T73 l1 a2).f2)) ∧ w'.cell? ⟨(ad245.add ((a2).toNat * 7)).block, (ad245.add ((a2).toNat * 7)).off + 6, none⟩ = some (.bool ((rd_T73 l1 a2).f3))) (ds := []) #[false, false, false, false, false, false, false, false, false, false, false, false, false, false, false, false] (by kernel_rfl) rfl rfl ⟨((HB.out.cell (World.block_lt_of_cell? w _ hw245_0)).trans hw245_0), ((HB.out.cell (World.block_lt_of_cell? w _ hw245_1)).trans hw245_1), ((HB.out.cell (World.block_lt_of_cell? w _ hw245_2)).trans hw245_2), ((HB.out.cell (World.block_lt_of_cell? w _ hw245_3)).trans hw245_3), ((HB.out.cell (World.block_lt_of_cell? w _ hw245_4)).trans hw245_4), ((HB.out.cell (World.block_lt_of_cell? w _ hw245_5)).trans hw245_5), ((HB.out.cell (World.block_lt_of_cell? w _ hw245_6)).trans hw245_6)⟩ (fun hHeld => ?_); refine with_tabW kissgateref10_Role.tab5 kissgateref10_Role.bits5 (fun HT_ HW_ => ?_)
          generalize w41.drew = w42 at BK243 BK244 HB hx245_0 hx245_1 hx245_2 hx245_3 hx245_4 hx245_5 hx245_6 hHeld ⊢
          refine pure_ (i := 0) (N := some 26) (v := ?_) (a' := ?_) #[true, false, false, false, false, false, false, false, false, false, false, false, false, false, false, false] rfl rfl (any_of HT_.out (by kernel_rfl)) (fun _ _ _ h => h) (Or.inl ⟨by rfl, ?_⟩) ?_ ?_
          rotate_left
          · intro w'
            go_simp
            with_reducible rfl
          rotate_left
          · simp only [Act.put, List.setIfInBounds_toArray, List.set_cons_zero, List.set_cons_succ, i64_w, i32_w]
            rfl
          refine pure_ (i := 1) (N := some 27) (v := ?_) (a' := ?_) #[true, true, false, false, false, false, false, false, false, false, false, false, false, false, false, false] rfl rfl (any_of HT_.out (by kernel_rfl)) (fun _ _ _ h => h) (Or.inl ⟨by rfl, ?_⟩) ?_ ?_
          rotate_left
          · intro w'
            go_simp
            with_reducible rfl
          rotate_left
          · simp only [Act.put, List.setIfInBounds_toArray, List.set_cons_zero, List.set_cons_succ, i64_w, i32_w]
            rfl
          refine pure_ (i := 2) (N := some 28) (v := ?_) (a' := ?_) #[true, true, true, false, false, false, false, false, false, false, false, false, false, false, false, false] rfl rfl (any_of HT_.out (by kernel_rfl)) (fun _ _ _ h => h) (Or.inl ⟨by rfl, ?_⟩) ?_ ?_
          rotate_left
          · intro w'
            go_simp
            with_reducible rfl
          rotate_left
          · simp only [Act.put, List.setIfInBounds_toArray, List.set_cons_zero, List.set_cons_succ, i64_w, i32_w]
            rfl
          refine pure_ (i := 4) (N := some 30) (v := ?_) (a' := ?_) #[true, true, true, false, true, false, false, false, false, false, false, false, false, false, false, false] rfl rfl (any_of HT_.out (by kernel_rfl)) (fun _ _ _ h => h) (Or.inl ⟨by rfl, ?_⟩) ?_ ?_
          rotate_left
          · intro w'
            go_simp
            with_reducible rfl
          rotate_left
          · simp only [Act.put, List.setIfInBounds_toArray, List.set_cons_zero, List.set_cons_succ, i64_w, i32_w]
            rfl
          refine take_ (i := 3) (N := some 29) (v := ?_) (a' := ?_) #[true, true, true, true, true, false, false, false, false, false, false, false, false, false, false, false] rfl rfl (take_ofW HT_.out HW_.out (by kernel_rfl)) (fun _ _ _ h => h) (Or.inl ⟨by rfl, ?_⟩) hHeld ?_ ?_
          rotate_left
          · rintro w' ⟨s0, s1, s2, s3, s4, s5, s6⟩
            go_simp
            with_reducible rfl
          rotate_left
          · simp only [Act.put, List.setIfInBounds_toArray, List.set_cons_zero, List.set_cons_succ, i64_w, i32_w]
            rfl
          refine one_ (i := 5) (N := some 31) #[true, true, true, true, true, true, false, false, false, false, false, false, false, false, false, false] rfl rfl (one_of HT_.out (by kernel_rfl)) (by decide) (fun K hK => ?_)
          refine goes_ Try.func35 (by kernel_rfl) rfl #[.agg #[.int .i64 ((rd_T73 l1 a2).f0.f0), .int .i64 ((rd_T73 l1 a2).f0.f1), .int .i64 ((rd_T73 l1 a2).f0.f2), .int .i64 ((rd_T73 l1 a2).f0.f3), .int .i64 ((rd_T73 l1 a2).f1), .int .i64 ((rd_T73 l1 a2).f2), .bool ((rd_T73 l1 a2).f3)], .int .i64 a0] (by rfl) rfl rfl (by (try simp only [List.map_toArray, List.map_cons, List.map_nil]); first | done | rfl | (simp only [List.length_drop, List.length_take]; rfl)) ?_
          with_reducible refine (kissgateref10_Use.calls ((rd_T73 l1 a2).f0.f0) ((rd_T73 l1 a2).f0.f1) ((rd_T73 l1 a2).f0.f2) ((rd_T73 l1 a2).f0.f3) ((rd_T73 l1 a2).f1) ((rd_T73 l1 a2).f2) ((rd_T73 l1 a2).f3) a0 false _ A11.out).mono ?_
          rintro e w43 ⟨rfl, hb⟩
          refine ⟨_, rfl, ?_⟩
          have n0_ := Aside0.mk (blk_below (g := gb243) (o := .cells #[.int .i64 t238, .int .i64 t239, .int .i64 t240, .int .i64 t241] 23 (0, 0)) (by (with_reducible repeat (first | refine blk_drewN ?_ _ | refine blk_drew ?_ | refine blk_alloc ?_ _)); exact BK243.out) hb)
          have n1_ := Aside0.mk (blk_below (g := gb244) (o := .cells #[.int .i64 t238, .int .i64 t239, .int .i64 a0, .int .i64 a2] 23 (0, 0)) (by (with_reducible repeat (first | refine blk_drewN ?_ _ | refine blk_drew ?_ | refine blk_alloc ?_ _)); exact BK244.out) hb)
          have n2_ := Aside0.mk (below_step (by repeat (first | (with_reducible first | exact HB.out | apply below_alloc | apply pw_below_drewN | apply below_drew1 | refine below_set ?_ GE243.out | refine below_set ?_ GE244.out) | exact HB.out)) hb)
          clear BK243
          clear BK244
          clear HB
          have BK243 := n0_
          have BK244 := n1_
          have HB := n2_
          clear n0_ n1_ n2_
          (try clear hb)
          (try clear hb2)
          (try clear hk)
          (try clear hi)
          refine hK.out _ _ ⟨((HB.out.cell (World.block_lt_of_cell? w _ hw245_0)).trans hw245_0), ((HB.out.cell (World.block_lt_of_cell? w _ hw245_1)).trans hw245_1), ((HB.out.cell (World.block_lt_of_cell? w _ hw245_2)).trans hw245_2), ((HB.out.cell (World.block_lt_of_cell? w _ hw245_3)).trans hw245_3), ((HB.out.cell (World.block_lt_of_cell? w _ hw245_4)).trans hw245_4), ((HB.out.cell (World.block_lt_of_cell? w _ hw245_5)).trans hw245_5), ((HB.out.cell (World.block_lt_of_cell? w _ hw245_6)).trans hw245_6)⟩ (fun hHeld => ?_)
          clear hK K
          refine norm_ (a' := ?_) ?_ ?_
          rotate_left
          · show Act.put _ (some 31) _ = _
            simp only [Act.put, List.setIfInBounds_toArray, List.set_cons_zero, List.set_cons_succ, i64_w, i32_w]
            rfl
          refine pure_ (i := 6) (N := some 32) (v := ?_) (a' := ?_) #[true, true, true, true, true, true, true, false, false, false, false, false, false, false, false, false] rfl rfl (any_of HT_.out (by kernel_rfl)) (fun _ _ _ h => h) (Or.inl ⟨by rfl, ?_⟩) ?_ ?_
          rotate_left
          · intro w'
            go_simp
            with_reducible rfl
          rotate_left
          · simp only [Act.put, List.setIfInBounds_toArray, List.set_cons_zero, List.set_cons_succ, i64_w, i32_w]
            rfl
          refine pure_ (i := 7) (N := some 33) (v := ?_) (a' := ?_) #[true, true, true, true, true, true, true, true, false, false, false, false, false, false, false, false] rfl rfl (any_of HT_.out (by kernel_rfl)) (fun _ _ _ h => h) (Or.inl ⟨by rfl, ?_⟩) ?_ ?_
          rotate_left
          · intro w'
            go_simp
            with_reducible rfl
          rotate_left
          · simp only [Act.put, List.setIfInBounds_toArray, List.set_cons_zero, List.set_cons_succ, i64_w, i32_w]
            rfl
          refine pure_ (i := 8) (N := some 34) (v := undef) (a' := ?_) #[true, true, true, true, true, true, true, true, true, false, false, false, false, false, false, false] rfl rfl (any_of HT_.out (by kernel_rfl)) (fun _ _ _ h => h) (Or.inr ⟨by rfl, rfl⟩) ?_ ?_
          rotate_left
          · simp only [Act.put, List.setIfInBounds_toArray, List.set_cons_zero, List.set_cons_succ, i64_w, i32_w]
            rfl
          refine pure_ (i := 9) (N := some 35) (v := undef) (a' := ?_) #[true, true, true, true, true, true, true, true, true, true, false, false, false, false, false, false] rfl rfl (any_of HT_.out (by kernel_rfl)) (fun _ _ _ h => h) (Or.inr ⟨by rfl, rfl⟩) ?_ ?_
          rotate_left
          · simp only [Act.put, List.setIfInBounds_toArray, List.set_cons_zero, List.set_cons_succ, i64_w, i32_w]
            rfl
          refine pure_ (i := 10) (N := some 36) (v := undef) (a' := ?_) #[true, true, true, true, true, true, true, true, true, true, true, false, false, false, false, false] rfl rfl (any_of HT_.out (by kernel_rfl)) (fun _ _ _ h => h) (Or.inr ⟨by rfl, rfl⟩) ?_ ?_
          rotate_left
          · simp only [Act.put, List.setIfInBounds_toArray, List.set_cons_zero, List.set_cons_succ, i64_w, i32_w]
            rfl
          refine pure_ (i := 11) (N := some 37) (v := undef) (a' := ?_) #[true, true, true, true, true, true, true, true, true, true, true, true, false, false, false, false] rfl rfl (any_of HT_.out (by kernel_rfl)) (fun _ _ _ h => h) (Or.inr ⟨by rfl, rfl⟩) ?_ ?_
          rotate_left
          · simp only [Act.put, List.setIfInBounds_toArray, List.set_cons_zero, List.set_cons_succ, i64_w, i32_w]
            rfl
          refine pure_ (i := 12) (N := some 38) (v := undef) (a' := ?_) #[true, true, true, true, true, true, true, true, true, true, true, true, true, false, false, false] rfl rfl (any_of HT_.out (by kernel_rfl)) (fun _ _ _ h => h) (Or.inr ⟨by rfl, rfl⟩) ?_ ?_
          rotate_left
          · simp only [Act.put, List.setIfInBounds_toArray, List.set_cons_zero, List.set_cons_succ, i64_w, i32_w]
            rfl
          refine pure_ (i := 13) (N := some 39) (v := undef) (a' := ?_) #[true, true, true, true, true, true, true, true, true, true, true, true, true, true, false, false] rfl rfl (any_of HT_.out (by kernel_rfl)) (fun _ _ _ h => h) (Or.inr ⟨by rfl, rfl⟩) ?_ ?_
          rotate_left
          · simp only [Act.put, List.setIfInBounds_toArray, List.set_cons_zero, List.set_cons_succ, i64_w, i32_w]
            rfl
          refine pure_ (i := 14) (N := some 40) (v := undef) (a' := ?_) #[true, true, true, true, true, true, true, true, true, true, true, true, true, true, true, false] rfl rfl (any_of HT_.out (by kernel_rfl)) (fun _ _ _ h => h) (Or.inr ⟨by rfl, rfl⟩) ?_ ?_
          rotate_left
          · simp only [Act.put, List.setIfInBounds_toArray, List.set_cons_zero, List.set_cons_succ, i64_w, i32_w]
            rfl
          refine pure_ (i := 15) (N := some 41) (v := ?_) (a' := ?_) #[true, true, true, true, true, true, true, true, true, true, true, true, true, true, true, true] rfl rfl (any_of HT_.out (by kernel_rfl)) (fun _ _ _ h => h) (Or.inl ⟨by rfl, ?_⟩) ?_ ?_
          rotate_left
          · intro w'
            go_simp
            with_reducible rfl
          rotate_left
          · simp only [Act.put, List.setIfInBounds_toArray, List.set_cons_zero, List.set_cons_succ, i64_w, i32_w]
            rfl
          refine done_ (done_of HT_.out (by kernel_rfl)) ?_
          try go_wp2
          go_ret
          exact ⟨by first | rfl | (simp [errW_none, errW_some] <;> rfl) | (simp [*, errW_none, errW_some] <;> rfl), by repeat (first | (with_reducible first | exact HB.out | apply below_alloc | apply pw_below_drewN | apply below_drew1 | refine below_set ?_ GE243.out | refine below_set ?_ GE244.out) | exact HB.out)⟩
      · rw [if_neg c10] at H
        exact absurd H (by simp)
    · rw [if_neg c9] at H
      exact absurd H (by simp)
end Go.Proofs.Ytjhkbmdblfdlnaa.QPrio
namespace Go.Proofs.Ytjhkbmdblfdlnaa.QPrio
open Go.RowKit Go.Proofs.YtjhkbmdblfdlnaaW.PrintWords Go.Proofs.YtjhkbmdblfdlnaaW.PrintLast Go.Proofs.YtjhkbmdblfdlnaaW.PrintMore
attribute [local go_sem] max2_int min2_int max_two min_two max_three min_three max_four min_four
set_option linter.unusedVariables false
set_option linter.unusedSimpArgs false
attribute [local go_sem high] eqA23
mutual
def kissgatelaw10_PrioRoles.j0 : Nat → Int → List Int → Int → List (S73) → Bool → Int → Int → Int → Int → Option (Bool)
  | 0, _, _, _, _, _, _, _, _, _ => none
  | k + 1, x0, x5, x7, x8, x48, x259000, x259001, x259002, x259003 => if x48 = true then (some false) else (kissgatelaw10_PrioRoles.l0 k x0 x7 x8 0 x5 (x5.length : Int) 0 x259000 x259001 x259002 x259003)
def kissgatelaw10_PrioRoles.l0 : Nat → Int → Int → List (S73) → Int → List Int → Int → Int → Int → Int → Int → Int → Option (Bool)
  | 0, _, _, _, _, _, _, _, _, _, _, _ => none
  | k + 1, x0, x7, x8, x11, x49, x50, x51, x259000, x259001, x259002, x259003 => if x51 < x50 then (if 0 ≤ x51 then (if x51 < (x49.length : Int) then ((kissgateref10_Role.f k x0 x8 x51).bind fun t269 => (if (rd x49 x51) = t269 then (if (rd x49 x51) = 1 then (kissgatelaw10_PrioRoles.l0 k x0 x7 x8 (wrap64 (x11 + 1)) x49 x50 (wrap64 (x51 + 1)) x259000 x259001 x259002 x259003) else (kissgatelaw10_PrioRoles.l0 k x0 x7 x8 x11 x49 x50 (wrap64 (x51 + 1)) x259000 x259001 x259002 x259003)) else (some false))) else (none)) else (none)) else (if x11 ≤ 1 then (if x259000 = x0 then (some ((x11 == 0) == (x7 == (-1)))) else (some ((x11 == 0) == false))) else (some false))
end
def kissgatelaw10_PrioRoles.f (k : Nat) (a0 : Int) (l1 : List (S45)) : Option (Bool) := (kissgatelaw10_alive.f k).bind fun t249 => (if t249 = true then (if (l1.length : Int) > 20 then (some true) else ((prio_Roles.f k a0 l1).bind fun bt250 => ((kissgatelaw10_plain.f k l1).bind fun t259 => ((kissgateref10_Best.f k a0 t259).bind fun bt262 => (if (bt250.1.length : Int) = (l1.length : Int) then (if (!(bt250.2.1 == bt262.1) || (!(bt250.2.2.1 == bt262.2.1) || (!(bt250.2.2.2.1 == bt262.2.2.1) || (!(bt250.2.2.2.2.1 == bt262.2.2.2.1))))) = true then (kissgatelaw10_PrioRoles.j0 k a0 bt250.1 bt250.2.2.2.2.2 t259 true bt250.2.1 bt250.2.2.1 bt250.2.2.2.1 bt250.2.2.2.2.1) else (kissgatelaw10_PrioRoles.j0 k a0 bt250.1 bt250.2.2.2.2.2 t259 (bt250.2.2.2.2.2 != bt262.2.2.2.2) bt250.2.1 bt250.2.2.1 bt250.2.2.2.1 bt250.2.2.2.2.1)) else (kissgatelaw10_PrioRoles.j0 k a0 bt250.1 bt250.2.2.2.2.2 t259 true bt250.2.1 bt250.2.2.1 bt250.2.2.2.1 bt250.2.2.2.2.1)))))) else (some false))
set_option maxHeartbeats 8000000 in
set_option maxRecDepth 100000 in
theorem kissgatelaw10_PrioRoles.calls (k : Nat) (a0 : Int) (A1 : Option Addr) (c1 : Nat) (l1 : List (S45)) (r : Bool) (w : World) (hr1 : Kd.C k45 w A1 l1.length l1) (hc1 : l1.length ≤ c1) (h : kissgatelaw10_PrioRoles.f k a0 l1 = some r) :
    Calls Try.prog 6 #[.int .i64 a0, .slice A1 l1.length c1] w fun e w' => e = .returned (.bool r) ∧ Below w.heap.size w w' := by
  have hu23 := Try.underlying23
  have HR1 := Aside0.mk hr1
  have HC1 := Aside0.mk hc1
  clear hr1 hc1
  have HB := Aside0.mk (Below.refl w.heap.size w)
  have H : ((kissgatelaw10_alive.f k).bind fun t249 => (if t249 = true then (if (l1.length : Int) > 20 then (some true) else ((prio_Roles.f k a0 l1).bind fun bt250 => ((kissgatelaw10_plain.f k l1).bind fun t259 => ((kissgateref10_Best.f k a0 t259).bind fun bt262 => (if (bt250.1.length : Int) = (l1.length : Int) then (if (!(bt250.2.1 == bt262.1) || (!(bt250.2.2.1 == bt262.2.1) || (!(bt250.2.2.2.1 == bt262.2.2.1) || (!(bt250.2.2.2.2.1 == bt262.2.2.2.1))))) = true then (kissgatelaw10_PrioRoles.j0 k a0 bt250.1 bt250.2.2.2.2.2 t259 true bt250.2.1 bt250.2.2.1 bt250.2.2.2.1 bt250.2.2.2.2.1) else (kissgatelaw10_PrioRoles.j0 k a0 bt250.1 bt250.2.2.2.2.2 t259 (bt250.2.2.2.2.2 != bt262.2.2.2.2) bt250.2.1 bt250.2.2.1 bt250.2.2.2.1 bt250.2.2.2.2.1)) else (kissgatelaw10_PrioRoles.j0 k a0 bt250.1 bt250.2.2.2.2.2 t259 true bt250.2.1 bt250.2.2.1 bt250.2.2.2.1 bt250.2.2.2.2.1)))))) else (some false))) = some r := h
  clear h
  replace H := Option.bind_eq_some_iff.mp H
  obtain ⟨t249, A30, H⟩ := H
  replace H : (if t249 = true then (if (l1.length : Int) > 20 then (some true) else ((prio_Roles.f k a0 l1).bind fun bt250 => ((kissgatelaw10_plain.f k l1).bind fun t259 => ((kissgateref10_Best.f k a0 t259).bind fun bt262 => (if (bt250.1.length : Int) = (l1.length : Int) then (if (!(bt250.2.1 == bt262.1) || (!(bt250.2.2.1 == bt262.2.1) || (!(bt250.2.2.2.1 == bt262.2.2.1) || (!(bt250.2.2.2.2.1 == bt262.2.2.2.1))))) = true then (kissgatelaw10_PrioRoles.j0 k a0 bt250.1 bt250.2.2.2.2.2 t259 true bt250.2.1 bt250.2.2.1 bt250.2.2.2.1 bt250.2.2.2.2.1) else (kissgatelaw10_PrioRoles.j0 k a0 bt250.1 bt250.2.2.2.2.2 t259 (bt250.2.2.2.2.2 != bt262.2.2.2.2) bt250.2.1 bt250.2.2.1 bt250.2.2.2.1 bt250.2.2.2.2.1)) else (kissgatelaw10_PrioRoles.j0 k a0 bt250.1 bt250.2.2.2.2.2 t259 true bt250.2.1 bt250.2.2.1 bt250.2.2.2.1 bt250.2.2.2.2.1)))))) else (some false)) = some r := H
  have A3 := Aside0.mk A30
  clear A30
  by_cases c4 : t249 = true
  · subst c4
    have H1 : (if (l1.length : Int) > 20 then (some true) else ((prio_Roles.f k a0 l1).bind fun bt250 => ((kissgatelaw10_plain.f k l1).bind fun t259 => ((kissgateref10_Best.f k a0 t259).bind fun bt262 => (if (bt250.1.length : Int) = (l1.length : Int) then (if (!(bt250.2.1 == bt262.1) || (!(bt250.2.2.1 == bt262.2.1) || (!(bt250.2.2.2.1 == bt262.2.2.1) || (!(bt250.2.2.2.2.1 == bt262.2.2.2.1))))) = true then (kissgatelaw10_PrioRoles.j0 k a0 bt250.1 bt250.2.2.2.2.2 t259 true bt250.2.1 bt250.2.2.1 bt250.2.2.2.1 bt250.2.2.2.2.1) else (kissgatelaw10_PrioRoles.j0 k a0 bt250.1 bt250.2.2.2.2.2 t259 (bt250.2.2.2.2.2 != bt262.2.2.2.2) bt250.2.1 bt250.2.2.1 bt250.2.2.2.1 bt250.2.2.2.2.1)) else (kissgatelaw10_PrioRoles.j0 k a0 bt250.1 bt250.2.2.2.2.2 t259 true bt250.2.1 bt250.2.2.1 bt250.2.2.2.1 bt250.2.2.2.2.1)))))) = some r := by rw [if_pos rfl] at H; exact H
    clear H
    have H := H1
    clear H1
    by_cases c5 : (l1.length : Int) > 20
    · rw [if_pos c5] at H
      have c5b0 : decide (20 < (l1.length : Int)) = true := decide_eq_true c5
      have c5b1 : decide (20 < l1.length) = true := decide_eq_true (by omega)
      clear c5
      obtain rfl := Option.some.inj H
      go_enter Try.func6, Try.ntmps6
      go_wp2_with (first | ((with_reducible refine gate_callee (f := 12) rfl ?_); refine goesL_ (some 14) rfl rfl Try.func12 (by kernel_rfl) rfl #[] rfl (by (try simp only [List.map_toArray, List.map_cons, List.map_nil]); first | done | rfl | (simp only [List.length_drop, List.length_take]; rfl)) ?_; (with_reducible refine (kissgatelaw10_alive.calls k  true _ A3.out).mono ?_); rintro e w6 ⟨rfl, hb⟩; refine ⟨_, rfl, ?_⟩; have n0_ := Aside0.mk (below_step (by repeat (first | (with_reducible first | exact HB.out | apply below_alloc | apply pw_below_drewN | apply below_drew1) | exact HB.out)) hb); clear HB; have HB := n0_; clear n0_; (try clear hb); (try clear hb2); (try clear hk); (try clear hi)))
      go_ret
      exact ⟨by first | rfl | (simp [errW_none, errW_some] <;> rfl) | (simp [*, errW_none, errW_some] <;> rfl), by repeat (first | (with_reducible first | exact HB.out | apply below_alloc | apply pw_below_drewN | apply below_drew1) | exact HB.out)⟩
    · rw [if_neg c5] at H
      have c5b0 : decide (20 < (l1.length : Int)) = false := decide_eq_false c5
      have c5b1 : decide (20 < l1.length) = false := decide_eq_false (by omega)
      clear c5
      replace H := Option.bind_eq_some_iff.mp H
      obtain ⟨⟨t250, t253, t254, t255, t256, t257⟩, A70, H⟩ := H
      replace H : ((kissgatelaw10_plain.f k l1).bind fun t259 => ((kissgateref10_Best.f k a0 t259).bind fun bt262 => (if (t250.length : Int) = (l1.length : Int) then (if (!(t253 == bt262.1) || (!(t254 == bt262.2.1) || (!(t255 == bt262.2.2.1) || (!(t256 == bt262.2.2.2.1))))) = true then (kissgatelaw10_PrioRoles.j0 k a0 t250 t257 t259 true t253 t254 t255 t256) else (kissgatelaw10_PrioRoles.j0 k a0 t250 t257 t259 (t257 != bt262.2.2.2.2) t253 t254 t255 t256)) else (kissgatelaw10_PrioRoles.j0 k a0 t250 t257 t259 true t253 t254 t255 t256)))) = some r := H
      have A7 := Aside0.mk A70
      clear A70
      replace H := Option.bind_eq_some_iff.mp H
      obtain ⟨t259, A80, H⟩ := H
      replace H : ((kissgateref10_Best.f k a0 t259).bind fun bt262 => (if (t250.length : Int) = (l1.length : Int) then (if (!(t253 == bt262.1) || (!(t254 == bt262.2.1) || (!(t255 == bt262.2.2.1) || (!(t256 == bt262.2.2.2.1))))) = true then (kissgatelaw10_PrioRoles.j0 k a0 t250 t257 t259 true t253 t254 t255 t256) else (kissgatelaw10_PrioRoles.j0 k a0 t250 t257 t259 (t257 != bt262.2.2.2.2) t253 t254 t255 t256)) else (kissgatelaw10_PrioRoles.j0 k a0 t250 t257 t259 true t253 t254 t255 t256))) = some r := H
      have A8 := Aside0.mk A80
      clear A80
      replace H := Option.bind_eq_some_iff.mp H
      obtain ⟨⟨t262, t263, t264, t265, t266⟩, A90, H⟩ := H
      replace H : (if (t250.length : Int) = (l1.length : Int) then (if (!(t253 == t262) || (!(t254 == t263) || (!(t255 == t264) || (!(t256 == t265))))) = true then (kissgatelaw10_PrioRoles.j0 k a0 t250 t257 t259 true t253 t254 t255 t256) else (kissgatelaw10_PrioRoles.j0 k a0 t250 t257 t259 (t257 != t266) t253 t254 t255 t256)) else (kissgatelaw10_PrioRoles.j0 k a0 t250 t257 t259 true t253 t254 t255 t256)) = some r := H
      have A9 := Aside0.mk A90
      clear A90
      have HC10 := Aside0.mk H
      clear H
      go_enter Try.func6, Try.ntmps6
      go_upto_region 8 with (first | ((with_reducible refine gate_callee (f := 12) rfl ?_); refine goesL_ (some 14) rfl rfl Try.func12 (by kernel_rfl) rfl #[] rfl (by (try simp only [List.map_toArray, List.map_cons, List.map_nil]); first | done | rfl | (simp only [List.length_drop, List.length_take]; rfl)) ?_; (with_reducible refine (kissgatelaw10_alive.calls k  true _ A3.out).mono ?_); rintro e w11 ⟨rfl, hb⟩; refine ⟨_, rfl, ?_⟩; have n0_ := Aside0.mk (below_step (by repeat (first | (with_reducible first | exact HB.out | apply below_alloc | apply pw_below_drewN | apply below_drew1) | exact HB.out)) hb); clear HB; have HB := n0_; clear n0_; (try clear hb); (try clear hb2); (try clear hk); (try clear hi)) | ((with_reducible refine gate_callee (f := 23) rfl ?_); refine goesL_ (some 22) rfl rfl Try.func23 (by kernel_rfl) rfl #[.int .i64 a0, .slice A1 l1.length c1] rfl (by (try simp only [List.map_toArray, List.map_cons, List.map_nil]); first | done | rfl | (simp only [List.length_drop, List.length_take]; rfl)) ?_; (with_reducible refine (prio_Roles.calls k a0 _ _ l1 t250 t253 t254 t255 t256 t257 _ ?side1 ?side2 A7.out).mono ?_); (case side1 => repeat (first | exact (Kd.C_below HR1.out HB.out) | (with_reducible refine Kd.C_alloc ?_ _) | (with_reducible refine Kd.C_drewN ?_ _) | (with_reducible refine Kd.C_drew ?_))); (case side2 => exact HC1.out); rintro e w12 ⟨v251, rfl, ho0, hb⟩; refine ⟨_, rfl, ?_⟩; have n0_ := Aside0.mk (Kd.R_lower ho0 (below_size (by repeat (first | (with_reducible first | exact HB.out | apply below_alloc | apply pw_below_drewN | apply below_drew1) | exact HB.out)))); have n1_ := Aside0.mk (below_step (by repeat (first | (with_reducible first | exact HB.out | apply below_alloc | apply pw_below_drewN | apply below_drew1) | exact HB.out)) hb); clear HB; have HO252 := n0_; have HB := n1_; clear n0_ n1_; (try clear hb); (try clear hb2); (try clear hk); (try clear hi); (try clear ho0)) | ((with_reducible refine gate_dst (N := 6) rfl ?_); refine box_event ?hg (N := 6) ?hd (cs := #[.int .i64 0, .int .i64 0, .int .i64 0, .int .i64 0]) (t := 23) ?hr ?_; (case hd => rfl); (case hg => rfl); (case hr => first | (go_simp; done) | (go_simp; rfl)); intro gb258 hg w13 hbox hb; have n0_ := Aside0.mk (Kd.R_below (by (with_reducible repeat (first | apply Kd.R_alloc | apply Kd.R_drewN | apply Kd.R_drew)); exact HO252.out) hb); have n1_ := Aside0.mk (below_step (by repeat (first | (with_reducible first | exact HB.out | apply below_alloc | apply pw_below_drewN | apply below_drew1) | exact HB.out)) hb); have n2_ := Aside0.mk (hbox); have n3_ := Aside0.mk ((by rw [hg]; exact (below_size (by repeat (first | (with_reducible first | exact HB.out | apply below_alloc | apply pw_below_drewN | apply below_drew1) | exact HB.out))) : w.heap.size ≤ gb258)); have n4_ := Aside0.mk ((by rw [hg]; exact (below_size (by repeat (first | (with_reducible first | exact HB.out | apply below_alloc | apply pw_below_drewN | apply below_drew1) | exact HB.out))) : w.heap.size ≤ gb258)); clear HO252; clear HB; have HO252 := n0_; have HB := n1_; have BK258 := n2_; have GW258 := n3_; have GE258 := n4_; clear n0_ n1_ n2_ n3_ n4_; clear hb hbox hg; have hcz14_0 : w13.cell? ⟨gb258, 0, none⟩ = some (.int .i64 0) := (blk_cell BK258.out 0).trans rfl; have hcz14_1 : w13.cell? ⟨gb258, 1, none⟩ = some (.int .i64 0) := (blk_cell BK258.out 1).trans rfl; have hcz14_2 : w13.cell? ⟨gb258, 2, none⟩ = some (.int .i64 0) := (blk_cell BK258.out 2).trans rfl; have hcz14_3 : w13.cell? ⟨gb258, 3, none⟩ = some (.int .i64 0) := (blk_cell BK258.out 3).trans rfl; have hfz14_0 := blk_frozen BK258.out 0; have hfz14_1 := blk_frozen BK258.out 1; have hfz14_2 := blk_frozen BK258.out 2; have hfz14_3 := blk_frozen BK258.out 3) | ((with_reducible refine gate_callee (f := 18) rfl ?_); refine goesL_ (some 27) rfl rfl Try.func18 (by kernel_rfl) rfl #[.slice A1 l1.length c1] rfl (by (try simp only [List.map_toArray, List.map_cons, List.map_nil]); first | done | rfl | (simp only [List.length_drop, List.length_take]; rfl)) ?_; (with_reducible refine (kissgatelaw10_plain.calls k _ _ l1 t259 _ ?side1 ?side2 A8.out).mono ?_); (case side1 => exact Kd.C_below HR1.out (by repeat (first | (with_reducible first | exact HB.out | apply below_alloc | apply pw_below_drewN | apply below_drew1 | refine below_set ?_ GE258.out) | exact HB.out))); (case side2 => exact HC1.out); rintro e w15 ⟨v260, rfl, ho0, hb⟩; refine ⟨_, rfl, ?_⟩; have n0_ := Aside0.mk (Kd.R_below (by (with_reducible repeat (first | apply Kd.R_alloc | apply Kd.R_drewN | apply Kd.R_drew)); exact (Kd.R_mono (Kd.R_far (p := ⟨gb258, 3, none⟩) (Kd.R_far (p := ⟨gb258, 2, none⟩) (Kd.R_far (p := ⟨gb258, 1, none⟩) (Kd.R_far (p := ⟨gb258, 0, none⟩) (Kd.R_types HO252.out BK258.out (by decide)) (fun _ hk => hk.2) (.int .i64 t253)) (fun _ hk => hk.2) (.int .i64 t254)) (fun _ hk => hk.2) (.int .i64 t255)) (fun _ hk => hk.2) (.int .i64 t256)) (fun _ h_ => h_.1))) hb); have n1_ := Aside0.mk (Kd.R_lower ho0 (below_size (by repeat (first | (with_reducible first | exact HB.out | apply below_alloc | apply pw_below_drewN | apply below_drew1 | refine below_set ?_ GE258.out) | exact HB.out)))); have n2_ := Aside0.mk (blk_below (g := gb258) (o := .cells #[.int .i64 t253, .int .i64 t254, .int .i64 t255, .int .i64 t256] 23 (0, 0)) (by (with_reducible repeat (first | refine blk_drewN ?_ _ | refine blk_drew ?_ | refine blk_alloc ?_ _)); refine blk_put (cs := #[.int .i64 t253, .int .i64 t254, .int .i64 t255, .int .i64 0]) ?_ 3 _ rfl; (with_reducible repeat (first | refine blk_drewN ?_ _ | refine blk_drew ?_ | refine blk_alloc ?_ _)); refine blk_put (cs := #[.int .i64 t253, .int .i64 t254, .int .i64 0, .int .i64 0]) ?_ 2 _ rfl; (with_reducible repeat (first | refine blk_drewN ?_ _ | refine blk_drew ?_ | refine blk_alloc ?_ _)); refine blk_put (cs := #[.int .i64 t253, .int .i64 0, .int .i64 0, .int .i64 0]) ?_ 1 _ rfl; (with_reducible repeat (first | refine blk_drewN ?_ _ | refine blk_drew ?_ | refine blk_alloc ?_ _)); refine blk_put (cs := #[.int .i64 0, .int .i64 0, .int .i64 0, .int .i64 0]) ?_ 0 _ rfl; (with_reducible repeat (first | refine blk_drewN ?_ _ | refine blk_drew ?_ | refine blk_alloc ?_ _)); exact BK258.out) hb); have n3_ := Aside0.mk (below_step (by repeat (first | (with_reducible first | exact HB.out | apply below_alloc | apply pw_below_drewN | apply below_drew1 | refine below_set ?_ GE258.out) | exact HB.out)) hb); clear HO252; clear BK258; clear HB; have HO252 := n0_; have HO261 := n1_; have BK258 := n2_; have HB := n3_; clear n0_ n1_ n2_ n3_; (try clear hb); (try clear hb2); (try clear hk); (try clear hi); (try clear ho0); obtain ⟨Ao16, co16, eo16⟩ := Kd.R_slice HO261.out; subst eo16) | ((with_reducible refine gate_callee (f := 17) rfl ?_); refine goesL_ (some 31) rfl rfl Try.func17 (by kernel_rfl) rfl #[.int .i64 a0, .slice Ao16 t259.length co16] rfl (by (try simp only [List.map_toArray, List.map_cons, List.map_nil]); first | done | rfl | (simp only [List.length_drop, List.length_take]; rfl)) ?_; (with_reducible refine (kissgateref10_Best.calls k a0 _ _ t259 t262 t263 t264 t265 t266 _ ?side1 ?side2 A9.out).mono ?_); (case side1 => repeat (first | exact (Kd.R_reads' HO261.out).2.2 | (with_reducible refine Kd.C_alloc ?_ _) | (with_reducible refine Kd.C_drewN ?_ _) | (with_reducible refine Kd.C_drew ?_))); (case side2 => exact (Kd.R_reads' HO261.out).2.1); rintro e w17 ⟨rfl, hb⟩; refine ⟨_, rfl, ?_⟩; have n0_ := Aside0.mk (Kd.R_below (by (with_reducible repeat (first | apply Kd.R_alloc | apply Kd.R_drewN | apply Kd.R_drew)); exact HO252.out) hb); have n1_ := Aside0.mk (Kd.R_below (by (with_reducible repeat (first | apply Kd.R_alloc | apply Kd.R_drewN | apply Kd.R_drew)); exact HO261.out) hb); have n2_ := Aside0.mk (blk_below (g := gb258) (o := .cells #[.int .i64 t253, .int .i64 t254, .int .i64 t255, .int .i64 t256] 23 (0, 0)) (by (with_reducible repeat (first | refine blk_drewN ?_ _ | refine blk_drew ?_ | refine blk_alloc ?_ _)); exact BK258.out) hb); have n3_ := Aside0.mk (below_step (by repeat (first | (with_reducible first | exact HB.out | apply below_alloc | apply pw_below_drewN | apply below_drew1 | refine below_set ?_ GE258.out) | exact HB.out)) hb); clear HO252; clear HO261; clear BK258; clear HB; have HO252 := n0_; have HO261 := n1_; have BK258 := n2_; have HB := n3_; clear n0_ n1_ n2_ n3_; (try clear hb); (try clear hb2); (try clear hk); (try clear hi)) | ((with_reducible refine gate_dst (N := 9) rfl ?_); refine box_event ?hg (N := 9) ?hd (cs := #[.int .i64 0, .int .i64 0, .int .i64 0, .int .i64 0]) (t := 23) ?hr ?_; (case hd => rfl); (case hg => rfl); (case hr => first | (go_simp; done) | (go_simp; rfl)); intro gb267 hg w18 hbox hb; have n0_ := Aside0.mk (Kd.R_below (by (with_reducible repeat (first | apply Kd.R_alloc | apply Kd.R_drewN | apply Kd.R_drew)); exact HO252.out) hb); have n1_ := Aside0.mk (Kd.R_below (by (with_reducible repeat (first | apply Kd.R_alloc | apply Kd.R_drewN | apply Kd.R_drew)); exact HO261.out) hb); have n2_ := Aside0.mk (blk_below (g := gb258) (o := .cells #[.int .i64 t253, .int .i64 t254, .int .i64 t255, .int .i64 t256] 23 (0, 0)) (by (with_reducible repeat (first | refine blk_drewN ?_ _ | refine blk_drew ?_ | refine blk_alloc ?_ _)); exact BK258.out) hb); have n3_ := Aside0.mk (below_step (by repeat (first | (with_reducible first | exact HB.out | apply below_alloc | apply pw_below_drewN | apply below_drew1 | refine below_set ?_ GE258.out) | exact HB.out)) hb); have n4_ := Aside0.mk (hbox); have n5_ := Aside0.mk ((by rw [hg]; exact (below_size (by repeat (first | (with_reducible first | exact HB.out | apply below_alloc | apply pw_below_drewN | apply below_drew1 | refine below_set ?_ GE258.out) | exact HB.out))) : w.heap.size ≤ gb267)); have n6_ := Aside0.mk ((by rw [hg]; exact (below_size (by repeat (first | (with_reducible first | exact HB.out | apply below_alloc | apply pw_below_drewN | apply below_drew1 | refine below_set ?_ GE258.out) | exact HB.out))) : w.heap.size ≤ gb267)); have n7_ := Aside0.mk ((by rw [hg]; exact Nat.ne_of_lt (blk_lt (g := gb258) (o := .cells #[.int .i64 t253, .int .i64 t254, .int .i64 t255, .int .i64 t256] 23 (0, 0)) (by (with_reducible repeat (first | refine blk_drewN ?_ _ | refine blk_drew ?_ | refine blk_alloc ?_ _)); exact BK258.out)) : gb258 ≠ gb267)); have n8_ := Aside0.mk ((by rw [hg]; exact Nat.ne_of_gt (blk_lt (g := gb258) (o := .cells #[.int .i64 t253, .int .i64 t254, .int .i64 t255, .int .i64 t256] 23 (0, 0)) (by (with_reducible repeat (first | refine blk_drewN ?_ _ | refine blk_drew ?_ | refine blk_alloc ?_ _)); exact BK258.out)) : gb267 ≠ gb258)); clear HO252; clear HO261; clear BK258; clear HB; have HO252 := n0_; have HO261 := n1_; have BK258 := n2_; have HB := n3_; have BK267 := n4_; have GW267 := n5_; have GE267 := n6_; have NB258_267 := n7_; have NB267_258 := n8_; clear n0_ n1_ n2_ n3_ n4_ n5_ n6_ n7_ n8_; clear hb hbox hg; have hnb19 := NB267_258.out; have hnc19 := NB258_267.out; have hcz20_0 : w18.cell? ⟨gb267, 0, none⟩ = some (.int .i64 0) := (blk_cell BK267.out 0).trans rfl; have hcz20_1 : w18.cell? ⟨gb267, 1, none⟩ = some (.int .i64 0) := (blk_cell BK267.out 1).trans rfl; have hcz20_2 : w18.cell? ⟨gb267, 2, none⟩ = some (.int .i64 0) := (blk_cell BK267.out 2).trans rfl; have hcz20_3 : w18.cell? ⟨gb267, 3, none⟩ = some (.int .i64 0) := (blk_cell BK267.out 3).trans rfl; have hfz20_0 := blk_frozen BK267.out 0; have hfz20_1 := blk_frozen BK267.out 1; have hfz20_2 := blk_frozen BK267.out 2; have hfz20_3 := blk_frozen BK267.out 3))
      (try simp only [Act.put, List.setIfInBounds_toArray, List.set_cons_zero, List.set_cons_succ])
      go_cut [48] (fun v48 wc => ∃ (kq : Nat) (x48_9 : Bool), v48 = .bool x48_9 ∧ Aside0 (kissgatelaw10_PrioRoles.j0 kq a0 t250 t257 t259 x48_9 t253 t254 t255 t256 = some r) ∧ Aside0 (kq ≤ k) ∧ Aside0 (Kd.R (Kd.int .i64) 3 wc w.heap.size (fun _ => True) v251 t250) ∧ Aside0 (Kd.R k73 73 wc w.heap.size (fun _ => True) (.slice Ao16 t259.length co16) t259) ∧ Aside0 (wc.heap[gb258]? = some (.cells #[.int .i64 t253, .int .i64 t254, .int .i64 t255, .int .i64 t256] 23 (0, 0))) ∧ Aside0 (wc.heap[gb267]? = some (.cells #[.int .i64 t262, .int .i64 t263, .int .i64 t264, .int .i64 t265] 23 (0, 0))) ∧ Aside0 (Below w.heap.size w wc))
      case first =>
        have H := HC10.out
        clear HC10
        by_cases c21 : (t250.length : Int) = (l1.length : Int)
        · rw [if_pos c21] at H
          have c21b0 : ((t250.length : Int) == (l1.length : Int)) = true := beq_iff_eq.mpr c21
          have c21b1 : ((t250.length : Int) != (l1.length : Int)) = false := bne_eq_false_iff_eq.mpr c21
          have c21b2 : (t250.length == l1.length) = true := by first | simpa using c21 | (simp at c21 ⊢; omega)
          clear c21
          (first | rw [c21b0] | (simp only [i64_w, i32_w]; rw [c21b0]) | skip)
          by_cases c22 : (!(t253 == t262) || (!(t254 == t263) || (!(t255 == t264) || (!(t256 == t265))))) = true
          · rw [if_pos c22] at H
            have c22b0 : (!(t253 == t262) || (!(t254 == t263) || (!(t255 == t264) || (!(t256 == t265))))) = true := c22
            clear c22
            have H' := Aside0.mk H
            clear H
            obtain ⟨Ao23, co23, eo23⟩ := Kd.R_slice HO252.out
            subst eo23
            have hnb24 := NB258_267.out
            have hnc24 := NB267_258.out
            have hcz25_0 : w18.cell? ⟨gb258, 0, none⟩ = some (.int .i64 t253) := (blk_cell BK258.out 0).trans rfl
            have hcz25_1 : w18.cell? ⟨gb258, 1, none⟩ = some (.int .i64 t254) := (blk_cell BK258.out 1).trans rfl
            have hcz25_2 : w18.cell? ⟨gb258, 2, none⟩ = some (.int .i64 t255) := (blk_cell BK258.out 2).trans rfl
            have hcz25_3 : w18.cell? ⟨gb258, 3, none⟩ = some (.int .i64 t256) := (blk_cell BK258.out 3).trans rfl
            have hfz25_0 := blk_frozen BK258.out 0
            have hfz25_1 := blk_frozen BK258.out 1
            have hfz25_2 := blk_frozen BK258.out 2
            have hfz25_3 := blk_frozen BK258.out 3
            have hcz26_0 : w18.cell? ⟨gb267, 0, none⟩ = some (.int .i64 0) := (blk_cell BK267.out 0).trans rfl
            have hcz26_1 : w18.cell? ⟨gb267, 1, none⟩ = some (.int .i64 0) := (blk_cell BK267.out 1).trans rfl
            have hcz26_2 : w18.cell? ⟨gb267, 2, none⟩ = some (.int .i64 0) := (blk_cell BK267.out 2).trans rfl
            have hcz26_3 : w18.cell? ⟨gb267, 3, none⟩ = some (.int .i64 0) := (blk_cell BK267.out 3).trans rfl
            have hfz26_0 := blk_frozen BK267.out 0
            have hfz26_1 := blk_frozen BK267.out 1
            have hfz26_2 := blk_frozen BK267.out 2
            have hfz26_3 := blk_frozen BK267.out 3
            go_wp2
            go_meet
            case rel => exact ⟨_, (true), (by first | rfl | (simp; done) | (simp [*]; done)), H', ⟨by first | omega | exact Nat.le_refl _⟩, ⟨by (with_reducible repeat (first | apply Kd.R_alloc | apply Kd.R_drewN | apply Kd.R_drew)); exact Kd.R_mono (Kd.R_far (p := ⟨gb267, 3, none⟩) (Kd.R_far (p := ⟨gb267, 2, none⟩) (Kd.R_far (p := ⟨gb267, 1, none⟩) (Kd.R_far (p := ⟨gb267, 0, none⟩) (Kd.R_types HO252.out BK267.out (by decide)) (fun _ hk => hk.2) (.int .i64 t262)) (fun _ hk => hk.2) (.int .i64 t263)) (fun _ hk => hk.2) (.int .i64 t264)) (fun _ hk => hk.2) (.int .i64 t265)) (fun _ hk => trivial)⟩, ⟨by (with_reducible repeat (first | apply Kd.R_alloc | apply Kd.R_drewN | apply Kd.R_drew)); exact Kd.R_mono (Kd.R_far (p := ⟨gb267, 3, none⟩) (Kd.R_far (p := ⟨gb267, 2, none⟩) (Kd.R_far (p := ⟨gb267, 1, none⟩) (Kd.R_far (p := ⟨gb267, 0, none⟩) (Kd.R_types HO261.out BK267.out (by decide)) (fun _ hk => hk.2) (.int .i64 t262)) (fun _ hk => hk.2) (.int .i64 t263)) (fun _ hk => hk.2) (.int .i64 t264)) (fun _ hk => hk.2) (.int .i64 t265)) (fun _ hk => trivial)⟩, ⟨by (with_reducible repeat (first | refine blk_drewN ?_ _ | refine blk_drew ?_ | refine blk_alloc ?_ _)); refine blk_far ?_ NB258_267.out _; (with_reducible repeat (first | refine blk_drewN ?_ _ | refine blk_drew ?_ | refine blk_alloc ?_ _)); refine blk_far ?_ NB258_267.out _; (with_reducible repeat (first | refine blk_drewN ?_ _ | refine blk_drew ?_ | refine blk_alloc ?_ _)); refine blk_far ?_ NB258_267.out _; (with_reducible repeat (first | refine blk_drewN ?_ _ | refine blk_drew ?_ | refine blk_alloc ?_ _)); refine blk_far ?_ NB258_267.out _; (with_reducible repeat (first | refine blk_drewN ?_ _ | refine blk_drew ?_ | refine blk_alloc ?_ _)); exact BK258.out⟩, ⟨by (with_reducible repeat (first | refine blk_drewN ?_ _ | refine blk_drew ?_ | refine blk_alloc ?_ _)); refine blk_put (cs := #[.int .i64 t262, .int .i64 t263, .int .i64 t264, .int .i64 0]) ?_ 3 _ rfl; (with_reducible repeat (first | refine blk_drewN ?_ _ | refine blk_drew ?_ | refine blk_alloc ?_ _)); refine blk_put (cs := #[.int .i64 t262, .int .i64 t263, .int .i64 0, .int .i64 0]) ?_ 2 _ rfl; (with_reducible repeat (first | refine blk_drewN ?_ _ | refine blk_drew ?_ | refine blk_alloc ?_ _)); refine blk_put (cs := #[.int .i64 t262, .int .i64 0, .int .i64 0, .int .i64 0]) ?_ 1 _ rfl; (with_reducible repeat (first | refine blk_drewN ?_ _ | refine blk_drew ?_ | refine blk_alloc ?_ _)); refine blk_put (cs := #[.int .i64 0, .int .i64 0, .int .i64 0, .int .i64 0]) ?_ 0 _ rfl; (with_reducible repeat (first | refine blk_drewN ?_ _ | refine blk_drew ?_ | refine blk_alloc ?_ _)); exact BK267.out⟩, ⟨by repeat (first | (with_reducible first | exact HB.out | apply below_alloc | apply pw_below_drewN | apply below_drew1 | refine below_set ?_ GE258.out | refine below_set ?_ GE267.out) | exact HB.out)⟩⟩
          · rw [if_neg c22] at H
            have c22b0 : (!(t253 == t262) || (!(t254 == t263) || (!(t255 == t264) || (!(t256 == t265))))) = false := by simpa using c22
            clear c22
            have H' := Aside0.mk H
            clear H
            obtain ⟨Ao27, co27, eo27⟩ := Kd.R_slice HO252.out
            subst eo27
            have hnb28 := NB258_267.out
            have hnc28 := NB267_258.out
            have hcz29_0 : w18.cell? ⟨gb258, 0, none⟩ = some (.int .i64 t253) := (blk_cell BK258.out 0).trans rfl
            have hcz29_1 : w18.cell? ⟨gb258, 1, none⟩ = some (.int .i64 t254) := (blk_cell BK258.out 1).trans rfl
            have hcz29_2 : w18.cell? ⟨gb258, 2, none⟩ = some (.int .i64 t255) := (blk_cell BK258.out 2).trans rfl
            have hcz29_3 : w18.cell? ⟨gb258, 3, none⟩ = some (.int .i64 t256) := (blk_cell BK258.out 3).trans rfl
            have hfz29_0 := blk_frozen BK258.out 0
            have hfz29_1 := blk_frozen BK258.out 1
            have hfz29_2 := blk_frozen BK258.out 2
            have hfz29_3 := blk_frozen BK258.out 3
            have hcz30_0 : w18.cell? ⟨gb267, 0, none⟩ = some (.int .i64 0) := (blk_cell BK267.out 0).trans rfl
            have hcz30_1 : w18.cell? ⟨gb267, 1, none⟩ = some (.int .i64 0) := (blk_cell BK267.out 1).trans rfl
            have hcz30_2 : w18.cell? ⟨gb267, 2, none⟩ = some (.int .i64 0) := (blk_cell BK267.out 2).trans rfl
            have hcz30_3 : w18.cell? ⟨gb267, 3, none⟩ = some (.int .i64 0) := (blk_cell BK267.out 3).trans rfl
            have hfz30_0 := blk_frozen BK267.out 0
            have hfz30_1 := blk_frozen BK267.out 1
            have hfz30_2 := blk_frozen BK267.out 2
            have hfz30_3 := blk_frozen BK267.out 3
            go_wp2
            go_meet
            case rel => exact ⟨_, ((t257 != t266)), (by first | rfl | (simp; done) | (simp [*]; done)), H', ⟨by first | omega | exact Nat.le_refl _⟩, ⟨by (with_reducible repeat (first | apply Kd.R_alloc | apply Kd.R_drewN | apply Kd.R_drew)); exact Kd.R_mono (Kd.R_far (p := ⟨gb267, 3, none⟩) (Kd.R_far (p := ⟨gb267, 2, none⟩) (Kd.R_far (p := ⟨gb267, 1, none⟩) (Kd.R_far (p := ⟨gb267, 0, none⟩) (Kd.R_types HO252.out BK267.out (by decide)) (fun _ hk => hk.2) (.int .i64 t262)) (fun _ hk => hk.2) (.int .i64 t263)) (fun _ hk => hk.2) (.int .i64 t264)) (fun _ hk => hk.2) (.int .i64 t265)) (fun _ hk => trivial)⟩, ⟨by (with_reducible repeat (first | apply Kd.R_alloc | apply Kd.R_drewN | apply Kd.R_drew)); exact Kd.R_mono (Kd.R_far (p := ⟨gb267, 3, none⟩) (Kd.R_far (p := ⟨gb267, 2, none⟩) (Kd.R_far (p := ⟨gb267, 1, none⟩) (Kd.R_far (p := ⟨gb267, 0, none⟩) (Kd.R_types HO261.out BK267.out (by decide)) (fun _ hk => hk.2) (.int .i64 t262)) (fun _ hk => hk.2) (.int .i64 t263)) (fun _ hk => hk.2) (.int .i64 t264)) (fun _ hk => hk.2) (.int .i64 t265)) (fun _ hk => trivial)⟩, ⟨by (with_reducible repeat (first | refine blk_drewN ?_ _ | refine blk_drew ?_ | refine blk_alloc ?_ _)); refine blk_far ?_ NB258_267.out _; (with_reducible repeat (first | refine blk_drewN ?_ _ | refine blk_drew ?_ | refine blk_alloc ?_ _)); refine blk_far ?_ NB258_267.out _; (with_reducible repeat (first | refine blk_drewN ?_ _ | refine blk_drew ?_ | refine blk_alloc ?_ _)); refine blk_far ?_ NB258_267.out _; (with_reducible repeat (first | refine blk_drewN ?_ _ | refine blk_drew ?_ | refine blk_alloc ?_ _)); refine blk_far ?_ NB258_267.out _; (with_reducible repeat (first | refine blk_drewN ?_ _ | refine blk_drew ?_ | refine blk_alloc ?_ _)); exact BK258.out⟩, ⟨by (with_reducible repeat (first | refine blk_drewN ?_ _ | refine blk_drew ?_ | refine blk_alloc ?_ _)); refine blk_put (cs := #[.int .i64 t262, .int .i64 t263, .int .i64 t264, .int .i64 0]) ?_ 3 _ rfl; (with_reducible repeat (first | refine blk_drewN ?_ _ | refine blk_drew ?_ | refine blk_alloc ?_ _)); refine blk_put (cs := #[.int .i64 t262, .int .i64 t263, .int .i64 0, .int .i64 0]) ?_ 2 _ rfl; (with_reducible repeat (first | refine blk_drewN ?_ _ | refine blk_drew ?_ | refine blk_alloc ?_ _)); refine blk_put (cs := #[.int .i64 t262, .int .i64 0, .int .i64 0, .int .i64 0]) ?_ 1 _ rfl; (with_reducible repeat (first | refine blk_drewN ?_ _ | refine blk_drew ?_ | refine blk_alloc ?_ _)); refine blk_put (cs := #[.int .i64 0, .int .i64 0, .int .i64 0, .int .i64 0]) ?_ 0 _ rfl; (with_reducible repeat (first | refine blk_drewN ?_ _ | refine blk_drew ?_ | refine blk_alloc ?_ _)); exact BK267.out⟩, ⟨by repeat (first | (with_reducible first | exact HB.out | apply below_alloc | apply pw_below_drewN | apply below_drew1 | refine below_set ?_ GE258.out | refine below_set ?_ GE267.out) | exact HB.out)⟩⟩
        · rw [if_neg c21] at H
          have c21b0 : ((t250.length : Int) == (l1.length : Int)) = false := beq_eq_false_iff_ne.mpr c21
          have c21b1 : ((t250.length : Int) != (l1.length : Int)) = true := bne_iff_ne.mpr c21
          have c21b2 : (t250.length == l1.length) = false := by first | simpa using c21 | (simp at c21 ⊢; omega)
          (first | rw [c21b0] | (simp only [i64_w, i32_w]; rw [c21b0]) | skip)
          have H' := Aside0.mk H
          clear H
          obtain ⟨Ao31, co31, eo31⟩ := Kd.R_slice HO252.out
          subst eo31
          go_wp2
          go_meet
          case rel => exact ⟨_, (true), (by first | rfl | (simp; done) | (simp [*]; done)), H', ⟨by first | omega | exact Nat.le_refl _⟩, ⟨by (with_reducible repeat (first | apply Kd.R_alloc | apply Kd.R_drewN | apply Kd.R_drew)); exact Kd.R_mono (Kd.R_far (p := ⟨gb267, 3, none⟩) (Kd.R_far (p := ⟨gb267, 2, none⟩) (Kd.R_far (p := ⟨gb267, 1, none⟩) (Kd.R_far (p := ⟨gb267, 0, none⟩) (Kd.R_types HO252.out BK267.out (by decide)) (fun _ hk => hk.2) (.int .i64 t262)) (fun _ hk => hk.2) (.int .i64 t263)) (fun _ hk => hk.2) (.int .i64 t264)) (fun _ hk => hk.2) (.int .i64 t265)) (fun _ hk => trivial)⟩, ⟨by (with_reducible repeat (first | apply Kd.R_alloc | apply Kd.R_drewN | apply Kd.R_drew)); exact Kd.R_mono (Kd.R_far (p := ⟨gb267, 3, none⟩) (Kd.R_far (p := ⟨gb267, 2, none⟩) (Kd.R_far (p := ⟨gb267, 1, none⟩) (Kd.R_far (p := ⟨gb267, 0, none⟩) (Kd.R_types HO261.out BK267.out (by decide)) (fun _ hk => hk.2) (.int .i64 t262)) (fun _ hk => hk.2) (.int .i64 t263)) (fun _ hk => hk.2) (.int .i64 t264)) (fun _ hk => hk.2) (.int .i64 t265)) (fun _ hk => trivial)⟩, ⟨by (with_reducible repeat (first | refine blk_drewN ?_ _ | refine blk_drew ?_ | refine blk_alloc ?_ _)); refine blk_far ?_ NB258_267.out _; (with_reducible repeat (first | refine blk_drewN ?_ _ | refine blk_drew ?_ | refine blk_alloc ?_ _)); refine blk_far ?_ NB258_267.out _; (with_reducible repeat (first | refine blk_drewN ?_ _ | refine blk_drew ?_ | refine blk_alloc ?_ _)); refine blk_far ?_ NB258_267.out _; (with_reducible repeat (first | refine blk_drewN ?_ _ | refine blk_drew ?_ | refine blk_alloc ?_ _)); refine blk_far ?_ NB258_267.out _; (with_reducible repeat (first | refine blk_drewN ?_ _ | refine blk_drew ?_ | refine blk_alloc ?_ _)); exact BK258.out⟩, ⟨by (with_reducible repeat (first | refine blk_drewN ?_ _ | refine blk_drew ?_ | refine blk_alloc ?_ _)); refine blk_put (cs := #[.int .i64 t262, .int .i64 t263, .int .i64 t264, .int .i64 0]) ?_ 3 _ rfl; (with_reducible repeat (first | refine blk_drewN ?_ _ | refine blk_drew ?_ | refine blk_alloc ?_ _)); refine blk_put (cs := #[.int .i64 t262, .int .i64 t263, .int .i64 0, .int .i64 0]) ?_ 2 _ rfl; (with_reducible repeat (first | refine blk_drewN ?_ _ | refine blk_drew ?_ | refine blk_alloc ?_ _)); refine blk_put (cs := #[.int .i64 t262, .int .i64 0, .int .i64 0, .int .i64 0]) ?_ 1 _ rfl; (with_reducible repeat (first | refine blk_drewN ?_ _ | refine blk_drew ?_ | refine blk_alloc ?_ _)); refine blk_put (cs := #[.int .i64 0, .int .i64 0, .int .i64 0, .int .i64 0]) ?_ 0 _ rfl; (with_reducible repeat (first | refine blk_drewN ?_ _ | refine blk_drew ?_ | refine blk_alloc ?_ _)); exact BK267.out⟩, ⟨by repeat (first | (with_reducible first | exact HB.out | apply below_alloc | apply pw_below_drewN | apply below_drew1 | refine below_set ?_ GE258.out | refine below_set ?_ GE267.out) | exact HB.out)⟩⟩
      case rest =>
        clear HC10
        try clear c1
        try clear c2
        try clear p2
        try clear c4
        try clear c5
        try clear c5b0
        try clear c5b1
        try clear c6
        try clear c12
        try clear c17
        try clear c18
        try clear c19
        try clear c21
        try clear c21b0
        try clear c21b1
        try clear c21b2
        try clear c22
        try clear c22b0
        try clear c23
        try clear c24
        try clear c28
        try clear hcz14_0
        try clear hcz14_1
        try clear hcz14_2
        try clear hcz14_3
        try clear hcz20_0
        try clear hcz20_1
        try clear hcz20_2
        try clear hcz20_3
        try clear hcz25_0
        try clear hcz25_1
        try clear hcz25_2
        try clear hcz25_3
        try clear hcz26_0
        try clear hcz26_1
        try clear hcz26_2
        try clear hcz26_3
        try clear hcz29_0
        try clear hcz29_1
        try clear hcz29_2
        try clear hcz29_3
        try clear hcz30_0
        try clear hcz30_1
        try clear hcz30_2
        try clear hcz30_3
        try clear hfz14_0
        try clear hfz14_1
        try clear hfz14_2
        try clear hfz14_3
        try clear hfz20_0
        try clear hfz20_1
        try clear hfz20_2
        try clear hfz20_3
        try clear hfz25_0
        try clear hfz25_1
        try clear hfz25_2
        try clear hfz25_3
        try clear hfz26_0
        try clear hfz26_1
        try clear hfz26_2
        try clear hfz26_3
        try clear hfz29_0
        try clear hfz29_1
        try clear hfz29_2
        try clear hfz29_3
        try clear hfz30_0
        try clear hfz30_1
        try clear hfz30_2
        try clear hfz30_3
        obtain ⟨kq, x48_9, rfl, HA, HJ9, HO_5, HO_8, BK258, BK267, HB⟩ := hcut
        cases kq with
        | zero => exact absurd HA.out (by simp [kissgatelaw10_PrioRoles.j0])
        | succ kj9 =>
          have H := HA.out
          clear HA
          simp only [kissgatelaw10_PrioRoles.j0] at H
          by_cases c32 : x48_9 = true
          · subst c32
            have H1 : (some false) = some r := by rw [if_pos rfl] at H; exact H
            clear H
            have H := H1
            clear H1
            obtain rfl := Option.some.inj H
            go_wp2
            go_ret
            exact ⟨by first | rfl | (simp [errW_none, errW_some] <;> rfl) | (simp [*, errW_none, errW_some] <;> rfl), by repeat (first | (with_reducible first | exact HB.out | apply below_alloc | apply pw_below_drewN | apply below_drew1 | refine below_set ?_ GE258.out | refine below_set ?_ GE267.out) | exact HB.out)⟩
          · replace c32 := Bool.eq_false_iff.mpr c32
            subst c32
            have H1 : (kissgatelaw10_PrioRoles.l0 kj9 a0 t257 t259 0 t250 (t250.length : Int) 0 t253 t254 t255 t256) = some r := by rw [if_neg (show ¬ (false = true) by decide)] at H; exact H
            clear H
            have H := H1
            clear H1
            have H' := Aside0.mk H
            clear H
            obtain ⟨Ao33, co33, eo33⟩ := Kd.R_slice HO_5.out
            subst eo33
            go_wp2
            go_loopg [11, 51] kj9 (fun kq v11 v51 w' => ∃ (x11_2 : Int) (x51_2 : Int), v11 = .int .i64 x11_2 ∧ v51 = .int .i64 x51_2 ∧ Aside0 (kissgatelaw10_PrioRoles.l0 kq a0 t257 t259 x11_2 t250 (t250.length : Int) x51_2 t253 t254 t255 t256 = some r) ∧ Aside0 (kq ≤ kj9) ∧ Aside0 (Kd.R k73 73 w' w.heap.size (fun _ => True) (.slice Ao16 t259.length co16) t259) ∧ Aside0 (Kd.R (Kd.int .i64) 3 w' w.heap.size (fun _ => True) (.slice Ao33 t250.length co33) t250) ∧ Aside0 (w'.heap[gb258]? = some (.cells #[.int .i64 t253, .int .i64 t254, .int .i64 t255, .int .i64 t256] 23 (0, 0))) ∧ Aside0 (w'.heap[gb267]? = some (.cells #[.int .i64 t262, .int .i64 t263, .int .i64 t264, .int .i64 t265] 23 (0, 0))) ∧ Aside0 (Below w.heap.size w w'))
            case atStart => exact ⟨(0), (0), (by first | rfl | (simp; done) | (simp [*]; done)), (by first | rfl | (simp; done) | (simp [*]; done)), H', ⟨Nat.le_refl _⟩, ⟨by (with_reducible repeat (first | apply Kd.R_alloc | apply Kd.R_drewN | apply Kd.R_drew)); exact HO_8.out⟩, ⟨by (with_reducible repeat (first | apply Kd.R_alloc | apply Kd.R_drewN | apply Kd.R_drew)); exact HO_5.out⟩, ⟨by (with_reducible repeat (first | refine blk_drewN ?_ _ | refine blk_drew ?_ | refine blk_alloc ?_ _)); exact BK258.out⟩, ⟨by (with_reducible repeat (first | refine blk_drewN ?_ _ | refine blk_drew ?_ | refine blk_alloc ?_ _)); exact BK267.out⟩, ⟨by repeat (first | (with_reducible first | exact HB.out | apply below_alloc | apply pw_below_drewN | apply below_drew1 | refine below_set ?_ GE258.out | refine below_set ?_ GE267.out) | exact HB.out)⟩⟩
            case round =>
              clear H'
              try clear c1
              try clear c2
              try clear p2
              try clear c3
              try clear c4
              try clear c5
              try clear c5b0
              try clear c5b1
              try clear c6
              try clear c12
              try clear c17
              try clear c18
              try clear c19
              try clear c21
              try clear c21b0
              try clear c21b1
              try clear c21b2
              try clear c22
              try clear c22b0
              try clear c23
              try clear c24
              try clear c28
              try clear c32
              try clear hcz14_0
              try clear hcz14_1
              try clear hcz14_2
              try clear hcz14_3
              try clear hcz20_0
              try clear hcz20_1
              try clear hcz20_2
              try clear hcz20_3
              try clear hcz25_0
              try clear hcz25_1
              try clear hcz25_2
              try clear hcz25_3
              try clear hcz26_0
              try clear hcz26_1
              try clear hcz26_2
              try clear hcz26_3
              try clear hcz29_0
              try clear hcz29_1
              try clear hcz29_2
              try clear hcz29_3
              try clear hcz30_0
              try clear hcz30_1
              try clear hcz30_2
              try clear hcz30_3
              try clear hfz14_0
              try clear hfz14_1
              try clear hfz14_2
              try clear hfz14_3
              try clear hfz20_0
              try clear hfz20_1
              try clear hfz20_2
              try clear hfz20_3
              try clear hfz25_0
              try clear hfz25_1
              try clear hfz25_2
              try clear hfz25_3
              try clear hfz26_0
              try clear hfz26_1
              try clear hfz26_2
              try clear hfz26_3
              try clear hfz29_0
              try clear hfz29_1
              try clear hfz29_2
              try clear hfz29_3
              try clear hfz30_0
              try clear hfz30_1
              try clear hfz30_2
              try clear hfz30_3
              try clear p2
              obtain ⟨x11_2, x51_2, rfl, rfl, HA, HK2, HO_8, HO_49, BK258, BK267, HB⟩ := hrel
              cases gk with
              | zero => exact absurd HA.out (by simp [kissgatelaw10_PrioRoles.l0])
              | succ k2 =>
                have H := HA.out
                clear HA
                simp only [kissgatelaw10_PrioRoles.l0] at H
                by_cases c34 : x51_2 < (t250.length : Int)
                · rw [if_pos c34] at H
                  have c34b0 : decide (x51_2 < (t250.length : Int)) = true := decide_eq_true c34
                  clear c34
                  by_cases c35 : 0 ≤ x51_2
                  · rw [if_pos c35] at H
                    have c35b0 : decide (0 ≤ x51_2) = true := decide_eq_true c35
                    clear c35
                    by_cases c36 : x51_2 < (t250.length : Int)
                    · rw [if_pos c36] at H
                      have c36b0 : decide (x51_2 < (t250.length : Int)) = true := decide_eq_true c36
                      clear c36
                      replace H := Option.bind_eq_some_iff.mp H
                      obtain ⟨t269, A370, H⟩ := H
                      replace H : (if (rd t250 x51_2) = t269 then (if (rd t250 x51_2) = 1 then (kissgatelaw10_PrioRoles.l0 k2 a0 t257 t259 (wrap64 (x11_2 + 1)) t250 (t250.length : Int) (wrap64 (x51_2 + 1)) t253 t254 t255 t256) else (kissgatelaw10_PrioRoles.l0 k2 a0 t257 t259 x11_2 t250 (t250.length : Int) (wrap64 (x51_2 + 1)) t253 t254 t255 t256)) else (some false)) = some r := H
                      have A37 := Aside0.mk A370
                      clear A370
                      by_cases c38 : (rd t250 x51_2) = t269
                      · rw [if_pos c38] at H
                        have c38b0 : ((rd t250 x51_2) == t269) = true := beq_iff_eq.mpr c38
                        have c38b1 : ((rd t250 x51_2) != t269) = false := bne_eq_false_iff_eq.mpr c38
                        clear c38
                        by_cases c39 : (rd t250 x51_2) = 1
                        · rw [if_pos c39] at H
                          have c39b0 : ((rd t250 x51_2) == 1) = true := beq_iff_eq.mpr c39
                          have c39b1 : ((rd t250 x51_2) != 1) = false := bne_eq_false_iff_eq.mpr c39
                          clear c39
                          have H' := Aside0.mk H
                          clear H
                          have p268 : 0 ≤ (x51_2 : Int) := of_decide_eq_true (by first | (with_reducible assumption) | assumption)
                          have q268 : x51_2 < (t250.length : Int) := of_decide_eq_true (by first | (with_reducible assumption) | assumption)
                          obtain ⟨ad268, e268, hx268_0⟩ := Kd.at_int (Kd.R_reads' HO_49.out).2.2 x51_2 p268 q268
                          cases e268
                          replace p268 := eq_true p268
                          replace q268 := eq_true q268
                          go_wp2_with (first | ((with_reducible refine gate_callee (f := 24) rfl ?_); refine goesL_ (some 60) rfl rfl Try.func24 (by kernel_rfl) rfl #[.int .i64 a0, .slice Ao16 t259.length co16, .int .i64 x51_2] rfl (by (try simp only [List.map_toArray, List.map_cons, List.map_nil]); first | done | rfl | (simp only [List.length_drop, List.length_take]; rfl)) ?_; (with_reducible refine (kissgateref10_Role.calls k2 a0 _ _ t259 x51_2 t269 _ ?side1 ?side2 A37.out).mono ?_); (case side1 => repeat (first | exact (Kd.R_reads' HO_8.out).2.2 | (with_reducible refine Kd.C_alloc ?_ _) | (with_reducible refine Kd.C_drewN ?_ _) | (with_reducible refine Kd.C_drew ?_))); (case side2 => exact (Kd.R_reads' HO_8.out).2.1); rintro e w40 ⟨rfl, hb⟩; refine ⟨_, rfl, ?_⟩; have n0_ := Aside0.mk (Kd.R_below (by (with_reducible repeat (first | apply Kd.R_alloc | apply Kd.R_drewN | apply Kd.R_drew)); exact HO_8.out) hb); have n1_ := Aside0.mk (Kd.R_below (by (with_reducible repeat (first | apply Kd.R_alloc | apply Kd.R_drewN | apply Kd.R_drew)); exact HO_49.out) hb); have n2_ := Aside0.mk (blk_below (g := gb258) (o := .cells #[.int .i64 t253, .int .i64 t254, .int .i64 t255, .int .i64 t256] 23 (0, 0)) (by (with_reducible repeat (first | refine blk_drewN ?_ _ | refine blk_drew ?_ | refine blk_alloc ?_ _)); exact BK258.out) hb); have n3_ := Aside0.mk (blk_below (g := gb267) (o := .cells #[.int .i64 t262, .int .i64 t263, .int .i64 t264, .int .i64 t265] 23 (0, 0)) (by (with_reducible repeat (first | refine blk_drewN ?_ _ | refine blk_drew ?_ | refine blk_alloc ?_ _)); exact BK267.out) hb); have n4_ := Aside0.mk (below_step (by repeat (first | (with_reducible first | exact HB.out | apply below_alloc | apply pw_below_drewN | apply below_drew1 | refine below_set ?_ GE258.out | refine below_set ?_ GE267.out) | exact HB.out)) hb); clear HO_8; clear HO_49; clear BK258; clear BK267; clear HB; have HO_8 := n0_; have HO_49 := n1_; have BK258 := n2_; have BK267 := n3_; have HB := n4_; clear n0_ n1_ n2_ n3_ n4_; (try clear hb); (try clear hb2); (try clear hk); (try clear hi)))
                          go_roundg k2
                          case measure => have := HJ9.out; have := HK2.out; omega
                          case rel => exact ⟨(wrap64 (x11_2 + 1)), (wrap64 (x51_2 + 1)), (by first | rfl | (simp; done) | (simp [*]; done)), (by first | rfl | (simp; done) | (simp [*]; done)), H', ⟨by have := HJ9.out; have := HK2.out; omega⟩, ⟨by (with_reducible repeat (first | apply Kd.R_alloc | apply Kd.R_drewN | apply Kd.R_drew)); exact HO_8.out⟩, ⟨by (with_reducible repeat (first | apply Kd.R_alloc | apply Kd.R_drewN | apply Kd.R_drew)); exact HO_49.out⟩, ⟨by (with_reducible repeat (first | refine blk_drewN ?_ _ | refine blk_drew ?_ | refine blk_alloc ?_ _)); exact BK258.out⟩, ⟨by (with_reducible repeat (first | refine blk_drewN ?_ _ | refine blk_drew ?_ | refine blk_alloc ?_ _)); exact BK267.out⟩, ⟨by repeat (first | (with_reducible first | exact HB.out | apply below_alloc | apply pw_below_drewN | apply below_drew1 | refine below_set ?_ GE258.out | refine below_set ?_ GE267.out) | exact HB.out)⟩⟩
                        · rw [if_neg c39] at H
                          have c39b0 : ((rd t250 x51_2) == 1) = false := beq_eq_false_iff_ne.mpr c39
                          have c39b1 : ((rd t250 x51_2) != 1) = true := bne_iff_ne.mpr c39
                          have H' := Aside0.mk H
                          clear H
                          have p268 : 0 ≤ (x51_2 : Int) := of_decide_eq_true (by first | (with_reducible assumption) | assumption)
                          have q268 : x51_2 < (t250.length : Int) := of_decide_eq_true (by first | (with_reducible assumption) | assumption)
                          obtain ⟨ad268, e268, hx268_0⟩ := Kd.at_int (Kd.R_reads' HO_49.out).2.2 x51_2 p268 q268
                          cases e268
                          replace p268 := eq_true p268
                          replace q268 := eq_true q268
                          go_wp2_with (first | ((with_reducible refine gate_callee (f := 24) rfl ?_); refine goesL_ (some 60) rfl rfl Try.func24 (by kernel_rfl) rfl #[.int .i64 a0, .slice Ao16 t259.length co16, .int .i64 x51_2] rfl (by (try simp only [List.map_toArray, List.map_cons, List.map_nil]); first | done | rfl | (simp only [List.length_drop, List.length_take]; rfl)) ?_; (with_reducible refine (kissgateref10_Role.calls k2 a0 _ _ t259 x51_2 t269 _ ?side1 ?side2 A37.out).mono ?_); (case side1 => repeat (first | exact (Kd.R_reads' HO_8.out).2.2 | (with_reducible refine Kd.C_alloc ?_ _) | (with_reducible refine Kd.C_drewN ?_ _) | (with_reducible refine Kd.C_drew ?_))); (case side2 => exact (Kd.R_reads' HO_8.out).2.1); rintro e w41 ⟨rfl, hb⟩; refine ⟨_, rfl, ?_⟩; have n0_ := Aside0.mk (Kd.R_below (by (with_reducible repeat (first | apply Kd.R_alloc | apply Kd.R_drewN | apply Kd.R_drew)); exact HO_8.out) hb); have n1_ := Aside0.mk (Kd.R_below (by (with_reducible repeat (first | apply Kd.R_alloc | apply Kd.R_drewN | apply Kd.R_drew)); exact HO_49.out) hb); have n2_ := Aside0.mk (blk_below (g := gb258) (o := .cells #[.int .i64 t253, .int .i64 t254, .int .i64 t255, .int .i64 t256] 23 (0, 0)) (by (with_reducible repeat (first | refine blk_drewN ?_ _ | refine blk_drew ?_ | refine blk_alloc ?_ _)); exact BK258.out) hb); have n3_ := Aside0.mk (blk_below (g := gb267) (o := .cells #[.int .i64 t262, .int .i64 t263, .int .i64 t264, .int .i64 t265] 23 (0, 0)) (by (with_reducible repeat (first | refine blk_drewN ?_ _ | refine blk_drew ?_ | refine blk_alloc ?_ _)); exact BK267.out) hb); have n4_ := Aside0.mk (below_step (by repeat (first | (with_reducible first | exact HB.out | apply below_alloc | apply pw_below_drewN | apply below_drew1 | refine below_set ?_ GE258.out | refine below_set ?_ GE267.out) | exact HB.out)) hb); clear HO_8; clear HO_49; clear BK258; clear BK267; clear HB; have HO_8 := n0_; have HO_49 := n1_; have BK258 := n2_; have BK267 := n3_; have HB := n4_; clear n0_ n1_ n2_ n3_ n4_; (try clear hb); (try clear hb2); (try clear hk); (try clear hi)))
                          go_roundg k2
                          case measure => have := HJ9.out; have := HK2.out; omega
                          case rel => exact ⟨(x11_2), (wrap64 (x51_2 + 1)), (by first | rfl | (simp; done) | (simp [*]; done)), (by first | rfl | (simp; done) | (simp [*]; done)), H', ⟨by have := HJ9.out; have := HK2.out; omega⟩, ⟨by (with_reducible repeat (first | apply Kd.R_alloc | apply Kd.R_drewN | apply Kd.R_drew)); exact HO_8.out⟩, ⟨by (with_reducible repeat (first | apply Kd.R_alloc | apply Kd.R_drewN | apply Kd.R_drew)); exact HO_49.out⟩, ⟨by (with_reducible repeat (first | refine blk_drewN ?_ _ | refine blk_drew ?_ | refine blk_alloc ?_ _)); exact BK258.out⟩, ⟨by (with_reducible repeat (first | refine blk_drewN ?_ _ | refine blk_drew ?_ | refine blk_alloc ?_ _)); exact BK267.out⟩, ⟨by repeat (first | (with_reducible first | exact HB.out | apply below_alloc | apply pw_below_drewN | apply below_drew1 | refine below_set ?_ GE258.out | refine below_set ?_ GE267.out) | exact HB.out)⟩⟩
                      · rw [if_neg c38] at H
                        have c38b0 : ((rd t250 x51_2) == t269) = false := beq_eq_false_iff_ne.mpr c38
                        have c38b1 : ((rd t250 x51_2) != t269) = true := bne_iff_ne.mpr c38
                        obtain rfl := Option.some.inj H
                        have p268 : 0 ≤ (x51_2 : Int) := of_decide_eq_true (by first | (with_reducible assumption) | assumption)
                        have q268 : x51_2 < (t250.length : Int) := of_decide_eq_true (by first | (with_reducible assumption) | assumption)
                        obtain ⟨ad268, e268, hx268_0⟩ := Kd.at_int (Kd.R_reads' HO_49.out).2.2 x51_2 p268 q268
                        cases e268
                        replace p268 := eq_true p268
                        replace q268 := eq_true q268
                        go_wp2_with (first | ((with_reducible refine gate_callee (f := 24) rfl ?_); refine goesL_ (some 60) rfl rfl Try.func24 (by kernel_rfl) rfl #[.int .i64 a0, .slice Ao16 t259.length co16, .int .i64 x51_2] rfl (by (try simp only [List.map_toArray, List.map_cons, List.map_nil]); first | done | rfl | (simp only [List.length_drop, List.length_take]; rfl)) ?_; (with_reducible refine (kissgateref10_Role.calls k2 a0 _ _ t259 x51_2 t269 _ ?side1 ?side2 A37.out).mono ?_); (case side1 => repeat (first | exact (Kd.R_reads' HO_8.out).2.2 | (with_reducible refine Kd.C_alloc ?_ _) | (with_reducible refine Kd.C_drewN ?_ _) | (with_reducible refine Kd.C_drew ?_))); (case side2 => exact (Kd.R_reads' HO_8.out).2.1); rintro e w42 ⟨rfl, hb⟩; refine ⟨_, rfl, ?_⟩; have n0_ := Aside0.mk (Kd.R_below (by (with_reducible repeat (first | apply Kd.R_alloc | apply Kd.R_drewN | apply Kd.R_drew)); exact HO_8.out) hb); have n1_ := Aside0.mk (Kd.R_below (by (with_reducible repeat (first | apply Kd.R_alloc | apply Kd.R_drewN | apply Kd.R_drew)); exact HO_49.out) hb); have n2_ := Aside0.mk (blk_below (g := gb258) (o := .cells #[.int .i64 t253, .int .i64 t254, .int .i64 t255, .int .i64 t256] 23 (0, 0)) (by (with_reducible repeat (first | refine blk_drewN ?_ _ | refine blk_drew ?_ | refine blk_alloc ?_ _)); exact BK258.out) hb); have n3_ := Aside0.mk (blk_below (g := gb267) (o := .cells #[.int .i64 t262, .int .i64 t263, .int .i64 t264, .int .i64 t265] 23 (0, 0)) (by (with_reducible repeat (first | refine blk_drewN ?_ _ | refine blk_drew ?_ | refine blk_alloc ?_ _)); exact BK267.out) hb); have n4_ := Aside0.mk (below_step (by repeat (first | (with_reducible first | exact HB.out | apply below_alloc | apply pw_below_drewN | apply below_drew1 | refine below_set ?_ GE258.out | refine below_set ?_ GE267.out) | exact HB.out)) hb); clear HO_8; clear HO_49; clear BK258; clear BK267; clear HB; have HO_8 := n0_; have HO_49 := n1_; have BK258 := n2_; have BK267 := n3_; have HB := n4_; clear n0_ n1_ n2_ n3_ n4_; (try clear hb); (try clear hb2); (try clear hk); (try clear hi)))
                        go_ret
                        exact ⟨by first | rfl | (simp [errW_none, errW_some] <;> rfl) | (simp [*, errW_none, errW_some] <;> rfl), by repeat (first | (with_reducible first | exact HB.out | apply below_alloc | apply pw_below_drewN | apply below_drew1 | refine below_set ?_ GE258.out | refine below_set ?_ GE267.out) | exact HB.out)⟩
                    · rw [if_neg c36] at H
                      exact absurd H (by simp)
                  · rw [if_neg c35] at H
                    exact absurd H (by simp)
                · rw [if_neg c34] at H
                  have c34b0 : decide (x51_2 < (t250.length : Int)) = false := decide_eq_false c34
                  clear c34
                  by_cases c43 : x11_2 ≤ 1
                  · rw [if_pos c43] at H
                    have c43b0 : decide (x11_2 ≤ 1) = true := decide_eq_true c43
                    clear c43
                    by_cases c44 : t253 = a0
                    · rw [if_pos c44] at H
                      have c44b0 : (t253 == a0) = true := beq_iff_eq.mpr c44
                      have c44b1 : (t253 != a0) = false := bne_eq_false_iff_eq.mpr c44
                      clear c44
                      obtain rfl := Option.some.inj H
                      have hnb45 := NB258_267.out
                      have hnc45 := NB267_258.out
                      have hcz46_0 : wr.cell? ⟨gb258, 0, none⟩ = some (.int .i64 t253) := (blk_cell BK258.out 0).trans rfl
                      have hcz46_1 : wr.cell? ⟨gb258, 1, none⟩ = some (.int .i64 t254) := (blk_cell BK258.out 1).trans rfl
                      have hcz46_2 : wr.cell? ⟨gb258, 2, none⟩ = some (.int .i64 t255) := (blk_cell BK258.out 2).trans rfl
                      have hcz46_3 : wr.cell? ⟨gb258, 3, none⟩ = some (.int .i64 t256) := (blk_cell BK258.out 3).trans rfl
                      have hfz46_0 := blk_frozen BK258.out 0
                      have hfz46_1 := blk_frozen BK258.out 1
                      have hfz46_2 := blk_frozen BK258.out 2
                      have hfz46_3 := blk_frozen BK258.out 3
                      go_wp2
                      go_ret
                      exact ⟨by first | rfl | (simp [errW_none, errW_some] <;> rfl) | (simp [*, errW_none, errW_some] <;> rfl), by repeat (first | (with_reducible first | exact HB.out | apply below_alloc | apply pw_below_drewN | apply below_drew1 | refine below_set ?_ GE258.out | refine below_set ?_ GE267.out) | exact HB.out)⟩
                    · rw [if_neg c44] at H
                      have c44b0 : (t253 == a0) = false := beq_eq_false_iff_ne.mpr c44
                      have c44b1 : (t253 != a0) = true := bne_iff_ne.mpr c44
                      obtain rfl := Option.some.inj H
                      have hnb47 := NB258_267.out
                      have hnc47 := NB267_258.out
                      have hcz48_0 : wr.cell? ⟨gb258, 0, none⟩ = some (.int .i64 t253) := (blk_cell BK258.out 0).trans rfl
                      have hcz48_1 : wr.cell? ⟨gb258, 1, none⟩ = some (.int .i64 t254) := (blk_cell BK258.out 1).trans rfl
                      have hcz48_2 : wr.cell? ⟨gb258, 2, none⟩ = some (.int .i64 t255) := (blk_cell BK258.out 2).trans rfl
                      have hcz48_3 : wr.cell? ⟨gb258, 3, none⟩ = some (.int .i64 t256) := (blk_cell BK258.out 3).trans rfl
                      have hfz48_0 := blk_frozen BK258.out 0
                      have hfz48_1 := blk_frozen BK258.out 1
                      have hfz48_2 := blk_frozen BK258.out 2
                      have hfz48_3 := blk_frozen BK258.out 3
                      go_wp2
                      go_ret
                      exact ⟨by first | rfl | (simp [errW_none, errW_some] <;> rfl) | (simp [*, errW_none, errW_some] <;> rfl), by repeat (first | (with_reducible first | exact HB.out | apply below_alloc | apply pw_below_drewN | apply below_drew1 | refine below_set ?_ GE258.out | refine below_set ?_ GE267.out) | exact HB.out)⟩
                  · rw [if_neg c43] at H
                    have c43b0 : decide (x11_2 ≤ 1) = false := decide_eq_false c43
                    clear c43
                    obtain rfl := Option.some.inj H
                    go_wp2
                    go_ret
                    exact ⟨by first | rfl | (simp [errW_none, errW_some] <;> rfl) | (simp [*, errW_none, errW_some] <;> rfl), by repeat (first | (with_reducible first | exact HB.out | apply below_alloc | apply pw_below_drewN | apply below_drew1 | refine below_set ?_ GE258.out | refine below_set ?_ GE267.out) | exact HB.out)⟩
  · replace c4 := Bool.eq_false_iff.mpr c4
    subst c4
    have H1 : (some false) = some r := by rw [if_neg (show ¬ (false = true) by decide)] at H; exact H
    clear H
    have H := H1
    clear H1
    obtain rfl := Option.some.inj H
    go_enter Try.func6, Try.ntmps6
    go_wp2_with (first | ((with_reducible refine gate_callee (f := 12) rfl ?_); refine goesL_ (some 14) rfl rfl Try.func12 (by kernel_rfl) rfl #[] rfl (by (try simp only [List.map_toArray, List.map_cons, List.map_nil]); first | done | rfl | (simp only [List.length_drop, List.length_take]; rfl)) ?_; (with_reducible refine (kissgatelaw10_alive.calls k  false _ A3.out).mono ?_); rintro e w49 ⟨rfl, hb⟩; refine ⟨_, rfl, ?_⟩; have n0_ := Aside0.mk (below_step (by repeat (first | (with_reducible first | exact HB.out | apply below_alloc | apply pw_below_drewN | apply below_drew1) | exact HB.out)) hb); clear HB; have HB := n0_; clear n0_; (try clear hb); (try clear hb2); (try clear hk); (try clear hi)))
    go_ret
    exact ⟨by first | rfl | (simp [errW_none, errW_some] <;> rfl) | (simp [*, errW_none, errW_some] <;> rfl), by repeat (first | (with_reducible first | exact HB.out | apply below_alloc | apply pw_below_drewN | apply below_drew1) | exact HB.out)⟩
end Go.Proofs.Ytjhkbmdblfdlnaa.QPrio
namespace Go.Proofs.Ytjhkbmdblfdlnaa.Opn
open Go.ChangeShapes Go.WideShapes Go.Proofs.YtjhkbmdblfdlnaaW.PrintWords
variable {P : Program}
def Opens {α : Type} (P : Program) (t : TypeId) (d : Kd α) (good : α → Prop) : Prop :=
  ∀ (H : Type) (enc : TypeId × Value → H) (w : World) (fuel : Nat) (cs : List Value) (x : DataW H × List MemPlace),
    DataW.trod enc P w 0 (fun _ => true) true fuel t cs = some x → (∀ n ∈ x.1.weights P t, n ≤ reachBytes) → ∃ a : α, d.K w a cs ∧ good a
theorem opens_int {t : TypeId} {k : IntKind} (hu : P.underlying t = some (.int k)) : Opens P t (Kd.int k) (fun n => (Lit.int k n).wf = true) := by
  intro H enc w fuel cs x h _
  obtain ⟨n, rfl, _, hw⟩ := DataW.trod_int hu h
  exact ⟨n, rfl, hw⟩
theorem opens_bool {t : TypeId} (hu : P.underlying t = some .bool) : Opens P t Kd.bool (fun _ => True) := by
  intro H enc w fuel cs x h _
  obtain ⟨b, rfl, _⟩ := DataW.trod_bool hu h
  exact ⟨b, rfl, trivial⟩
theorem weightsAll_mem {H : Type} {e : TypeId} : ∀ {l : List (DataW H)} {d : DataW H}, d ∈ l → ∀ n ∈ d.weights P e, n ∈ DataW.weightsAll P e l
  | [], d, h, _, _ => by simp at h
  | d0 :: l, d, h, n, hn => by
    simp only [DataW.weightsAll, List.mem_append]
    rcases List.mem_cons.1 h with rfl | h
    · exact Or.inl hn
    · exact Or.inr (weightsAll_mem h n hn)
theorem add_at_ (a : Addr) (i j : Nat) : (a.add i).add j = a.add (i + j) := by
  unfold Addr.add
  by_cases hi : i = 0
  · subst hi; simp
  · by_cases hj : j = 0
    · subst hj; simp
    · simp [hi, hj, Nat.add_assoc]
theorem choose_list {α : Type} {Q : Nat → α → Prop} : ∀ (n : Nat), (∀ i, i < n → ∃ a, Q i a) → ∃ l : List α, l.length = n ∧ ∀ i a, l[i]? = some a → Q i a
  | 0, _ => ⟨[], rfl, fun i a h => by simp at h⟩
  | n + 1, h => by
    obtain ⟨l, hl, hq⟩ := choose_list n (fun i hi => h i (by omega))
    obtain ⟨a, ha⟩ := h n (by omega)
    refine ⟨l ++ [a], by simp [hl], fun i b hb => ?_⟩
    rcases Nat.lt_or_ge i l.length with hi | hi
    · rw [List.getElem?_append_left hi] at hb
      exact hq i b hb
    · rw [List.getElem?_append_right hi] at hb
      have hlt := (List.getElem?_eq_some_iff.1 hb).1
      simp at hlt
      have e : i = n := by omega
      subst e
      rw [show i - l.length = 0 from by omega] at hb
      have hb' : a = b := by simpa using hb
      subst hb'
      exact ha
theorem opens_slice_row {α : Type} {t e : TypeId} {d : Kd α} {good : α → Prop} (hu : P.underlying t = some (.slice e)) (hC : P.cellsOf e = d.sz) {B : Nat} (hB : P.bytesOf e = B) (ho : Opens P e d good)
    (H : Type) (enc : TypeId × Value → H) (w : World) (fuel : Nat) (A : Option Addr) (len cap : Nat) (x : DataW H × List MemPlace)
    (h : DataW.trod enc P w 0 (fun _ => true) true fuel t [.slice A len cap] = some x) (hz : ∀ n ∈ x.1.weights P t, n ≤ reachBytes) :
    ∃ l : List α, l.length = len ∧ len ≤ cap ∧ d.C w A len l ∧ len ≤ maxLen ∧ len * B ≤ 140737488351232 ∧ ∀ a ∈ l, good a := by
  rcases DataW.trod_slice hu h with ⟨h0, _⟩ | ⟨a, len', cap', elems, rest, n, _, hcs, hx, _, hl, hm, hlen, hel, _, _⟩
  · simp only [List.cons.injEq, Value.slice.injEq, and_true] at h0
    obtain ⟨rfl, rfl, rfl⟩ := h0
    exact ⟨[], rfl, Nat.le_refl _, ⟨rfl, Nat.zero_le _, fun h => absurd h (by omega)⟩, Nat.zero_le _, by simp, fun a ha => by simp at ha⟩
  · simp only [List.cons.injEq, Value.slice.injEq, and_true] at hcs
    obtain ⟨rfl, rfl, rfl⟩ := hcs
    have each : ∀ i, i < len → ∃ b : α, (∃ c, c.length = d.sz ∧ d.K w b c ∧ ∀ j u, c[j]? = some u → w.cell? (a.add (i * d.sz + j)) = some u) ∧ good b := by
      intro i hi
      have h1 := hel i hi
      have hie : i < elems.length := by omega
      rw [List.getElem?_eq_getElem hie, Option.bind_eq_some_iff] at h1
      obtain ⟨cs', hc, ht'⟩ := h1
      have hw' : ∀ n ∈ (elems[i]).1.weights P e, n ≤ reachBytes := by
        intro m hm'
        refine hz m ?_
        rw [hx]
        simp only [DataW.weights, hu]
        refine List.mem_cons_of_mem _ (List.mem_append_left _ ?_)
        exact weightsAll_mem (List.mem_map.2 ⟨elems[i], List.getElem_mem hie, rfl⟩) m hm'
      obtain ⟨b, hb, hg⟩ := ho H enc w _ cs' _ ht' hw'
      obtain ⟨_, hcl, hat⟩ := World.cells?_some hc
      refine ⟨b, ⟨cs', by rw [hcl, hC], hb, fun j u hu' => ?_⟩, hg⟩
      have hj : j < P.cellsOf e := by
        have := (List.getElem?_eq_some_iff.1 hu').1
        omega
      have := hat j hj
      rw [hC] at this
      rw [← add_at_, this, hu']
    obtain ⟨l, hll, hq⟩ := choose_list len each
    refine ⟨l, hll, hl, ⟨hll, by simp only [maxLen] at hm; omega, fun _ => ⟨a, rfl, fun j p hj => (hq j p hj).1⟩⟩, by omega, ?_, fun b hb => ?_⟩
    · have h1 := hz ((elems.length + rest.length) * P.bytesOf e) (by rw [hx]; simp [DataW.weights, hu])
      rw [hB] at h1
      simp only [reachBytes] at h1
      refine Nat.le_trans (Nat.mul_le_mul_right _ ?_) h1
      omega
    · obtain ⟨i, hi⟩ := List.getElem?_of_mem hb
      exact (hq i b hi).2
def OpensFs {α : Type} (P : Program) (off : Nat) (fs : List Field) (d : Kd α) (good : α → Prop) : Prop :=
  ∀ (H : Type) (enc : TypeId × Value → H) (w : World) (fuel : Nat) (cs : List Value) (ys : List (DataW H × List MemPlace)),
    cs.length = off + d.sz → ys.length = fs.length → (∀ (i : Nat) (f : Field), fs[i]? = some f → DataW.trod enc P w 0 (fun _ => true) true fuel f.type ((cs.drop f.offset).take (P.cellsOf f.type)) = ys[i]?) →
    (∀ n ∈ DataW.weightsEach P (fs.map (·.type)) (ys.map (·.1)), n ≤ reachBytes) → ∃ a : α, d.K w a (cs.drop off) ∧ good a
theorem opensFs_one {α : Type} {off : Nat} {f : Field} {d : Kd α} {good : α → Prop} (ho : f.offset = off) (hC : P.cellsOf f.type = d.sz) (h : Opens P f.type d good) : OpensFs P off [f] d good := by
  intro H enc w fuel cs ys hcs hy hf hz
  match ys, hy with
  | [y], _ =>
    have h1 := hf 0 f rfl
    rw [ho, hC, List.take_of_length_le (by simp [List.length_drop]; omega)] at h1
    exact h H enc w fuel _ y h1 (fun n hn => hz n (by simp only [List.map_cons, DataW.weightsEach, List.mem_append]; exact Or.inl hn))
theorem opensFs_cons {α β : Type} {off : Nat} {f : Field} {fs : List Field} {d : Kd α} {e : Kd β} {g1 : α → Prop} {g2 : β → Prop} (ho : f.offset = off) (hC : P.cellsOf f.type = d.sz) (h : Opens P f.type d g1) (hs : OpensFs P (off + d.sz) fs e g2) :
    OpensFs P off (f :: fs) (Kd.pair d e) (fun p => g1 p.1 ∧ g2 p.2) := by
  intro H enc w fuel cs ys hcs hy hf hz
  match ys, hy with
  | y :: ys, hy =>
    have hsz : (Kd.pair d e).sz = d.sz + e.sz := rfl
    rw [hsz] at hcs
    have h1 := hf 0 f rfl
    rw [ho, hC] at h1
    obtain ⟨a, ha, hga⟩ := h H enc w fuel _ y h1 (fun n hn => hz n (by simp only [List.map_cons, DataW.weightsEach, List.mem_append]; exact Or.inl hn))
    obtain ⟨b, hb, hgb⟩ := hs H enc w fuel cs ys (by omega) (by simpa using hy) (fun i f' hi => by simpa using hf (i + 1) f' (by simpa using hi)) (fun n hn => hz n (by simp only [List.map_cons, DataW.weightsEach, List.mem_append]; exact Or.inr hn))
    refine ⟨(a, b), ⟨(cs.drop off).take d.sz, cs.drop (off + d.sz), ?_, ha, hb⟩, hga, hgb⟩
    rw [← List.drop_drop, List.take_append_drop]
theorem opens_struct {α : Type} {t : TypeId} {fs : Array Field} {d : Kd α} {good : α → Prop} (hu : P.underlying t = some (.struct fs)) (hC : P.cellsOf t = d.sz) (h : OpensFs P 0 fs.toList d good) : Opens P t d good := by
  intro H enc w fuel cs x hx hz
  obtain ⟨ys, n, _, hxe, hlen, hyl, hf⟩ := DataW.trod_struct hu hx
  obtain ⟨a, ha, hg⟩ := h H enc w n cs ys (by omega) (by simpa using hyl) (fun i f hi => hf i f (by simpa using hi)) (fun m hm => hz m (by rw [hxe]; simp only [DataW.weights, hu]; exact hm))
  exact ⟨a, by simpa using ha, hg⟩
theorem opens_iso {α β : Type} {t : TypeId} {d : Kd α} {good : α → Prop} (f : β → α) (g : α → β) (hfg : ∀ a, f (g a) = a) (h : Opens P t d good) : Opens P t (Kd.iso d f) (fun b => good (f b)) := by
  intro H enc w fuel cs x hx hz
  obtain ⟨a, ha, hga⟩ := h H enc w fuel cs x hx hz
  refine ⟨g a, ?_, by show good (f (g a)); rw [hfg]; exact hga⟩
  show d.K w (f (g a)) cs
  rw [hfg]
  exact ha
theorem opens_imp {α : Type} {t : TypeId} {d : Kd α} {g1 g2 : α → Prop} (h : Opens P t d g1) (hg : ∀ a, g1 a → g2 a) : Opens P t d g2 := by
  intro H enc w fuel cs x hx hz
  obtain ⟨a, ha, hga⟩ := h H enc w fuel cs x hx hz
  exact ⟨a, ha, hg a hga⟩
theorem weights_of {H : Type} {ts : List TypeId} {ds : List (DataW H)} (h : (DataW.weightsEach P ts ds).all (· ≤ reachBytes) = true) {j : Nat} {t : TypeId} {d : DataW H} (ht : ts[j]? = some t) (hd : ds[j]? = some d) : ∀ n ∈ d.weights P t, n ≤ reachBytes := by
  intro n hn
  have := List.all_eq_true.1 h _ (DataW.weights_mem_each ht hd n hn)
  simpa using this
theorem arg_slice {α : Type} {t e : TypeId} {d : Kd α} {good : α → Prop} (hu : P.underlying t = some (.slice e)) (hC : P.cellsOf e = d.sz) {B : Nat} (hB : P.bytesOf e = B) (ho : Opens P e d good)
    {H : Type} {enc : TypeId × Value → H} {w : World} {r : Reach} {b0 : Nat} {v : Value} {x : DataW H} {ps : List MemPlace} (hv : Value.okWide P w r b0 t v)
    (h : DataW.Trod enc P w 0 (fun _ => true) true t v x ps) (hz : ∀ n ∈ x.weights P t, n ≤ reachBytes) :
    ∃ (A : Option Addr) (c : Nat) (l : List α), v = .slice A l.length c ∧ l.length ≤ c ∧ d.C w A l.length l ∧ l.length ≤ maxLen ∧ l.length * B ≤ 140737488351232 ∧ ∀ a ∈ l, good a := by
  obtain ⟨A, len, c, rfl⟩ := okWide_slice hu hv
  obtain ⟨fuel, hf⟩ := h
  have hf' : DataW.trod enc P w 0 (fun _ => true) true fuel t [.slice A len c] = some (x, ps) := by simpa [Value.cells] using hf
  obtain ⟨l, rfl, hlc, hC', hm, hb, hg⟩ := opens_slice_row hu hC hB ho H enc w fuel A len c _ hf' hz
  exact ⟨A, c, l, rfl, hlc, hC', hm, hb, hg⟩
theorem arg_int {t : TypeId} {k : IntKind} (hu : P.underlying t = some (.int k))
    {H : Type} {enc : TypeId × Value → H} {w : World} {r : Reach} {b0 : Nat} {v : Value} {x : DataW H} {ps : List MemPlace} (hv : Value.okWide P w r b0 t v)
    (h : DataW.Trod enc P w 0 (fun _ => true) true t v x ps) : ∃ n, v = .int k n ∧ (Lit.int k n).wf = true := by
  obtain ⟨n, rfl⟩ := okWide_int hu hv
  obtain ⟨fuel, hf⟩ := h
  obtain ⟨m, hcs, _, hw⟩ := DataW.trod_int hu hf
  simp only [Value.cells] at hcs
  have e : n = m := by simpa using hcs
  subst e
  exact ⟨n, rfl, hw⟩
end Go.Proofs.Ytjhkbmdblfdlnaa.Opn
namespace Go.Proofs.Ytjhkbmdblfdlnaa.prioRoles
open Go.RowKit Go.Proofs.YtjhkbmdblfdlnaaW.PrintWords Go.Proofs.YtjhkbmdblfdlnaaW.PrintLast Go.Proofs.YtjhkbmdblfdlnaaW.PrintMore Go.Proofs.Ytjhkbmdblfdlnaa.QPrio
set_option linter.unusedVariables false
def G23 (x : S23) : Prop := (Lit.int .i64 x.f0).wf = true ∧ (Lit.int .i64 x.f1).wf = true ∧ (Lit.int .i64 x.f2).wf = true ∧ (Lit.int .i64 x.f3).wf = true
def G45 (x : S45) : Prop := G23 x.f0 ∧ (Lit.int .i64 x.f1).wf = true ∧ (Lit.int .i64 x.f2).wf = true ∧ True
def Pure : Prop := ∀ (x0 : Int) (x1 : (List S45)), (Lit.int .i64 x0).wf = true → (x1.length ≤ maxLen ∧ x1.length * 56 ≤ 140737488351232 ∧ ∀ a ∈ x1, G45 a) → ∃ k, kissgatelaw10_PrioRoles.f k x0 x1 = some true
end Go.Proofs.Ytjhkbmdblfdlnaa.prioRoles
namespace Go.Proofs.Ytjhkbmdblfdlnaa.Pri
open Go.RowKit Go.Proofs.YtjhkbmdblfdlnaaW.PrintWords Go.Proofs.YtjhkbmdblfdlnaaW.PrintLast Go.Proofs.YtjhkbmdblfdlnaaW.PrintMore Go.Proofs.Ytjhkbmdblfdlnaa.QPrio
def Fit (a : Int) : Prop := -9223372036854775808 ≤ a ∧ a ≤ 9223372036854775807
theorem fit_of {a : Int} (h : (Lit.int .i64 a).wf = true) : Fit a := by
  simp only [Lit.wf, Bool.and_eq_true, decide_eq_true_eq] at h
  unfold Fit
  have e1 : IntKind.i64.min = -9223372036854775808 := by decide
  have e2 : IntKind.i64.max = 9223372036854775807 := by decide
  rw [e1, e2] at h
  exact h
def sgn (a b : Int) : Int := if a < b then -1 else if a > b then 1 else 0
theorem cmp_sgn (a b : Int) : cmp_Compare_int.f a b = some (sgn a b) := by
  unfold cmp_Compare_int.f cmp_isNaN_int.f sgn
  simp only [bne_self_eq_false, Option.bind_some, Bool.false_eq_true, if_false]
  split
  · rfl
  · split <;> rfl
def or4 (a b c d : Int) : Int := if a ≠ 0 then a else if b ≠ 0 then b else if c ≠ 0 then c else d
theorem or_four (a b c d : Int) (k : Nat) : cmp_Or_int.f (k + 5) [a, b, c, d] = some (or4 a b c d) := by
  have r0 : rd [a, b, c, d] 0 = a := rfl
  have r1 : rd [a, b, c, d] 1 = b := rfl
  have r2 : rd [a, b, c, d] 2 = c := rfl
  have r3 : rd [a, b, c, d] 3 = d := rfl
  have w0 : wrap64 (0 + 1) = 1 := by unfold wrap64; decide
  have w1 : wrap64 (1 + 1) = 2 := by unfold wrap64; decide
  have w2 : wrap64 (2 + 1) = 3 := by unfold wrap64; decide
  have w3 : wrap64 (3 + 1) = 4 := by unfold wrap64; decide
  unfold cmp_Or_int.f
  have hl : (([a, b, c, d] : List Int).length : Int) = 4 := rfl
  rw [hl, cmp_Or_int.l0, if_pos (by decide), if_pos (by decide), hl, if_pos (by decide), r0]
  by_cases ha : a = 0
  · rw [if_pos ha, w0, cmp_Or_int.l0, if_pos (by decide), if_pos (by decide), hl, if_pos (by decide), r1]
    by_cases hb : b = 0
    · rw [if_pos hb, w1, cmp_Or_int.l0, if_pos (by decide), if_pos (by decide), hl, if_pos (by decide), r2]
      by_cases hc : c = 0
      · rw [if_pos hc, w2, cmp_Or_int.l0, if_pos (by decide), if_pos (by decide), hl, if_pos (by decide), r3]
        by_cases hd : d = 0
        · rw [if_pos hd, w3, cmp_Or_int.l0, if_neg (by decide)]
          simp [or4, ha, hb, hc, hd]
        · rw [if_neg hd]
          simp [or4, ha, hb, hc]
      · rw [if_neg hc]
        simp [or4, ha, hb, hc]
    · rw [if_neg hb]
      simp [or4, ha, hb]
  · rw [if_neg ha]
    simp [or4, ha]
def cmpV (a b : S23) : Int := or4 (sgn a.f0 b.f0) (sgn a.f1 b.f1) (sgn a.f2 b.f2) (sgn a.f3 b.f3)
theorem compare_ev (a b : S23) : Ev (fun k => prio_Compare.f k a.f0 a.f1 a.f2 a.f3 b.f0 b.f1 b.f2 b.f3) (cmpV a b) := by
  refine Ev.of (fun k => prio_Compare.mono _ _ _ _ _ _ _ _ k) (k := 5) ?_
  unfold prio_Compare.f
  simp only [cmp_sgn, Option.bind_some]
  rw [or_four _ _ _ _ 0]
  rfl
def bet (a b : S23) : Bool := decide (a.f0 < b.f0 ∨ a.f0 = b.f0 ∧ (a.f1 < b.f1 ∨ a.f1 = b.f1 ∧ (a.f2 < b.f2 ∨ a.f2 = b.f2 ∧ a.f3 < b.f3)))
theorem cmpV_neg (a b : S23) : decide (cmpV a b < 0) = bet a b := by
  unfold cmpV or4 sgn bet
  rw [decide_eq_decide]
  repeat' split
  all_goals omega
theorem better_ev (a b : S23) : Ev (fun k => prio_Better.f k a.f0 a.f1 a.f2 a.f3 b.f0 b.f1 b.f2 b.f3) (bet a b) := by
  unfold prio_Better.f
  refine Ev.bind (compare_ev a b) ?_
  rw [cmpV_neg]
  exact Ev.now _
theorem better_ref (a b : S23) : kissgateref10_Better.f a.f0 a.f1 a.f2 a.f3 b.f0 b.f1 b.f2 b.f3 = some (bet a b) := by
  unfold kissgateref10_Better.f bet
  by_cases h0 : a.f0 = b.f0
  · rw [if_pos h0]
    by_cases h1 : a.f1 = b.f1
    · rw [if_pos h1]
      by_cases h2 : a.f2 = b.f2
      · rw [if_pos h2]; congr 1; rw [decide_eq_decide]; omega
      · rw [if_neg h2]; congr 1; rw [decide_eq_decide]; omega
    · rw [if_neg h1]; congr 1; rw [decide_eq_decide]; omega
  · rw [if_neg h0]; congr 1; rw [decide_eq_decide]; omega
def sumc (a b : Int) : Int := if mx a 0 + mx b 0 > 9223372036854775807 then 9223372036854775807 else mx a 0 + mx b 0
theorem sum_prog {a b : Int} (ha : Fit a) (hb : Fit b) : cost_Sum.f a b = some (sumc a b) := by
  unfold cost_Sum.f sumc
  unfold Fit at ha hb
  unfold mx wrap64
  repeat' split
  all_goals first | rfl | omega | (congr 1; omega)
theorem sum_ref {a b : Int} (ha : Fit a) (hb : Fit b) : kissgateref10_Sum.f a b = some (sumc a b) := by
  unfold kissgateref10_Sum.f sumc
  unfold Fit at ha hb
  unfold mx wrap64
  repeat' split
  all_goals first | rfl | omega | (congr 1; omega)
def brid (a : Int) : Bool := decide (0 < a ∧ a / 281474976710656 ≤ 15 ∧ a % 281474976710656 / 1099511627776 % 2 ≠ 1)
theorem wraps_i64 (n : Int) (h₀ : 0 ≤ n) (h₁ : n < 2 ^ 63) : IntKind.i64.wrap n = n := by
  rw [IntKind.wrap_i64]
  have : (2 : Int) ^ 63 = 9223372036854775808 := by decide
  omega
theorem bridge_prog {a : Int} (ha : Fit a) : bpdu_Bridge.f a = some (brid a) := by
  unfold Fit at ha
  unfold bpdu_Bridge.f brid
  have e63 : (2 : Int) ^ 63 = 9223372036854775808 := by decide
  by_cases h0 : a > 0
  · rw [if_pos h0]
    by_cases h1 : a / 281474976710656 ≤ 15
    · rw [if_pos h1]
      have hm : Go.bits .and .i64 a 281474976710655 = a % 281474976710656 := by
        have := bits_mask .i64 63 (by decide) wraps_i64 48 (by decide) a (by omega) (by omega)
        have e1 : ((2 : Int) ^ 48 - 1) = 281474976710655 := by decide
        have e2 : ((2 : Int) ^ 48) = 281474976710656 := by decide
        rw [e1, e2] at this
        exact this
      rw [hm]
      unfold addr_Many.f addr_Good.f
      have g1 : a % 281474976710656 ≥ 0 := by omega
      have g2 : decide (a % 281474976710656 ≤ 281474976710655) = true := decide_eq_true (by omega)
      rw [if_pos g1, g2]
      simp only [Option.bind_some, if_true]
      have hb : Go.bits .and .i64 (a % 281474976710656 / 1099511627776) 1 = a % 281474976710656 / 1099511627776 % 2 := by
        have := bits_mask .i64 63 (by decide) wraps_i64 1 (by decide) (a % 281474976710656 / 1099511627776) (by omega) (by omega)
        exact this
      rw [hb]
      congr 1
      rw [Bool.eq_iff_iff]
      simp
      omega
    · rw [if_neg h1]
      congr 1
      symm
      exact decide_eq_false (by omega)
  · rw [if_neg h0]
    congr 1
    symm
    exact decide_eq_false (by omega)
theorem bridge_ref {a : Int} (ha : Fit a) : kissgateref08_Bridge.f a = some (brid a) := by
  unfold Fit at ha
  unfold kissgateref08_Bridge.f brid
  by_cases h0 : a ≤ 0
  · rw [if_pos h0]
    congr 1
    symm
    exact decide_eq_false (by omega)
  · rw [if_neg h0]
    have hd : Int.tdiv a 281474976710656 = a / 281474976710656 := Int.tdiv_eq_ediv_of_nonneg (by omega)
    have hm : Int.tmod a 281474976710656 = a % 281474976710656 := Int.tmod_eq_emod_of_nonneg (by omega)
    have hw : wrap64 (a / 281474976710656) = a / 281474976710656 := by unfold wrap64; omega
    rw [hd, hm, hw]
    by_cases h1 : a / 281474976710656 > 15
    · rw [if_pos h1]
      congr 1
      symm
      exact decide_eq_false (by omega)
    · rw [if_neg h1]
      unfold kissgateref02_Many.f kissgateref02_Good.f
      have g1 : a % 281474976710656 ≥ 0 := by omega
      have g2 : decide (a % 281474976710656 < 281474976710656) = true := decide_eq_true (by omega)
      rw [if_pos g1, g2]
      simp only [Option.bind_some, if_true]
      have hd2 : Int.tdiv (a % 281474976710656) 1099511627776 = a % 281474976710656 / 1099511627776 := Int.tdiv_eq_ediv_of_nonneg (by omega)
      have hw2 : wrap64 (a % 281474976710656 / 1099511627776) = a % 281474976710656 / 1099511627776 := by unfold wrap64; omega
      have hm2 : Int.tmod (a % 281474976710656 / 1099511627776) 2 = a % 281474976710656 / 1099511627776 % 2 := Int.tmod_eq_emod_of_nonneg (by omega)
      rw [hd2, hw2, hm2]
      congr 1
      rw [Bool.eq_iff_iff]
      simp
      omega
def takes (h : S45) (id : Int) : Bool := decide (h.f3 = false ∧ 0 ≤ h.f1 ∧ h.f1 < 10 ∧ brid h.f0.f0 = true ∧ h.f0.f2 ≠ id)
theorem takes_prog (h : S45) (id : Int) (hr : Fit h.f0.f0) : prio_takes.f h.f0.f0 h.f0.f1 h.f0.f2 h.f0.f3 h.f1 h.f2 h.f3 id = some (takes h id) := by
  unfold prio_takes.f takes
  rw [bridge_prog hr]
  cases h.f3 with
  | true => simp
  | false =>
    simp only [Bool.false_eq_true, if_false, Option.bind_some]
    by_cases h1 : h.f1 ≥ 0
    · rw [if_pos h1]
      by_cases h2 : h.f1 < 10
      · rw [if_pos h2]
        cases brid h.f0.f0 with
        | false => simp
        | true => simp only [if_true]; congr 1; rw [Bool.eq_iff_iff]; simp; omega
      · rw [if_neg h2]; congr 1; symm; exact decide_eq_false (by omega)
    · rw [if_neg h1]; congr 1; symm; exact decide_eq_false (by omega)
def conv (h : S45) : S73 := ⟨⟨h.f0.f0, h.f0.f1, h.f0.f2, h.f0.f3⟩, h.f1, h.f2, h.f3⟩
theorem takes_ref (h : S45) (id : Int) (hr : Fit h.f0.f0) : kissgateref10_Use.f h.f0.f0 h.f0.f1 h.f0.f2 h.f0.f3 h.f1 h.f2 h.f3 id = some (takes h id) := by
  unfold kissgateref10_Use.f takes
  rw [bridge_ref hr]
  cases h.f3 with
  | true => simp
  | false =>
    simp only [Bool.false_eq_true, if_false, Option.bind_some]
    by_cases h1 : h.f1 ≥ 0
    · rw [if_pos h1]
      by_cases h2 : h.f1 ≤ 9
      · rw [if_pos h2]
        cases brid h.f0.f0 with
        | false => simp
        | true => simp only [if_true]; congr 1; rw [Bool.eq_iff_iff]; simp; omega
      · rw [if_neg h2]; congr 1; symm; exact decide_eq_false (by omega)
    · rw [if_neg h1]; congr 1; symm; exact decide_eq_false (by omega)
def thr (h : S45) : S23 := ⟨h.f0.f0, sumc h.f0.f1 h.f2, h.f0.f2, h.f0.f3⟩
def FitH (h : S45) : Prop := Fit h.f0.f0 ∧ Fit h.f0.f1 ∧ Fit h.f2
def step (id : Int) (j : Nat) (h : S45) (acc : S23 × Int) : S23 × Int := if takes h id = true ∧ h.f0.f0 < id ∧ bet (thr h) acc.1 = true then (thr h, (j : Int)) else acc
def best (id : Int) : Nat → List S45 → S23 × Int → S23 × Int
  | _, [], acc => acc
  | j, h :: t, acc => best id (j + 1) t (step id j h acc)
def own (id : Int) : S23 := ⟨id, 0, id, 0⟩
def bestOf (id : Int) (l : List S45) : S23 × Int := best id 0 l (own id, -1)
def tup (a : S23 × Int) : Int × Int × Int × Int × Int := (a.1.f0, a.1.f1, a.1.f2, a.1.f3, a.2)
theorem wrap_up {i : Int} {n : Nat} (h0 : 0 ≤ i) (h : i < (n : Int)) (hn : n ≤ 9223372036854775000) : wrap64 (i + 1) = i + 1 := by
  unfold wrap64
  omega
theorem rd45 {l : List S45} {i : Nat} (h : i < l.length) : rd_T45 l i = l[i] := by
  unfold rd_T45
  rw [Int.toNat_natCast, List.getD_eq_getElem?_getD, List.getElem?_eq_getElem h]; rfl
theorem rd73 {l : List S45} {i : Nat} (h : i < l.length) : rd_T73 (l.map conv) i = conv l[i] := by
  unfold rd_T73
  rw [Int.toNat_natCast, List.getD_eq_getElem?_getD, List.getElem?_map, List.getElem?_eq_getElem h]; rfl
theorem best_loop (id : Int) (l : List S45) (hn : l.length ≤ 9223372036854775000) (hf : ∀ h ∈ l, FitH h) (d : Nat) : ∀ (i : Nat) (acc : S23 × Int), i + d = l.length →
    Ev (fun k => prio_Best.l0 k id acc.2 l l.length i acc.1.f0 acc.1.f1 acc.1.f2 acc.1.f3) (tup (best id i (l.drop i) acc)) := by
  induction d with
  | zero =>
    intro i acc hi
    rw [List.drop_of_length_le (by omega)]
    exact Ev.step (fun k => by rw [prio_Best.l0, if_neg (by omega)]; rfl) (Ev.now (tup acc))
  | succ d ih =>
    intro i acc hi
    have hlt : i < l.length := by omega
    obtain ⟨f0, f1, f2⟩ := hf l[i] (List.getElem_mem hlt)
    rw [List.drop_eq_getElem_cons hlt]
    simp only [best]
    have hs : ∀ k, prio_Best.l0 (k + 1) id acc.2 l l.length i acc.1.f0 acc.1.f1 acc.1.f2 acc.1.f3 =
        (if takes l[i] id = true then (if l[i].f0.f0 < id then ((prio_Better.f k (thr l[i]).f0 (thr l[i]).f1 (thr l[i]).f2 (thr l[i]).f3 acc.1.f0 acc.1.f1 acc.1.f2 acc.1.f3).bind fun t => if t = true then prio_Best.l0 k id i l l.length ((i + 1 : Nat) : Int) (thr l[i]).f0 (thr l[i]).f1 (thr l[i]).f2 (thr l[i]).f3 else prio_Best.l0 k id acc.2 l l.length ((i + 1 : Nat) : Int) acc.1.f0 acc.1.f1 acc.1.f2 acc.1.f3) else prio_Best.l0 k id acc.2 l l.length ((i + 1 : Nat) : Int) acc.1.f0 acc.1.f1 acc.1.f2 acc.1.f3) else prio_Best.l0 k id acc.2 l l.length ((i + 1 : Nat) : Int) acc.1.f0 acc.1.f1 acc.1.f2 acc.1.f3) := by
      intro k
      rw [prio_Best.l0, if_pos (by omega), if_pos (by omega), if_pos (by omega), rd45 hlt, wrap_up (n := l.length) (by omega) (by omega) hn, takes_prog _ _ f0]
      unfold prio_Through.f
      rw [sum_prog f1 f2]
      rfl
    refine Ev.step hs ?_
    unfold step
    by_cases h1 : takes l[i] id = true
    · rw [h1]
      simp only [if_true, true_and]
      by_cases h2 : l[i].f0.f0 < id
      · simp only [if_pos h2]
        refine Ev.bind (better_ev (thr l[i]) acc.1) ?_
        by_cases h3 : bet (thr l[i]) acc.1 = true
        · rw [h3]
          simp only [if_true]
          rw [if_pos ⟨h2, trivial⟩]
          exact ih (i + 1) (thr l[i], (i : Int)) (by omega)
        · rw [if_neg (by simp [h3])]
          simp only [h3, Bool.false_eq_true, if_false]
          exact ih (i + 1) acc (by omega)
      · simp only [if_neg h2]
        rw [if_neg (by simp [h2])]
        exact ih (i + 1) acc (by omega)
    · rw [if_neg (by simp [h1])]
      simp only [h1, Bool.false_eq_true, if_false]
      exact ih (i + 1) acc (by omega)
theorem best_prog (id : Int) (l : List S45) (hn : l.length ≤ 9223372036854775000) (hf : ∀ h ∈ l, FitH h) : Ev (fun k => prio_Best.f k id l) (tup (bestOf id l)) := by
  have := best_loop id l hn hf l.length 0 (own id, -1) (by omega)
  rw [List.drop_zero] at this
  exact this
theorem bref_loop (id : Int) (l : List S45) (hn : l.length ≤ 9223372036854775000) (hf : ∀ h ∈ l, FitH h) (d : Nat) : ∀ (i : Nat) (acc : S23 × Int), i + d = l.length →
    Ev (fun k => kissgateref10_Best.l0 k id acc.2 (l.map conv) l.length i acc.1.f0 acc.1.f1 acc.1.f2 acc.1.f3) (tup (best id i (l.drop i) acc)) := by
  induction d with
  | zero =>
    intro i acc hi
    rw [List.drop_of_length_le (by omega)]
    exact Ev.step (fun k => by rw [kissgateref10_Best.l0, if_neg (by omega)]; rfl) (Ev.now (tup acc))
  | succ d ih =>
    intro i acc hi
    have hlt : i < l.length := by omega
    have hlm : (l.map conv).length = l.length := List.length_map _
    obtain ⟨f0, f1, f2⟩ := hf l[i] (List.getElem_mem hlt)
    rw [List.drop_eq_getElem_cons hlt]
    simp only [best]
    have hs : ∀ k, kissgateref10_Best.l0 (k + 1) id acc.2 (l.map conv) l.length i acc.1.f0 acc.1.f1 acc.1.f2 acc.1.f3 =
        (if takes l[i] id = true then (if l[i].f0.f0 < id then (if bet (thr l[i]) acc.1 = true then kissgateref10_Best.l0 k id i (l.map conv) l.length ((i + 1 : Nat) : Int) (thr l[i]).f0 (thr l[i]).f1 (thr l[i]).f2 (thr l[i]).f3 else kissgateref10_Best.l0 k id acc.2 (l.map conv) l.length ((i + 1 : Nat) : Int) acc.1.f0 acc.1.f1 acc.1.f2 acc.1.f3) else kissgateref10_Best.l0 k id acc.2 (l.map conv) l.length ((i + 1 : Nat) : Int) acc.1.f0 acc.1.f1 acc.1.f2 acc.1.f3) else kissgateref10_Best.l0 k id acc.2 (l.map conv) l.length ((i + 1 : Nat) : Int) acc.1.f0 acc.1.f1 acc.1.f2 acc.1.f3) := by
      intro k
      rw [kissgateref10_Best.l0, if_pos (by omega), if_pos (by omega), if_pos (by omega), rd73 hlt, wrap_up (n := l.length) (by omega) (by omega) hn]
      have ht : kissgateref10_Use.f (conv l[i]).f0.f0 (conv l[i]).f0.f1 (conv l[i]).f0.f2 (conv l[i]).f0.f3 (conv l[i]).f1 (conv l[i]).f2 (conv l[i]).f3 id = some (takes l[i] id) := takes_ref l[i] id f0
      have hq : kissgateref10_Sum.f (conv l[i]).f0.f1 (conv l[i]).f2 = some (sumc l[i].f0.f1 l[i].f2) := sum_ref f1 f2
      rw [ht, hq]
      simp only [Option.bind_some]
      have hb : kissgateref10_Better.f (conv l[i]).f0.f0 (sumc l[i].f0.f1 l[i].f2) (conv l[i]).f0.f2 (conv l[i]).f0.f3 acc.1.f0 acc.1.f1 acc.1.f2 acc.1.f3 = some (bet (thr l[i]) acc.1) := better_ref (thr l[i]) acc.1
      rw [hb]
      rfl
    refine Ev.step hs ?_
    unfold step
    by_cases h1 : takes l[i] id = true
    · by_cases h2 : l[i].f0.f0 < id
      · by_cases h3 : bet (thr l[i]) acc.1 = true
        · simp only [h1, h2, h3, if_true, and_self]
          exact ih (i + 1) (thr l[i], (i : Int)) (by omega)
        · simp only [h1, h2, h3, if_true, and_false, Bool.false_eq_true, if_false]
          exact ih (i + 1) acc (by omega)
      · simp only [h1, h2, if_true, and_false, false_and, if_false]
        exact ih (i + 1) acc (by omega)
    · simp only [h1, Bool.false_eq_true, false_and, if_false]
      exact ih (i + 1) acc (by omega)
theorem best_ref (id : Int) (l : List S45) (hn : l.length ≤ 9223372036854775000) (hf : ∀ h ∈ l, FitH h) : Ev (fun k => kissgateref10_Best.f k id (l.map conv)) (tup (bestOf id l)) := by
  have := bref_loop id l hn hf l.length 0 (own id, -1) (by omega)
  rw [List.drop_zero] at this
  unfold kissgateref10_Best.f
  rw [List.length_map]
  exact this
theorem plain_loop (l : List S45) (hl : l.length * 56 ≤ 140737488351232) (d : Nat) : ∀ (i : Nat), i + d = l.length →
    Ev (fun k => kissgatelaw10_plain.l0 k ((l.take i).map conv) l l.length i) (l.map conv) := by
  induction d with
  | zero =>
    intro i hi
    rw [List.take_of_length_le (by omega)]
    exact Ev.step (fun k => by rw [kissgatelaw10_plain.l0, if_neg (by omega)]) (Ev.now _)
  | succ d ih =>
    intro i hi
    have hlt : i < l.length := by omega
    refine Ev.step (fun k => ?_) (ih (i + 1) (by omega))
    rw [kissgatelaw10_plain.l0, if_pos (by omega), if_pos (by omega), if_pos (by omega), rd45 hlt, if_pos (by simp; omega), wrap_up (n := l.length) (by omega) (by omega) (by omega), List.take_succ_eq_append_getElem hlt, List.map_append]
    rfl
theorem plain (l : List S45) (hl : l.length * 56 ≤ 140737488351232) : Ev (fun k => kissgatelaw10_plain.f k l) (l.map conv) := plain_loop l hl l.length 0 (by omega)
theorem alive : Ev (fun k => kissgatelaw10_alive.f k) true := Ev.of kissgatelaw10_alive.mono (k := 20) (by decide +kernel)
def offer (v : S23) (id port : Int) : S23 := ⟨v.f0, v.f1, id, port⟩
def role (id : Int) (b : S23 × Int) (i : Nat) (h : S45) : Int := if (i : Int) = b.2 then 1 else if takes h id = true ∧ bet (offer b.1 id i) h.f0 = false then 3 else 2
def rolesFrom (id : Int) (b : S23 × Int) : Nat → List S45 → List Int
  | _, [] => []
  | i, h :: t => role id b i h :: rolesFrom id b (i + 1) t
theorem roles_loop (id : Int) (l : List S45) (b : S23 × Int) (hn : l.length * 56 ≤ 140737488351232) (hf : ∀ h ∈ l, FitH h) (d : Nat) : ∀ (i : Nat) (out : List Int), i + d = l.length → out.length = i →
    Ev (fun k => prio_Roles.l0 k id b.2 out l l.length i b.1.f0 b.1.f1 b.1.f2 b.1.f3) (out ++ rolesFrom id b i (l.drop i), b.1.f0, b.1.f1, b.1.f2, b.1.f3, b.2) := by
  induction d with
  | zero =>
    intro i out hi ho
    rw [List.drop_of_length_le (by omega)]
    simp only [rolesFrom, List.append_nil]
    exact Ev.step (fun k => by rw [prio_Roles.l0, if_neg (by omega)]) (Ev.now _)
  | succ d ih =>
    intro i out hi ho
    have hlt : i < l.length := by omega
    obtain ⟨f0, f1, f2⟩ := hf l[i] (List.getElem_mem hlt)
    rw [List.drop_eq_getElem_cons hlt]
    simp only [rolesFrom]
    have hi1 := ih (i + 1) (out ++ [role id b i l[i]]) (by omega) (by simp [ho])
    rw [List.append_assoc, List.singleton_append] at hi1
    have hcast : ((i + 1 : Nat) : Int) = (i : Int) + 1 := by omega
    by_cases h0 : (i : Int) = b.2
    · have hr : role id b i l[i] = 1 := by unfold role; rw [if_pos h0]
      rw [hr] at hi1 ⊢
      exact Ev.step (fun k => by rw [prio_Roles.l0, if_pos (by omega), if_pos (by omega), if_pos (by omega), if_pos h0, if_pos (by omega), wrap_up (i := (i : Int)) (n := l.length) (by omega) (by omega) (by omega), ← hcast]) hi1
    · by_cases h1 : takes l[i] id = true
      · have hs : ∀ k, prio_Roles.l0 (k + 1) id b.2 out l l.length i b.1.f0 b.1.f1 b.1.f2 b.1.f3 = (prio_Better.f k (offer b.1 id i).f0 (offer b.1 id i).f1 (offer b.1 id i).f2 (offer b.1 id i).f3 l[i].f0.f0 l[i].f0.f1 l[i].f0.f2 l[i].f0.f3).bind fun t => if t = true then prio_Roles.l0 k id b.2 (out ++ [2]) l l.length ((i + 1 : Nat) : Int) b.1.f0 b.1.f1 b.1.f2 b.1.f3 else prio_Roles.l0 k id b.2 (out ++ [3]) l l.length ((i + 1 : Nat) : Int) b.1.f0 b.1.f1 b.1.f2 b.1.f3 := by
          intro k
          rw [prio_Roles.l0, if_pos (by omega), if_pos (by omega), if_pos (by omega), if_neg h0, rd45 hlt, takes_prog _ _ f0, h1, Option.bind_some, if_pos rfl, wrap_up (i := (i : Int)) (n := l.length) (by omega) (by omega) (by omega), if_pos (show out.length < 17592186044416 by omega), if_pos (show out.length < 17592186044416 by omega)]
          rfl
        refine Ev.step hs ?_
        refine Ev.bind (better_ev (offer b.1 id i) l[i].f0) ?_
        cases h2 : bet (offer b.1 id i) l[i].f0 with
        | true =>
          have hr : role id b i l[i] = 2 := by unfold role; rw [if_neg h0, if_neg (by simp [h2])]
          rw [hr] at hi1 ⊢
          simp only [if_true]
          exact hi1
        | false =>
          have hr : role id b i l[i] = 3 := by unfold role; rw [if_neg h0, if_pos ⟨h1, h2⟩]
          rw [hr] at hi1 ⊢
          simp only [Bool.false_eq_true, if_false]
          exact hi1
      · have hr : role id b i l[i] = 2 := by unfold role; rw [if_neg h0, if_neg (by simp [h1])]
        rw [hr] at hi1 ⊢
        have h1' : takes l[i] id = false := by simpa using h1
        exact Ev.step (fun k => by rw [prio_Roles.l0, if_pos (by omega), if_pos (by omega), if_pos (by omega), if_neg h0, rd45 hlt, takes_prog _ _ f0, h1', Option.bind_some, if_neg (by decide), if_pos (by omega), wrap_up (i := (i : Int)) (n := l.length) (by omega) (by omega) (by omega), ← hcast]) hi1
def roles (id : Int) (l : List S45) : List Int := rolesFrom id (bestOf id l) 0 l
theorem roles_prog (id : Int) (l : List S45) (hn : l.length * 56 ≤ 140737488351232) (hf : ∀ h ∈ l, FitH h) :
    Ev (fun k => prio_Roles.f k id l) (roles id l, (bestOf id l).1.f0, (bestOf id l).1.f1, (bestOf id l).1.f2, (bestOf id l).1.f3, (bestOf id l).2) := by
  unfold prio_Roles.f
  refine Ev.bind (best_prog id l (by omega) hf) ?_
  exact roles_loop id l (bestOf id l) hn hf l.length 0 [] (by omega) rfl
theorem rolesFrom_len (id : Int) (b : S23 × Int) (l : List S45) : ∀ i, (rolesFrom id b i l).length = l.length := by
  induction l with
  | nil => intro i; rfl
  | cons h t ih => intro i; simp [rolesFrom, ih]
theorem rolesFrom_get (id : Int) (b : S23 × Int) (l : List S45) : ∀ (i j : Nat) (hj : j < l.length), (rolesFrom id b i l)[j]? = some (role id b (i + j) l[j]) := by
  induction l with
  | nil => intro i j hj; simp at hj
  | cons h t ih =>
    intro i j hj
    cases j with
    | zero => simp [rolesFrom]
    | succ j => simp only [rolesFrom, List.getElem?_cons_succ, List.getElem_cons_succ]; rw [ih (i + 1) j (by simpa using hj)]; congr 2; omega
theorem roles_len (id : Int) (l : List S45) : (roles id l).length = l.length := rolesFrom_len _ _ _ _
theorem roles_get (id : Int) (l : List S45) (i : Nat) (hi : i < l.length) : rd (roles id l) i = role id (bestOf id l) i l[i] := by
  unfold rd roles
  rw [Int.toNat_natCast, List.getD_eq_getElem?_getD, rolesFrom_get _ _ _ _ _ hi]
  simp
theorem role_ref (id : Int) (l : List S45) (hn : l.length * 56 ≤ 140737488351232) (hf : ∀ h ∈ l, FitH h) (i : Nat) (hi : i < l.length) : Ev (fun k => kissgateref10_Role.f k id (l.map conv) i) (role id (bestOf id l) i l[i]) := by
  have hlm : (l.map conv).length = l.length := List.length_map _
  obtain ⟨f0, f1, f2⟩ := hf l[i] (List.getElem_mem hi)
  unfold kissgateref10_Role.f
  refine Ev.bind (best_ref id l (by omega) hf) ?_
  unfold role
  by_cases h0 : (i : Int) = (bestOf id l).2
  · rw [if_pos h0]
    exact Ev.congr (fun k => by rw [if_pos (by exact h0)]) (Ev.now _)
  · rw [if_neg h0]
    have ht : kissgateref10_Use.f (conv l[i]).f0.f0 (conv l[i]).f0.f1 (conv l[i]).f0.f2 (conv l[i]).f0.f3 (conv l[i]).f1 (conv l[i]).f2 (conv l[i]).f3 id = some (takes l[i] id) := takes_ref l[i] id f0
    have hb : kissgateref10_Better.f (bestOf id l).1.f0 (bestOf id l).1.f1 id i (conv l[i]).f0.f0 (conv l[i]).f0.f1 (conv l[i]).f0.f2 (conv l[i]).f0.f3 = some (bet (offer (bestOf id l).1 id i) l[i].f0) := better_ref (offer (bestOf id l).1 id i) l[i].f0
    refine Ev.congr (fun k => by rw [if_neg (by exact h0), if_pos (by omega), if_pos (by omega), rd73 hi, ht, Option.bind_some]) ?_
    cases takes l[i] id with
    | false => simp only [Bool.false_eq_true, if_false, false_and]; exact Ev.now _
    | true =>
      simp only [if_true, true_and]
      refine Ev.congr (fun k => by rw [show (tup (bestOf id l)).1 = (bestOf id l).1.f0 from rfl, show (tup (bestOf id l)).2.1 = (bestOf id l).1.f1 from rfl, hb, Option.bind_some]) ?_
      cases bet (offer (bestOf id l).1 id i) l[i].f0 with
      | false => simp only [Bool.false_eq_true, if_false, if_true]; exact Ev.now _
      | true => simp only [if_true, Bool.true_eq_false, if_false]; exact Ev.now _
end Go.Proofs.Ytjhkbmdblfdlnaa.Pri
namespace Go.Proofs.Ytjhkbmdblfdlnaa.prioRoles
open Go.RowKit Go.Proofs.YtjhkbmdblfdlnaaW.PrintWords Go.Proofs.YtjhkbmdblfdlnaaW.PrintLast Go.Proofs.YtjhkbmdblfdlnaaW.PrintMore Go.Proofs.Ytjhkbmdblfdlnaa.QPrio Go.Proofs.Ytjhkbmdblfdlnaa.Pri
theorem fits {l : List S45} (h : ∀ a ∈ l, G45 a) : ∀ a ∈ l, FitH a := fun a ha => ⟨fit_of (h a ha).1.1, fit_of (h a ha).1.2.1, fit_of (h a ha).2.2.1⟩
def Ok (id : Int) (n : Nat) (b : S23 × Int) : Prop := (b.2 = -1 ∧ b.1.f0 = id) ∨ (b.1.f0 < id ∧ ∃ s : Nat, s < n ∧ b.2 = s)
theorem best_ok (id : Int) (l : List S45) : ∀ (i : Nat) (acc : S23 × Int), Ok id i acc → Ok id (i + l.length) (best id i l acc) := by
  induction l with
  | nil => intro i acc h; exact h
  | cons h t ih =>
    intro i acc ha
    simp only [best, List.length_cons]
    have hs : Ok id (i + 1) (Pri.step id i h acc) := by
      unfold Pri.step
      split
      · rename_i hc
        exact .inr ⟨hc.2.1, i, by omega, rfl⟩
      · rcases ha with ha | ⟨h1, s, hs, h2⟩
        · exact .inl ha
        · exact .inr ⟨h1, s, by omega, h2⟩
    have := ih (i + 1) _ hs
    rw [show i + 1 + t.length = i + (t.length + 1) from by omega] at this
    exact this
theorem bestOf_ok (id : Int) (l : List S45) : Ok id l.length (bestOf id l) := by
  have := best_ok id l 0 (own id, -1) (.inl ⟨rfl, rfl⟩)
  rw [Nat.zero_add] at this
  exact this
theorem role_one {id : Int} {b : S23 × Int} {i : Nat} {h : S45} : role id b i h = 1 ↔ (i : Int) = b.2 := by
  unfold role
  split
  · simp_all
  · split <;> simp_all
def cnt (at_ : Int) (i : Nat) : Int := if 0 ≤ at_ ∧ at_ < i then 1 else 0
theorem loop (id : Int) (l : List S45) (hb : l.length * 56 ≤ 140737488351232) (h20 : l.length ≤ 20) (hf : ∀ h ∈ l, FitH h) (d : Nat) : ∀ (i : Nat), i + d = l.length →
    Ev (fun k => kissgatelaw10_PrioRoles.l0 k id (bestOf id l).2 (l.map conv) (cnt (bestOf id l).2 i) (roles id l) l.length i (bestOf id l).1.f0 (bestOf id l).1.f1 (bestOf id l).1.f2 (bestOf id l).1.f3) true := by
  have hrl := roles_len id l
  have hok := bestOf_ok id l
  induction d with
  | zero =>
    intro i hi
    refine Ev.step (fun k => by rw [kissgatelaw10_PrioRoles.l0, if_neg (by omega)]) ?_
    have hil : i = l.length := by omega
    subst hil
    have hc : cnt (bestOf id l).2 l.length ≤ 1 := by unfold cnt; split <;> omega
    simp only [if_pos hc]
    rcases hok with ⟨h1, h2⟩ | ⟨h1, s, hs, h2⟩
    · simp only [if_pos h2, h1]
      exact Ev.now _
    · have hc1 : cnt (bestOf id l).2 l.length = 1 := by unfold cnt; rw [if_pos (by omega)]
      have hne : ¬ (bestOf id l).1.f0 = id := by omega
      simp only [if_neg hne, hc1]
      exact Ev.now _
  | succ d ih =>
    intro i hi
    have hlt : i < l.length := by omega
    refine Ev.step (fun k => by rw [kissgatelaw10_PrioRoles.l0, if_pos (by omega), if_pos (by omega), if_pos (by omega), roles_get id l i hlt]) ?_
    refine Ev.bind (role_ref id l hb hf i hlt) ?_
    simp only [if_true]
    have hw : wrap64 ((i : Int) + 1) = ((i + 1 : Nat) : Int) := by unfold wrap64; omega
    have hi1 := ih (i + 1) (by omega)
    rw [hw]
    by_cases h1 : role id (bestOf id l) i l[i] = 1
    · simp only [if_pos h1]
      have he := role_one.1 h1
      have hc : wrap64 (cnt (bestOf id l).2 i + 1) = cnt (bestOf id l).2 (i + 1) := by
        unfold cnt wrap64
        rw [if_neg (by omega), if_pos (by omega)]
        decide
      rw [hc]
      exact hi1
    · simp only [if_neg h1]
      have he : ¬ (i : Int) = (bestOf id l).2 := fun e => h1 (role_one.2 e)
      have hc : cnt (bestOf id l).2 i = cnt (bestOf id l).2 (i + 1) := by
        unfold cnt
        by_cases hh : 0 ≤ (bestOf id l).2 ∧ (bestOf id l).2 < i
        · rw [if_pos hh, if_pos (by omega)]
        · rw [if_neg hh, if_neg (by omega)]
      rw [hc]
      exact hi1
theorem pure : Pure := by
  intro id l hid hl
  obtain ⟨hm, hb, hg⟩ := hl
  refine Ev.rounds ?_
  unfold kissgatelaw10_PrioRoles.f
  refine Ev.bind alive ?_
  simp only [if_true]
  by_cases h20 : (l.length : Int) > 20
  · simp only [if_pos h20]
    exact Ev.now _
  · simp only [if_neg h20]
    have hf := fits hg
    refine Ev.bind (roles_prog id l hb hf) ?_
    refine Ev.bind (plain l hb) ?_
    refine Ev.bind (best_ref id l (by omega) hf) ?_
    simp only [roles_len, if_true, tup, beq_self_eq_true, Bool.not_true, Bool.or_self, Bool.false_eq_true, if_false, bne_self_eq_false]
    refine Ev.step (fun k => by rw [kissgatelaw10_PrioRoles.j0, if_neg (by decide)]) ?_
    rw [roles_len]
    have := loop id l hb (by omega) hf l.length 0 (by omega)
    have hc : cnt (bestOf id l).2 0 = 0 := by unfold cnt; rw [if_neg (by omega)]
    rw [hc] at this
    exact this
end Go.Proofs.Ytjhkbmdblfdlnaa.prioRoles
