/- Functions of the program as plain Lean functions, what their calls do, and what follows of it. Conditions: each theorem's own. -/
import Derived.Test.YtfimhaodgekkgaaDoorCTreeDoes0
namespace Go.Proofs.YtfimhaodgekkgaaDoor.QTre
open Go.RowKit Go.Proofs.YtfimhaodgekkgaaDoorW.PrintWords Go.Proofs.YtfimhaodgekkgaaDoorW.PrintLast Go.Proofs.YtfimhaodgekkgaaDoorW.PrintMore
attribute [local go_sem] max2_int min2_int max_two min_two max_three min_three max_four min_four
set_option linter.unusedVariables false
set_option linter.unusedSimpArgs false
def prio_Roles.l0 : Nat → Int → Int → List Int → List (S80) → Int → Int → Int → Int → Int → Int → Option (List Int × Int × Int × Int × Int × Int)
  | 0, _, _, _, _, _, _, _, _, _, _ => none
  | k + 1, x0, x8, x9, x18, x19, x20, x150000, x150001, x150002, x150003 => if x20 < x19 then (if 0 ≤ x20 then (if x20 < (x18.length : Int) then (if x20 = x8 then (if x9.length < 17592186044416 then (prio_Roles.l0 k x0 x8 (x9 ++ [1]) x18 x19 (wrap64 (x20 + 1)) x150000 x150001 x150002 x150003) else (none)) else ((prio_takes.f ((rd_T80 x18 x20).f0.f0) ((rd_T80 x18 x20).f0.f1) ((rd_T80 x18 x20).f0.f2) ((rd_T80 x18 x20).f0.f3) ((rd_T80 x18 x20).f1) ((rd_T80 x18 x20).f2) ((rd_T80 x18 x20).f3) x0).bind fun t155 => (if t155 = true then ((prio_Offer.f x150000 x150001 x150002 x150003 x0 x20).bind fun bt156 => ((prio_Better.f k bt156.1 bt156.2.1 bt156.2.2.1 bt156.2.2.2 ((rd_T80 x18 x20).f0.f0) ((rd_T80 x18 x20).f0.f1) ((rd_T80 x18 x20).f0.f2) ((rd_T80 x18 x20).f0.f3)).bind fun t160 => (if t160 = true then (if x9.length < 17592186044416 then (prio_Roles.l0 k x0 x8 (x9 ++ [2]) x18 x19 (wrap64 (x20 + 1)) x150000 x150001 x150002 x150003) else (none)) else (if x9.length < 17592186044416 then (prio_Roles.l0 k x0 x8 (x9 ++ [3]) x18 x19 (wrap64 (x20 + 1)) x150000 x150001 x150002 x150003) else (none))))) else (if x9.length < 17592186044416 then (prio_Roles.l0 k x0 x8 (x9 ++ [2]) x18 x19 (wrap64 (x20 + 1)) x150000 x150001 x150002 x150003) else (none))))) else (none)) else (none)) else (some (x9, x150000, x150001, x150002, x150003, x8))
def prio_Roles.f (k : Nat) (a0 : Int) (l1 : List (S80)) : Option (List Int × Int × Int × Int × Int × Int) := (prio_Best.f k a0 l1).bind fun bt144 => (prio_Roles.l0 k a0 bt144.2.2.2.2 ([] : List Int) l1 (l1.length : Int) 0 bt144.1 bt144.2.1 bt144.2.2.1 bt144.2.2.2.1)
def prio_Roles.T9 : Bool × List (List Nat × List Nat) := (true, [([], []), ([], []), ([0, 1], [0, 1]), ([2], [2]), ([3, 2], [3]), ([4], [4]), ([4], [4]), ([4], [4]), ([5, 6, 7, 4, 4], [4, 5, 6, 7]), ([4], [4]), ([9, 4], [4, 9]), ([8, 10, 8, 4], [4, 8, 10]), ([4, 11], [4, 11]), ([12, 11], [12])])
def prio_Roles.B9 : List Nat := [0, 0, 3, 7, 15, 31, 31, 31, 255, 31, 543, 2047, 4095, 8191]
theorem prio_Roles.tab9 : rtab .any (opsOf Tryd.f50 9) = prio_Roles.T9 := by kernel_rfl
theorem prio_Roles.bits9 : waitsOk prio_Roles.T9.2 prio_Roles.B9 = true := by kernel_rfl
set_option maxHeartbeats 8000000 in
set_option maxRecDepth 100000 in
theorem prio_Roles.calls (k : Nat) (a0 : Int) (A1 : Option Addr) (c1 : Nat) (l1 : List (S80)) (r1 : List Int) (r2 : Int) (r3 : Int) (r4 : Int) (r5 : Int) (r6 : Int) (w : World) (hr1 : Kd.C k80 w A1 l1.length l1) (hc1 : l1.length ≤ c1) (h : prio_Roles.f k a0 l1 = some (r1, r2, r3, r4, r5, r6)) :
    Calls Tryd.prog 50 #[.int .i64 a0, .slice A1 l1.length c1] w fun e w' => ∃ v0_ : Value, e = .returned (.tuple #[v0_, .agg #[.int .i64 r2, .int .i64 r3, .int .i64 r4, .int .i64 r5], .int .i64 r6]) ∧ Kd.R (Kd.int .i64) 3 w' w.heap.size (fun _ => True) v0_ r1 ∧ Below w.heap.size w w' := by
  have hu36 := Tryd.underlying36
  have hu80 := Tryd.underlying80
  have HR1 := Aside0.mk hr1
  have HC1 := Aside0.mk hc1
  clear hr1 hc1
  have HB := Aside0.mk (Below.refl w.heap.size w)
  have H : ((prio_Best.f k a0 l1).bind fun bt144 => (prio_Roles.l0 k a0 bt144.2.2.2.2 ([] : List Int) l1 (l1.length : Int) 0 bt144.1 bt144.2.1 bt144.2.2.1 bt144.2.2.2.1)) = some (r1, r2, r3, r4, r5, r6) := h
  clear h
  replace H := Option.bind_eq_some_iff.mp H
  obtain ⟨⟨t144, t145, t146, t147, t148⟩, A30, H⟩ := H
  replace H : (prio_Roles.l0 k a0 t148 ([] : List Int) l1 (l1.length : Int) 0 t144 t145 t146 t147) = some (r1, r2, r3, r4, r5, r6) := H
  have A3 := Aside0.mk A30
  clear A30
  have H' := Aside0.mk H
  clear H
  go_enter Tryd.func50, Tryd.ntmps50
  go_wp2_with (first | ((with_reducible refine gate_dst (N := 5) rfl ?_); refine box_event ?hg (N := 5) ?hd (cs := #[.int .i64 0, .int .i64 0, .int .i64 0, .int .i64 0]) (t := 36) ?hr ?_; (case hd => rfl); (case hg => rfl); (case hr => first | (go_simp; done) | (go_simp; rfl)); intro gb143 hg w4 hbox hb; have n0_ := Aside0.mk (below_step (by repeat (first | (with_reducible first | exact HB.out | apply below_alloc | apply pw_below_drewN | apply below_drew1) | exact HB.out)) hb); have n1_ := Aside0.mk (hbox); have n2_ := Aside0.mk ((by rw [hg]; exact (below_size (by repeat (first | (with_reducible first | exact HB.out | apply below_alloc | apply pw_below_drewN | apply below_drew1) | exact HB.out))) : w.heap.size ≤ gb143)); have n3_ := Aside0.mk ((by rw [hg]; exact (below_size (by repeat (first | (with_reducible first | exact HB.out | apply below_alloc | apply pw_below_drewN | apply below_drew1) | exact HB.out))) : w.heap.size ≤ gb143)); clear HB; have HB := n0_; have BK143 := n1_; have GW143 := n2_; have GE143 := n3_; clear n0_ n1_ n2_ n3_; clear hb hbox hg) | ((with_reducible refine gate_callee (f := 59) rfl ?_); refine goesL_ (some 15) rfl rfl Tryd.func59 (by kernel_rfl) rfl #[.int .i64 a0, .slice A1 l1.length c1] rfl (by (try simp only [List.map_toArray, List.map_cons, List.map_nil]); first | done | rfl | (simp only [List.length_drop, List.length_take]; rfl)) ?_; (with_reducible refine (prio_Best.calls k a0 _ _ l1 t144 t145 t146 t147 t148 _ ?side1 ?side2 A3.out).mono ?_); (case side1 => repeat (first | exact (Kd.C_below HR1.out HB.out) | (with_reducible refine Kd.C_alloc ?_ _) | (with_reducible refine Kd.C_drewN ?_ _) | (with_reducible refine Kd.C_drew ?_))); (case side2 => exact HC1.out); rintro e w5 ⟨rfl, hb⟩; refine ⟨_, rfl, ?_⟩; have n0_ := Aside0.mk (blk_below (g := gb143) (o := .cells #[.int .i64 0, .int .i64 0, .int .i64 0, .int .i64 0] 36 (0, 0)) (by (with_reducible repeat (first | refine blk_drewN ?_ _ | refine blk_drew ?_ | refine blk_alloc ?_ _)); exact BK143.out) hb); have n1_ := Aside0.mk (below_step (by repeat (first | (with_reducible first | exact HB.out | apply below_alloc | apply pw_below_drewN | apply below_drew1 | refine below_set ?_ GE143.out) | exact HB.out)) hb); clear BK143; clear HB; have BK143 := n0_; have HB := n1_; clear n0_ n1_; (try clear hb); (try clear hb2); (try clear hk); (try clear hi)) | ((with_reducible refine gate_dst (N := 7) rfl ?_); refine box_event ?hg (N := 7) ?hd (cs := #[.int .i64 0, .int .i64 0, .int .i64 0, .int .i64 0]) (t := 36) ?hr ?_; (case hd => rfl); (case hg => rfl); (case hr => first | (go_simp; done) | (go_simp; rfl)); intro gb149 hg w6 hbox hb; have n0_ := Aside0.mk (blk_below (g := gb143) (o := .cells #[.int .i64 0, .int .i64 0, .int .i64 0, .int .i64 0] 36 (0, 0)) (by (with_reducible repeat (first | refine blk_drewN ?_ _ | refine blk_drew ?_ | refine blk_alloc ?_ _)); exact BK143.out) hb); have n1_ := Aside0.mk (below_step (by repeat (first | (with_reducible first | exact HB.out | apply below_alloc | apply pw_below_drewN | apply below_drew1 | refine below_set ?_ GE143.out) | exact HB.out)) hb); have n2_ := Aside0.mk (hbox); have n3_ := Aside0.mk ((by rw [hg]; exact (below_size (by repeat (first | (with_reducible first | exact HB.out | apply below_alloc | apply pw_below_drewN | apply below_drew1 | refine below_set ?_ GE143.out) | exact HB.out))) : w.heap.size ≤ gb149)); have n4_ := Aside0.mk ((by rw [hg]; exact (below_size (by repeat (first | (with_reducible first | exact HB.out | apply below_alloc | apply pw_below_drewN | apply below_drew1 | refine below_set ?_ GE143.out) | exact HB.out))) : w.heap.size ≤ gb149)); have n5_ := Aside0.mk ((by rw [hg]; exact Nat.ne_of_lt (blk_lt (g := gb143) (o := .cells #[.int .i64 0, .int .i64 0, .int .i64 0, .int .i64 0] 36 (0, 0)) (by (with_reducible repeat (first | refine blk_drewN ?_ _ | refine blk_drew ?_ | refine blk_alloc ?_ _)); exact BK143.out)) : gb143 ≠ gb149)); have n6_ := Aside0.mk ((by rw [hg]; exact Nat.ne_of_gt (blk_lt (g := gb143) (o := .cells #[.int .i64 0, .int .i64 0, .int .i64 0, .int .i64 0] 36 (0, 0)) (by (with_reducible repeat (first | refine blk_drewN ?_ _ | refine blk_drew ?_ | refine blk_alloc ?_ _)); exact BK143.out)) : gb149 ≠ gb143)); clear BK143; clear HB; have BK143 := n0_; have HB := n1_; have BK149 := n2_; have GW149 := n3_; have GE149 := n4_; have NB143_149 := n5_; have NB149_143 := n6_; clear n0_ n1_ n2_ n3_ n4_ n5_ n6_; clear hb hbox hg; have hnb7 := NB149_143.out; have hnc7 := NB143_149.out; have hcz8_0 : w6.cell? ⟨gb149, 0, none⟩ = some (.int .i64 0) := (blk_cell BK149.out 0).trans rfl; have hcz8_1 : w6.cell? ⟨gb149, 1, none⟩ = some (.int .i64 0) := (blk_cell BK149.out 1).trans rfl; have hcz8_2 : w6.cell? ⟨gb149, 2, none⟩ = some (.int .i64 0) := (blk_cell BK149.out 2).trans rfl; have hcz8_3 : w6.cell? ⟨gb149, 3, none⟩ = some (.int .i64 0) := (blk_cell BK149.out 3).trans rfl; have hfz8_0 := blk_frozen BK149.out 0; have hfz8_1 := blk_frozen BK149.out 1; have hfz8_2 := blk_frozen BK149.out 2; have hfz8_3 := blk_frozen BK149.out 3))
  go_loopg [9, 20] k (fun kq v9 v20 w' => ∃ (x9_1 : List Int) (x20_1 : Int), v20 = .int .i64 x20_1 ∧ Aside0 (prio_Roles.l0 kq a0 t148 x9_1 l1 (l1.length : Int) x20_1 t144 t145 t146 t147 = some (r1, r2, r3, r4, r5, r6)) ∧ Aside0 (kq ≤ k) ∧ Aside0 (Kd.R (Kd.int .i64) 3 w' w.heap.size (fun _ => True) v9 x9_1) ∧ Aside0 (w'.heap[gb143]? = some (.cells #[.int .i64 0, .int .i64 0, .int .i64 0, .int .i64 0] 36 (0, 0))) ∧ Aside0 (w'.heap[gb149]? = some (.cells #[.int .i64 t144, .int .i64 t145, .int .i64 t146, .int .i64 t147] 36 (0, 0))) ∧ Aside0 (Below w.heap.size w w'))
  case atStart => exact ⟨(([] : List Int)), (0), (by first | rfl | (simp; done) | (simp [*]; done)), H', ⟨Nat.le_refl _⟩, ⟨by first | exact Kd.R_nil _ _ _ _ _ | exact Kd.N_nil _ _ _ _ _ | exact Kd.V_nil _ _ _ _ _ | exact Kd.Q_nil _ _ _ _ _ | exact Kd.S_nil _ _ _ _ _⟩, ⟨by (with_reducible repeat (first | refine blk_drewN ?_ _ | refine blk_drew ?_ | refine blk_alloc ?_ _)); refine blk_far ?_ NB143_149.out _; (with_reducible repeat (first | refine blk_drewN ?_ _ | refine blk_drew ?_ | refine blk_alloc ?_ _)); refine blk_far ?_ NB143_149.out _; (with_reducible repeat (first | refine blk_drewN ?_ _ | refine blk_drew ?_ | refine blk_alloc ?_ _)); refine blk_far ?_ NB143_149.out _; (with_reducible repeat (first | refine blk_drewN ?_ _ | refine blk_drew ?_ | refine blk_alloc ?_ _)); refine blk_far ?_ NB143_149.out _; (with_reducible repeat (first | refine blk_drewN ?_ _ | refine blk_drew ?_ | refine blk_alloc ?_ _)); exact BK143.out⟩, ⟨by (with_reducible repeat (first | refine blk_drewN ?_ _ | refine blk_drew ?_ | refine blk_alloc ?_ _)); refine blk_put (cs := #[.int .i64 t144, .int .i64 t145, .int .i64 t146, .int .i64 0]) ?_ 3 _ rfl; (with_reducible repeat (first | refine blk_drewN ?_ _ | refine blk_drew ?_ | refine blk_alloc ?_ _)); refine blk_put (cs := #[.int .i64 t144, .int .i64 t145, .int .i64 0, .int .i64 0]) ?_ 2 _ rfl; (with_reducible repeat (first | refine blk_drewN ?_ _ | refine blk_drew ?_ | refine blk_alloc ?_ _)); refine blk_put (cs := #[.int .i64 t144, .int .i64 0, .int .i64 0, .int .i64 0]) ?_ 1 _ rfl; (with_reducible repeat (first | refine blk_drewN ?_ _ | refine blk_drew ?_ | refine blk_alloc ?_ _)); refine blk_put (cs := #[.int .i64 0, .int .i64 0, .int .i64 0, .int .i64 0]) ?_ 0 _ rfl; (with_reducible repeat (first | refine blk_drewN ?_ _ | refine blk_drew ?_ | refine blk_alloc ?_ _)); exact BK149.out⟩, ⟨by repeat (first | (with_reducible first | exact HB.out | apply below_alloc | apply pw_below_drewN | apply below_drew1 | refine below_set ?_ GE143.out | refine below_set ?_ GE149.out) | exact HB.out)⟩⟩
  case round =>
    clear H'
    try clear c1
    try clear p2
    try clear c5
    try clear c7
    try clear hcz8_0
    try clear hcz8_1
    try clear hcz8_2
    try clear hcz8_3
    try clear hfz8_0
    try clear hfz8_1
    try clear hfz8_2
    try clear hfz8_3
    obtain ⟨x9_1, x20_1, rfl, HA, HK1, HO_9, BK143, BK149, HB⟩ := hrel
    cases gk with
    | zero => exact absurd HA.out (by simp [prio_Roles.l0])
    | succ k1 =>
      have H := HA.out
      clear HA
      simp only [prio_Roles.l0] at H
      by_cases c9 : x20_1 < (l1.length : Int)
      · rw [if_pos c9] at H
        have c9b0 : decide (x20_1 < (l1.length : Int)) = true := decide_eq_true c9
        clear c9
        by_cases c10 : 0 ≤ x20_1
        · rw [if_pos c10] at H
          have c10b0 : decide (0 ≤ x20_1) = true := decide_eq_true c10
          clear c10
          by_cases c11 : x20_1 < (l1.length : Int)
          · rw [if_pos c11] at H
            have c11b0 : decide (x20_1 < (l1.length : Int)) = true := decide_eq_true c11
            clear c11
            by_cases c12 : x20_1 = t148
            · rw [if_pos c12] at H
              have c12b0 : (x20_1 == t148) = true := beq_iff_eq.mpr c12
              have c12b1 : (x20_1 != t148) = false := bne_eq_false_iff_eq.mpr c12
              clear c12
              by_cases c13 : x9_1.length < 17592186044416
              · rw [if_pos c13] at H
                have LMc13 := Aside0.mk c13
                clear c13
                obtain ⟨y152, hy152⟩ : ∃ y_ : List Int, y_ = (x9_1 ++ [1]) := ⟨_, rfl⟩
                replace H : (prio_Roles.l0 k1 a0 t148 y152 l1 (l1.length : Int) (wrap64 (x20_1 + 1)) t144 t145 t146 t147) = some (r1, r2, r3, r4, r5, r6) := by first | (rw [hy152]; with_reducible exact H) | (have H2_ := (Option.bind_some _ _).symm.trans H; rw [hy152]; with_reducible exact H2_) | (have H2_ := (Option.bind_some _ _).symm.trans H; with_reducible exact H2_) | with_reducible exact H | (rw [hy152]; exact H) | exact H
                have Ny152 := Aside0.mk hy152
                clear hy152
                have H' := Aside0.mk H
                clear H
                have p150 : 0 ≤ (x20_1 : Int) := of_decide_eq_true (by first | (with_reducible assumption) | assumption)
                have q150 : x20_1 < (l1.length : Int) := of_decide_eq_true (by first | (with_reducible assumption) | assumption)
                obtain ⟨ad150, e150, hx150_0, hx150_1, hx150_2, hx150_3, hx150_4, hx150_5, hx150_6⟩ := at_T80 HR1.out x20_1 p150 q150
                cases e150
                replace hx150_0 := (HB.out.cell (World.block_lt_of_cell? w _ hx150_0)).trans hx150_0
                replace hx150_1 := (HB.out.cell (World.block_lt_of_cell? w _ hx150_1)).trans hx150_1
                replace hx150_2 := (HB.out.cell (World.block_lt_of_cell? w _ hx150_2)).trans hx150_2
                replace hx150_3 := (HB.out.cell (World.block_lt_of_cell? w _ hx150_3)).trans hx150_3
                replace hx150_4 := (HB.out.cell (World.block_lt_of_cell? w _ hx150_4)).trans hx150_4
                replace hx150_5 := (HB.out.cell (World.block_lt_of_cell? w _ hx150_5)).trans hx150_5
                replace hx150_6 := (HB.out.cell (World.block_lt_of_cell? w _ hx150_6)).trans hx150_6
                replace p150 := eq_true p150
                replace q150 := eq_true q150
                go_wp2_with (first | ((with_reducible refine gate_dst (N := 11) rfl ?_); refine box_event ?hg (N := 11) ?hd (cs := #[.int .i64 0, .int .i64 0, .int .i64 0, .int .i64 0, .int .i64 0, .int .i64 0, .bool false]) (t := 80) ?hr ?_; (case hd => rfl); (case hg => rfl); (case hr => first | (go_simp; done) | (go_simp; rfl)); intro gb151 hg w14 hbox hb; have n0_ := Aside0.mk (Kd.R_below (by (with_reducible repeat (first | apply Kd.R_alloc | apply Kd.R_drewN | apply Kd.R_drew)); exact HO_9.out) hb); have n1_ := Aside0.mk (blk_below (g := gb143) (o := .cells #[.int .i64 0, .int .i64 0, .int .i64 0, .int .i64 0] 36 (0, 0)) (by (with_reducible repeat (first | refine blk_drewN ?_ _ | refine blk_drew ?_ | refine blk_alloc ?_ _)); exact BK143.out) hb); have n2_ := Aside0.mk (blk_below (g := gb149) (o := .cells #[.int .i64 t144, .int .i64 t145, .int .i64 t146, .int .i64 t147] 36 (0, 0)) (by (with_reducible repeat (first | refine blk_drewN ?_ _ | refine blk_drew ?_ | refine blk_alloc ?_ _)); exact BK149.out) hb); have n3_ := Aside0.mk (below_step (by repeat (first | (with_reducible first | exact HB.out | apply below_alloc | apply pw_below_drewN | apply below_drew1 | refine below_set ?_ GE143.out | refine below_set ?_ GE149.out) | exact HB.out)) hb); have n4_ := Aside0.mk (hbox); have n5_ := Aside0.mk ((by rw [hg]; exact (below_size (by repeat (first | (with_reducible first | exact HB.out | apply below_alloc | apply pw_below_drewN | apply below_drew1 | refine below_set ?_ GE143.out | refine below_set ?_ GE149.out) | exact HB.out))) : w.heap.size ≤ gb151)); have n6_ := Aside0.mk ((by rw [hg]; exact (below_size (by repeat (first | (with_reducible first | exact HB.out | apply below_alloc | apply pw_below_drewN | apply below_drew1 | refine below_set ?_ GE143.out | refine below_set ?_ GE149.out) | exact HB.out))) : w.heap.size ≤ gb151)); have n7_ := Aside0.mk ((by rw [hg]; exact Nat.ne_of_lt (blk_lt (g := gb143) (o := .cells #[.int .i64 0, .int .i64 0, .int .i64 0, .int .i64 0] 36 (0, 0)) (by (with_reducible repeat (first | refine blk_drewN ?_ _ | refine blk_drew ?_ | refine blk_alloc ?_ _)); exact BK143.out)) : gb143 ≠ gb151)); have n8_ := Aside0.mk ((by rw [hg]; exact Nat.ne_of_gt (blk_lt (g := gb143) (o := .cells #[.int .i64 0, .int .i64 0, .int .i64 0, .int .i64 0] 36 (0, 0)) (by (with_reducible repeat (first | refine blk_drewN ?_ _ | refine blk_drew ?_ | refine blk_alloc ?_ _)); exact BK143.out)) : gb151 ≠ gb143)); have n9_ := Aside0.mk ((by rw [hg]; exact Nat.ne_of_lt (blk_lt (g := gb149) (o := .cells #[.int .i64 t144, .int .i64 t145, .int .i64 t146, .int .i64 t147] 36 (0, 0)) (by (with_reducible repeat (first | refine blk_drewN ?_ _ | refine blk_drew ?_ | refine blk_alloc ?_ _)); exact BK149.out)) : gb149 ≠ gb151)); have n10_ := Aside0.mk ((by rw [hg]; exact Nat.ne_of_gt (blk_lt (g := gb149) (o := .cells #[.int .i64 t144, .int .i64 t145, .int .i64 t146, .int .i64 t147] 36 (0, 0)) (by (with_reducible repeat (first | refine blk_drewN ?_ _ | refine blk_drew ?_ | refine blk_alloc ?_ _)); exact BK149.out)) : gb151 ≠ gb149)); clear HO_9; clear BK143; clear BK149; clear HB; have HO_9 := n0_; have BK143 := n1_; have BK149 := n2_; have HB := n3_; have BK151 := n4_; have GW151 := n5_; have GE151 := n6_; have NB143_151 := n7_; have NB151_143 := n8_; have NB149_151 := n9_; have NB151_149 := n10_; clear n0_ n1_ n2_ n3_ n4_ n5_ n6_ n7_ n8_ n9_ n10_; clear hb hbox hg; have hnb15 := NB151_143.out; have hnc15 := NB143_151.out; have hnb16 := NB151_149.out; have hnc16 := NB149_151.out; have hcz17_0 : w14.cell? ⟨gb151, 0, none⟩ = some (.int .i64 0) := (blk_cell BK151.out 0).trans rfl; have hcz17_1 : w14.cell? ⟨gb151, 1, none⟩ = some (.int .i64 0) := (blk_cell BK151.out 1).trans rfl; have hcz17_2 : w14.cell? ⟨gb151, 2, none⟩ = some (.int .i64 0) := (blk_cell BK151.out 2).trans rfl; have hcz17_3 : w14.cell? ⟨gb151, 3, none⟩ = some (.int .i64 0) := (blk_cell BK151.out 3).trans rfl; have hcz17_4 : w14.cell? ⟨gb151, 4, none⟩ = some (.int .i64 0) := (blk_cell BK151.out 4).trans rfl; have hcz17_5 : w14.cell? ⟨gb151, 5, none⟩ = some (.int .i64 0) := (blk_cell BK151.out 5).trans rfl; have hcz17_6 : w14.cell? ⟨gb151, 6, none⟩ = some (.bool false) := (blk_cell BK151.out 6).trans rfl; have hfz17_0 := blk_frozen BK151.out 0; have hfz17_1 := blk_frozen BK151.out 1; have hfz17_2 := blk_frozen BK151.out 2; have hfz17_3 := blk_frozen BK151.out 3; have hfz17_4 := blk_frozen BK151.out 4; have hfz17_5 := blk_frozen BK151.out 5; have hfz17_6 := blk_frozen BK151.out 6) | ((with_reducible refine gate_builtin (b := .append) (xs := #[.tmp 32, .tmp 33]) rfl ?_); at_builtin; refine Kd.R_append (Kd.int .i64) (w0 := w) w.heap.size rfl (.tmp 32) (.tmp 33) 22 3 (.int .i64 0) 8 rfl Tryd.underlying22 info3 rfl (by decide) (by omega) u9 x9_1 1 [.int .i64 1] (fun _ => True) (fun _ => False) rfl (by first | (go_simp; done) | (go_simp; rfl)) ?aP (fun _ hk => hk.elim) ?aF ?aO ?aB ?aS ?aL ?_; (case aP => exact rfl); (case aB => exact (by repeat (first | (with_reducible first | exact HB.out | apply below_alloc | apply pw_below_drewN | apply below_drew1 | refine below_set ?_ GE143.out | refine below_set ?_ GE149.out | refine below_set ?_ GE151.out) | exact HB.out))); (case aF => exact (fun _ _ => trivial)); (case aO => exact (by (with_reducible repeat (first | apply Kd.R_alloc | apply Kd.R_drewN | apply Kd.R_drew)); exact Kd.R_mono (Kd.R_far (p := ⟨gb151, 6, none⟩) (Kd.R_far (p := ⟨gb151, 5, none⟩) (Kd.R_far (p := ⟨gb151, 4, none⟩) (Kd.R_far (p := ⟨gb151, 3, none⟩) (Kd.R_far (p := ⟨gb151, 2, none⟩) (Kd.R_far (p := ⟨gb151, 1, none⟩) (Kd.R_far (p := ⟨gb151, 0, none⟩) (Kd.R_types HO_9.out BK151.out (by decide)) (fun _ hk => hk.2) (.int .i64 ((rd_T80 l1 x20_1).f0.f0))) (fun _ hk => hk.2) (.int .i64 ((rd_T80 l1 x20_1).f0.f1))) (fun _ hk => hk.2) (.int .i64 ((rd_T80 l1 x20_1).f0.f2))) (fun _ hk => hk.2) (.int .i64 ((rd_T80 l1 x20_1).f0.f3))) (fun _ hk => hk.2) (.int .i64 ((rd_T80 l1 x20_1).f1))) (fun _ hk => hk.2) (.int .i64 ((rd_T80 l1 x20_1).f2))) (fun _ hk => hk.2) (.bool ((rd_T80 l1 x20_1).f3))) (fun _ hk => trivial))); (case aS => exact (below_size (by repeat (first | (with_reducible first | exact HB.out | apply below_alloc | apply pw_below_drewN | apply below_drew1 | refine below_set ?_ GE143.out | refine below_set ?_ GE149.out | refine below_set ?_ GE151.out) | exact HB.out)))); (case aL => have := LMc13.out; omega); intro v153 w18 ho hb hg hat; rw [← Ny152.out] at ho; have n0_ := Aside0.mk (blk_grown (g := gb143) (o := .cells #[.int .i64 0, .int .i64 0, .int .i64 0, .int .i64 0] 36 (0, 0)) (by (with_reducible repeat (first | refine blk_drewN ?_ _ | refine blk_drew ?_ | refine blk_alloc ?_ _)); refine blk_far ?_ NB143_151.out _; (with_reducible repeat (first | refine blk_drewN ?_ _ | refine blk_drew ?_ | refine blk_alloc ?_ _)); refine blk_far ?_ NB143_151.out _; (with_reducible repeat (first | refine blk_drewN ?_ _ | refine blk_drew ?_ | refine blk_alloc ?_ _)); refine blk_far ?_ NB143_151.out _; (with_reducible repeat (first | refine blk_drewN ?_ _ | refine blk_drew ?_ | refine blk_alloc ?_ _)); refine blk_far ?_ NB143_151.out _; (with_reducible repeat (first | refine blk_drewN ?_ _ | refine blk_drew ?_ | refine blk_alloc ?_ _)); refine blk_far ?_ NB143_151.out _; (with_reducible repeat (first | refine blk_drewN ?_ _ | refine blk_drew ?_ | refine blk_alloc ?_ _)); refine blk_far ?_ NB143_151.out _; (with_reducible repeat (first | refine blk_drewN ?_ _ | refine blk_drew ?_ | refine blk_alloc ?_ _)); refine blk_far ?_ NB143_151.out _; (with_reducible repeat (first | refine blk_drewN ?_ _ | refine blk_drew ?_ | refine blk_alloc ?_ _)); exact BK143.out) hg (Kd.R_ne HO_9.out BK143.out (by decide))); have n1_ := Aside0.mk (blk_grown (g := gb149) (o := .cells #[.int .i64 t144, .int .i64 t145, .int .i64 t146, .int .i64 t147] 36 (0, 0)) (by (with_reducible repeat (first | refine blk_drewN ?_ _ | refine blk_drew ?_ | refine blk_alloc ?_ _)); refine blk_far ?_ NB149_151.out _; (with_reducible repeat (first | refine blk_drewN ?_ _ | refine blk_drew ?_ | refine blk_alloc ?_ _)); refine blk_far ?_ NB149_151.out _; (with_reducible repeat (first | refine blk_drewN ?_ _ | refine blk_drew ?_ | refine blk_alloc ?_ _)); refine blk_far ?_ NB149_151.out _; (with_reducible repeat (first | refine blk_drewN ?_ _ | refine blk_drew ?_ | refine blk_alloc ?_ _)); refine blk_far ?_ NB149_151.out _; (with_reducible repeat (first | refine blk_drewN ?_ _ | refine blk_drew ?_ | refine blk_alloc ?_ _)); refine blk_far ?_ NB149_151.out _; (with_reducible repeat (first | refine blk_drewN ?_ _ | refine blk_drew ?_ | refine blk_alloc ?_ _)); refine blk_far ?_ NB149_151.out _; (with_reducible repeat (first | refine blk_drewN ?_ _ | refine blk_drew ?_ | refine blk_alloc ?_ _)); refine blk_far ?_ NB149_151.out _; (with_reducible repeat (first | refine blk_drewN ?_ _ | refine blk_drew ?_ | refine blk_alloc ?_ _)); exact BK149.out) hg (Kd.R_ne HO_9.out BK149.out (by decide))); have n2_ := Aside0.mk (blk_grown (g := gb151) (o := .cells #[.int .i64 ((rd_T80 l1 x20_1).f0.f0), .int .i64 ((rd_T80 l1 x20_1).f0.f1), .int .i64 ((rd_T80 l1 x20_1).f0.f2), .int .i64 ((rd_T80 l1 x20_1).f0.f3), .int .i64 ((rd_T80 l1 x20_1).f1), .int .i64 ((rd_T80 l1 x20_1).f2), .bool ((rd_T80 l1 x20_1).f3)] 80 (0, 0)) (by (with_reducible repeat (first | refine blk_drewN ?_ _ | refine blk_drew ?_ | refine blk_alloc ?_ _)); refine blk_put (cs := #[.int .i64 ((rd_T80 l1 x20_1).f0.f0), .int .i64 ((rd_T80 l1 x20_1).f0.f1), .int .i64 ((rd_T80 l1 x20_1).f0.f2), .int .i64 ((rd_T80 l1 x20_1).f0.f3), .int .i64 ((rd_T80 l1 x20_1).f1), .int .i64 ((rd_T80 l1 x20_1).f2), .bool false]) ?_ 6 _ rfl; (with_reducible repeat (first | refine blk_drewN ?_ _ | refine blk_drew ?_ | refine blk_alloc ?_ _)); refine blk_put (cs := #[.int .i64 ((rd_T80 l1 x20_1).f0.f0), .int .i64 ((rd_T80 l1 x20_1).f0.f1), .int .i64 ((rd_T80 l1 x20_1).f0.f2), .int .i64 ((rd_T80 l1 x20_1).f0.f3), .int .i64 ((rd_T80 l1 x20_1).f1), .int .i64 0, .bool false]) ?_ 5 _ rfl; (with_reducible repeat (first | refine blk_drewN ?_ _ | refine blk_drew ?_ | refine blk_alloc ?_ _)); refine blk_put (cs := #[.int .i64 ((rd_T80 l1 x20_1).f0.f0), .int .i64 ((rd_T80 l1 x20_1).f0.f1), .int .i64 ((rd_T80 l1 x20_1).f0.f2), .int .i64 ((rd_T80 l1 x20_1).f0.f3), .int .i64 0, .int .i64 0, .bool false]) ?_ 4 _ rfl; (with_reducible repeat (first | refine blk_drewN ?_ _ | refine blk_drew ?_ | refine blk_alloc ?_ _)); refine blk_put (cs := #[.int .i64 ((rd_T80 l1 x20_1).f0.f0), .int .i64 ((rd_T80 l1 x20_1).f0.f1), .int .i64 ((rd_T80 l1 x20_1).f0.f2), .int .i64 0, .int .i64 0, .int .i64 0, .bool false]) ?_ 3 _ rfl; (with_reducible repeat (first | refine blk_drewN ?_ _ | refine blk_drew ?_ | refine blk_alloc ?_ _)); refine blk_put (cs := #[.int .i64 ((rd_T80 l1 x20_1).f0.f0), .int .i64 ((rd_T80 l1 x20_1).f0.f1), .int .i64 0, .int .i64 0, .int .i64 0, .int .i64 0, .bool false]) ?_ 2 _ rfl; (with_reducible repeat (first | refine blk_drewN ?_ _ | refine blk_drew ?_ | refine blk_alloc ?_ _)); refine blk_put (cs := #[.int .i64 ((rd_T80 l1 x20_1).f0.f0), .int .i64 0, .int .i64 0, .int .i64 0, .int .i64 0, .int .i64 0, .bool false]) ?_ 1 _ rfl; (with_reducible repeat (first | refine blk_drewN ?_ _ | refine blk_drew ?_ | refine blk_alloc ?_ _)); refine blk_put (cs := #[.int .i64 0, .int .i64 0, .int .i64 0, .int .i64 0, .int .i64 0, .int .i64 0, .bool false]) ?_ 0 _ rfl; (with_reducible repeat (first | refine blk_drewN ?_ _ | refine blk_drew ?_ | refine blk_alloc ?_ _)); exact BK151.out) hg (Kd.R_ne HO_9.out BK151.out (by decide))); have n3_ := Aside0.mk (hb); have n4_ := Aside0.mk (ho); clear BK143; clear BK149; clear BK151; clear HB; clear HO_9; have BK143 := n0_; have BK149 := n1_; have BK151 := n2_; have HB := n3_; have HO154 := n4_; clear n0_ n1_ n2_ n3_ n4_; clear ho hb hg hat))
                go_roundg k1
                case measure => have := HK1.out; omega
                case rel => exact ⟨(y152), (wrap64 (x20_1 + 1)), (by first | rfl | (simp; done) | (simp [*]; done)), H', ⟨by have := HK1.out; omega⟩, ⟨by (with_reducible repeat (first | apply Kd.R_alloc | apply Kd.R_drewN | apply Kd.R_drew)); exact HO154.out⟩, ⟨by (with_reducible repeat (first | refine blk_drewN ?_ _ | refine blk_drew ?_ | refine blk_alloc ?_ _)); exact BK143.out⟩, ⟨by (with_reducible repeat (first | refine blk_drewN ?_ _ | refine blk_drew ?_ | refine blk_alloc ?_ _)); exact BK149.out⟩, ⟨by repeat (first | (with_reducible first | exact HB.out | apply below_alloc | apply pw_below_drewN | apply below_drew1 | refine below_set ?_ GE143.out | refine below_set ?_ GE149.out | refine below_set ?_ GE151.out) | exact HB.out)⟩⟩
              · rw [if_neg c13] at H
                exact absurd H (by simp)
            · rw [if_neg c12] at H
              have c12b0 : (x20_1 == t148) = false := beq_eq_false_iff_ne.mpr c12
              have c12b1 : (x20_1 != t148) = true := bne_iff_ne.mpr c12
              replace H := Option.bind_eq_some_iff.mp H
              obtain ⟨t155, A190, H⟩ := H
              replace H : (if t155 = true then ((prio_Offer.f t144 t145 t146 t147 a0 x20_1).bind fun bt156 => ((prio_Better.f k1 bt156.1 bt156.2.1 bt156.2.2.1 bt156.2.2.2 ((rd_T80 l1 x20_1).f0.f0) ((rd_T80 l1 x20_1).f0.f1) ((rd_T80 l1 x20_1).f0.f2) ((rd_T80 l1 x20_1).f0.f3)).bind fun t160 => (if t160 = true then (if x9_1.length < 17592186044416 then (prio_Roles.l0 k1 a0 t148 (x9_1 ++ [2]) l1 (l1.length : Int) (wrap64 (x20_1 + 1)) t144 t145 t146 t147) else (none)) else (if x9_1.length < 17592186044416 then (prio_Roles.l0 k1 a0 t148 (x9_1 ++ [3]) l1 (l1.length : Int) (wrap64 (x20_1 + 1)) t144 t145 t146 t147) else (none))))) else (if x9_1.length < 17592186044416 then (prio_Roles.l0 k1 a0 t148 (x9_1 ++ [2]) l1 (l1.length : Int) (wrap64 (x20_1 + 1)) t144 t145 t146 t147) else (none))) = some (r1, r2, r3, r4, r5, r6) := H
              have A19 := Aside0.mk A190
              clear A190
              by_cases c20 : t155 = true
              · subst c20
                have H1 : ((prio_Offer.f t144 t145 t146 t147 a0 x20_1).bind fun bt156 => ((prio_Better.f k1 bt156.1 bt156.2.1 bt156.2.2.1 bt156.2.2.2 ((rd_T80 l1 x20_1).f0.f0) ((rd_T80 l1 x20_1).f0.f1) ((rd_T80 l1 x20_1).f0.f2) ((rd_T80 l1 x20_1).f0.f3)).bind fun t160 => (if t160 = true then (if x9_1.length < 17592186044416 then (prio_Roles.l0 k1 a0 t148 (x9_1 ++ [2]) l1 (l1.length : Int) (wrap64 (x20_1 + 1)) t144 t145 t146 t147) else (none)) else (if x9_1.length < 17592186044416 then (prio_Roles.l0 k1 a0 t148 (x9_1 ++ [3]) l1 (l1.length : Int) (wrap64 (x20_1 + 1)) t144 t145 t146 t147) else (none))))) = some (r1, r2, r3, r4, r5, r6) := by rw [if_pos rfl] at H; exact H
                clear H
                have H := H1
                clear H1
                replace H := Option.bind_eq_some_iff.mp H
                obtain ⟨⟨t156, t157, t158, t159⟩, A210, H⟩ := H
                replace H : ((prio_Better.f k1 t156 t157 t158 t159 ((rd_T80 l1 x20_1).f0.f0) ((rd_T80 l1 x20_1).f0.f1) ((rd_T80 l1 x20_1).f0.f2) ((rd_T80 l1 x20_1).f0.f3)).bind fun t160 => (if t160 = true then (if x9_1.length < 17592186044416 then (prio_Roles.l0 k1 a0 t148 (x9_1 ++ [2]) l1 (l1.length : Int) (wrap64 (x20_1 + 1)) t144 t145 t146 t147) else (none)) else (if x9_1.length < 17592186044416 then (prio_Roles.l0 k1 a0 t148 (x9_1 ++ [3]) l1 (l1.length : Int) (wrap64 (x20_1 + 1)) t144 t145 t146 t147) else (none)))) = some (r1, r2, r3, r4, r5, r6) := H
                have A21 := Aside0.mk A210
                clear A210
                replace H := Option.bind_eq_some_iff.mp H
                obtain ⟨t160, A220, H⟩ := H
                replace H : (if t160 = true then (if x9_1.length < 17592186044416 then (prio_Roles.l0 k1 a0 t148 (x9_1 ++ [2]) l1 (l1.length : Int) (wrap64 (x20_1 + 1)) t144 t145 t146 t147) else (none)) else (if x9_1.length < 17592186044416 then (prio_Roles.l0 k1 a0 t148 (x9_1 ++ [3]) l1 (l1.length : Int) (wrap64 (x20_1 + 1)) t144 t145 t146 t147) else (none))) = some (r1, r2, r3, r4, r5, r6) := H
                have A22 := Aside0.mk A220
                clear A220
                by_cases c23 : t160 = true
                · subst c23
                  have H1 : (if x9_1.length < 17592186044416 then (prio_Roles.l0 k1 a0 t148 (x9_1 ++ [2]) l1 (l1.length : Int) (wrap64 (x20_1 + 1)) t144 t145 t146 t147) else (none)) = some (r1, r2, r3, r4, r5, r6) := by rw [if_pos rfl] at H; exact H
                  clear H
                  have H := H1
                  clear H1
                  by_cases c24 : x9_1.length < 17592186044416
                  · rw [if_pos c24] at H
                    have LMc24 := Aside0.mk c24
                    clear c24
                    obtain ⟨y161, hy161⟩ : ∃ y_ : List Int, y_ = (x9_1 ++ [2]) := ⟨_, rfl⟩
                    replace H : (prio_Roles.l0 k1 a0 t148 y161 l1 (l1.length : Int) (wrap64 (x20_1 + 1)) t144 t145 t146 t147) = some (r1, r2, r3, r4, r5, r6) := by first | (rw [hy161]; with_reducible exact H) | (have H2_ := (Option.bind_some _ _).symm.trans H; rw [hy161]; with_reducible exact H2_) | (have H2_ := (Option.bind_some _ _).symm.trans H; with_reducible exact H2_) | with_reducible exact H | (rw [hy161]; exact H) | exact H
                    have Ny161 := Aside0.mk hy161
                    clear hy161
                    have H' := Aside0.mk H
                    clear H
                    have p150 : 0 ≤ (x20_1 : Int) := of_decide_eq_true (by first | (with_reducible assumption) | assumption)
                    have q150 : x20_1 < (l1.length : Int) := of_decide_eq_true (by first | (with_reducible assumption) | assumption)
                    obtain ⟨ad150, e150, hx150_0, hx150_1, hx150_2, hx150_3, hx150_4, hx150_5, hx150_6⟩ := at_T80 HR1.out x20_1 p150 q150
                    cases e150
                    replace hx150_0 := (HB.out.cell (World.block_lt_of_cell? w _ hx150_0)).trans hx150_0
                    replace hx150_1 := (HB.out.cell (World.block_lt_of_cell? w _ hx150_1)).trans hx150_1
                    replace hx150_2 := (HB.out.cell (World.block_lt_of_cell? w _ hx150_2)).trans hx150_2
                    replace hx150_3 := (HB.out.cell (World.block_lt_of_cell? w _ hx150_3)).trans hx150_3
                    replace hx150_4 := (HB.out.cell (World.block_lt_of_cell? w _ hx150_4)).trans hx150_4
                    replace hx150_5 := (HB.out.cell (World.block_lt_of_cell? w _ hx150_5)).trans hx150_5
                    replace hx150_6 := (HB.out.cell (World.block_lt_of_cell? w _ hx150_6)).trans hx150_6
                    replace p150 := eq_true p150
                    replace q150 := eq_true q150
                    try go_wp2_with (first | ((with_reducible refine gate_dst (N := 11) rfl ?_); refine box_event ?hg (N := 11) ?hd (cs := #[.int .i64 0, .int .i64 0, .int .i64 0, .int .i64 0, .int .i64 0, .int .i64 0, .bool false]) (t := 80) ?hr ?_; (case hd => rfl); (case hg => rfl); (case hr => first | (go_simp; done) | (go_simp; rfl)); intro gb151 hg w25 hbox hb; have n0_ := Aside0.mk (Kd.R_below (by (with_reducible repeat (first | apply Kd.R_alloc | apply Kd.R_drewN | apply Kd.R_drew)); exact HO_9.out) hb); have n1_ := Aside0.mk (blk_below (g := gb143) (o := .cells #[.int .i64 0, .int .i64 0, .int .i64 0, .int .i64 0] 36 (0, 0)) (by (with_reducible repeat (first | refine blk_drewN ?_ _ | refine blk_drew ?_ | refine blk_alloc ?_ _)); exact BK143.out) hb); have n2_ := Aside0.mk (blk_below (g := gb149) (o := .cells #[.int .i64 t144, .int .i64 t145, .int .i64 t146, .int .i64 t147] 36 (0, 0)) (by (with_reducible repeat (first | refine blk_drewN ?_ _ | refine blk_drew ?_ | refine blk_alloc ?_ _)); exact BK149.out) hb); have n3_ := Aside0.mk (below_step (by repeat (first | (with_reducible first | exact HB.out | apply below_alloc | apply pw_below_drewN | apply below_drew1 | refine below_set ?_ GE143.out | refine below_set ?_ GE149.out) | exact HB.out)) hb); have n4_ := Aside0.mk (hbox); have n5_ := Aside0.mk ((by rw [hg]; exact (below_size (by repeat (first | (with_reducible first | exact HB.out | apply below_alloc | apply pw_below_drewN | apply below_drew1 | refine below_set ?_ GE143.out | refine below_set ?_ GE149.out) | exact HB.out))) : w.heap.size ≤ gb151)); have n6_ := Aside0.mk ((by rw [hg]; exact (below_size (by repeat (first | (with_reducible first | exact HB.out | apply below_alloc | apply pw_below_drewN | apply below_drew1 | refine below_set ?_ GE143.out | refine below_set ?_ GE149.out) | exact HB.out))) : w.heap.size ≤ gb151)); have n7_ := Aside0.mk ((by rw [hg]; exact Nat.ne_of_lt (blk_lt (g := gb143) (o := .cells #[.int .i64 0, .int .i64 0, .int .i64 0, .int .i64 0] 36 (0, 0)) (by (with_reducible repeat (first | refine blk_drewN ?_ _ | refine blk_drew ?_ | refine blk_alloc ?_ _)); exact BK143.out)) : gb143 ≠ gb151)); have n8_ := Aside0.mk ((by rw [hg]; exact Nat.ne_of_gt (blk_lt (g := gb143) (o := .cells #[.int .i64 0, .int .i64 0, .int .i64 0, .int .i64 0] 36 (0, 0)) (by (with_reducible repeat (first | refine blk_drewN ?_ _ | refine blk_drew ?_ | refine blk_alloc ?_ _)); exact BK143.out)) : gb151 ≠ gb143)); have n9_ := Aside0.mk ((by rw [hg]; exact Nat.ne_of_lt (blk_lt (g := gb149) (o := .cells #[.int .i64 t144, .int .i64 t145, .int .i64 t146, .int .i64 t147] 36 (0, 0)) (by (with_reducible repeat (first | refine blk_drewN ?_ _ | refine blk_drew ?_ | refine blk_alloc ?_ _)); exact BK149.out)) : gb149 ≠ gb151)); have n10_ := Aside0.mk ((by rw [hg]; exact Nat.ne_of_gt (blk_lt (g := gb149) (o := .cells #[.int .i64 t144, .int .i64 t145, .int .i64 t146, .int .i64 t147] 36 (0, 0)) (by (with_reducible repeat (first | refine blk_drewN ?_ _ | refine blk_drew ?_ | refine blk_alloc ?_ _)); exact BK149.out)) : gb151 ≠ gb149)); clear HO_9; clear BK143; clear BK149; clear HB; have HO_9 := n0_; have BK143 := n1_; have BK149 := n2_; have HB := n3_; have BK151 := n4_; have GW151 := n5_; have GE151 := n6_; have NB143_151 := n7_; have NB151_143 := n8_; have NB149_151 := n9_; have NB151_149 := n10_; clear n0_ n1_ n2_ n3_ n4_ n5_ n6_ n7_ n8_ n9_ n10_; clear hb hbox hg; have hnb26 := NB151_143.out; have hnc26 := NB143_151.out; have hnb27 := NB151_149.out; have hnc27 := NB149_151.out; have hcz28_0 : w25.cell? ⟨gb151, 0, none⟩ = some (.int .i64 0) := (blk_cell BK151.out 0).trans rfl; have hcz28_1 : w25.cell? ⟨gb151, 1, none⟩ = some (.int .i64 0) := (blk_cell BK151.out 1).trans rfl; have hcz28_2 : w25.cell? ⟨gb151, 2, none⟩ = some (.int .i64 0) := (blk_cell BK151.out 2).trans rfl; have hcz28_3 : w25.cell? ⟨gb151, 3, none⟩ = some (.int .i64 0) := (blk_cell BK151.out 3).trans rfl; have hcz28_4 : w25.cell? ⟨gb151, 4, none⟩ = some (.int .i64 0) := (blk_cell BK151.out 4).trans rfl; have hcz28_5 : w25.cell? ⟨gb151, 5, none⟩ = some (.int .i64 0) := (blk_cell BK151.out 5).trans rfl; have hcz28_6 : w25.cell? ⟨gb151, 6, none⟩ = some (.bool false) := (blk_cell BK151.out 6).trans rfl; have hfz28_0 := blk_frozen BK151.out 0; have hfz28_1 := blk_frozen BK151.out 1; have hfz28_2 := blk_frozen BK151.out 2; have hfz28_3 := blk_frozen BK151.out 3; have hfz28_4 := blk_frozen BK151.out 4; have hfz28_5 := blk_frozen BK151.out 5; have hfz28_6 := blk_frozen BK151.out 6))
                    have n0_ : Aside0 (Kd.R (Kd.int .i64) 3 (((((((w25.setCell ⟨gb151, 0, none⟩ (.int .i64 ((rd_T80 l1 x20_1).f0.f0))).setCell ⟨gb151, 1, none⟩ (.int .i64 ((rd_T80 l1 x20_1).f0.f1))).setCell ⟨gb151, 2, none⟩ (.int .i64 ((rd_T80 l1 x20_1).f0.f2))).setCell ⟨gb151, 3, none⟩ (.int .i64 ((rd_T80 l1 x20_1).f0.f3))).setCell ⟨gb151, 4, none⟩ (.int .i64 ((rd_T80 l1 x20_1).f1))).setCell ⟨gb151, 5, none⟩ (.int .i64 ((rd_T80 l1 x20_1).f2))).setCell ⟨gb151, 6, none⟩ (.bool ((rd_T80 l1 x20_1).f3))) w.heap.size (fun _ => True) u9 x9_1) := ⟨by (with_reducible repeat (first | apply Kd.R_alloc | apply Kd.R_drewN | apply Kd.R_drew)); exact Kd.R_mono (Kd.R_far (p := ⟨gb151, 6, none⟩) (Kd.R_far (p := ⟨gb151, 5, none⟩) (Kd.R_far (p := ⟨gb151, 4, none⟩) (Kd.R_far (p := ⟨gb151, 3, none⟩) (Kd.R_far (p := ⟨gb151, 2, none⟩) (Kd.R_far (p := ⟨gb151, 1, none⟩) (Kd.R_far (p := ⟨gb151, 0, none⟩) (Kd.R_types HO_9.out BK151.out (by decide)) (fun _ hk => hk.2) (.int .i64 ((rd_T80 l1 x20_1).f0.f0))) (fun _ hk => hk.2) (.int .i64 ((rd_T80 l1 x20_1).f0.f1))) (fun _ hk => hk.2) (.int .i64 ((rd_T80 l1 x20_1).f0.f2))) (fun _ hk => hk.2) (.int .i64 ((rd_T80 l1 x20_1).f0.f3))) (fun _ hk => hk.2) (.int .i64 ((rd_T80 l1 x20_1).f1))) (fun _ hk => hk.2) (.int .i64 ((rd_T80 l1 x20_1).f2))) (fun _ hk => hk.2) (.bool ((rd_T80 l1 x20_1).f3))) (fun _ hk => trivial)⟩
                    have n1_ : Aside0 ((((((((w25.setCell ⟨gb151, 0, none⟩ (.int .i64 ((rd_T80 l1 x20_1).f0.f0))).setCell ⟨gb151, 1, none⟩ (.int .i64 ((rd_T80 l1 x20_1).f0.f1))).setCell ⟨gb151, 2, none⟩ (.int .i64 ((rd_T80 l1 x20_1).f0.f2))).setCell ⟨gb151, 3, none⟩ (.int .i64 ((rd_T80 l1 x20_1).f0.f3))).setCell ⟨gb151, 4, none⟩ (.int .i64 ((rd_T80 l1 x20_1).f1))).setCell ⟨gb151, 5, none⟩ (.int .i64 ((rd_T80 l1 x20_1).f2))).setCell ⟨gb151, 6, none⟩ (.bool ((rd_T80 l1 x20_1).f3))).heap[gb143]? = some (.cells #[.int .i64 0, .int .i64 0, .int .i64 0, .int .i64 0] 36 (0, 0))) := ⟨by (with_reducible repeat (first | refine blk_drewN ?_ _ | refine blk_drew ?_ | refine blk_alloc ?_ _)); refine blk_far ?_ NB143_151.out _; (with_reducible repeat (first | refine blk_drewN ?_ _ | refine blk_drew ?_ | refine blk_alloc ?_ _)); refine blk_far ?_ NB143_151.out _; (with_reducible repeat (first | refine blk_drewN ?_ _ | refine blk_drew ?_ | refine blk_alloc ?_ _)); refine blk_far ?_ NB143_151.out _; (with_reducible repeat (first | refine blk_drewN ?_ _ | refine blk_drew ?_ | refine blk_alloc ?_ _)); refine blk_far ?_ NB143_151.out _; (with_reducible repeat (first | refine blk_drewN ?_ _ | refine blk_drew ?_ | refine blk_alloc ?_ _)); refine blk_far ?_ NB143_151.out _; (with_reducible repeat (first | refine blk_drewN ?_ _ | refine blk_drew ?_ | refine blk_alloc ?_ _)); refine blk_far ?_ NB143_151.out _; (with_reducible repeat (first | refine blk_drewN ?_ _ | refine blk_drew ?_ | refine blk_alloc ?_ _)); refine blk_far ?_ NB143_151.out _; (with_reducible repeat (first | refine blk_drewN ?_ _ | refine blk_drew ?_ | refine blk_alloc ?_ _)); exact BK143.out⟩
                    have n2_ : Aside0 ((((((((w25.setCell ⟨gb151, 0, none⟩ (.int .i64 ((rd_T80 l1 x20_1).f0.f0))).setCell ⟨gb151, 1, none⟩ (.int .i64 ((rd_T80 l1 x20_1).f0.f1))).setCell ⟨gb151, 2, none⟩ (.int .i64 ((rd_T80 l1 x20_1).f0.f2))).setCell ⟨gb151, 3, none⟩ (.int .i64 ((rd_T80 l1 x20_1).f0.f3))).setCell ⟨gb151, 4, none⟩ (.int .i64 ((rd_T80 l1 x20_1).f1))).setCell ⟨gb151, 5, none⟩ (.int .i64 ((rd_T80 l1 x20_1).f2))).setCell ⟨gb151, 6, none⟩ (.bool ((rd_T80 l1 x20_1).f3))).heap[gb149]? = some (.cells #[.int .i64 t144, .int .i64 t145, .int .i64 t146, .int .i64 t147] 36 (0, 0))) := ⟨by (with_reducible repeat (first | refine blk_drewN ?_ _ | refine blk_drew ?_ | refine blk_alloc ?_ _)); refine blk_far ?_ NB149_151.out _; (with_reducible repeat (first | refine blk_drewN ?_ _ | refine blk_drew ?_ | refine blk_alloc ?_ _)); refine blk_far ?_ NB149_151.out _; (with_reducible repeat (first | refine blk_drewN ?_ _ | refine blk_drew ?_ | refine blk_alloc ?_ _)); refine blk_far ?_ NB149_151.out _; (with_reducible repeat (first | refine blk_drewN ?_ _ | refine blk_drew ?_ | refine blk_alloc ?_ _)); refine blk_far ?_ NB149_151.out _; (with_reducible repeat (first | refine blk_drewN ?_ _ | refine blk_drew ?_ | refine blk_alloc ?_ _)); refine blk_far ?_ NB149_151.out _; (with_reducible repeat (first | refine blk_drewN ?_ _ | refine blk_drew ?_ | refine blk_alloc ?_ _)); refine blk_far ?_ NB149_151.out _; (with_reducible repeat (first | refine blk_drewN ?_ _ | refine blk_drew ?_ | refine blk_alloc ?_ _)); refine blk_far ?_ NB149_151.out _; (with_reducible repeat (first | refine blk_drewN ?_ _ | refine blk_drew ?_ | refine blk_alloc ?_ _)); exact BK149.out⟩
                    have n3_ : Aside0 ((((((((w25.setCell ⟨gb151, 0, none⟩ (.int .i64 ((rd_T80 l1 x20_1).f0.f0))).setCell ⟨gb151, 1, none⟩ (.int .i64 ((rd_T80 l1 x20_1).f0.f1))).setCell ⟨gb151, 2, none⟩ (.int .i64 ((rd_T80 l1 x20_1).f0.f2))).setCell ⟨gb151, 3, none⟩ (.int .i64 ((rd_T80 l1 x20_1).f0.f3))).setCell ⟨gb151, 4, none⟩ (.int .i64 ((rd_T80 l1 x20_1).f1))).setCell ⟨gb151, 5, none⟩ (.int .i64 ((rd_T80 l1 x20_1).f2))).setCell ⟨gb151, 6, none⟩ (.bool ((rd_T80 l1 x20_1).f3))).heap[gb151]? = some (.cells #[.int .i64 ((rd_T80 l1 x20_1).f0.f0), .int .i64 ((rd_T80 l1 x20_1).f0.f1), .int .i64 ((rd_T80 l1 x20_1).f0.f2), .int .i64 ((rd_T80 l1 x20_1).f0.f3), .int .i64 ((rd_T80 l1 x20_1).f1), .int .i64 ((rd_T80 l1 x20_1).f2), .bool ((rd_T80 l1 x20_1).f3)] 80 (0, 0))) := ⟨by (with_reducible repeat (first | refine blk_drewN ?_ _ | refine blk_drew ?_ | refine blk_alloc ?_ _)); refine blk_put (cs := #[.int .i64 ((rd_T80 l1 x20_1).f0.f0), .int .i64 ((rd_T80 l1 x20_1).f0.f1), .int .i64 ((rd_T80 l1 x20_1).f0.f2), .int .i64 ((rd_T80 l1 x20_1).f0.f3), .int .i64 ((rd_T80 l1 x20_1).f1), .int .i64 ((rd_T80 l1 x20_1).f2), .bool false]) ?_ 6 _ rfl; (with_reducible repeat (first | refine blk_drewN ?_ _ | refine blk_drew ?_ | refine blk_alloc ?_ _)); refine blk_put (cs := #[.int .i64 ((rd_T80 l1 x20_1).f0.f0), .int .i64 ((rd_T80 l1 x20_1).f0.f1), .int .i64 ((rd_T80 l1 x20_1).f0.f2), .int .i64 ((rd_T80 l1 x20_1).f0.f3), .int .i64 ((rd_T80 l1 x20_1).f1), .int .i64 0, .bool false]) ?_ 5 _ rfl; (with_reducible repeat (first | refine blk_drewN ?_ _ | refine blk_drew ?_ | refine blk_alloc ?_ _)); refine blk_put (cs := #[.int .i64 ((rd_T80 l1 x20_1).f0.f0), .int .i64 ((rd_T80 l1 x20_1).f0.f1), .int .i64 ((rd_T80 l1 x20_1).f0.f2), .int .i64 ((rd_T80 l1 x20_1).f0.f3), .int .i64 0, .int .i64 0, .bool false]) ?_ 4 _ rfl; (with_reducible repeat (first | refine blk_drewN ?_ _ | refine blk_drew ?_ | refine blk_alloc ?_ _)); refine blk_put (cs := #[.int .i64 ((rd_T80 l1 x20_1).f0.f0), .int .i64 ((rd_T80 l1 x20_1).f0.f1), .int .i64 ((rd_T80 l1 x20_1).f0.f2), .int .i64 0, .int .i64 0, .int .i64 0, .bool false]) ?_ 3 _ rfl; (with_reducible repeat (first | refine blk_drewN ?_ _ | refine blk_drew ?_ | refine blk_alloc ?_ _)); refine blk_put (cs := #[.int .i64 ((rd_T80 l1 x20_1).f0.f0), .int .i64 ((rd_T80 l1 x20_1).f0.f1), .int .i64 0, .int .i64 0, .int .i64 0, .int .i64 0, .bool false]) ?_ 2 _ rfl; (with_reducible repeat (first | refine blk_drewN ?_ _ | refine blk_drew ?_ | refine blk_alloc ?_ _)); refine blk_put (cs := #[.int .i64 ((rd_T80 l1 x20_1).f0.f0), .int .i64 0, .int .i64 0, .int .i64 0, .int .i64 0, .int .i64 0, .bool false]) ?_ 1 _ rfl; (with_reducible repeat (first | refine blk_drewN ?_ _ | refine blk_drew ?_ | refine blk_alloc ?_ _)); refine blk_put (cs := #[.int .i64 0, .int .i64 0, .int .i64 0, .int .i64 0, .int .i64 0, .int .i64 0, .bool false]) ?_ 0 _ rfl; (with_reducible repeat (first | refine blk_drewN ?_ _ | refine blk_drew ?_ | refine blk_alloc ?_ _)); exact BK151.out⟩
                    have n4_ : Aside0 (Below w.heap.size w (((((((w25.setCell ⟨gb151, 0, none⟩ (.int .i64 ((rd_T80 l1 x20_1).f0.f0))).setCell ⟨gb151, 1, none⟩ (.int .i64 ((rd_T80 l1 x20_1).f0.f1))).setCell ⟨gb151, 2, none⟩ (.int .i64 ((rd_T80 l1 x20_1).f0.f2))).setCell ⟨gb151, 3, none⟩ (.int .i64 ((rd_T80 l1 x20_1).f0.f3))).setCell ⟨gb151, 4, none⟩ (.int .i64 ((rd_T80 l1 x20_1).f1))).setCell ⟨gb151, 5, none⟩ (.int .i64 ((rd_T80 l1 x20_1).f2))).setCell ⟨gb151, 6, none⟩ (.bool ((rd_T80 l1 x20_1).f3)))) := ⟨by repeat (first | (with_reducible first | exact HB.out | apply below_alloc | apply pw_below_drewN | apply below_drew1 | refine below_set ?_ GE143.out | refine below_set ?_ GE149.out | refine below_set ?_ GE151.out) | exact HB.out)⟩
                    (try clear HO_9)
                    (try clear BK143)
                    (try clear BK149)
                    (try clear BK151)
                    (try clear HB)
                    generalize (((((((w25.setCell ⟨gb151, 0, none⟩ (.int .i64 ((rd_T80 l1 x20_1).f0.f0))).setCell ⟨gb151, 1, none⟩ (.int .i64 ((rd_T80 l1 x20_1).f0.f1))).setCell ⟨gb151, 2, none⟩ (.int .i64 ((rd_T80 l1 x20_1).f0.f2))).setCell ⟨gb151, 3, none⟩ (.int .i64 ((rd_T80 l1 x20_1).f0.f3))).setCell ⟨gb151, 4, none⟩ (.int .i64 ((rd_T80 l1 x20_1).f1))).setCell ⟨gb151, 5, none⟩ (.int .i64 ((rd_T80 l1 x20_1).f2))).setCell ⟨gb151, 6, none⟩ (.bool ((rd_T80 l1 x20_1).f3))) = w29 at n0_ n1_ n2_ n3_ n4_ ⊢
                    have HO_9 := n0_
                    have BK143 := n1_
                    have BK149 := n2_
                    have BK151 := n3_
                    have HB := n4_
                    clear n0_ n1_ n2_ n3_ n4_
                    have n0_ := Aside0.mk (Kd.R_drew HO_9.out)
                    have n1_ := Aside0.mk (blk_drew BK143.out)
                    have n2_ := Aside0.mk (blk_drew BK149.out)
                    have n3_ := Aside0.mk (blk_drew BK151.out)
                    have n4_ := Aside0.mk (below_drew1 HB.out)
                    clear HO_9
                    clear BK143
                    clear BK149
                    clear BK151
                    clear HB
                    have HO_9 := n0_
                    have BK143 := n1_
                    have BK149 := n2_
                    have BK151 := n3_
                    have HB := n4_
                    clear n0_ n1_ n2_ n3_ n4_
                    refine start_ (n := 14) (S := fun w' => w'.cell? ⟨gb151, 0, none⟩ = some (.int .i64 ((rd_T80 l1 x20_1).f0.f0)) ∧ w'.cell? ⟨gb151, 1, none⟩ = some (.int .i64 ((rd_T80 l1 x20_1).f0.f1)) ∧ w'.cell? ⟨gb151, 2, none⟩ = some (.int .i64 ((rd_T80 l1 x20_1).f0.f2)) ∧ w'.cell? ⟨gb151, 3, none⟩ = some (.int .i64 ((rd_T80 l1 x20_1).f0.f3)) ∧ w'.cell? ⟨gb151, 4, none⟩ = some (.int .i64 ((rd_T80 l1 x20_1).f1)) ∧ w'.cell? ⟨gb151, 5, none⟩ = some (.int .i64 ((rd_T80 l1 x20_1).f2)) ∧ w'.cell? ⟨gb151, 6, none⟩ = some (.bool ((rd_T80 l1 x20_1).f3)) ∧ w'.cell? ⟨gb149, 0, none⟩ = some (.int .i64 t144) ∧ w'.cell? ⟨gb149, 1, none⟩ = some (.int .i64 t145) ∧ w'.cell? ⟨gb149, 2, none⟩ = some (.int .i64 t146) ∧ w'.cell? ⟨gb149, 3, none⟩ = some (.int .i64 t147)) (ds := []) #[false, false, false, false, false, false, false, false, false, false, false, false, false, false] (by kernel_rfl) rfl rfl ⟨(blk_cell BK151.out 0).trans rfl, (blk_cell BK151.out 1).trans rfl, (blk_cell BK151.out 2).trans rfl, (blk_cell BK151.out 3).trans rfl, (blk_cell BK151.out 4).trans rfl, (blk_cell BK151.out 5).trans rfl, (blk_cell BK151.out 6).trans rfl, (blk_cell BK149.out 0).trans rfl, (blk_cell BK149.out 1).trans rfl, (blk_cell BK149.out 2).trans rfl, (blk_cell BK149.out 3).trans rfl⟩ (fun hHeld => ?_); refine with_tabW prio_Roles.tab9 prio_Roles.bits9 (fun HT_ HW_ => ?_)
                    generalize w29.drew = w30 at HO_9 BK143 BK149 BK151 HB hHeld ⊢
                    refine pure_ (i := 1) (N := some 37) (v := ?_) (a' := ?_) #[false, true, false, false, false, false, false, false, false, false, false, false, false, false] rfl rfl (any_of HT_.out (by kernel_rfl)) (fun _ _ _ h => h) (Or.inl ⟨by rfl, ?_⟩) ?_ ?_
                    rotate_left
                    · intro w'
                      go_simp
                      with_reducible rfl
                    rotate_left
                    · simp only [Act.put, List.setIfInBounds_toArray, List.set_cons_zero, List.set_cons_succ, i64_w, i32_w]
                      rfl
                    refine take_ (i := 0) (N := some 36) (v := ?_) (a' := ?_) #[true, true, false, false, false, false, false, false, false, false, false, false, false, false] rfl rfl (take_ofW HT_.out HW_.out (by kernel_rfl)) (fun _ _ _ h => h) (Or.inl ⟨by rfl, ?_⟩) hHeld ?_ ?_
                    rotate_left
                    · rintro w' ⟨s0, s1, s2, s3, s4, s5, s6, s7, s8, s9, s10⟩
                      go_simp
                      with_reducible rfl
                    rotate_left
                    · simp only [Act.put, List.setIfInBounds_toArray, List.set_cons_zero, List.set_cons_succ, i64_w, i32_w]
                      rfl
                    refine one_ (i := 2) (N := some 38) #[true, true, true, false, false, false, false, false, false, false, false, false, false, false] rfl rfl (one_of HT_.out (by kernel_rfl)) (by decide) (fun K hK => ?_)
                    refine goes_ Tryd.func60 (by kernel_rfl) rfl #[.agg #[.int .i64 ((rd_T80 l1 x20_1).f0.f0), .int .i64 ((rd_T80 l1 x20_1).f0.f1), .int .i64 ((rd_T80 l1 x20_1).f0.f2), .int .i64 ((rd_T80 l1 x20_1).f0.f3), .int .i64 ((rd_T80 l1 x20_1).f1), .int .i64 ((rd_T80 l1 x20_1).f2), .bool ((rd_T80 l1 x20_1).f3)], .int .i64 a0] (by rfl) rfl rfl (by (try simp only [List.map_toArray, List.map_cons, List.map_nil]); first | done | rfl | (simp only [List.length_drop, List.length_take]; rfl)) ?_
                    with_reducible refine (prio_takes.calls ((rd_T80 l1 x20_1).f0.f0) ((rd_T80 l1 x20_1).f0.f1) ((rd_T80 l1 x20_1).f0.f2) ((rd_T80 l1 x20_1).f0.f3) ((rd_T80 l1 x20_1).f1) ((rd_T80 l1 x20_1).f2) ((rd_T80 l1 x20_1).f3) a0 true _ A19.out).mono ?_
                    rintro e w31 ⟨rfl, hb⟩
                    refine ⟨_, rfl, ?_⟩
                    have n0_ := Aside0.mk (Kd.R_below (by (with_reducible repeat (first | apply Kd.R_alloc | apply Kd.R_drewN | apply Kd.R_drew)); exact HO_9.out) hb)
                    have n1_ := Aside0.mk (blk_below (g := gb143) (o := .cells #[.int .i64 0, .int .i64 0, .int .i64 0, .int .i64 0] 36 (0, 0)) (by (with_reducible repeat (first | refine blk_drewN ?_ _ | refine blk_drew ?_ | refine blk_alloc ?_ _)); exact BK143.out) hb)
                    have n2_ := Aside0.mk (blk_below (g := gb149) (o := .cells #[.int .i64 t144, .int .i64 t145, .int .i64 t146, .int .i64 t147] 36 (0, 0)) (by (with_reducible repeat (first | refine blk_drewN ?_ _ | refine blk_drew ?_ | refine blk_alloc ?_ _)); exact BK149.out) hb)
                    have n3_ := Aside0.mk (blk_below (g := gb151) (o := .cells #[.int .i64 ((rd_T80 l1 x20_1).f0.f0), .int .i64 ((rd_T80 l1 x20_1).f0.f1), .int .i64 ((rd_T80 l1 x20_1).f0.f2), .int .i64 ((rd_T80 l1 x20_1).f0.f3), .int .i64 ((rd_T80 l1 x20_1).f1), .int .i64 ((rd_T80 l1 x20_1).f2), .bool ((rd_T80 l1 x20_1).f3)] 80 (0, 0)) (by (with_reducible repeat (first | refine blk_drewN ?_ _ | refine blk_drew ?_ | refine blk_alloc ?_ _)); exact BK151.out) hb)
                    have n4_ := Aside0.mk (below_step (by repeat (first | (with_reducible first | exact HB.out | apply below_alloc | apply pw_below_drewN | apply below_drew1 | refine below_set ?_ GE143.out | refine below_set ?_ GE149.out | refine below_set ?_ GE151.out) | exact HB.out)) hb)
                    clear HO_9
                    clear BK143
                    clear BK149
                    clear BK151
                    clear HB
                    have HO_9 := n0_
                    have BK143 := n1_
                    have BK149 := n2_
                    have BK151 := n3_
                    have HB := n4_
                    clear n0_ n1_ n2_ n3_ n4_
                    (try clear hb)
                    (try clear hb2)
                    (try clear hk)
                    (try clear hi)
                    refine hK.out _ _ ⟨(blk_cell BK151.out 0).trans rfl, (blk_cell BK151.out 1).trans rfl, (blk_cell BK151.out 2).trans rfl, (blk_cell BK151.out 3).trans rfl, (blk_cell BK151.out 4).trans rfl, (blk_cell BK151.out 5).trans rfl, (blk_cell BK151.out 6).trans rfl, (blk_cell BK149.out 0).trans rfl, (blk_cell BK149.out 1).trans rfl, (blk_cell BK149.out 2).trans rfl, (blk_cell BK149.out 3).trans rfl⟩ (fun hHeld => ?_)
                    clear hK K
                    refine norm_ (a' := ?_) ?_ ?_
                    rotate_left
                    · show Act.put _ (some 38) _ = _
                      simp only [Act.put, List.setIfInBounds_toArray, List.set_cons_zero, List.set_cons_succ, i64_w, i32_w]
                      rfl
                    refine pure_ (i := 3) (N := some 39) (v := ?_) (a' := ?_) #[true, true, true, true, false, false, false, false, false, false, false, false, false, false] rfl rfl (any_of HT_.out (by kernel_rfl)) (fun _ _ _ h => h) (Or.inl ⟨by rfl, ?_⟩) ?_ ?_
                    rotate_left
                    · intro w'
                      go_simp
                      with_reducible rfl
                    rotate_left
                    · simp only [Act.put, List.setIfInBounds_toArray, List.set_cons_zero, List.set_cons_succ, i64_w, i32_w]
                      rfl
                    refine pure_ (i := 4) (N := some 40) (v := ?_) (a' := ?_) #[true, true, true, true, true, false, false, false, false, false, false, false, false, false] rfl rfl (any_of HT_.out (by kernel_rfl)) (fun _ _ _ h => h) (Or.inl ⟨by rfl, ?_⟩) ?_ ?_
                    rotate_left
                    · intro w'
                      go_simp
                      with_reducible rfl
                    rotate_left
                    · simp only [Act.put, List.setIfInBounds_toArray, List.set_cons_zero, List.set_cons_succ, i64_w, i32_w]
                      rfl
                    refine pure_ (i := 6) (N := some 42) (v := ?_) (a' := ?_) #[true, true, true, true, true, false, true, false, false, false, false, false, false, false] rfl rfl (any_of HT_.out (by kernel_rfl)) (fun _ _ _ h => h) (Or.inl ⟨by rfl, ?_⟩) ?_ ?_
                    rotate_left
                    · intro w'
                      go_simp
                      with_reducible rfl
                    rotate_left
                    · simp only [Act.put, List.setIfInBounds_toArray, List.set_cons_zero, List.set_cons_succ, i64_w, i32_w]
                      rfl
                    refine pure_ (i := 7) (N := some 43) (v := ?_) (a' := ?_) #[true, true, true, true, true, false, true, true, false, false, false, false, false, false] rfl rfl (any_of HT_.out (by kernel_rfl)) (fun _ _ _ h => h) (Or.inl ⟨by rfl, ?_⟩) ?_ ?_
                    rotate_left
                    · intro w'
                      go_simp
                      with_reducible rfl
                    rotate_left
                    · simp only [Act.put, List.setIfInBounds_toArray, List.set_cons_zero, List.set_cons_succ, i64_w, i32_w]
                      rfl
                    refine pure_ (i := 9) (N := some 45) (v := ?_) (a' := ?_) #[true, true, true, true, true, false, true, true, false, true, false, false, false, false] rfl rfl (any_of HT_.out (by kernel_rfl)) (fun _ _ _ h => h) (Or.inl ⟨by rfl, ?_⟩) ?_ ?_
                    rotate_left
                    · intro w'
                      go_simp
                      with_reducible rfl
                    rotate_left
                    · simp only [Act.put, List.setIfInBounds_toArray, List.set_cons_zero, List.set_cons_succ, i64_w, i32_w]
                      rfl
                    refine take_ (i := 5) (N := some 41) (v := ?_) (a' := ?_) #[true, true, true, true, true, true, true, true, false, true, false, false, false, false] rfl rfl (take_ofW HT_.out HW_.out (by kernel_rfl)) (fun _ _ _ h => h) (Or.inl ⟨by rfl, ?_⟩) hHeld ?_ ?_
                    rotate_left
                    · rintro w' ⟨s0, s1, s2, s3, s4, s5, s6, s7, s8, s9, s10⟩
                      go_simp
                      with_reducible rfl
                    rotate_left
                    · simp only [Act.put, List.setIfInBounds_toArray, List.set_cons_zero, List.set_cons_succ, i64_w, i32_w]
                      rfl
                    refine take_ (i := 10) (N := some 46) (v := ?_) (a' := ?_) #[true, true, true, true, true, true, true, true, false, true, true, false, false, false] rfl rfl (take_ofW HT_.out HW_.out (by kernel_rfl)) (fun _ _ _ h => h) (Or.inl ⟨by rfl, ?_⟩) hHeld ?_ ?_
                    rotate_left
                    · rintro w' ⟨s0, s1, s2, s3, s4, s5, s6, s7, s8, s9, s10⟩
                      go_simp
                      with_reducible rfl
                    rotate_left
                    · simp only [Act.put, List.setIfInBounds_toArray, List.set_cons_zero, List.set_cons_succ, i64_w, i32_w]
                      rfl
                    refine one_ (i := 8) (N := some 44) #[true, true, true, true, true, true, true, true, true, true, true, false, false, false] rfl rfl (one_of HT_.out (by kernel_rfl)) (by decide) (fun K hK => ?_)
                    refine goes_ Tryd.func40 (by kernel_rfl) rfl #[.agg #[.int .i64 t144, .int .i64 t145, .int .i64 t146, .int .i64 t147], .int .i64 a0, .int .i64 x20_1] (by rfl) rfl rfl (by (try simp only [List.map_toArray, List.map_cons, List.map_nil]); first | done | rfl | (simp only [List.length_drop, List.length_take]; rfl)) ?_
                    with_reducible refine (prio_Offer.calls t144 t145 t146 t147 a0 x20_1 t156 t157 t158 t159 _ A21.out).mono ?_
                    rintro e w32 ⟨rfl, hb⟩
                    refine ⟨_, rfl, ?_⟩
                    have n0_ := Aside0.mk (Kd.R_below (by (with_reducible repeat (first | apply Kd.R_alloc | apply Kd.R_drewN | apply Kd.R_drew)); exact HO_9.out) hb)
                    have n1_ := Aside0.mk (blk_below (g := gb143) (o := .cells #[.int .i64 0, .int .i64 0, .int .i64 0, .int .i64 0] 36 (0, 0)) (by (with_reducible repeat (first | refine blk_drewN ?_ _ | refine blk_drew ?_ | refine blk_alloc ?_ _)); exact BK143.out) hb)
                    have n2_ := Aside0.mk (blk_below (g := gb149) (o := .cells #[.int .i64 t144, .int .i64 t145, .int .i64 t146, .int .i64 t147] 36 (0, 0)) (by (with_reducible repeat (first | refine blk_drewN ?_ _ | refine blk_drew ?_ | refine blk_alloc ?_ _)); exact BK149.out) hb)
                    have n3_ := Aside0.mk (blk_below (g := gb151) (o := .cells #[.int .i64 ((rd_T80 l1 x20_1).f0.f0), .int .i64 ((rd_T80 l1 x20_1).f0.f1), .int .i64 ((rd_T80 l1 x20_1).f0.f2), .int .i64 ((rd_T80 l1 x20_1).f0.f3), .int .i64 ((rd_T80 l1 x20_1).f1), .int .i64 ((rd_T80 l1 x20_1).f2), .bool ((rd_T80 l1 x20_1).f3)] 80 (0, 0)) (by (with_reducible repeat (first | refine blk_drewN ?_ _ | refine blk_drew ?_ | refine blk_alloc ?_ _)); exact BK151.out) hb)
                    have n4_ := Aside0.mk (below_step (by repeat (first | (with_reducible first | exact HB.out | apply below_alloc | apply pw_below_drewN | apply below_drew1 | refine below_set ?_ GE143.out | refine below_set ?_ GE149.out | refine below_set ?_ GE151.out) | exact HB.out)) hb)
                    clear HO_9
                    clear BK143
                    clear BK149
                    clear BK151
                    clear HB
                    have HO_9 := n0_
                    have BK143 := n1_
                    have BK149 := n2_
                    have BK151 := n3_
                    have HB := n4_
                    clear n0_ n1_ n2_ n3_ n4_
                    (try clear hb)
                    (try clear hb2)
                    (try clear hk)
                    (try clear hi)
                    refine hK.out _ _ ⟨(blk_cell BK151.out 0).trans rfl, (blk_cell BK151.out 1).trans rfl, (blk_cell BK151.out 2).trans rfl, (blk_cell BK151.out 3).trans rfl, (blk_cell BK151.out 4).trans rfl, (blk_cell BK151.out 5).trans rfl, (blk_cell BK151.out 6).trans rfl, (blk_cell BK149.out 0).trans rfl, (blk_cell BK149.out 1).trans rfl, (blk_cell BK149.out 2).trans rfl, (blk_cell BK149.out 3).trans rfl⟩ (fun hHeld => ?_)
                    clear hK K
                    refine norm_ (a' := ?_) ?_ ?_
                    rotate_left
                    · show Act.put _ (some 44) _ = _
                      simp only [Act.put, List.setIfInBounds_toArray, List.set_cons_zero, List.set_cons_succ, i64_w, i32_w]
                      rfl
                    refine one_ (i := 11) (N := some 47) #[true, true, true, true, true, true, true, true, true, true, true, true, false, false] rfl rfl (one_of HT_.out (by kernel_rfl)) (by decide) (fun K hK => ?_)
                    refine goes_ Tryd.func61 (by kernel_rfl) rfl #[.agg #[.int .i64 t156, .int .i64 t157, .int .i64 t158, .int .i64 t159], .agg #[.int .i64 ((rd_T80 l1 x20_1).f0.f0), .int .i64 ((rd_T80 l1 x20_1).f0.f1), .int .i64 ((rd_T80 l1 x20_1).f0.f2), .int .i64 ((rd_T80 l1 x20_1).f0.f3)]] (by rfl) rfl rfl (by (try simp only [List.map_toArray, List.map_cons, List.map_nil]); first | done | rfl | (simp only [List.length_drop, List.length_take]; rfl)) ?_
                    with_reducible refine (prio_Better.calls k1 t156 t157 t158 t159 ((rd_T80 l1 x20_1).f0.f0) ((rd_T80 l1 x20_1).f0.f1) ((rd_T80 l1 x20_1).f0.f2) ((rd_T80 l1 x20_1).f0.f3) true _ A22.out).mono ?_
                    rintro e w33 ⟨rfl, hb⟩
                    refine ⟨_, rfl, ?_⟩
                    have n0_ := Aside0.mk (Kd.R_below (by (with_reducible repeat (first | apply Kd.R_alloc | apply Kd.R_drewN | apply Kd.R_drew)); exact HO_9.out) hb)
                    have n1_ := Aside0.mk (blk_below (g := gb143) (o := .cells #[.int .i64 0, .int .i64 0, .int .i64 0, .int .i64 0] 36 (0, 0)) (by (with_reducible repeat (first | refine blk_drewN ?_ _ | refine blk_drew ?_ | refine blk_alloc ?_ _)); exact BK143.out) hb)
                    have n2_ := Aside0.mk (blk_below (g := gb149) (o := .cells #[.int .i64 t144, .int .i64 t145, .int .i64 t146, .int .i64 t147] 36 (0, 0)) (by (with_reducible repeat (first | refine blk_drewN ?_ _ | refine blk_drew ?_ | refine blk_alloc ?_ _)); exact BK149.out) hb)
                    have n3_ := Aside0.mk (blk_below (g := gb151) (o := .cells #[.int .i64 ((rd_T80 l1 x20_1).f0.f0), .int .i64 ((rd_T80 l1 x20_1).f0.f1), .int .i64 ((rd_T80 l1 x20_1).f0.f2), .int .i64 ((rd_T80 l1 x20_1).f0.f3), .int .i64 ((rd_T80 l1 x20_1).f1), .int .i64 ((rd_T80 l1 x20_1).f2), .bool ((rd_T80 l1 x20_1).f3)] 80 (0, 0)) (by (with_reducible repeat (first | refine blk_drewN ?_ _ | refine blk_drew ?_ | refine blk_alloc ?_ _)); exact BK151.out) hb)
                    have n4_ := Aside0.mk (below_step (by repeat (first | (with_reducible first | exact HB.out | apply below_alloc | apply pw_below_drewN | apply below_drew1 | refine below_set ?_ GE143.out | refine below_set ?_ GE149.out | refine below_set ?_ GE151.out) | exact HB.out)) hb)
                    clear HO_9
                    clear BK143
                    clear BK149
                    clear BK151
                    clear HB
                    have HO_9 := n0_
                    have BK143 := n1_
                    have BK149 := n2_
                    have BK151 := n3_
                    have HB := n4_
                    clear n0_ n1_ n2_ n3_ n4_
                    (try clear hb)
                    (try clear hb2)
                    (try clear hk)
                    (try clear hi)
                    refine hK.out _ _ ⟨(blk_cell BK151.out 0).trans rfl, (blk_cell BK151.out 1).trans rfl, (blk_cell BK151.out 2).trans rfl, (blk_cell BK151.out 3).trans rfl, (blk_cell BK151.out 4).trans rfl, (blk_cell BK151.out 5).trans rfl, (blk_cell BK151.out 6).trans rfl, (blk_cell BK149.out 0).trans rfl, (blk_cell BK149.out 1).trans rfl, (blk_cell BK149.out 2).trans rfl, (blk_cell BK149.out 3).trans rfl⟩ (fun hHeld => ?_)
                    clear hK K
                    refine norm_ (a' := ?_) ?_ ?_
                    rotate_left
                    · show Act.put _ (some 47) _ = _
                      simp only [Act.put, List.setIfInBounds_toArray, List.set_cons_zero, List.set_cons_succ, i64_w, i32_w]
                      rfl
                    refine pure_ (i := 12) (N := some 48) (v := ?_) (a' := ?_) #[true, true, true, true, true, true, true, true, true, true, true, true, true, false] rfl rfl (any_of HT_.out (by kernel_rfl)) (fun _ _ _ h => h) (Or.inl ⟨by rfl, ?_⟩) ?_ ?_
                    rotate_left
                    · intro w'
                      go_simp
                      with_reducible rfl
                    rotate_left
                    · simp only [Act.put, List.setIfInBounds_toArray, List.set_cons_zero, List.set_cons_succ, i64_w, i32_w]
                      rfl
                    refine pure_ (i := 13) (N := some 35) (v := ?_) (a' := ?_) #[true, true, true, true, true, true, true, true, true, true, true, true, true, true] rfl rfl (any_of HT_.out (by kernel_rfl)) (fun _ _ _ h => h) (Or.inl ⟨by rfl, ?_⟩) ?_ ?_
                    rotate_left
                    · intro w'
                      go_simp
                      with_reducible rfl
                    rotate_left
                    · simp only [Act.put, List.setIfInBounds_toArray, List.set_cons_zero, List.set_cons_succ, i64_w, i32_w]
                      rfl
                    refine done_ (done_of HT_.out (by kernel_rfl)) ?_
                    try go_wp2_with (first | ((with_reducible refine gate_builtin (b := .append) (xs := #[.tmp 49, .tmp 50]) rfl ?_); at_builtin; refine Kd.R_append (Kd.int .i64) (w0 := w) w.heap.size rfl (.tmp 49) (.tmp 50) 22 3 (.int .i64 0) 8 rfl Tryd.underlying22 info3 rfl (by decide) (by omega) u9 x9_1 2 [.int .i64 2] (fun _ => True) (fun _ => False) rfl rfl ?aP (fun _ hk => hk.elim) ?aF ?aO ?aB ?aS ?aL ?_; (case aP => exact rfl); (case aB => exact (by repeat (first | (with_reducible first | exact HB.out | apply below_alloc | apply pw_below_drewN | apply below_drew1 | refine below_set ?_ GE143.out | refine below_set ?_ GE149.out | refine below_set ?_ GE151.out) | exact HB.out))); (case aF => exact (fun _ _ => trivial)); (case aO => exact (by (with_reducible repeat (first | apply Kd.R_alloc | apply Kd.R_drewN | apply Kd.R_drew)); exact HO_9.out)); (case aS => exact (below_size (by repeat (first | (with_reducible first | exact HB.out | apply below_alloc | apply pw_below_drewN | apply below_drew1 | refine below_set ?_ GE143.out | refine below_set ?_ GE149.out | refine below_set ?_ GE151.out) | exact HB.out)))); (case aL => have := LMc24.out; omega); intro v162 w34 ho hb hg hat; rw [← Ny161.out] at ho; have n0_ := Aside0.mk (blk_grown (g := gb143) (o := .cells #[.int .i64 0, .int .i64 0, .int .i64 0, .int .i64 0] 36 (0, 0)) (by (with_reducible repeat (first | refine blk_drewN ?_ _ | refine blk_drew ?_ | refine blk_alloc ?_ _)); exact BK143.out) hg (Kd.R_ne HO_9.out BK143.out (by decide))); have n1_ := Aside0.mk (blk_grown (g := gb149) (o := .cells #[.int .i64 t144, .int .i64 t145, .int .i64 t146, .int .i64 t147] 36 (0, 0)) (by (with_reducible repeat (first | refine blk_drewN ?_ _ | refine blk_drew ?_ | refine blk_alloc ?_ _)); exact BK149.out) hg (Kd.R_ne HO_9.out BK149.out (by decide))); have n2_ := Aside0.mk (blk_grown (g := gb151) (o := .cells #[.int .i64 ((rd_T80 l1 x20_1).f0.f0), .int .i64 ((rd_T80 l1 x20_1).f0.f1), .int .i64 ((rd_T80 l1 x20_1).f0.f2), .int .i64 ((rd_T80 l1 x20_1).f0.f3), .int .i64 ((rd_T80 l1 x20_1).f1), .int .i64 ((rd_T80 l1 x20_1).f2), .bool ((rd_T80 l1 x20_1).f3)] 80 (0, 0)) (by (with_reducible repeat (first | refine blk_drewN ?_ _ | refine blk_drew ?_ | refine blk_alloc ?_ _)); exact BK151.out) hg (Kd.R_ne HO_9.out BK151.out (by decide))); have n3_ := Aside0.mk (hb); have n4_ := Aside0.mk (ho); clear BK143; clear BK149; clear BK151; clear HB; clear HO_9; have BK143 := n0_; have BK149 := n1_; have BK151 := n2_; have HB := n3_; have HO163 := n4_; clear n0_ n1_ n2_ n3_ n4_; clear ho hb hg hat))
                    go_roundg k1
                    case measure => have := HK1.out; omega
                    case rel => exact ⟨(y161), (wrap64 (x20_1 + 1)), (by first | rfl | (simp; done) | (simp [*]; done)), H', ⟨by have := HK1.out; omega⟩, ⟨by (with_reducible repeat (first | apply Kd.R_alloc | apply Kd.R_drewN | apply Kd.R_drew)); exact HO163.out⟩, ⟨by (with_reducible repeat (first | refine blk_drewN ?_ _ | refine blk_drew ?_ | refine blk_alloc ?_ _)); exact BK143.out⟩, ⟨by (with_reducible repeat (first | refine blk_drewN ?_ _ | refine blk_drew ?_ | refine blk_alloc ?_ _)); exact BK149.out⟩, ⟨by repeat (first | (with_reducible first | exact HB.out | apply below_alloc | apply pw_below_drewN | apply below_drew1 | refine below_set ?_ GE143.out | refine below_set ?_ GE149.out | refine below_set ?_ GE151.out) | exact HB.out)⟩⟩
                  · rw [if_neg c24] at H
                    exact absurd H (by simp)
                · replace c23 := Bool.eq_false_iff.mpr c23
                  subst c23
                  have H1 : (if x9_1.length < 17592186044416 then (prio_Roles.l0 k1 a0 t148 (x9_1 ++ [3]) l1 (l1.length : Int) (wrap64 (x20_1 + 1)) t144 t145 t146 t147) else (none)) = some (r1, r2, r3, r4, r5, r6) := by rw [if_neg (show ¬ (false = true) by decide)] at H; exact H
                  clear H
                  have H := H1
                  clear H1
                  by_cases c35 : x9_1.length < 17592186044416
                  · rw [if_pos c35] at H
                    have LMc35 := Aside0.mk c35
                    clear c35
                    obtain ⟨y164, hy164⟩ : ∃ y_ : List Int, y_ = (x9_1 ++ [3]) := ⟨_, rfl⟩
                    replace H : (prio_Roles.l0 k1 a0 t148 y164 l1 (l1.length : Int) (wrap64 (x20_1 + 1)) t144 t145 t146 t147) = some (r1, r2, r3, r4, r5, r6) := by first | (rw [hy164]; with_reducible exact H) | (have H2_ := (Option.bind_some _ _).symm.trans H; rw [hy164]; with_reducible exact H2_) | (have H2_ := (Option.bind_some _ _).symm.trans H; with_reducible exact H2_) | with_reducible exact H | (rw [hy164]; exact H) | exact H
                    have Ny164 := Aside0.mk hy164
                    clear hy164
                    have H' := Aside0.mk H
                    clear H
                    have p150 : 0 ≤ (x20_1 : Int) := of_decide_eq_true (by first | (with_reducible assumption) | assumption)
                    have q150 : x20_1 < (l1.length : Int) := of_decide_eq_true (by first | (with_reducible assumption) | assumption)
                    obtain ⟨ad150, e150, hx150_0, hx150_1, hx150_2, hx150_3, hx150_4, hx150_5, hx150_6⟩ := at_T80 HR1.out x20_1 p150 q150
                    cases e150
                    replace hx150_0 := (HB.out.cell (World.block_lt_of_cell? w _ hx150_0)).trans hx150_0
                    replace hx150_1 := (HB.out.cell (World.block_lt_of_cell? w _ hx150_1)).trans hx150_1
                    replace hx150_2 := (HB.out.cell (World.block_lt_of_cell? w _ hx150_2)).trans hx150_2
                    replace hx150_3 := (HB.out.cell (World.block_lt_of_cell? w _ hx150_3)).trans hx150_3
                    replace hx150_4 := (HB.out.cell (World.block_lt_of_cell? w _ hx150_4)).trans hx150_4
                    replace hx150_5 := (HB.out.cell (World.block_lt_of_cell? w _ hx150_5)).trans hx150_5
                    replace hx150_6 := (HB.out.cell (World.block_lt_of_cell? w _ hx150_6)).trans hx150_6
                    replace p150 := eq_true p150
                    replace q150 := eq_true q150
                    try go_wp2_with (first | ((with_reducible refine gate_dst (N := 11) rfl ?_); refine box_event ?hg (N := 11) ?hd (cs := #[.int .i64 0, .int .i64 0, .int .i64 0, .int .i64 0, .int .i64 0, .int .i64 0, .bool false]) (t := 80) ?hr ?_; (case hd => rfl); (case hg => rfl); (case hr => first | (go_simp; done) | (go_simp; rfl)); intro gb151 hg w36 hbox hb; have n0_ := Aside0.mk (Kd.R_below (by (with_reducible repeat (first | apply Kd.R_alloc | apply Kd.R_drewN | apply Kd.R_drew)); exact HO_9.out) hb); have n1_ := Aside0.mk (blk_below (g := gb143) (o := .cells #[.int .i64 0, .int .i64 0, .int .i64 0, .int .i64 0] 36 (0, 0)) (by (with_reducible repeat (first | refine blk_drewN ?_ _ | refine blk_drew ?_ | refine blk_alloc ?_ _)); exact BK143.out) hb); have n2_ := Aside0.mk (blk_below (g := gb149) (o := .cells #[.int .i64 t144, .int .i64 t145, .int .i64 t146, .int .i64 t147] 36 (0, 0)) (by (with_reducible repeat (first | refine blk_drewN ?_ _ | refine blk_drew ?_ | refine blk_alloc ?_ _)); exact BK149.out) hb); have n3_ := Aside0.mk (below_step (by repeat (first | (with_reducible first | exact HB.out | apply below_alloc | apply pw_below_drewN | apply below_drew1 | refine below_set ?_ GE143.out | refine below_set ?_ GE149.out) | exact HB.out)) hb); have n4_ := Aside0.mk (hbox); have n5_ := Aside0.mk ((by rw [hg]; exact (below_size (by repeat (first | (with_reducible first | exact HB.out | apply below_alloc | apply pw_below_drewN | apply below_drew1 | refine below_set ?_ GE143.out | refine below_set ?_ GE149.out) | exact HB.out))) : w.heap.size ≤ gb151)); have n6_ := Aside0.mk ((by rw [hg]; exact (below_size (by repeat (first | (with_reducible first | exact HB.out | apply below_alloc | apply pw_below_drewN | apply below_drew1 | refine below_set ?_ GE143.out | refine below_set ?_ GE149.out) | exact HB.out))) : w.heap.size ≤ gb151)); have n7_ := Aside0.mk ((by rw [hg]; exact Nat.ne_of_lt (blk_lt (g := gb143) (o := .cells #[.int .i64 0, .int .i64 0, .int .i64 0, .int .i64 0] 36 (0, 0)) (by (with_reducible repeat (first | refine blk_drewN ?_ _ | refine blk_drew ?_ | refine blk_alloc ?_ _)); exact BK143.out)) : gb143 ≠ gb151)); have n8_ := Aside0.mk ((by rw [hg]; exact Nat.ne_of_gt (blk_lt (g := gb143) (o := .cells #[.int .i64 0, .int .i64 0, .int .i64 0, .int .i64 0] 36 (0, 0)) (by (with_reducible repeat (first | refine blk_drewN ?_ _ | refine blk_drew ?_ | refine blk_alloc ?_ _)); exact BK143.out)) : gb151 ≠ gb143)); have n9_ := Aside0.mk ((by rw [hg]; exact Nat.ne_of_lt (blk_lt (g := gb149) (o := .cells #[.int .i64 t144, .int .i64 t145, .int .i64 t146, .int .i64 t147] 36 (0, 0)) (by (with_reducible repeat (first | refine blk_drewN ?_ _ | refine blk_drew ?_ | refine blk_alloc ?_ _)); exact BK149.out)) : gb149 ≠ gb151)); have n10_ := Aside0.mk ((by rw [hg]; exact Nat.ne_of_gt (blk_lt (g := gb149) (o := .cells #[.int .i64 t144, .int .i64 t145, .int .i64 t146, .int .i64 t147] 36 (0, 0)) (by (with_reducible repeat (first | refine blk_drewN ?_ _ | refine blk_drew ?_ | refine blk_alloc ?_ _)); exact BK149.out)) : gb151 ≠ gb149)); clear HO_9; clear BK143; clear BK149; clear HB; have HO_9 := n0_; have BK143 := n1_; have BK149 := n2_; have HB := n3_; have BK151 := n4_; have GW151 := n5_; have GE151 := n6_; have NB143_151 := n7_; have NB151_143 := n8_; have NB149_151 := n9_; have NB151_149 := n10_; clear n0_ n1_ n2_ n3_ n4_ n5_ n6_ n7_ n8_ n9_ n10_; clear hb hbox hg; have hnb37 := NB151_143.out; have hnc37 := NB143_151.out; have hnb38 := NB151_149.out; have hnc38 := NB149_151.out; have hcz39_0 : w36.cell? ⟨gb151, 0, none⟩ = some (.int .i64 0) := (blk_cell BK151.out 0).trans rfl; have hcz39_1 : w36.cell? ⟨gb151, 1, none⟩ = some (.int .i64 0) := (blk_cell BK151.out 1).trans rfl; have hcz39_2 : w36.cell? ⟨gb151, 2, none⟩ = some (.int .i64 0) := (blk_cell BK151.out 2).trans rfl; have hcz39_3 : w36.cell? ⟨gb151, 3, none⟩ = some (.int .i64 0) := (blk_cell BK151.out 3).trans rfl; have hcz39_4 : w36.cell? ⟨gb151, 4, none⟩ = some (.int .i64 0) := (blk_cell BK151.out 4).trans rfl; have hcz39_5 : w36.cell? ⟨gb151, 5, none⟩ = some (.int .i64 0) := (blk_cell BK151.out 5).trans rfl; have hcz39_6 : w36.cell? ⟨gb151, 6, none⟩ = some (.bool false) := (blk_cell BK151.out 6).trans rfl; have hfz39_0 := blk_frozen BK151.out 0; have hfz39_1 := blk_frozen BK151.out 1; have hfz39_2 := blk_frozen BK151.out 2; have hfz39_3 := blk_frozen BK151.out 3; have hfz39_4 := blk_frozen BK151.out 4; have hfz39_5 := blk_frozen BK151.out 5; have hfz39_6 := blk_frozen BK151.out 6))
                    have n0_ : Aside0 (Kd.R (Kd.int .i64) 3 (((((((w36.setCell ⟨gb151, 0, none⟩ (.int .i64 ((rd_T80 l1 x20_1).f0.f0))).setCell ⟨gb151, 1, none⟩ (.int .i64 ((rd_T80 l1 x20_1).f0.f1))).setCell ⟨gb151, 2, none⟩ (.int .i64 ((rd_T80 l1 x20_1).f0.f2))).setCell ⟨gb151, 3, none⟩ (.int .i64 ((rd_T80 l1 x20_1).f0.f3))).setCell ⟨gb151, 4, none⟩ (.int .i64 ((rd_T80 l1 x20_1).f1))).setCell ⟨gb151, 5, none⟩ (.int .i64 ((rd_T80 l1 x20_1).f2))).setCell ⟨gb151, 6, none⟩ (.bool ((rd_T80 l1 x20_1).f3))) w.heap.size (fun _ => True) u9 x9_1) := ⟨by (with_reducible repeat (first | apply Kd.R_alloc | apply Kd.R_drewN | apply Kd.R_drew)); exact Kd.R_mono (Kd.R_far (p := ⟨gb151, 6, none⟩) (Kd.R_far (p := ⟨gb151, 5, none⟩) (Kd.R_far (p := ⟨gb151, 4, none⟩) (Kd.R_far (p := ⟨gb151, 3, none⟩) (Kd.R_far (p := ⟨gb151, 2, none⟩) (Kd.R_far (p := ⟨gb151, 1, none⟩) (Kd.R_far (p := ⟨gb151, 0, none⟩) (Kd.R_types HO_9.out BK151.out (by decide)) (fun _ hk => hk.2) (.int .i64 ((rd_T80 l1 x20_1).f0.f0))) (fun _ hk => hk.2) (.int .i64 ((rd_T80 l1 x20_1).f0.f1))) (fun _ hk => hk.2) (.int .i64 ((rd_T80 l1 x20_1).f0.f2))) (fun _ hk => hk.2) (.int .i64 ((rd_T80 l1 x20_1).f0.f3))) (fun _ hk => hk.2) (.int .i64 ((rd_T80 l1 x20_1).f1))) (fun _ hk => hk.2) (.int .i64 ((rd_T80 l1 x20_1).f2))) (fun _ hk => hk.2) (.bool ((rd_T80 l1 x20_1).f3))) (fun _ hk => trivial)⟩
                    have n1_ : Aside0 ((((((((w36.setCell ⟨gb151, 0, none⟩ (.int .i64 ((rd_T80 l1 x20_1).f0.f0))).setCell ⟨gb151, 1, none⟩ (.int .i64 ((rd_T80 l1 x20_1).f0.f1))).setCell ⟨gb151, 2, none⟩ (.int .i64 ((rd_T80 l1 x20_1).f0.f2))).setCell ⟨gb151, 3, none⟩ (.int .i64 ((rd_T80 l1 x20_1).f0.f3))).setCell ⟨gb151, 4, none⟩ (.int .i64 ((rd_T80 l1 x20_1).f1))).setCell ⟨gb151, 5, none⟩ (.int .i64 ((rd_T80 l1 x20_1).f2))).setCell ⟨gb151, 6, none⟩ (.bool ((rd_T80 l1 x20_1).f3))).heap[gb143]? = some (.cells #[.int .i64 0, .int .i64 0, .int .i64 0, .int .i64 0] 36 (0, 0))) := ⟨by (with_reducible repeat (first | refine blk_drewN ?_ _ | refine blk_drew ?_ | refine blk_alloc ?_ _)); refine blk_far ?_ NB143_151.out _; (with_reducible repeat (first | refine blk_drewN ?_ _ | refine blk_drew ?_ | refine blk_alloc ?_ _)); refine blk_far ?_ NB143_151.out _; (with_reducible repeat (first | refine blk_drewN ?_ _ | refine blk_drew ?_ | refine blk_alloc ?_ _)); refine blk_far ?_ NB143_151.out _; (with_reducible repeat (first | refine blk_drewN ?_ _ | refine blk_drew ?_ | refine blk_alloc ?_ _)); refine blk_far ?_ NB143_151.out _; (with_reducible repeat (first | refine blk_drewN ?_ _ | refine blk_drew ?_ | refine blk_alloc ?_ _)); refine blk_far ?_ NB143_151.out _; (with_reducible repeat (first | refine blk_drewN ?_ _ | refine blk_drew ?_ | refine blk_alloc ?_ _)); refine blk_far ?_ NB143_151.out _; (with_reducible repeat (first | refine blk_drewN ?_ _ | refine blk_drew ?_ | refine blk_alloc ?_ _)); refine blk_far ?_ NB143_151.out _; (with_reducible repeat (first | refine blk_drewN ?_ _ | refine blk_drew ?_ | refine blk_alloc ?_ _)); exact BK143.out⟩
                    have n2_ : Aside0 ((((((((w36.setCell ⟨gb151, 0, none⟩ (.int .i64 ((rd_T80 l1 x20_1).f0.f0))).setCell ⟨gb151, 1, none⟩ (.int .i64 ((rd_T80 l1 x20_1).f0.f1))).setCell ⟨gb151, 2, none⟩ (.int .i64 ((rd_T80 l1 x20_1).f0.f2))).setCell ⟨gb151, 3, none⟩ (.int .i64 ((rd_T80 l1 x20_1).f0.f3))).setCell ⟨gb151, 4, none⟩ (.int .i64 ((rd_T80 l1 x20_1).f1))).setCell ⟨gb151, 5, none⟩ (.int .i64 ((rd_T80 l1 x20_1).f2))).setCell ⟨gb151, 6, none⟩ (.bool ((rd_T80 l1 x20_1).f3))).heap[gb149]? = some (.cells #[.int .i64 t144, .int .i64 t145, .int .i64 t146, .int .i64 t147] 36 (0, 0))) := ⟨by (with_reducible repeat (first | refine blk_drewN ?_ _ | refine blk_drew ?_ | refine blk_alloc ?_ _)); refine blk_far ?_ NB149_151.out _; (with_reducible repeat (first | refine blk_drewN ?_ _ | refine blk_drew ?_ | refine blk_alloc ?_ _)); refine blk_far ?_ NB149_151.out _; (with_reducible repeat (first | refine blk_drewN ?_ _ | refine blk_drew ?_ | refine blk_alloc ?_ _)); refine blk_far ?_ NB149_151.out _; (with_reducible repeat (first | refine blk_drewN ?_ _ | refine blk_drew ?_ | refine blk_alloc ?_ _)); refine blk_far ?_ NB149_151.out _; (with_reducible repeat (first | refine blk_drewN ?_ _ | refine blk_drew ?_ | refine blk_alloc ?_ _)); refine blk_far ?_ NB149_151.out _; (with_reducible repeat (first | refine blk_drewN ?_ _ | refine blk_drew ?_ | refine blk_alloc ?_ _)); refine blk_far ?_ NB149_151.out _; (with_reducible repeat (first | refine blk_drewN ?_ _ | refine blk_drew ?_ | refine blk_alloc ?_ _)); refine blk_far ?_ NB149_151.out _; (with_reducible repeat (first | refine blk_drewN ?_ _ | refine blk_drew ?_ | refine blk_alloc ?_ _)); exact BK149.out⟩
                    have n3_ : Aside0 ((((((((w36.setCell ⟨gb151, 0, none⟩ (.int .i64 ((rd_T80 l1 x20_1).f0.f0))).setCell ⟨gb151, 1, none⟩ (.int .i64 ((rd_T80 l1 x20_1).f0.f1))).setCell ⟨gb151, 2, none⟩ (.int .i64 ((rd_T80 l1 x20_1).f0.f2))).setCell ⟨gb151, 3, none⟩ (.int .i64 ((rd_T80 l1 x20_1).f0.f3))).setCell ⟨gb151, 4, none⟩ (.int .i64 ((rd_T80 l1 x20_1).f1))).setCell ⟨gb151, 5, none⟩ (.int .i64 ((rd_T80 l1 x20_1).f2))).setCell ⟨gb151, 6, none⟩ (.bool ((rd_T80 l1 x20_1).f3))).heap[gb151]? = some (.cells #[.int .i64 ((rd_T80 l1 x20_1).f0.f0), .int .i64 ((rd_T80 l1 x20_1).f0.f1), .int .i64 ((rd_T80 l1 x20_1).f0.f2), .int .i64 ((rd_T80 l1 x20_1).f0.f3), .int .i64 ((rd_T80 l1 x20_1).f1), .int .i64 ((rd_T80 l1 x20_1).f2), .bool ((rd_T80 l1 x20_1).f3)] 80 (0, 0))) := ⟨by (with_reducible repeat (first | refine blk_drewN ?_ _ | refine blk_drew ?_ | refine blk_alloc ?_ _)); refine blk_put (cs := #[.int .i64 ((rd_T80 l1 x20_1).f0.f0), .int .i64 ((rd_T80 l1 x20_1).f0.f1), .int .i64 ((rd_T80 l1 x20_1).f0.f2), .int .i64 ((rd_T80 l1 x20_1).f0.f3), .int .i64 ((rd_T80 l1 x20_1).f1), .int .i64 ((rd_T80 l1 x20_1).f2), .bool false]) ?_ 6 _ rfl; (with_reducible repeat (first | refine blk_drewN ?_ _ | refine blk_drew ?_ | refine blk_alloc ?_ _)); refine blk_put (cs := #[.int .i64 ((rd_T80 l1 x20_1).f0.f0), .int .i64 ((rd_T80 l1 x20_1).f0.f1), .int .i64 ((rd_T80 l1 x20_1).f0.f2), .int .i64 ((rd_T80 l1 x20_1).f0.f3), .int .i64 ((rd_T80 l1 x20_1).f1), .int .i64 0, .bool false]) ?_ 5 _ rfl; (with_reducible repeat (first | refine blk_drewN ?_ _ | refine blk_drew ?_ | refine blk_alloc ?_ _)); refine blk_put (cs := #[.int .i64 ((rd_T80 l1 x20_1).f0.f0), .int .i64 ((rd_T80 l1 x20_1).f0.f1), .int .i64 ((rd_T80 l1 x20_1).f0.f2), .int .i64 ((rd_T80 l1 x20_1).f0.f3), .int .i64 0, .int .i64 0, .bool false]) ?_ 4 _ rfl; (with_reducible repeat (first | refine blk_drewN ?_ _ | refine blk_drew ?_ | refine blk_alloc ?_ _)); refine blk_put (cs := #[.int .i64 ((rd_T80 l1 x20_1).f0.f0), .int .i64 ((rd_T80 l1 x20_1).f0.f1), .int .i64 ((rd_T80 l1 x20_1).f0.f2), .int .i64 0, .int .i64 0, .int .i64 0, .bool false]) ?_ 3 _ rfl; (with_reducible repeat (first | refine blk_drewN ?_ _ | refine blk_drew ?_ | refine blk_alloc ?_ _)); refine blk_put (cs := #[.int .i64 ((rd_T80 l1 x20_1).f0.f0), .int .i64 ((rd_T80 l1 x20_1).f0.f1), .int .i64 0, .int .i64 0, .int .i64 0, .int .i64 0, .bool false]) ?_ 2 _ rfl; (with_reducible repeat (first | refine blk_drewN ?_ _ | refine blk_drew ?_ | refine blk_alloc ?_ _)); refine blk_put (cs := #[.int .i64 ((rd_T80 l1 x20_1).f0.f0), .int .i64 0, .int .i64 0, .int .i64 0, .int .i64 0, .int .i64 0, .bool false]) ?_ 1 _ rfl; (with_reducible repeat (first | refine blk_drewN ?_ _ | refine blk_drew ?_ | refine blk_alloc ?_ _)); refine blk_put (cs := #[.int .i64 0, .int .i64 0, .int .i64 0, .int .i64 0, .int .i64 0, .int .i64 0, .bool false]) ?_ 0 _ rfl; (with_reducible repeat (first | refine blk_drewN ?_ _ | refine blk_drew ?_ | refine blk_alloc ?_ _)); exact BK151.out⟩
                    have n4_ : Aside0 (Below w.heap.size w (((((((w36.setCell ⟨gb151, 0, none⟩ (.int .i64 ((rd_T80 l1 x20_1).f0.f0))).setCell ⟨gb151, 1, none⟩ (.int .i64 ((rd_T80 l1 x20_1).f0.f1))).setCell ⟨gb151, 2, none⟩ (.int .i64 ((rd_T80 l1 x20_1).f0.f2))).setCell ⟨gb151, 3, none⟩ (.int .i64 ((rd_T80 l1 x20_1).f0.f3))).setCell ⟨gb151, 4, none⟩ (.int .i64 ((rd_T80 l1 x20_1).f1))).setCell ⟨gb151, 5, none⟩ (.int .i64 ((rd_T80 l1 x20_1).f2))).setCell ⟨gb151, 6, none⟩ (.bool ((rd_T80 l1 x20_1).f3)))) := ⟨by repeat (first | (with_reducible first | exact HB.out | apply below_alloc | apply pw_below_drewN | apply below_drew1 | refine below_set ?_ GE143.out | refine below_set ?_ GE149.out | refine below_set ?_ GE151.out) | exact HB.out)⟩
                    (try clear HO_9)
                    (try clear BK143)
                    (try clear BK149)
                    (try clear BK151)
                    (try clear HB)
                    generalize (((((((w36.setCell ⟨gb151, 0, none⟩ (.int .i64 ((rd_T80 l1 x20_1).f0.f0))).setCell ⟨gb151, 1, none⟩ (.int .i64 ((rd_T80 l1 x20_1).f0.f1))).setCell ⟨gb151, 2, none⟩ (.int .i64 ((rd_T80 l1 x20_1).f0.f2))).setCell ⟨gb151, 3, none⟩ (.int .i64 ((rd_T80 l1 x20_1).f0.f3))).setCell ⟨gb151, 4, none⟩ (.int .i64 ((rd_T80 l1 x20_1).f1))).setCell ⟨gb151, 5, none⟩ (.int .i64 ((rd_T80 l1 x20_1).f2))).setCell ⟨gb151, 6, none⟩ (.bool ((rd_T80 l1 x20_1).f3))) = w40 at n0_ n1_ n2_ n3_ n4_ ⊢
                    have HO_9 := n0_
                    have BK143 := n1_
                    have BK149 := n2_
                    have BK151 := n3_
                    have HB := n4_
                    clear n0_ n1_ n2_ n3_ n4_
                    have n0_ := Aside0.mk (Kd.R_drew HO_9.out)
                    have n1_ := Aside0.mk (blk_drew BK143.out)
                    have n2_ := Aside0.mk (blk_drew BK149.out)
                    have n3_ := Aside0.mk (blk_drew BK151.out)
                    have n4_ := Aside0.mk (below_drew1 HB.out)
                    clear HO_9
                    clear BK143
                    clear BK149
                    clear BK151
                    clear HB
                    have HO_9 := n0_
                    have BK143 := n1_
                    have BK149 := n2_
                    have BK151 := n3_
                    have HB := n4_
                    clear n0_ n1_ n2_ n3_ n4_
                    refine start_ (n := 14) (S := fun w' => w'.cell? ⟨gb151, 0, none⟩ = some (.int .i64 ((rd_T80 l1 x20_1).f0.f0)) ∧ w'.cell? ⟨gb151, 1, none⟩ = some (.int .i64 ((rd_T80 l1 x20_1).f0.f1)) ∧ w'.cell? ⟨gb151, 2, none⟩ = some (.int .i64 ((rd_T80 l1 x20_1).f0.f2)) ∧ w'.cell? ⟨gb151, 3, none⟩ = some (.int .i64 ((rd_T80 l1 x20_1).f0.f3)) ∧ w'.cell? ⟨gb151, 4, none⟩ = some (.int .i64 ((rd_T80 l1 x20_1).f1)) ∧ w'.cell? ⟨gb151, 5, none⟩ = some (.int .i64 ((rd_T80 l1 x20_1).f2)) ∧ w'.cell? ⟨gb151, 6, none⟩ = some (.bool ((rd_T80 l1 x20_1).f3)) ∧ w'.cell? ⟨gb149, 0, none⟩ = some (.int .i64 t144) ∧ w'.cell? ⟨gb149, 1, none⟩ = some (.int .i64 t145) ∧ w'.cell? ⟨gb149, 2, none⟩ = some (.int .i64 t146) ∧ w'.cell? ⟨gb149, 3, none⟩ = some (.int .i64 t147)) (ds := []) #[false, false, false, false, false, false, false, false, false, false, false, false, false, false] (by kernel_rfl) rfl rfl ⟨(blk_cell BK151.out 0).trans rfl, (blk_cell BK151.out 1).trans rfl, (blk_cell BK151.out 2).trans rfl, (blk_cell BK151.out 3).trans rfl, (blk_cell BK151.out 4).trans rfl, (blk_cell BK151.out 5).trans rfl, (blk_cell BK151.out 6).trans rfl, (blk_cell BK149.out 0).trans rfl, (blk_cell BK149.out 1).trans rfl, (blk_cell BK149.out 2).trans rfl, (blk_cell BK149.out 3).trans rfl⟩ (fun hHeld => ?_); refine with_tabW prio_Roles.tab9 prio_Roles.bits9 (fun HT_ HW_ => ?_)
                    generalize w40.drew = w41 at HO_9 BK143 BK149 BK151 HB hHeld ⊢
                    refine pure_ (i := 1) (N := some 37) (v := ?_) (a' := ?_) #[false, true, false, false, false, false, false, false, false, false, false, false, false, false] rfl rfl (any_of HT_.out (by kernel_rfl)) (fun _ _ _ h => h) (Or.inl ⟨by rfl, ?_⟩) ?_ ?_
                    rotate_left
                    · intro w'
                      go_simp
                      with_reducible rfl
                    rotate_left
                    · simp only [Act.put, List.setIfInBounds_toArray, List.set_cons_zero, List.set_cons_succ, i64_w, i32_w]
                      rfl
                    refine take_ (i := 0) (N := some 36) (v := ?_) (a' := ?_) #[true, true, false, false, false, false, false, false, false, false, false, false, false, false] rfl rfl (take_ofW HT_.out HW_.out (by kernel_rfl)) (fun _ _ _ h => h) (Or.inl ⟨by rfl, ?_⟩) hHeld ?_ ?_
                    rotate_left
                    · rintro w' ⟨s0, s1, s2, s3, s4, s5, s6, s7, s8, s9, s10⟩
                      go_simp
                      with_reducible rfl
                    rotate_left
                    · simp only [Act.put, List.setIfInBounds_toArray, List.set_cons_zero, List.set_cons_succ, i64_w, i32_w]
                      rfl
                    refine one_ (i := 2) (N := some 38) #[true, true, true, false, false, false, false, false, false, false, false, false, false, false] rfl rfl (one_of HT_.out (by kernel_rfl)) (by decide) (fun K hK => ?_)
                    refine goes_ Tryd.func60 (by kernel_rfl) rfl #[.agg #[.int .i64 ((rd_T80 l1 x20_1).f0.f0), .int .i64 ((rd_T80 l1 x20_1).f0.f1), .int .i64 ((rd_T80 l1 x20_1).f0.f2), .int .i64 ((rd_T80 l1 x20_1).f0.f3), .int .i64 ((rd_T80 l1 x20_1).f1), .int .i64 ((rd_T80 l1 x20_1).f2), .bool ((rd_T80 l1 x20_1).f3)], .int .i64 a0] (by rfl) rfl rfl (by (try simp only [List.map_toArray, List.map_cons, List.map_nil]); first | done | rfl | (simp only [List.length_drop, List.length_take]; rfl)) ?_
                    with_reducible refine (prio_takes.calls ((rd_T80 l1 x20_1).f0.f0) ((rd_T80 l1 x20_1).f0.f1) ((rd_T80 l1 x20_1).f0.f2) ((rd_T80 l1 x20_1).f0.f3) ((rd_T80 l1 x20_1).f1) ((rd_T80 l1 x20_1).f2) ((rd_T80 l1 x20_1).f3) a0 true _ A19.out).mono ?_
                    rintro e w42 ⟨rfl, hb⟩
                    refine ⟨_, rfl, ?_⟩
                    have n0_ := Aside0.mk (Kd.R_below (by (with_reducible repeat (first | apply Kd.R_alloc | apply Kd.R_drewN | apply Kd.R_drew)); exact HO_9.out) hb)
                    have n1_ := Aside0.mk (blk_below (g := gb143) (o := .cells #[.int .i64 0, .int .i64 0, .int .i64 0, .int .i64 0] 36 (0, 0)) (by (with_reducible repeat (first | refine blk_drewN ?_ _ | refine blk_drew ?_ | refine blk_alloc ?_ _)); exact BK143.out) hb)
                    have n2_ := Aside0.mk (blk_below (g := gb149) (o := .cells #[.int .i64 t144, .int .i64 t145, .int .i64 t146, .int .i64 t147] 36 (0, 0)) (by (with_reducible repeat (first | refine blk_drewN ?_ _ | refine blk_drew ?_ | refine blk_alloc ?_ _)); exact BK149.out) hb)
                    have n3_ := Aside0.mk (blk_below (g := gb151) (o := .cells #[.int .i64 ((rd_T80 l1 x20_1).f0.f0), .int .i64 ((rd_T80 l1 x20_1).f0.f1), .int .i64 ((rd_T80 l1 x20_1).f0.f2), .int .i64 ((rd_T80 l1 x20_1).f0.f3), .int .i64 ((rd_T80 l1 x20_1).f1), .int .i64 ((rd_T80 l1 x20_1).f2), .bool ((rd_T80 l1 x20_1).f3)] 80 (0, 0)) (by (with_reducible repeat (first | refine blk_drewN ?_ _ | refine blk_drew ?_ | refine blk_alloc ?_ _)); exact BK151.out) hb)
                    have n4_ := Aside0.mk (below_step (by repeat (first | (with_reducible first | exact HB.out | apply below_alloc | apply pw_below_drewN | apply below_drew1 | refine below_set ?_ GE143.out | refine below_set ?_ GE149.out | refine below_set ?_ GE151.out) | exact HB.out)) hb)
                    clear HO_9
                    clear BK143
                    clear BK149
                    clear BK151
                    clear HB
                    have HO_9 := n0_
                    have BK143 := n1_
                    have BK149 := n2_
                    have BK151 := n3_
                    have HB := n4_
                    clear n0_ n1_ n2_ n3_ n4_
                    (try clear hb)
                    (try clear hb2)
                    (try clear hk)
                    (try clear hi)
                    refine hK.out _ _ ⟨(blk_cell BK151.out 0).trans rfl, (blk_cell BK151.out 1).trans rfl, (blk_cell BK151.out 2).trans rfl, (blk_cell BK151.out 3).trans rfl, (blk_cell BK151.out 4).trans rfl, (blk_cell BK151.out 5).trans rfl, (blk_cell BK151.out 6).trans rfl, (blk_cell BK149.out 0).trans rfl, (blk_cell BK149.out 1).trans rfl, (blk_cell BK149.out 2).trans rfl, (blk_cell BK149.out 3).trans rfl⟩ (fun hHeld => ?_)
                    clear hK K
                    refine norm_ (a' := ?_) ?_ ?_
                    rotate_left
                    · show Act.put _ (some 38) _ = _
                      simp only [Act.put, List.setIfInBounds_toArray, List.set_cons_zero, List.set_cons_succ, i64_w, i32_w]
                      rfl
                    refine pure_ (i := 3) (N := some 39) (v := ?_) (a' := ?_) #[true, true, true, true, false, false, false, false, false, false, false, false, false, false] rfl rfl (any_of HT_.out (by kernel_rfl)) (fun _ _ _ h => h) (Or.inl ⟨by rfl, ?_⟩) ?_ ?_
                    rotate_left
                    · intro w'
                      go_simp
                      with_reducible rfl
                    rotate_left
                    · simp only [Act.put, List.setIfInBounds_toArray, List.set_cons_zero, List.set_cons_succ, i64_w, i32_w]
                      rfl
                    refine pure_ (i := 4) (N := some 40) (v := ?_) (a' := ?_) #[true, true, true, true, true, false, false, false, false, false, false, false, false, false] rfl rfl (any_of HT_.out (by kernel_rfl)) (fun _ _ _ h => h) (Or.inl ⟨by rfl, ?_⟩) ?_ ?_
                    rotate_left
                    · intro w'
                      go_simp
                      with_reducible rfl
                    rotate_left
                    · simp only [Act.put, List.setIfInBounds_toArray, List.set_cons_zero, List.set_cons_succ, i64_w, i32_w]
                      rfl
                    refine pure_ (i := 6) (N := some 42) (v := ?_) (a' := ?_) #[true, true, true, true, true, false, true, false, false, false, false, false, false, false] rfl rfl (any_of HT_.out (by kernel_rfl)) (fun _ _ _ h => h) (Or.inl ⟨by rfl, ?_⟩) ?_ ?_
                    rotate_left
                    · intro w'
                      go_simp
                      with_reducible rfl
                    rotate_left
                    · simp only [Act.put, List.setIfInBounds_toArray, List.set_cons_zero, List.set_cons_succ, i64_w, i32_w]
                      rfl
                    refine pure_ (i := 7) (N := some 43) (v := ?_) (a' := ?_) #[true, true, true, true, true, false, true, true, false, false, false, false, false, false] rfl rfl (any_of HT_.out (by kernel_rfl)) (fun _ _ _ h => h) (Or.inl ⟨by rfl, ?_⟩) ?_ ?_
                    rotate_left
                    · intro w'
                      go_simp
                      with_reducible rfl
                    rotate_left
                    · simp only [Act.put, List.setIfInBounds_toArray, List.set_cons_zero, List.set_cons_succ, i64_w, i32_w]
                      rfl
                    refine pure_ (i := 9) (N := some 45) (v := ?_) (a' := ?_) #[true, true, true, true, true, false, true, true, false, true, false, false, false, false] rfl rfl (any_of HT_.out (by kernel_rfl)) (fun _ _ _ h => h) (Or.inl ⟨by rfl, ?_⟩) ?_ ?_
                    rotate_left
                    · intro w'
                      go_simp
                      with_reducible rfl
                    rotate_left
                    · simp only [Act.put, List.setIfInBounds_toArray, List.set_cons_zero, List.set_cons_succ, i64_w, i32_w]
                      rfl
                    refine take_ (i := 5) (N := some 41) (v := ?_) (a' := ?_) #[true, true, true, true, true, true, true, true, false, true, false, false, false, false] rfl rfl (take_ofW HT_.out HW_.out (by kernel_rfl)) (fun _ _ _ h => h) (Or.inl ⟨by rfl, ?_⟩) hHeld ?_ ?_
                    rotate_left
                    · rintro w' ⟨s0, s1, s2, s3, s4, s5, s6, s7, s8, s9, s10⟩
                      go_simp
                      with_reducible rfl
                    rotate_left
                    · simp only [Act.put, List.setIfInBounds_toArray, List.set_cons_zero, List.set_cons_succ, i64_w, i32_w]
                      rfl
                    refine take_ (i := 10) (N := some 46) (v := ?_) (a' := ?_) #[true, true, true, true, true, true, true, true, false, true, true, false, false, false] rfl rfl (take_ofW HT_.out HW_.out (by kernel_rfl)) (fun _ _ _ h => h) (Or.inl ⟨by rfl, ?_⟩) hHeld ?_ ?_
                    rotate_left
                    · rintro w' ⟨s0, s1, s2, s3, s4, s5, s6, s7, s8, s9, s10⟩
                      go_simp
                      with_reducible rfl
                    rotate_left
                    · simp only [Act.put, List.setIfInBounds_toArray, List.set_cons_zero, List.set_cons_succ, i64_w, i32_w]
                      rfl
                    refine one_ (i := 8) (N := some 44) #[true, true, true, true, true, true, true, true, true, true, true, false, false, false] rfl rfl (one_of HT_.out (by kernel_rfl)) (by decide) (fun K hK => ?_)
                    refine goes_ Tryd.func40 (by kernel_rfl) rfl #[.agg #[.int .i64 t144, .int .i64 t145, .int .i64 t146, .int .i64 t147], .int .i64 a0, .int .i64 x20_1] (by rfl) rfl rfl (by (try simp only [List.map_toArray, List.map_cons, List.map_nil]); first | done | rfl | (simp only [List.length_drop, List.length_take]; rfl)) ?_
                    with_reducible refine (prio_Offer.calls t144 t145 t146 t147 a0 x20_1 t156 t157 t158 t159 _ A21.out).mono ?_
                    rintro e w43 ⟨rfl, hb⟩
                    refine ⟨_, rfl, ?_⟩
                    have n0_ := Aside0.mk (Kd.R_below (by (with_reducible repeat (first | apply Kd.R_alloc | apply Kd.R_drewN | apply Kd.R_drew)); exact HO_9.out) hb)
                    have n1_ := Aside0.mk (blk_below (g := gb143) (o := .cells #[.int .i64 0, .int .i64 0, .int .i64 0, .int .i64 0] 36 (0, 0)) (by (with_reducible repeat (first | refine blk_drewN ?_ _ | refine blk_drew ?_ | refine blk_alloc ?_ _)); exact BK143.out) hb)
                    have n2_ := Aside0.mk (blk_below (g := gb149) (o := .cells #[.int .i64 t144, .int .i64 t145, .int .i64 t146, .int .i64 t147] 36 (0, 0)) (by (with_reducible repeat (first | refine blk_drewN ?_ _ | refine blk_drew ?_ | refine blk_alloc ?_ _)); exact BK149.out) hb)
                    have n3_ := Aside0.mk (blk_below (g := gb151) (o := .cells #[.int .i64 ((rd_T80 l1 x20_1).f0.f0), .int .i64 ((rd_T80 l1 x20_1).f0.f1), .int .i64 ((rd_T80 l1 x20_1).f0.f2), .int .i64 ((rd_T80 l1 x20_1).f0.f3), .int .i64 ((rd_T80 l1 x20_1).f1), .int .i64 ((rd_T80 l1 x20_1).f2), .bool ((rd_T80 l1 x20_1).f3)] 80 (0, 0)) (by (with_reducible repeat (first | refine blk_drewN ?_ _ | refine blk_drew ?_ | refine blk_alloc ?_ _)); exact BK151.out) hb)
                    have n4_ := Aside0.mk (below_step (by repeat (first | (with_reducible first | exact HB.out | apply below_alloc | apply pw_below_drewN | apply below_drew1 | refine below_set ?_ GE143.out | refine below_set ?_ GE149.out | refine below_set ?_ GE151.out) | exact HB.out)) hb)
                    clear HO_9
                    clear BK143
                    clear BK149
                    clear BK151
                    clear HB
                    have HO_9 := n0_
                    have BK143 := n1_
                    have BK149 := n2_
                    have BK151 := n3_
                    have HB := n4_
                    clear n0_ n1_ n2_ n3_ n4_
                    (try clear hb)
                    (try clear hb2)
                    (try clear hk)
                    (try clear hi)
                    refine hK.out _ _ ⟨(blk_cell BK151.out 0).trans rfl, (blk_cell BK151.out 1).trans rfl, (blk_cell BK151.out 2).trans rfl, (blk_cell BK151.out 3).trans rfl, (blk_cell BK151.out 4).trans rfl, (blk_cell BK151.out 5).trans rfl, (blk_cell BK151.out 6).trans rfl, (blk_cell BK149.out 0).trans rfl, (blk_cell BK149.out 1).trans rfl, (blk_cell BK149.out 2).trans rfl, (blk_cell BK149.out 3).trans rfl⟩ (fun hHeld => ?_)
                    clear hK K
                    refine norm_ (a' := ?_) ?_ ?_
                    rotate_left
                    · show Act.put _ (some 44) _ = _
                      simp only [Act.put, List.setIfInBounds_toArray, List.set_cons_zero, List.set_cons_succ, i64_w, i32_w]
                      rfl
                    refine one_ (i := 11) (N := some 47) #[true, true, true, true, true, true, true, true, true, true, true, true, false, false] rfl rfl (one_of HT_.out (by kernel_rfl)) (by decide) (fun K hK => ?_)
                    refine goes_ Tryd.func61 (by kernel_rfl) rfl #[.agg #[.int .i64 t156, .int .i64 t157, .int .i64 t158, .int .i64 t159], .agg #[.int .i64 ((rd_T80 l1 x20_1).f0.f0), .int .i64 ((rd_T80 l1 x20_1).f0.f1), .int .i64 ((rd_T80 l1 x20_1).f0.f2), .int .i64 ((rd_T80 l1 x20_1).f0.f3)]] (by rfl) rfl rfl (by (try simp only [List.map_toArray, List.map_cons, List.map_nil]); first | done | rfl | (simp only [List.length_drop, List.length_take]; rfl)) ?_
                    with_reducible refine (prio_Better.calls k1 t156 t157 t158 t159 ((rd_T80 l1 x20_1).f0.f0) ((rd_T80 l1 x20_1).f0.f1) ((rd_T80 l1 x20_1).f0.f2) ((rd_T80 l1 x20_1).f0.f3) false _ A22.out).mono ?_
                    rintro e w44 ⟨rfl, hb⟩
                    refine ⟨_, rfl, ?_⟩
                    have n0_ := Aside0.mk (Kd.R_below (by (with_reducible repeat (first | apply Kd.R_alloc | apply Kd.R_drewN | apply Kd.R_drew)); exact HO_9.out) hb)
                    have n1_ := Aside0.mk (blk_below (g := gb143) (o := .cells #[.int .i64 0, .int .i64 0, .int .i64 0, .int .i64 0] 36 (0, 0)) (by (with_reducible repeat (first | refine blk_drewN ?_ _ | refine blk_drew ?_ | refine blk_alloc ?_ _)); exact BK143.out) hb)
                    have n2_ := Aside0.mk (blk_below (g := gb149) (o := .cells #[.int .i64 t144, .int .i64 t145, .int .i64 t146, .int .i64 t147] 36 (0, 0)) (by (with_reducible repeat (first | refine blk_drewN ?_ _ | refine blk_drew ?_ | refine blk_alloc ?_ _)); exact BK149.out) hb)
                    have n3_ := Aside0.mk (blk_below (g := gb151) (o := .cells #[.int .i64 ((rd_T80 l1 x20_1).f0.f0), .int .i64 ((rd_T80 l1 x20_1).f0.f1), .int .i64 ((rd_T80 l1 x20_1).f0.f2), .int .i64 ((rd_T80 l1 x20_1).f0.f3), .int .i64 ((rd_T80 l1 x20_1).f1), .int .i64 ((rd_T80 l1 x20_1).f2), .bool ((rd_T80 l1 x20_1).f3)] 80 (0, 0)) (by (with_reducible repeat (first | refine blk_drewN ?_ _ | refine blk_drew ?_ | refine blk_alloc ?_ _)); exact BK151.out) hb)
                    have n4_ := Aside0.mk (below_step (by repeat (first | (with_reducible first | exact HB.out | apply below_alloc | apply pw_below_drewN | apply below_drew1 | refine below_set ?_ GE143.out | refine below_set ?_ GE149.out | refine below_set ?_ GE151.out) | exact HB.out)) hb)
                    clear HO_9
                    clear BK143
                    clear BK149
                    clear BK151
                    clear HB
                    have HO_9 := n0_
                    have BK143 := n1_
                    have BK149 := n2_
                    have BK151 := n3_
                    have HB := n4_
                    clear n0_ n1_ n2_ n3_ n4_
                    (try clear hb)
                    (try clear hb2)
                    (try clear hk)
                    (try clear hi)
                    refine hK.out _ _ ⟨(blk_cell BK151.out 0).trans rfl, (blk_cell BK151.out 1).trans rfl, (blk_cell BK151.out 2).trans rfl, (blk_cell BK151.out 3).trans rfl, (blk_cell BK151.out 4).trans rfl, (blk_cell BK151.out 5).trans rfl, (blk_cell BK151.out 6).trans rfl, (blk_cell BK149.out 0).trans rfl, (blk_cell BK149.out 1).trans rfl, (blk_cell BK149.out 2).trans rfl, (blk_cell BK149.out 3).trans rfl⟩ (fun hHeld => ?_)
                    clear hK K
                    refine norm_ (a' := ?_) ?_ ?_
                    rotate_left
                    · show Act.put _ (some 47) _ = _
                      simp only [Act.put, List.setIfInBounds_toArray, List.set_cons_zero, List.set_cons_succ, i64_w, i32_w]
                      rfl
                    refine pure_ (i := 12) (N := some 48) (v := ?_) (a' := ?_) #[true, true, true, true, true, true, true, true, true, true, true, true, true, false] rfl rfl (any_of HT_.out (by kernel_rfl)) (fun _ _ _ h => h) (Or.inl ⟨by rfl, ?_⟩) ?_ ?_
                    rotate_left
                    · intro w'
                      go_simp
                      with_reducible rfl
                    rotate_left
                    · simp only [Act.put, List.setIfInBounds_toArray, List.set_cons_zero, List.set_cons_succ, i64_w, i32_w]
                      rfl
                    refine pure_ (i := 13) (N := some 35) (v := ?_) (a' := ?_) #[true, true, true, true, true, true, true, true, true, true, true, true, true, true] rfl rfl (any_of HT_.out (by kernel_rfl)) (fun _ _ _ h => h) (Or.inl ⟨by rfl, ?_⟩) ?_ ?_
                    rotate_left
                    · intro w'
                      go_simp
                      with_reducible rfl
                    rotate_left
                    · simp only [Act.put, List.setIfInBounds_toArray, List.set_cons_zero, List.set_cons_succ, i64_w, i32_w]
                      rfl
                    refine done_ (done_of HT_.out (by kernel_rfl)) ?_
                    try go_wp2_with (first | ((with_reducible refine gate_builtin (b := .append) (xs := #[.tmp 25, .tmp 26]) rfl ?_); at_builtin; refine Kd.R_append (Kd.int .i64) (w0 := w) w.heap.size rfl (.tmp 25) (.tmp 26) 22 3 (.int .i64 0) 8 rfl Tryd.underlying22 info3 rfl (by decide) (by omega) u9 x9_1 3 [.int .i64 3] (fun _ => True) (fun _ => False) rfl rfl ?aP (fun _ hk => hk.elim) ?aF ?aO ?aB ?aS ?aL ?_; (case aP => exact rfl); (case aB => exact (by repeat (first | (with_reducible first | exact HB.out | apply below_alloc | apply pw_below_drewN | apply below_drew1 | refine below_set ?_ GE143.out | refine below_set ?_ GE149.out | refine below_set ?_ GE151.out) | exact HB.out))); (case aF => exact (fun _ _ => trivial)); (case aO => exact (by (with_reducible repeat (first | apply Kd.R_alloc | apply Kd.R_drewN | apply Kd.R_drew)); exact HO_9.out)); (case aS => exact (below_size (by repeat (first | (with_reducible first | exact HB.out | apply below_alloc | apply pw_below_drewN | apply below_drew1 | refine below_set ?_ GE143.out | refine below_set ?_ GE149.out | refine below_set ?_ GE151.out) | exact HB.out)))); (case aL => have := LMc35.out; omega); intro v165 w45 ho hb hg hat; rw [← Ny164.out] at ho; have n0_ := Aside0.mk (blk_grown (g := gb143) (o := .cells #[.int .i64 0, .int .i64 0, .int .i64 0, .int .i64 0] 36 (0, 0)) (by (with_reducible repeat (first | refine blk_drewN ?_ _ | refine blk_drew ?_ | refine blk_alloc ?_ _)); exact BK143.out) hg (Kd.R_ne HO_9.out BK143.out (by decide))); have n1_ := Aside0.mk (blk_grown (g := gb149) (o := .cells #[.int .i64 t144, .int .i64 t145, .int .i64 t146, .int .i64 t147] 36 (0, 0)) (by (with_reducible repeat (first | refine blk_drewN ?_ _ | refine blk_drew ?_ | refine blk_alloc ?_ _)); exact BK149.out) hg (Kd.R_ne HO_9.out BK149.out (by decide))); have n2_ := Aside0.mk (blk_grown (g := gb151) (o := .cells #[.int .i64 ((rd_T80 l1 x20_1).f0.f0), .int .i64 ((rd_T80 l1 x20_1).f0.f1), .int .i64 ((rd_T80 l1 x20_1).f0.f2), .int .i64 ((rd_T80 l1 x20_1).f0.f3), .int .i64 ((rd_T80 l1 x20_1).f1), .int .i64 ((rd_T80 l1 x20_1).f2), .bool ((rd_T80 l1 x20_1).f3)] 80 (0, 0)) (by (with_reducible repeat (first | refine blk_drewN ?_ _ | refine blk_drew ?_ | refine blk_alloc ?_ _)); exact BK151.out) hg (Kd.R_ne HO_9.out BK151.out (by decide))); have n3_ := Aside0.mk (hb); have n4_ := Aside0.mk (ho); clear BK143; clear BK149; clear BK151; clear HB; clear HO_9; have BK143 := n0_; have BK149 := n1_; have BK151 := n2_; have HB := n3_; have HO166 := n4_; clear n0_ n1_ n2_ n3_ n4_; clear ho hb hg hat))
                    go_roundg k1
                    case measure => have := HK1.out; omega
                    case rel => exact ⟨(y164), (wrap64 (x20_1 + 1)), (by first | rfl | (simp; done) | (simp [*]; done)), H', ⟨by have := HK1.out; omega⟩, ⟨by (with_reducible repeat (first | apply Kd.R_alloc | apply Kd.R_drewN | apply Kd.R_drew)); exact HO166.out⟩, ⟨by (with_reducible repeat (first | refine blk_drewN ?_ _ | refine blk_drew ?_ | refine blk_alloc ?_ _)); exact BK143.out⟩, ⟨by (with_reducible repeat (first | refine blk_drewN ?_ _ | refine blk_drew ?_ | refine blk_alloc ?_ _)); exact BK149.out⟩, ⟨by repeat (first | (with_reducible first | exact HB.out | apply below_alloc | apply pw_below_drewN | apply below_drew1 | refine below_set ?_ GE143.out | refine below_set ?_ GE149.out | refine below_set ?_ GE151.out) | exact HB.out)⟩⟩
                  · rw [if_neg c35] at H
                    exact absurd H (by simp)
              · replace c20 := Bool.eq_false_iff.mpr c20
                subst c20
                have H1 : (if x9_1.length < 17592186044416 then (prio_Roles.l0 k1 a0 t148 (x9_1 ++ [2]) l1 (l1.length : Int) (wrap64 (x20_1 + 1)) t144 t145 t146 t147) else (none)) = some (r1, r2, r3, r4, r5, r6) := by rw [if_neg (show ¬ (false = true) by decide)] at H; exact H
                clear H
                have H := H1
                clear H1
                by_cases c46 : x9_1.length < 17592186044416
                · rw [if_pos c46] at H
                  have LMc46 := Aside0.mk c46
                  clear c46
                  obtain ⟨y167, hy167⟩ : ∃ y_ : List Int, y_ = (x9_1 ++ [2]) := ⟨_, rfl⟩
                  replace H : (prio_Roles.l0 k1 a0 t148 y167 l1 (l1.length : Int) (wrap64 (x20_1 + 1)) t144 t145 t146 t147) = some (r1, r2, r3, r4, r5, r6) := by first | (rw [hy167]; with_reducible exact H) | (have H2_ := (Option.bind_some _ _).symm.trans H; rw [hy167]; with_reducible exact H2_) | (have H2_ := (Option.bind_some _ _).symm.trans H; with_reducible exact H2_) | with_reducible exact H | (rw [hy167]; exact H) | exact H
                  have Ny167 := Aside0.mk hy167
                  clear hy167
                  have H' := Aside0.mk H
                  clear H
                  have p150 : 0 ≤ (x20_1 : Int) := of_decide_eq_true (by first | (with_reducible assumption) | assumption)
                  have q150 : x20_1 < (l1.length : Int) := of_decide_eq_true (by first | (with_reducible assumption) | assumption)
                  obtain ⟨ad150, e150, hx150_0, hx150_1, hx150_2, hx150_3, hx150_4, hx150_5, hx150_6⟩ := at_T80 HR1.out x20_1 p150 q150
                  cases e150
                  replace hx150_0 := (HB.out.cell (World.block_lt_of_cell? w _ hx150_0)).trans hx150_0
                  replace hx150_1 := (HB.out.cell (World.block_lt_of_cell? w _ hx150_1)).trans hx150_1
                  replace hx150_2 := (HB.out.cell (World.block_lt_of_cell? w _ hx150_2)).trans hx150_2
                  replace hx150_3 := (HB.out.cell (World.block_lt_of_cell? w _ hx150_3)).trans hx150_3
                  replace hx150_4 := (HB.out.cell (World.block_lt_of_cell? w _ hx150_4)).trans hx150_4
                  replace hx150_5 := (HB.out.cell (World.block_lt_of_cell? w _ hx150_5)).trans hx150_5
                  replace hx150_6 := (HB.out.cell (World.block_lt_of_cell? w _ hx150_6)).trans hx150_6
                  replace p150 := eq_true p150
                  replace q150 := eq_true q150
                  try go_wp2_with (first | ((with_reducible refine gate_dst (N := 11) rfl ?_); refine box_event ?hg (N := 11) ?hd (cs := #[.int .i64 0, .int .i64 0, .int .i64 0, .int .i64 0, .int .i64 0, .int .i64 0, .bool false]) (t := 80) ?hr ?_; (case hd => rfl); (case hg => rfl); (case hr => first | (go_simp; done) | (go_simp; rfl)); intro gb151 hg w47 hbox hb; have n0_ := Aside0.mk (Kd.R_below (by (with_reducible repeat (first | apply Kd.R_alloc | apply Kd.R_drewN | apply Kd.R_drew)); exact HO_9.out) hb); have n1_ := Aside0.mk (blk_below (g := gb143) (o := .cells #[.int .i64 0, .int .i64 0, .int .i64 0, .int .i64 0] 36 (0, 0)) (by (with_reducible repeat (first | refine blk_drewN ?_ _ | refine blk_drew ?_ | refine blk_alloc ?_ _)); exact BK143.out) hb); have n2_ := Aside0.mk (blk_below (g := gb149) (o := .cells #[.int .i64 t144, .int .i64 t145, .int .i64 t146, .int .i64 t147] 36 (0, 0)) (by (with_reducible repeat (first | refine blk_drewN ?_ _ | refine blk_drew ?_ | refine blk_alloc ?_ _)); exact BK149.out) hb); have n3_ := Aside0.mk (below_step (by repeat (first | (with_reducible first | exact HB.out | apply below_alloc | apply pw_below_drewN | apply below_drew1 | refine below_set ?_ GE143.out | refine below_set ?_ GE149.out) | exact HB.out)) hb); have n4_ := Aside0.mk (hbox); have n5_ := Aside0.mk ((by rw [hg]; exact (below_size (by repeat (first | (with_reducible first | exact HB.out | apply below_alloc | apply pw_below_drewN | apply below_drew1 | refine below_set ?_ GE143.out | refine below_set ?_ GE149.out) | exact HB.out))) : w.heap.size ≤ gb151)); have n6_ := Aside0.mk ((by rw [hg]; exact (below_size (by repeat (first | (with_reducible first | exact HB.out | apply below_alloc | apply pw_below_drewN | apply below_drew1 | refine below_set ?_ GE143.out | refine below_set ?_ GE149.out) | exact HB.out))) : w.heap.size ≤ gb151)); have n7_ := Aside0.mk ((by rw [hg]; exact Nat.ne_of_lt (blk_lt (g := gb143) (o := .cells #[.int .i64 0, .int .i64 0, .int .i64 0, .int .i64 0] 36 (0, 0)) (by (with_reducible repeat (first | refine blk_drewN ?_ _ | refine blk_drew ?_ | refine blk_alloc ?_ _)); exact BK143.out)) : gb143 ≠ gb151)); have n8_ := Aside0.mk ((by rw [hg]; exact Nat.ne_of_gt (blk_lt (g := gb143) (o := .cells #[.int .i64 0, .int .i64 0, .int .i64 0, .int .i64 0] 36 (0, 0)) (by (with_reducible repeat (first | refine blk_drewN ?_ _ | refine blk_drew ?_ | refine blk_alloc ?_ _)); exact BK143.out)) : gb151 ≠ gb143)); have n9_ := Aside0.mk ((by rw [hg]; exact Nat.ne_of_lt (blk_lt (g := gb149) (o := .cells #[.int .i64 t144, .int .i64 t145, .int .i64 t146, .int .i64 t147] 36 (0, 0)) (by (with_reducible repeat (first | refine blk_drewN ?_ _ | refine blk_drew ?_ | refine blk_alloc ?_ _)); exact BK149.out)) : gb149 ≠ gb151)); have n10_ := Aside0.mk ((by rw [hg]; exact Nat.ne_of_gt (blk_lt (g := gb149) (o := .cells #[.int .i64 t144, .int .i64 t145, .int .i64 t146, .int .i64 t147] 36 (0, 0)) (by (with_reducible repeat (first | refine blk_drewN ?_ _ | refine blk_drew ?_ | refine blk_alloc ?_ _)); exact BK149.out)) : gb151 ≠ gb149)); clear HO_9; clear BK143; clear BK149; clear HB; have HO_9 := n0_; have BK143 := n1_; have BK149 := n2_; have HB := n3_; have BK151 := n4_; have GW151 := n5_; have GE151 := n6_; have NB143_151 := n7_; have NB151_143 := n8_; have NB149_151 := n9_; have NB151_149 := n10_; clear n0_ n1_ n2_ n3_ n4_ n5_ n6_ n7_ n8_ n9_ n10_; clear hb hbox hg; have hnb48 := NB151_143.out; have hnc48 := NB143_151.out; have hnb49 := NB151_149.out; have hnc49 := NB149_151.out; have hcz50_0 : w47.cell? ⟨gb151, 0, none⟩ = some (.int .i64 0) := (blk_cell BK151.out 0).trans rfl; have hcz50_1 : w47.cell? ⟨gb151, 1, none⟩ = some (.int .i64 0) := (blk_cell BK151.out 1).trans rfl; have hcz50_2 : w47.cell? ⟨gb151, 2, none⟩ = some (.int .i64 0) := (blk_cell BK151.out 2).trans rfl; have hcz50_3 : w47.cell? ⟨gb151, 3, none⟩ = some (.int .i64 0) := (blk_cell BK151.out 3).trans rfl; have hcz50_4 : w47.cell? ⟨gb151, 4, none⟩ = some (.int .i64 0) := (blk_cell BK151.out 4).trans rfl; have hcz50_5 : w47.cell? ⟨gb151, 5, none⟩ = some (.int .i64 0) := (blk_cell BK151.out 5).trans rfl; have hcz50_6 : w47.cell? ⟨gb151, 6, none⟩ = some (.bool false) := (blk_cell BK151.out 6).trans rfl; have hfz50_0 := blk_frozen BK151.out 0; have hfz50_1 := blk_frozen BK151.out 1; have hfz50_2 := blk_frozen BK151.out 2; have hfz50_3 := blk_frozen BK151.out 3; have hfz50_4 := blk_frozen BK151.out 4; have hfz50_5 := blk_frozen BK151.out 5; have hfz50_6 := blk_frozen BK151.out 6))
                  have n0_ : Aside0 (Kd.R (Kd.int .i64) 3 (((((((w47.setCell ⟨gb151, 0, none⟩ (.int .i64 ((rd_T80 l1 x20_1).f0.f0))).setCell ⟨gb151, 1, none⟩ (.int .i64 ((rd_T80 l1 x20_1).f0.f1))).setCell ⟨gb151, 2, none⟩ (.int .i64 ((rd_T80 l1 x20_1).f0.f2))).setCell ⟨gb151, 3, none⟩ (.int .i64 ((rd_T80 l1 x20_1).f0.f3))).setCell ⟨gb151, 4, none⟩ (.int .i64 ((rd_T80 l1 x20_1).f1))).setCell ⟨gb151, 5, none⟩ (.int .i64 ((rd_T80 l1 x20_1).f2))).setCell ⟨gb151, 6, none⟩ (.bool ((rd_T80 l1 x20_1).f3))) w.heap.size (fun _ => True) u9 x9_1) := ⟨by (with_reducible repeat (first | apply Kd.R_alloc | apply Kd.R_drewN | apply Kd.R_drew)); exact Kd.R_mono (Kd.R_far (p := ⟨gb151, 6, none⟩) (Kd.R_far (p := ⟨gb151, 5, none⟩) (Kd.R_far (p := ⟨gb151, 4, none⟩) (Kd.R_far (p := ⟨gb151, 3, none⟩) (Kd.R_far (p := ⟨gb151, 2, none⟩) (Kd.R_far (p := ⟨gb151, 1, none⟩) (Kd.R_far (p := ⟨gb151, 0, none⟩) (Kd.R_types HO_9.out BK151.out (by decide)) (fun _ hk => hk.2) (.int .i64 ((rd_T80 l1 x20_1).f0.f0))) (fun _ hk => hk.2) (.int .i64 ((rd_T80 l1 x20_1).f0.f1))) (fun _ hk => hk.2) (.int .i64 ((rd_T80 l1 x20_1).f0.f2))) (fun _ hk => hk.2) (.int .i64 ((rd_T80 l1 x20_1).f0.f3))) (fun _ hk => hk.2) (.int .i64 ((rd_T80 l1 x20_1).f1))) (fun _ hk => hk.2) (.int .i64 ((rd_T80 l1 x20_1).f2))) (fun _ hk => hk.2) (.bool ((rd_T80 l1 x20_1).f3))) (fun _ hk => trivial)⟩
                  have n1_ : Aside0 ((((((((w47.setCell ⟨gb151, 0, none⟩ (.int .i64 ((rd_T80 l1 x20_1).f0.f0))).setCell ⟨gb151, 1, none⟩ (.int .i64 ((rd_T80 l1 x20_1).f0.f1))).setCell ⟨gb151, 2, none⟩ (.int .i64 ((rd_T80 l1 x20_1).f0.f2))).setCell ⟨gb151, 3, none⟩ (.int .i64 ((rd_T80 l1 x20_1).f0.f3))).setCell ⟨gb151, 4, none⟩ (.int .i64 ((rd_T80 l1 x20_1).f1))).setCell ⟨gb151, 5, none⟩ (.int .i64 ((rd_T80 l1 x20_1).f2))).setCell ⟨gb151, 6, none⟩ (.bool ((rd_T80 l1 x20_1).f3))).heap[gb143]? = some (.cells #[.int .i64 0, .int .i64 0, .int .i64 0, .int .i64 0] 36 (0, 0))) := ⟨by (with_reducible repeat (first | refine blk_drewN ?_ _ | refine blk_drew ?_ | refine blk_alloc ?_ _)); refine blk_far ?_ NB143_151.out _; (with_reducible repeat (first | refine blk_drewN ?_ _ | refine blk_drew ?_ | refine blk_alloc ?_ _)); refine blk_far ?_ NB143_151.out _; (with_reducible repeat (first | refine blk_drewN ?_ _ | refine blk_drew ?_ | refine blk_alloc ?_ _)); refine blk_far ?_ NB143_151.out _; (with_reducible repeat (first | refine blk_drewN ?_ _ | refine blk_drew ?_ | refine blk_alloc ?_ _)); refine blk_far ?_ NB143_151.out _; (with_reducible repeat (first | refine blk_drewN ?_ _ | refine blk_drew ?_ | refine blk_alloc ?_ _)); refine blk_far ?_ NB143_151.out _; (with_reducible repeat (first | refine blk_drewN ?_ _ | refine blk_drew ?_ | refine blk_alloc ?_ _)); refine blk_far ?_ NB143_151.out _; (with_reducible repeat (first | refine blk_drewN ?_ _ | refine blk_drew ?_ | refine blk_alloc ?_ _)); refine blk_far ?_ NB143_151.out _; (with_reducible repeat (first | refine blk_drewN ?_ _ | refine blk_drew ?_ | refine blk_alloc ?_ _)); exact BK143.out⟩
                  have n2_ : Aside0 ((((((((w47.setCell ⟨gb151, 0, none⟩ (.int .i64 ((rd_T80 l1 x20_1).f0.f0))).setCell ⟨gb151, 1, none⟩ (.int .i64 ((rd_T80 l1 x20_1).f0.f1))).setCell ⟨gb151, 2, none⟩ (.int .i64 ((rd_T80 l1 x20_1).f0.f2))).setCell ⟨gb151, 3, none⟩ (.int .i64 ((rd_T80 l1 x20_1).f0.f3))).setCell ⟨gb151, 4, none⟩ (.int .i64 ((rd_T80 l1 x20_1).f1))).setCell ⟨gb151, 5, none⟩ (.int .i64 ((rd_T80 l1 x20_1).f2))).setCell ⟨gb151, 6, none⟩ (.bool ((rd_T80 l1 x20_1).f3))).heap[gb149]? = some (.cells #[.int .i64 t144, .int .i64 t145, .int .i64 t146, .int .i64 t147] 36 (0, 0))) := ⟨by (with_reducible repeat (first | refine blk_drewN ?_ _ | refine blk_drew ?_ | refine blk_alloc ?_ _)); refine blk_far ?_ NB149_151.out _; (with_reducible repeat (first | refine blk_drewN ?_ _ | refine blk_drew ?_ | refine blk_alloc ?_ _)); refine blk_far ?_ NB149_151.out _; (with_reducible repeat (first | refine blk_drewN ?_ _ | refine blk_drew ?_ | refine blk_alloc ?_ _)); refine blk_far ?_ NB149_151.out _; (with_reducible repeat (first | refine blk_drewN ?_ _ | refine blk_drew ?_ | refine blk_alloc ?_ _)); refine blk_far ?_ NB149_151.out _; (with_reducible repeat (first | refine blk_drewN ?_ _ | refine blk_drew ?_ | refine blk_alloc ?_ _)); refine blk_far ?_ NB149_151.out _; (with_reducible repeat (first | refine blk_drewN ?_ _ | refine blk_drew ?_ | refine blk_alloc ?_ _)); refine blk_far ?_ NB149_151.out _; (with_reducible repeat (first | refine blk_drewN ?_ _ | refine blk_drew ?_ | refine blk_alloc ?_ _)); refine blk_far ?_ NB149_151.out _; (with_reducible repeat (first | refine blk_drewN ?_ _ | refine blk_drew ?_ | refine blk_alloc ?_ _)); exact BK149.out⟩
                  have n3_ : Aside0 ((((((((w47.setCell ⟨gb151, 0, none⟩ (.int .i64 ((rd_T80 l1 x20_1).f0.f0))).setCell ⟨gb151, 1, none⟩ (.int .i64 ((rd_T80 l1 x20_1).f0.f1))).setCell ⟨gb151, 2, none⟩ (.int .i64 ((rd_T80 l1 x20_1).f0.f2))).setCell ⟨gb151, 3, none⟩ (.int .i64 ((rd_T80 l1 x20_1).f0.f3))).setCell ⟨gb151, 4, none⟩ (.int .i64 ((rd_T80 l1 x20_1).f1))).setCell ⟨gb151, 5, none⟩ (.int .i64 ((rd_T80 l1 x20_1).f2))).setCell ⟨gb151, 6, none⟩ (.bool ((rd_T80 l1 x20_1).f3))).heap[gb151]? = some (.cells #[.int .i64 ((rd_T80 l1 x20_1).f0.f0), .int .i64 ((rd_T80 l1 x20_1).f0.f1), .int .i64 ((rd_T80 l1 x20_1).f0.f2), .int .i64 ((rd_T80 l1 x20_1).f0.f3), .int .i64 ((rd_T80 l1 x20_1).f1), .int .i64 ((rd_T80 l1 x20_1).f2), .bool ((rd_T80 l1 x20_1).f3)] 80 (0, 0))) := ⟨by (with_reducible repeat (first | refine blk_drewN ?_ _ | refine blk_drew ?_ | refine blk_alloc ?_ _)); refine blk_put (cs := #[.int .i64 ((rd_T80 l1 x20_1).f0.f0), .int .i64 ((rd_T80 l1 x20_1).f0.f1), .int .i64 ((rd_T80 l1 x20_1).f0.f2), .int .i64 ((rd_T80 l1 x20_1).f0.f3), .int .i64 ((rd_T80 l1 x20_1).f1), .int .i64 ((rd_T80 l1 x20_1).f2), .bool false]) ?_ 6 _ rfl; (with_reducible repeat (first | refine blk_drewN ?_ _ | refine blk_drew ?_ | refine blk_alloc ?_ _)); refine blk_put (cs := #[.int .i64 ((rd_T80 l1 x20_1).f0.f0), .int .i64 ((rd_T80 l1 x20_1).f0.f1), .int .i64 ((rd_T80 l1 x20_1).f0.f2), .int .i64 ((rd_T80 l1 x20_1).f0.f3), .int .i64 ((rd_T80 l1 x20_1).f1), .int .i64 0, .bool false]) ?_ 5 _ rfl; (with_reducible repeat (first | refine blk_drewN ?_ _ | refine blk_drew ?_ | refine blk_alloc ?_ _)); refine blk_put (cs := #[.int .i64 ((rd_T80 l1 x20_1).f0.f0), .int .i64 ((rd_T80 l1 x20_1).f0.f1), .int .i64 ((rd_T80 l1 x20_1).f0.f2), .int .i64 ((rd_T80 l1 x20_1).f0.f3), .int .i64 0, .int .i64 0, .bool false]) ?_ 4 _ rfl; (with_reducible repeat (first | refine blk_drewN ?_ _ | refine blk_drew ?_ | refine blk_alloc ?_ _)); refine blk_put (cs := #[.int .i64 ((rd_T80 l1 x20_1).f0.f0), .int .i64 ((rd_T80 l1 x20_1).f0.f1), .int .i64 ((rd_T80 l1 x20_1).f0.f2), .int .i64 0, .int .i64 0, .int .i64 0, .bool false]) ?_ 3 _ rfl; (with_reducible repeat (first | refine blk_drewN ?_ _ | refine blk_drew ?_ | refine blk_alloc ?_ _)); refine blk_put (cs := #[.int .i64 ((rd_T80 l1 x20_1).f0.f0), .int .i64 ((rd_T80 l1 x20_1).f0.f1), .int .i64 0, .int .i64 0, .int .i64 0, .int .i64 0, .bool false]) ?_ 2 _ rfl; (with_reducible repeat (first | refine blk_drewN ?_ _ | refine blk_drew ?_ | refine blk_alloc ?_ _)); refine blk_put (cs := #[.int .i64 ((rd_T80 l1 x20_1).f0.f0), .int .i64 0, .int .i64 0, .int .i64 0, .int .i64 0, .int .i64 0, .bool false]) ?_ 1 _ rfl; (with_reducible repeat (first | refine blk_drewN ?_ _ | refine blk_drew ?_ | refine blk_alloc ?_ _)); refine blk_put (cs := #[.int .i64 0, .int .i64 0, .int .i64 0, .int .i64 0, .int .i64 0, .int .i64 0, .bool false]) ?_ 0 _ rfl; (with_reducible repeat (first | refine blk_drewN ?_ _ | refine blk_drew ?_ | refine blk_alloc ?_ _)); exact BK151.out⟩
                  have n4_ : Aside0 (Below w.heap.size w (((((((w47.setCell ⟨gb151, 0, none⟩ (.int .i64 ((rd_T80 l1 x20_1).f0.f0))).setCell ⟨gb151, 1, none⟩ (.int .i64 ((rd_T80 l1 x20_1).f0.f1))).setCell ⟨gb151, 2, none⟩ (.int .i64 ((rd_T80 l1 x20_1).f0.f2))).setCell ⟨gb151, 3, none⟩ (.int .i64 ((rd_T80 l1 x20_1).f0.f3))).setCell ⟨gb151, 4, none⟩ (.int .i64 ((rd_T80 l1 x20_1).f1))).setCell ⟨gb151, 5, none⟩ (.int .i64 ((rd_T80 l1 x20_1).f2))).setCell ⟨gb151, 6, none⟩ (.bool ((rd_T80 l1 x20_1).f3)))) := ⟨by repeat (first | (with_reducible first | exact HB.out | apply below_alloc | apply pw_below_drewN | apply below_drew1 | refine below_set ?_ GE143.out | refine below_set ?_ GE149.out | refine below_set ?_ GE151.out) | exact HB.out)⟩
                  (try clear HO_9)
                  (try clear BK143)
                  (try clear BK149)
                  (try clear BK151)
                  (try clear HB)
                  generalize (((((((w47.setCell ⟨gb151, 0, none⟩ (.int .i64 ((rd_T80 l1 x20_1).f0.f0))).setCell ⟨gb151, 1, none⟩ (.int .i64 ((rd_T80 l1 x20_1).f0.f1))).setCell ⟨gb151, 2, none⟩ (.int .i64 ((rd_T80 l1 x20_1).f0.f2))).setCell ⟨gb151, 3, none⟩ (.int .i64 ((rd_T80 l1 x20_1).f0.f3))).setCell ⟨gb151, 4, none⟩ (.int .i64 ((rd_T80 l1 x20_1).f1))).setCell ⟨gb151, 5, none⟩ (.int .i64 ((rd_T80 l1 x20_1).f2))).setCell ⟨gb151, 6, none⟩ (.bool ((rd_T80 l1 x20_1).f3))) = w51 at n0_ n1_ n2_ n3_ n4_ ⊢
                  have HO_9 := n0_
                  have BK143 := n1_
                  have BK149 := n2_
                  have BK151 := n3_
                  have HB := n4_
                  clear n0_ n1_ n2_ n3_ n4_
                  have n0_ := Aside0.mk (Kd.R_drew HO_9.out)
                  have n1_ := Aside0.mk (blk_drew BK143.out)
                  have n2_ := Aside0.mk (blk_drew BK149.out)
                  have n3_ := Aside0.mk (blk_drew BK151.out)
                  have n4_ := Aside0.mk (below_drew1 HB.out)
                  clear HO_9
                  clear BK143
                  clear BK149
                  clear BK151
                  clear HB
                  have HO_9 := n0_
                  have BK143 := n1_
                  have BK149 := n2_
                  have BK151 := n3_
                  have HB := n4_
                  clear n0_ n1_ n2_ n3_ n4_
                  refine start_ (n := 14) (S := fun w' => w'.cell? ⟨gb151, 0, none⟩ = some (.int .i64 ((rd_T80 l1 x20_1).f0.f0)) ∧ w'.cell? ⟨gb151, 1, none⟩ = some (.int .i64 ((rd_T80 l1 x20_1).f0.f1)) ∧ w'.cell? ⟨gb151, 2, none⟩ = some (.int .i64 ((rd_T80 l1 x20_1).f0.f2)) ∧ w'.cell? ⟨gb151, 3, none⟩ = some (.int .i64 ((rd_T80 l1 x20_1).f0.f3)) ∧ w'.cell? ⟨gb151, 4, none⟩ = some (.int .i64 ((rd_T80 l1 x20_1).f1)) ∧ w'.cell? ⟨gb151, 5, none⟩ = some (.int .i64 ((rd_T80 l1 x20_1).f2)) ∧ w'.cell? ⟨gb151, 6, none⟩ = some (.bool ((rd_T80 l1 x20_1).f3))) (ds := []) #[false, false, false, false, false, false, false, false, false, false, false, false, false, false] (by kernel_rfl) rfl rfl ⟨(blk_cell BK151.out 0).trans rfl, (blk_cell BK151.out 1).trans rfl, (blk_cell BK151.out 2).trans rfl, (blk_cell BK151.out 3).trans rfl, (blk_cell BK151.out 4).trans rfl, (blk_cell BK151.out 5).trans rfl, (blk_cell BK151.out 6).trans rfl⟩ (fun hHeld => ?_); refine with_tabW prio_Roles.tab9 prio_Roles.bits9 (fun HT_ HW_ => ?_)
                  generalize w51.drew = w52 at HO_9 BK143 BK149 BK151 HB hHeld ⊢
                  refine pure_ (i := 1) (N := some 37) (v := ?_) (a' := ?_) #[false, true, false, false, false, false, false, false, false, false, false, false, false, false] rfl rfl (any_of HT_.out (by kernel_rfl)) (fun _ _ _ h => h) (Or.inl ⟨by rfl, ?_⟩) ?_ ?_
                  rotate_left
                  · intro w'
                    go_simp
                    with_reducible rfl
                  rotate_left
                  · simp only [Act.put, List.setIfInBounds_toArray, List.set_cons_zero, List.set_cons_succ, i64_w, i32_w]
                    rfl
                  refine take_ (i := 0) (N := some 36) (v := ?_) (a' := ?_) #[true, true, false, false, false, false, false, false, false, false, false, false, false, false] rfl rfl (take_ofW HT_.out HW_.out (by kernel_rfl)) (fun _ _ _ h => h) (Or.inl ⟨by rfl, ?_⟩) hHeld ?_ ?_
                  rotate_left
                  · rintro w' ⟨s0, s1, s2, s3, s4, s5, s6⟩
                    go_simp
                    with_reducible rfl
                  rotate_left
                  · simp only [Act.put, List.setIfInBounds_toArray, List.set_cons_zero, List.set_cons_succ, i64_w, i32_w]
                    rfl
                  refine one_ (i := 2) (N := some 38) #[true, true, true, false, false, false, false, false, false, false, false, false, false, false] rfl rfl (one_of HT_.out (by kernel_rfl)) (by decide) (fun K hK => ?_)
                  refine goes_ Tryd.func60 (by kernel_rfl) rfl #[.agg #[.int .i64 ((rd_T80 l1 x20_1).f0.f0), .int .i64 ((rd_T80 l1 x20_1).f0.f1), .int .i64 ((rd_T80 l1 x20_1).f0.f2), .int .i64 ((rd_T80 l1 x20_1).f0.f3), .int .i64 ((rd_T80 l1 x20_1).f1), .int .i64 ((rd_T80 l1 x20_1).f2), .bool ((rd_T80 l1 x20_1).f3)], .int .i64 a0] (by rfl) rfl rfl (by (try simp only [List.map_toArray, List.map_cons, List.map_nil]); first | done | rfl | (simp only [List.length_drop, List.length_take]; rfl)) ?_
                  with_reducible refine (prio_takes.calls ((rd_T80 l1 x20_1).f0.f0) ((rd_T80 l1 x20_1).f0.f1) ((rd_T80 l1 x20_1).f0.f2) ((rd_T80 l1 x20_1).f0.f3) ((rd_T80 l1 x20_1).f1) ((rd_T80 l1 x20_1).f2) ((rd_T80 l1 x20_1).f3) a0 false _ A19.out).mono ?_
                  rintro e w53 ⟨rfl, hb⟩
                  refine ⟨_, rfl, ?_⟩
                  have n0_ := Aside0.mk (Kd.R_below (by (with_reducible repeat (first | apply Kd.R_alloc | apply Kd.R_drewN | apply Kd.R_drew)); exact HO_9.out) hb)
                  have n1_ := Aside0.mk (blk_below (g := gb143) (o := .cells #[.int .i64 0, .int .i64 0, .int .i64 0, .int .i64 0] 36 (0, 0)) (by (with_reducible repeat (first | refine blk_drewN ?_ _ | refine blk_drew ?_ | refine blk_alloc ?_ _)); exact BK143.out) hb)
                  have n2_ := Aside0.mk (blk_below (g := gb149) (o := .cells #[.int .i64 t144, .int .i64 t145, .int .i64 t146, .int .i64 t147] 36 (0, 0)) (by (with_reducible repeat (first | refine blk_drewN ?_ _ | refine blk_drew ?_ | refine blk_alloc ?_ _)); exact BK149.out) hb)
                  have n3_ := Aside0.mk (blk_below (g := gb151) (o := .cells #[.int .i64 ((rd_T80 l1 x20_1).f0.f0), .int .i64 ((rd_T80 l1 x20_1).f0.f1), .int .i64 ((rd_T80 l1 x20_1).f0.f2), .int .i64 ((rd_T80 l1 x20_1).f0.f3), .int .i64 ((rd_T80 l1 x20_1).f1), .int .i64 ((rd_T80 l1 x20_1).f2), .bool ((rd_T80 l1 x20_1).f3)] 80 (0, 0)) (by (with_reducible repeat (first | refine blk_drewN ?_ _ | refine blk_drew ?_ | refine blk_alloc ?_ _)); exact BK151.out) hb)
                  have n4_ := Aside0.mk (below_step (by repeat (first | (with_reducible first | exact HB.out | apply below_alloc | apply pw_below_drewN | apply below_drew1 | refine below_set ?_ GE143.out | refine below_set ?_ GE149.out | refine below_set ?_ GE151.out) | exact HB.out)) hb)
                  clear HO_9
                  clear BK143
                  clear BK149
                  clear BK151
                  clear HB
                  have HO_9 := n0_
                  have BK143 := n1_
                  have BK149 := n2_
                  have BK151 := n3_
                  have HB := n4_
                  clear n0_ n1_ n2_ n3_ n4_
                  (try clear hb)
                  (try clear hb2)
                  (try clear hk)
                  (try clear hi)
                  refine hK.out _ _ ⟨(blk_cell BK151.out 0).trans rfl, (blk_cell BK151.out 1).trans rfl, (blk_cell BK151.out 2).trans rfl, (blk_cell BK151.out 3).trans rfl, (blk_cell BK151.out 4).trans rfl, (blk_cell BK151.out 5).trans rfl, (blk_cell BK151.out 6).trans rfl⟩ (fun hHeld => ?_)
                  clear hK K
                  refine norm_ (a' := ?_) ?_ ?_
                  rotate_left
                  · show Act.put _ (some 38) _ = _
                    simp only [Act.put, List.setIfInBounds_toArray, List.set_cons_zero, List.set_cons_succ, i64_w, i32_w]
                    rfl
                  refine pure_ (i := 3) (N := some 39) (v := ?_) (a' := ?_) #[true, true, true, true, false, false, false, false, false, false, false, false, false, false] rfl rfl (any_of HT_.out (by kernel_rfl)) (fun _ _ _ h => h) (Or.inl ⟨by rfl, ?_⟩) ?_ ?_
                  rotate_left
                  · intro w'
                    go_simp
                    with_reducible rfl
                  rotate_left
                  · simp only [Act.put, List.setIfInBounds_toArray, List.set_cons_zero, List.set_cons_succ, i64_w, i32_w]
                    rfl
                  refine pure_ (i := 4) (N := some 40) (v := ?_) (a' := ?_) #[true, true, true, true, true, false, false, false, false, false, false, false, false, false] rfl rfl (any_of HT_.out (by kernel_rfl)) (fun _ _ _ h => h) (Or.inl ⟨by rfl, ?_⟩) ?_ ?_
                  rotate_left
                  · intro w'
                    go_simp
                    with_reducible rfl
                  rotate_left
                  · simp only [Act.put, List.setIfInBounds_toArray, List.set_cons_zero, List.set_cons_succ, i64_w, i32_w]
                    rfl
                  refine pure_ (i := 5) (N := some 41) (v := undef) (a' := ?_) #[true, true, true, true, true, true, false, false, false, false, false, false, false, false] rfl rfl (any_of HT_.out (by kernel_rfl)) (fun _ _ _ h => h) (Or.inr ⟨by rfl, rfl⟩) ?_ ?_
                  rotate_left
                  · simp only [Act.put, List.setIfInBounds_toArray, List.set_cons_zero, List.set_cons_succ, i64_w, i32_w]
                    rfl
                  refine pure_ (i := 6) (N := some 42) (v := undef) (a' := ?_) #[true, true, true, true, true, true, true, false, false, false, false, false, false, false] rfl rfl (any_of HT_.out (by kernel_rfl)) (fun _ _ _ h => h) (Or.inr ⟨by rfl, rfl⟩) ?_ ?_
                  rotate_left
                  · simp only [Act.put, List.setIfInBounds_toArray, List.set_cons_zero, List.set_cons_succ, i64_w, i32_w]
                    rfl
                  refine pure_ (i := 7) (N := some 43) (v := undef) (a' := ?_) #[true, true, true, true, true, true, true, true, false, false, false, false, false, false] rfl rfl (any_of HT_.out (by kernel_rfl)) (fun _ _ _ h => h) (Or.inr ⟨by rfl, rfl⟩) ?_ ?_
                  rotate_left
                  · simp only [Act.put, List.setIfInBounds_toArray, List.set_cons_zero, List.set_cons_succ, i64_w, i32_w]
                    rfl
                  refine pure_ (i := 8) (N := some 44) (v := undef) (a' := ?_) #[true, true, true, true, true, true, true, true, true, false, false, false, false, false] rfl rfl (any_of HT_.out (by kernel_rfl)) (fun _ _ _ h => h) (Or.inr ⟨by rfl, rfl⟩) ?_ ?_
                  rotate_left
                  · simp only [Act.put, List.setIfInBounds_toArray, List.set_cons_zero, List.set_cons_succ, i64_w, i32_w]
                    rfl
                  refine pure_ (i := 9) (N := some 45) (v := undef) (a' := ?_) #[true, true, true, true, true, true, true, true, true, true, false, false, false, false] rfl rfl (any_of HT_.out (by kernel_rfl)) (fun _ _ _ h => h) (Or.inr ⟨by rfl, rfl⟩) ?_ ?_
                  rotate_left
                  · simp only [Act.put, List.setIfInBounds_toArray, List.set_cons_zero, List.set_cons_succ, i64_w, i32_w]
                    rfl
                  refine pure_ (i := 10) (N := some 46) (v := undef) (a' := ?_) #[true, true, true, true, true, true, true, true, true, true, true, false, false, false] rfl rfl (any_of HT_.out (by kernel_rfl)) (fun _ _ _ h => h) (Or.inr ⟨by rfl, rfl⟩) ?_ ?_
                  rotate_left
                  · simp only [Act.put, List.setIfInBounds_toArray, List.set_cons_zero, List.set_cons_succ, i64_w, i32_w]
                    rfl
                  refine pure_ (i := 11) (N := some 47) (v := undef) (a' := ?_) #[true, true, true, true, true, true, true, true, true, true, true, true, false, false] rfl rfl (any_of HT_.out (by kernel_rfl)) (fun _ _ _ h => h) (Or.inr ⟨by rfl, rfl⟩) ?_ ?_
                  rotate_left
                  · simp only [Act.put, List.setIfInBounds_toArray, List.set_cons_zero, List.set_cons_succ, i64_w, i32_w]
                    rfl
                  refine pure_ (i := 12) (N := some 48) (v := ?_) (a' := ?_) #[true, true, true, true, true, true, true, true, true, true, true, true, true, false] rfl rfl (any_of HT_.out (by kernel_rfl)) (fun _ _ _ h => h) (Or.inl ⟨by rfl, ?_⟩) ?_ ?_
                  rotate_left
                  · intro w'
                    go_simp
                    with_reducible rfl
                  rotate_left
                  · simp only [Act.put, List.setIfInBounds_toArray, List.set_cons_zero, List.set_cons_succ, i64_w, i32_w]
                    rfl
                  refine pure_ (i := 13) (N := some 35) (v := ?_) (a' := ?_) #[true, true, true, true, true, true, true, true, true, true, true, true, true, true] rfl rfl (any_of HT_.out (by kernel_rfl)) (fun _ _ _ h => h) (Or.inl ⟨by rfl, ?_⟩) ?_ ?_
                  rotate_left
                  · intro w'
                    go_simp
                    with_reducible rfl
                  rotate_left
                  · simp only [Act.put, List.setIfInBounds_toArray, List.set_cons_zero, List.set_cons_succ, i64_w, i32_w]
                    rfl
                  refine done_ (done_of HT_.out (by kernel_rfl)) ?_
                  try go_wp2_with (first | ((with_reducible refine gate_builtin (b := .append) (xs := #[.tmp 49, .tmp 50]) rfl ?_); at_builtin; refine Kd.R_append (Kd.int .i64) (w0 := w) w.heap.size rfl (.tmp 49) (.tmp 50) 22 3 (.int .i64 0) 8 rfl Tryd.underlying22 info3 rfl (by decide) (by omega) u9 x9_1 2 [.int .i64 2] (fun _ => True) (fun _ => False) rfl rfl ?aP (fun _ hk => hk.elim) ?aF ?aO ?aB ?aS ?aL ?_; (case aP => exact rfl); (case aB => exact (by repeat (first | (with_reducible first | exact HB.out | apply below_alloc | apply pw_below_drewN | apply below_drew1 | refine below_set ?_ GE143.out | refine below_set ?_ GE149.out | refine below_set ?_ GE151.out) | exact HB.out))); (case aF => exact (fun _ _ => trivial)); (case aO => exact (by (with_reducible repeat (first | apply Kd.R_alloc | apply Kd.R_drewN | apply Kd.R_drew)); exact HO_9.out)); (case aS => exact (below_size (by repeat (first | (with_reducible first | exact HB.out | apply below_alloc | apply pw_below_drewN | apply below_drew1 | refine below_set ?_ GE143.out | refine below_set ?_ GE149.out | refine below_set ?_ GE151.out) | exact HB.out)))); (case aL => have := LMc46.out; omega); intro v168 w54 ho hb hg hat; rw [← Ny167.out] at ho; have n0_ := Aside0.mk (blk_grown (g := gb143) (o := .cells #[.int .i64 0, .int .i64 0, .int .i64 0, .int .i64 0] 36 (0, 0)) (by (with_reducible repeat (first | refine blk_drewN ?_ _ | refine blk_drew ?_ | refine blk_alloc ?_ _)); exact BK143.out) hg (Kd.R_ne HO_9.out BK143.out (by decide))); have n1_ := Aside0.mk (blk_grown (g := gb149) (o := .cells #[.int .i64 t144, .int .i64 t145, .int .i64 t146, .int .i64 t147] 36 (0, 0)) (by (with_reducible repeat (first | refine blk_drewN ?_ _ | refine blk_drew ?_ | refine blk_alloc ?_ _)); exact BK149.out) hg (Kd.R_ne HO_9.out BK149.out (by decide))); have n2_ := Aside0.mk (blk_grown (g := gb151) (o := .cells #[.int .i64 ((rd_T80 l1 x20_1).f0.f0), .int .i64 ((rd_T80 l1 x20_1).f0.f1), .int .i64 ((rd_T80 l1 x20_1).f0.f2), .int .i64 ((rd_T80 l1 x20_1).f0.f3), .int .i64 ((rd_T80 l1 x20_1).f1), .int .i64 ((rd_T80 l1 x20_1).f2), .bool ((rd_T80 l1 x20_1).f3)] 80 (0, 0)) (by (with_reducible repeat (first | refine blk_drewN ?_ _ | refine blk_drew ?_ | refine blk_alloc ?_ _)); exact BK151.out) hg (Kd.R_ne HO_9.out BK151.out (by decide))); have n3_ := Aside0.mk (hb); have n4_ := Aside0.mk (ho); clear BK143; clear BK149; clear BK151; clear HB; clear HO_9; have BK143 := n0_; have BK149 := n1_; have BK151 := n2_; have HB := n3_; have HO169 := n4_; clear n0_ n1_ n2_ n3_ n4_; clear ho hb hg hat))
                  go_roundg k1
                  case measure => have := HK1.out; omega
                  case rel => exact ⟨(y167), (wrap64 (x20_1 + 1)), (by first | rfl | (simp; done) | (simp [*]; done)), H', ⟨by have := HK1.out; omega⟩, ⟨by (with_reducible repeat (first | apply Kd.R_alloc | apply Kd.R_drewN | apply Kd.R_drew)); exact HO169.out⟩, ⟨by (with_reducible repeat (first | refine blk_drewN ?_ _ | refine blk_drew ?_ | refine blk_alloc ?_ _)); exact BK143.out⟩, ⟨by (with_reducible repeat (first | refine blk_drewN ?_ _ | refine blk_drew ?_ | refine blk_alloc ?_ _)); exact BK149.out⟩, ⟨by repeat (first | (with_reducible first | exact HB.out | apply below_alloc | apply pw_below_drewN | apply below_drew1 | refine below_set ?_ GE143.out | refine below_set ?_ GE149.out | refine below_set ?_ GE151.out) | exact HB.out)⟩⟩
                · rw [if_neg c46] at H
                  exact absurd H (by simp)
          · rw [if_neg c11] at H
            exact absurd H (by simp)
        · rw [if_neg c10] at H
          exact absurd H (by simp)
      · rw [if_neg c9] at H
        have c9b0 : decide (x20_1 < (l1.length : Int)) = false := decide_eq_false c9
        clear c9
        simp only [Option.some.injEq, Prod.mk.injEq] at H
        obtain ⟨rfl, rfl, rfl, rfl, rfl, rfl⟩ := H
        try go_wp2
        have n0_ := Aside0.mk (Kd.R_drew HO_9.out)
        have n1_ := Aside0.mk (blk_drew BK143.out)
        have n2_ := Aside0.mk (blk_drew BK149.out)
        have n3_ := Aside0.mk (below_drew1 HB.out)
        clear HO_9
        clear BK143
        clear BK149
        clear HB
        have HO_9 := n0_
        have BK143 := n1_
        have BK149 := n2_
        have HB := n3_
        clear n0_ n1_ n2_ n3_
        refine start_ (n := 6) (S := fun w' => w'.cell? ⟨gb149, 0, none⟩ = some (.int .i64 t144) ∧ w'.cell? ⟨gb149, 1, none⟩ = some (.int .i64 t145) ∧ w'.cell? ⟨gb149, 2, none⟩ = some (.int .i64 t146) ∧ w'.cell? ⟨gb149, 3, none⟩ = some (.int .i64 t147)) (ds := []) #[false, false, false, false, false, false] (by kernel_rfl) rfl rfl ⟨(blk_cell BK149.out 0).trans rfl, (blk_cell BK149.out 1).trans rfl, (blk_cell BK149.out 2).trans rfl, (blk_cell BK149.out 3).trans rfl⟩ (fun hHeld => ?_)
        generalize wr.drew = w55 at HO_9 BK143 BK149 HB hHeld ⊢
        refine pure_ (i := 0) (N := some 53) (v := ?_) (a' := ?_) #[true, false, false, false, false, false] rfl rfl (by kernel_rfl) (fun _ _ _ h => h) (Or.inl ⟨by rfl, ?_⟩) ?_ ?_
        rotate_left
        · intro w'
          go_simp
          with_reducible rfl
        rotate_left
        · simp only [Act.put, List.setIfInBounds_toArray, List.set_cons_zero, List.set_cons_succ, i64_w, i32_w]
          rfl
        refine pure_ (i := 2) (N := some 55) (v := ?_) (a' := ?_) #[true, false, true, false, false, false] rfl rfl (by kernel_rfl) (fun _ _ _ h => h) (Or.inl ⟨by rfl, ?_⟩) ?_ ?_
        rotate_left
        · intro w'
          go_simp
          with_reducible rfl
        rotate_left
        · simp only [Act.put, List.setIfInBounds_toArray, List.set_cons_zero, List.set_cons_succ, i64_w, i32_w]
          rfl
        refine pure_ (i := 3) (N := some 4) (v := ?_) (a' := ?_) #[true, false, true, true, false, false] rfl rfl (by kernel_rfl) (fun _ _ _ h => h) (Or.inl ⟨by rfl, ?_⟩) ?_ ?_
        rotate_left
        · intro w'
          go_simp
          with_reducible rfl
        rotate_left
        · simp only [Act.put, List.setIfInBounds_toArray, List.set_cons_zero, List.set_cons_succ, i64_w, i32_w]
          rfl
        refine take_ (i := 1) (N := some 54) (v := ?_) (a' := ?_) #[true, true, true, true, false, false] rfl rfl (by kernel_rfl) (fun _ _ _ h => h) (Or.inl ⟨by rfl, ?_⟩) hHeld ?_ ?_
        rotate_left
        · rintro w' ⟨s0, s1, s2, s3⟩
          go_simp
          with_reducible rfl
        rotate_left
        · simp only [Act.put, List.setIfInBounds_toArray, List.set_cons_zero, List.set_cons_succ, i64_w, i32_w]
          rfl
        refine one_ (i := 4) (N := none) #[true, true, true, true, true, false] rfl rfl (by kernel_rfl) (by decide) (fun K hK => ?_)
        have hs56 : w55.cell? ⟨gb143, 0, none⟩ = some (.int .i64 0) := (blk_cell BK143.out 0).trans rfl
        have hfs56 := blk_frozen BK143.out 0
        have hns56_1 := NB149_143.out
        have hms56_1 := NB143_149.out
        have hs57 : w55.cell? ⟨gb143, 1, none⟩ = some (.int .i64 0) := (blk_cell BK143.out 1).trans rfl
        have hfs57 := blk_frozen BK143.out 1
        have hns57_1 := NB149_143.out
        have hms57_1 := NB143_149.out
        have hs58 : w55.cell? ⟨gb143, 2, none⟩ = some (.int .i64 0) := (blk_cell BK143.out 2).trans rfl
        have hfs58 := blk_frozen BK143.out 2
        have hns58_1 := NB149_143.out
        have hms58_1 := NB143_149.out
        have hs59 : w55.cell? ⟨gb143, 3, none⟩ = some (.int .i64 0) := (blk_cell BK143.out 3).trans rfl
        have hfs59 := blk_frozen BK143.out 3
        have hns59_1 := NB149_143.out
        have hms59_1 := NB143_149.out
        refine skip_ (w1 := ?_) (by rfl) rfl ?_ ?_
        rotate_left
        · go_simp
          rfl
        refine hK.out _ _ ⟨((cell_far (p := ⟨gb143, _, none⟩) NB149_143.out _).trans (((cell_far (p := ⟨gb143, _, none⟩) NB149_143.out _).trans (((cell_far (p := ⟨gb143, _, none⟩) NB149_143.out _).trans (((cell_far (p := ⟨gb143, _, none⟩) NB149_143.out _).trans (hHeld.1)))))))), ((cell_far (p := ⟨gb143, _, none⟩) NB149_143.out _).trans (((cell_far (p := ⟨gb143, _, none⟩) NB149_143.out _).trans (((cell_far (p := ⟨gb143, _, none⟩) NB149_143.out _).trans (((cell_far (p := ⟨gb143, _, none⟩) NB149_143.out _).trans (hHeld.2.1)))))))), ((cell_far (p := ⟨gb143, _, none⟩) NB149_143.out _).trans (((cell_far (p := ⟨gb143, _, none⟩) NB149_143.out _).trans (((cell_far (p := ⟨gb143, _, none⟩) NB149_143.out _).trans (((cell_far (p := ⟨gb143, _, none⟩) NB149_143.out _).trans (hHeld.2.2.1)))))))), ((cell_far (p := ⟨gb143, _, none⟩) NB149_143.out _).trans (((cell_far (p := ⟨gb143, _, none⟩) NB149_143.out _).trans (((cell_far (p := ⟨gb143, _, none⟩) NB149_143.out _).trans (((cell_far (p := ⟨gb143, _, none⟩) NB149_143.out _).trans (hHeld.2.2.2))))))))⟩ (fun hHeld => ?_)
        clear hK K
        refine pure_ (i := 5) (N := some 6) (v := ?_) (a' := ?_) #[true, true, true, true, true, true] rfl rfl (by kernel_rfl) (fun _ _ _ h => h) (Or.inl ⟨by rfl, ?_⟩) ?_ ?_
        rotate_left
        · intro w'
          go_simp
          with_reducible rfl
        rotate_left
        · simp only [Act.put, List.setIfInBounds_toArray, List.set_cons_zero, List.set_cons_succ, i64_w, i32_w]
          rfl
        refine done_ (by kernel_rfl) ?_
        try go_wp2
        refine bodyPost_ret (results_list (rs := [.tmp 4, .cell 5 36, .tmp 6]) rfl (by simp) (.tmp (.cell gb143 36 #[.int .i64 t144, .int .i64 t145, .int .i64 t146, .int .i64 t147] (0, 0) _ rfl (by (with_reducible repeat (first | refine blk_drewN ?_ _ | refine blk_drew ?_ | refine blk_alloc ?_ _)); refine blk_put (cs := #[.int .i64 t144, .int .i64 t145, .int .i64 t146, .int .i64 0]) ?_ 3 _ rfl; (with_reducible repeat (first | refine blk_drewN ?_ _ | refine blk_drew ?_ | refine blk_alloc ?_ _)); refine blk_put (cs := #[.int .i64 t144, .int .i64 t145, .int .i64 0, .int .i64 0]) ?_ 2 _ rfl; (with_reducible repeat (first | refine blk_drewN ?_ _ | refine blk_drew ?_ | refine blk_alloc ?_ _)); refine blk_put (cs := #[.int .i64 t144, .int .i64 0, .int .i64 0, .int .i64 0]) ?_ 1 _ rfl; (with_reducible repeat (first | refine blk_drewN ?_ _ | refine blk_drew ?_ | refine blk_alloc ?_ _)); refine blk_put (cs := #[.int .i64 0, .int .i64 0, .int .i64 0, .int .i64 0]) ?_ 0 _ rfl; (with_reducible repeat (first | refine blk_drewN ?_ _ | refine blk_drew ?_ | refine blk_alloc ?_ _)); exact BK143.out) Tryd.underlying36 rfl (by kernel_rfl) (.tmp .nil)))) rfl ?_
        exact ⟨_, by first | rfl | (simp [errW_none, errW_some] <;> rfl) | (simp [*, errW_none, errW_some] <;> rfl), by (with_reducible repeat (first | apply Kd.R_alloc | apply Kd.R_drewN | apply Kd.R_drew)); exact Kd.R_mono (Kd.R_far (p := ⟨gb143, 3, none⟩) (Kd.R_far (p := ⟨gb143, 2, none⟩) (Kd.R_far (p := ⟨gb143, 1, none⟩) (Kd.R_far (p := ⟨gb143, 0, none⟩) (Kd.R_types HO_9.out BK143.out (by decide)) (fun _ hk => hk.2) (.int .i64 t144)) (fun _ hk => hk.2) (.int .i64 t145)) (fun _ hk => hk.2) (.int .i64 t146)) (fun _ hk => hk.2) (.int .i64 t147)) (fun _ hk => trivial), by repeat (first | (with_reducible first | exact HB.out | apply below_alloc | apply pw_below_drewN | apply below_drew1 | refine below_set ?_ GE143.out | refine below_set ?_ GE149.out) | exact HB.out)⟩
end Go.Proofs.YtfimhaodgekkgaaDoor.QTre
namespace Go.Proofs.YtfimhaodgekkgaaDoor.Pri
open Go.RowKit Go.Proofs.YtfimhaodgekkgaaDoorW.PrintWords Go.Proofs.YtfimhaodgekkgaaDoorW.PrintLast Go.Proofs.YtfimhaodgekkgaaDoorW.PrintMore Go.Proofs.YtfimhaodgekkgaaDoor.QTre
def Fit (a : Int) : Prop := -9223372036854775808 ≤ a ∧ a ≤ 9223372036854775807
theorem fit_of {a : Int} (h : (Lit.int .i64 a).wf = true) : Fit a := by
  simp only [Lit.wf, Bool.and_eq_true, decide_eq_true_eq] at h
  unfold Fit
  have e1 : IntKind.i64.min = -9223372036854775808 := by decide
  have e2 : IntKind.i64.max = 9223372036854775807 := by decide
  rw [e1, e2] at h
  exact h
def sgn (a b : Int) : Int := if a < b then -1 else if a > b then 1 else 0
theorem cmp_sgn (a b : Int) : cmp_Compare_int.f a b = some (sgn a b) := by
  unfold cmp_Compare_int.f cmp_isNaN_int.f sgn
  simp only [bne_self_eq_false, Option.bind_some, Bool.false_eq_true, if_false]
  split
  · rfl
  · split <;> rfl
def or4 (a b c d : Int) : Int := if a ≠ 0 then a else if b ≠ 0 then b else if c ≠ 0 then c else d
theorem or_four (a b c d : Int) (k : Nat) : cmp_Or_int.f (k + 5) [a, b, c, d] = some (or4 a b c d) := by
  have r0 : rd [a, b, c, d] 0 = a := rfl
  have r1 : rd [a, b, c, d] 1 = b := rfl
  have r2 : rd [a, b, c, d] 2 = c := rfl
  have r3 : rd [a, b, c, d] 3 = d := rfl
  have w0 : wrap64 (0 + 1) = 1 := by unfold wrap64; decide
  have w1 : wrap64 (1 + 1) = 2 := by unfold wrap64; decide
  have w2 : wrap64 (2 + 1) = 3 := by unfold wrap64; decide
  have w3 : wrap64 (3 + 1) = 4 := by unfold wrap64; decide
  unfold cmp_Or_int.f
  have hl : (([a, b, c, d] : List Int).length : Int) = 4 := rfl
  rw [hl, cmp_Or_int.l0, if_pos (by decide), if_pos (by decide), hl, if_pos (by decide), r0]
  by_cases ha : a = 0
  · rw [if_pos ha, w0, cmp_Or_int.l0, if_pos (by decide), if_pos (by decide), hl, if_pos (by decide), r1]
    by_cases hb : b = 0
    · rw [if_pos hb, w1, cmp_Or_int.l0, if_pos (by decide), if_pos (by decide), hl, if_pos (by decide), r2]
      by_cases hc : c = 0
      · rw [if_pos hc, w2, cmp_Or_int.l0, if_pos (by decide), if_pos (by decide), hl, if_pos (by decide), r3]
        by_cases hd : d = 0
        · rw [if_pos hd, w3, cmp_Or_int.l0, if_neg (by decide)]
          simp [or4, ha, hb, hc, hd]
        · rw [if_neg hd]
          simp [or4, ha, hb, hc]
      · rw [if_neg hc]
        simp [or4, ha, hb, hc]
    · rw [if_neg hb]
      simp [or4, ha, hb]
  · rw [if_neg ha]
    simp [or4, ha]
def cmpV (a b : S36) : Int := or4 (sgn a.f0 b.f0) (sgn a.f1 b.f1) (sgn a.f2 b.f2) (sgn a.f3 b.f3)
theorem compare_ev (a b : S36) : Ev (fun k => prio_Compare.f k a.f0 a.f1 a.f2 a.f3 b.f0 b.f1 b.f2 b.f3) (cmpV a b) := by
  refine Ev.of (fun k => prio_Compare.mono _ _ _ _ _ _ _ _ k) (k := 5) ?_
  unfold prio_Compare.f
  simp only [cmp_sgn, Option.bind_some]
  rw [or_four _ _ _ _ 0]
  rfl
def bet (a b : S36) : Bool := decide (a.f0 < b.f0 ∨ a.f0 = b.f0 ∧ (a.f1 < b.f1 ∨ a.f1 = b.f1 ∧ (a.f2 < b.f2 ∨ a.f2 = b.f2 ∧ a.f3 < b.f3)))
theorem cmpV_neg (a b : S36) : decide (cmpV a b < 0) = bet a b := by
  unfold cmpV or4 sgn bet
  rw [decide_eq_decide]
  repeat' split
  all_goals omega
theorem better_ev (a b : S36) : Ev (fun k => prio_Better.f k a.f0 a.f1 a.f2 a.f3 b.f0 b.f1 b.f2 b.f3) (bet a b) := by
  unfold prio_Better.f
  refine Ev.bind (compare_ev a b) ?_
  rw [cmpV_neg]
  exact Ev.now _
def sumc (a b : Int) : Int := if mx a 0 + mx b 0 > 9223372036854775807 then 9223372036854775807 else mx a 0 + mx b 0
theorem sum_prog {a b : Int} (ha : Fit a) (hb : Fit b) : cost_Sum.f a b = some (sumc a b) := by
  unfold cost_Sum.f sumc
  unfold Fit at ha hb
  unfold mx wrap64
  repeat' split
  all_goals first | rfl | omega | (congr 1; omega)
def brid (a : Int) : Bool := decide (0 < a ∧ a / 281474976710656 ≤ 15 ∧ a % 281474976710656 / 1099511627776 % 2 ≠ 1)
theorem wraps_i64 (n : Int) (h₀ : 0 ≤ n) (h₁ : n < 2 ^ 63) : IntKind.i64.wrap n = n := by
  rw [IntKind.wrap_i64]
  have : (2 : Int) ^ 63 = 9223372036854775808 := by decide
  omega
theorem bridge_prog {a : Int} (ha : Fit a) : bpdu_Bridge.f a = some (brid a) := by
  unfold Fit at ha
  unfold bpdu_Bridge.f brid
  have e63 : (2 : Int) ^ 63 = 9223372036854775808 := by decide
  by_cases h0 : a > 0
  · rw [if_pos h0]
    by_cases h1 : a / 281474976710656 ≤ 15
    · rw [if_pos h1]
      have hm : Go.bits .and .i64 a 281474976710655 = a % 281474976710656 := by
        have := bits_mask .i64 63 (by decide) wraps_i64 48 (by decide) a (by omega) (by omega)
        have e1 : ((2 : Int) ^ 48 - 1) = 281474976710655 := by decide
        have e2 : ((2 : Int) ^ 48) = 281474976710656 := by decide
        rw [e1, e2] at this
        exact this
      rw [hm]
      unfold addr_Many.f addr_Good.f
      have g1 : a % 281474976710656 ≥ 0 := by omega
      have g2 : decide (a % 281474976710656 ≤ 281474976710655) = true := decide_eq_true (by omega)
      rw [if_pos g1, g2]
      simp only [Option.bind_some, if_true]
      have hb : Go.bits .and .i64 (a % 281474976710656 / 1099511627776) 1 = a % 281474976710656 / 1099511627776 % 2 := by
        have := bits_mask .i64 63 (by decide) wraps_i64 1 (by decide) (a % 281474976710656 / 1099511627776) (by omega) (by omega)
        exact this
      rw [hb]
      congr 1
      rw [Bool.eq_iff_iff]
      simp
      omega
    · rw [if_neg h1]
      congr 1
      symm
      exact decide_eq_false (by omega)
  · rw [if_neg h0]
    congr 1
    symm
    exact decide_eq_false (by omega)
def takes (h : S80) (id : Int) : Bool := decide (h.f3 = false ∧ 0 ≤ h.f1 ∧ h.f1 < 10 ∧ brid h.f0.f0 = true ∧ h.f0.f2 ≠ id)
theorem takes_prog (h : S80) (id : Int) (hr : Fit h.f0.f0) : prio_takes.f h.f0.f0 h.f0.f1 h.f0.f2 h.f0.f3 h.f1 h.f2 h.f3 id = some (takes h id) := by
  unfold prio_takes.f takes
  rw [bridge_prog hr]
  cases h.f3 with
  | true => simp
  | false =>
    simp only [Bool.false_eq_true, if_false, Option.bind_some]
    by_cases h1 : h.f1 ≥ 0
    · rw [if_pos h1]
      by_cases h2 : h.f1 < 10
      · rw [if_pos h2]
        cases brid h.f0.f0 with
        | false => simp
        | true => simp only [if_true]; congr 1; rw [Bool.eq_iff_iff]; simp; omega
      · rw [if_neg h2]; congr 1; symm; exact decide_eq_false (by omega)
    · rw [if_neg h1]; congr 1; symm; exact decide_eq_false (by omega)
def thr (h : S80) : S36 := ⟨h.f0.f0, sumc h.f0.f1 h.f2, h.f0.f2, h.f0.f3⟩
def FitH (h : S80) : Prop := Fit h.f0.f0 ∧ Fit h.f0.f1 ∧ Fit h.f2
def step (id : Int) (j : Nat) (h : S80) (acc : S36 × Int) : S36 × Int := if takes h id = true ∧ h.f0.f0 < id ∧ bet (thr h) acc.1 = true then (thr h, (j : Int)) else acc
def best (id : Int) : Nat → List S80 → S36 × Int → S36 × Int
  | _, [], acc => acc
  | j, h :: t, acc => best id (j + 1) t (step id j h acc)
def own (id : Int) : S36 := ⟨id, 0, id, 0⟩
def bestOf (id : Int) (l : List S80) : S36 × Int := best id 0 l (own id, -1)
def tup (a : S36 × Int) : Int × Int × Int × Int × Int := (a.1.f0, a.1.f1, a.1.f2, a.1.f3, a.2)
theorem wrap_up {i : Int} {n : Nat} (h0 : 0 ≤ i) (h : i < (n : Int)) (hn : n ≤ 9223372036854775000) : wrap64 (i + 1) = i + 1 := by
  unfold wrap64
  omega
theorem rd80 {l : List S80} {i : Nat} (h : i < l.length) : rd_T80 l i = l[i] := by
  unfold rd_T80
  rw [Int.toNat_natCast, List.getD_eq_getElem?_getD, List.getElem?_eq_getElem h]; rfl
theorem best_loop (id : Int) (l : List S80) (hn : l.length ≤ 9223372036854775000) (hf : ∀ h ∈ l, FitH h) (d : Nat) : ∀ (i : Nat) (acc : S36 × Int), i + d = l.length →
    Ev (fun k => prio_Best.l0 k id acc.2 l l.length i acc.1.f0 acc.1.f1 acc.1.f2 acc.1.f3) (tup (best id i (l.drop i) acc)) := by
  induction d with
  | zero =>
    intro i acc hi
    rw [List.drop_of_length_le (by omega)]
    exact Ev.step (fun k => by rw [prio_Best.l0, if_neg (by omega)]; rfl) (Ev.now (tup acc))
  | succ d ih =>
    intro i acc hi
    have hlt : i < l.length := by omega
    obtain ⟨f0, f1, f2⟩ := hf l[i] (List.getElem_mem hlt)
    rw [List.drop_eq_getElem_cons hlt]
    simp only [best]
    have hs : ∀ k, prio_Best.l0 (k + 1) id acc.2 l l.length i acc.1.f0 acc.1.f1 acc.1.f2 acc.1.f3 =
        (if takes l[i] id = true then (if l[i].f0.f0 < id then ((prio_Better.f k (thr l[i]).f0 (thr l[i]).f1 (thr l[i]).f2 (thr l[i]).f3 acc.1.f0 acc.1.f1 acc.1.f2 acc.1.f3).bind fun t => if t = true then prio_Best.l0 k id i l l.length ((i + 1 : Nat) : Int) (thr l[i]).f0 (thr l[i]).f1 (thr l[i]).f2 (thr l[i]).f3 else prio_Best.l0 k id acc.2 l l.length ((i + 1 : Nat) : Int) acc.1.f0 acc.1.f1 acc.1.f2 acc.1.f3) else prio_Best.l0 k id acc.2 l l.length ((i + 1 : Nat) : Int) acc.1.f0 acc.1.f1 acc.1.f2 acc.1.f3) else prio_Best.l0 k id acc.2 l l.length ((i + 1 : Nat) : Int) acc.1.f0 acc.1.f1 acc.1.f2 acc.1.f3) := by
      intro k
      rw [prio_Best.l0, if_pos (by omega), if_pos (by omega), if_pos (by omega), rd80 hlt, wrap_up (n := l.length) (by omega) (by omega) hn, takes_prog _ _ f0]
      unfold prio_Through.f
      rw [sum_prog f1 f2]
      rfl
    refine Ev.step hs ?_
    unfold step
    by_cases h1 : takes l[i] id = true
    · rw [h1]
      simp only [if_true, true_and]
      by_cases h2 : l[i].f0.f0 < id
      · simp only [if_pos h2]
        refine Ev.bind (better_ev (thr l[i]) acc.1) ?_
        by_cases h3 : bet (thr l[i]) acc.1 = true
        · rw [h3]
          simp only [if_true]
          rw [if_pos ⟨h2, trivial⟩]
          exact ih (i + 1) (thr l[i], (i : Int)) (by omega)
        · rw [if_neg (by simp [h3])]
          simp only [h3, Bool.false_eq_true, if_false]
          exact ih (i + 1) acc (by omega)
      · simp only [if_neg h2]
        rw [if_neg (by simp [h2])]
        exact ih (i + 1) acc (by omega)
    · rw [if_neg (by simp [h1])]
      simp only [h1, Bool.false_eq_true, if_false]
      exact ih (i + 1) acc (by omega)
theorem best_prog (id : Int) (l : List S80) (hn : l.length ≤ 9223372036854775000) (hf : ∀ h ∈ l, FitH h) : Ev (fun k => prio_Best.f k id l) (tup (bestOf id l)) := by
  have := best_loop id l hn hf l.length 0 (own id, -1) (by omega)
  rw [List.drop_zero] at this
  exact this
def offer (v : S36) (id port : Int) : S36 := ⟨v.f0, v.f1, id, port⟩
def role (id : Int) (b : S36 × Int) (i : Nat) (h : S80) : Int := if (i : Int) = b.2 then 1 else if takes h id = true ∧ bet (offer b.1 id i) h.f0 = false then 3 else 2
def rolesFrom (id : Int) (b : S36 × Int) : Nat → List S80 → List Int
  | _, [] => []
  | i, h :: t => role id b i h :: rolesFrom id b (i + 1) t
theorem roles_loop (id : Int) (l : List S80) (b : S36 × Int) (hn : l.length * 56 ≤ 140737488351232) (hf : ∀ h ∈ l, FitH h) (d : Nat) : ∀ (i : Nat) (out : List Int), i + d = l.length → out.length = i →
    Ev (fun k => prio_Roles.l0 k id b.2 out l l.length i b.1.f0 b.1.f1 b.1.f2 b.1.f3) (out ++ rolesFrom id b i (l.drop i), b.1.f0, b.1.f1, b.1.f2, b.1.f3, b.2) := by
  induction d with
  | zero =>
    intro i out hi ho
    rw [List.drop_of_length_le (by omega)]
    simp only [rolesFrom, List.append_nil]
    exact Ev.step (fun k => by rw [prio_Roles.l0, if_neg (by omega)]) (Ev.now _)
  | succ d ih =>
    intro i out hi ho
    have hlt : i < l.length := by omega
    obtain ⟨f0, f1, f2⟩ := hf l[i] (List.getElem_mem hlt)
    rw [List.drop_eq_getElem_cons hlt]
    simp only [rolesFrom]
    have hi1 := ih (i + 1) (out ++ [role id b i l[i]]) (by omega) (by simp [ho])
    rw [List.append_assoc, List.singleton_append] at hi1
    have hcast : ((i + 1 : Nat) : Int) = (i : Int) + 1 := by omega
    by_cases h0 : (i : Int) = b.2
    · have hr : role id b i l[i] = 1 := by unfold role; rw [if_pos h0]
      rw [hr] at hi1 ⊢
      exact Ev.step (fun k => by rw [prio_Roles.l0, if_pos (by omega), if_pos (by omega), if_pos (by omega), if_pos h0, if_pos (by omega), wrap_up (i := (i : Int)) (n := l.length) (by omega) (by omega) (by omega), ← hcast]) hi1
    · by_cases h1 : takes l[i] id = true
      · have hs : ∀ k, prio_Roles.l0 (k + 1) id b.2 out l l.length i b.1.f0 b.1.f1 b.1.f2 b.1.f3 = (prio_Better.f k (offer b.1 id i).f0 (offer b.1 id i).f1 (offer b.1 id i).f2 (offer b.1 id i).f3 l[i].f0.f0 l[i].f0.f1 l[i].f0.f2 l[i].f0.f3).bind fun t => if t = true then prio_Roles.l0 k id b.2 (out ++ [2]) l l.length ((i + 1 : Nat) : Int) b.1.f0 b.1.f1 b.1.f2 b.1.f3 else prio_Roles.l0 k id b.2 (out ++ [3]) l l.length ((i + 1 : Nat) : Int) b.1.f0 b.1.f1 b.1.f2 b.1.f3 := by
          intro k
          rw [prio_Roles.l0, if_pos (by omega), if_pos (by omega), if_pos (by omega), if_neg h0, rd80 hlt, takes_prog _ _ f0, h1, Option.bind_some, if_pos rfl, wrap_up (i := (i : Int)) (n := l.length) (by omega) (by omega) (by omega), if_pos (show out.length < 17592186044416 by omega), if_pos (show out.length < 17592186044416 by omega)]
          rfl
        refine Ev.step hs ?_
        refine Ev.bind (better_ev (offer b.1 id i) l[i].f0) ?_
        cases h2 : bet (offer b.1 id i) l[i].f0 with
        | true =>
          have hr : role id b i l[i] = 2 := by unfold role; rw [if_neg h0, if_neg (by simp [h2])]
          rw [hr] at hi1 ⊢
          simp only [if_true]
          exact hi1
        | false =>
          have hr : role id b i l[i] = 3 := by unfold role; rw [if_neg h0, if_pos ⟨h1, h2⟩]
          rw [hr] at hi1 ⊢
          simp only [Bool.false_eq_true, if_false]
          exact hi1
      · have hr : role id b i l[i] = 2 := by unfold role; rw [if_neg h0, if_neg (by simp [h1])]
        rw [hr] at hi1 ⊢
        have h1' : takes l[i] id = false := by simpa using h1
        exact Ev.step (fun k => by rw [prio_Roles.l0, if_pos (by omega), if_pos (by omega), if_pos (by omega), if_neg h0, rd80 hlt, takes_prog _ _ f0, h1', Option.bind_some, if_neg (by decide), if_pos (by omega), wrap_up (i := (i : Int)) (n := l.length) (by omega) (by omega) (by omega), ← hcast]) hi1
def roles (id : Int) (l : List S80) : List Int := rolesFrom id (bestOf id l) 0 l
theorem roles_prog (id : Int) (l : List S80) (hn : l.length * 56 ≤ 140737488351232) (hf : ∀ h ∈ l, FitH h) :
    Ev (fun k => prio_Roles.f k id l) (roles id l, (bestOf id l).1.f0, (bestOf id l).1.f1, (bestOf id l).1.f2, (bestOf id l).1.f3, (bestOf id l).2) := by
  unfold prio_Roles.f
  refine Ev.bind (best_prog id l (by omega) hf) ?_
  exact roles_loop id l (bestOf id l) hn hf l.length 0 [] (by omega) rfl
theorem rolesFrom_len (id : Int) (b : S36 × Int) (l : List S80) : ∀ i, (rolesFrom id b i l).length = l.length := by
  induction l with
  | nil => intro i; rfl
  | cons h t ih => intro i; simp [rolesFrom, ih]
theorem rolesFrom_get (id : Int) (b : S36 × Int) (l : List S80) : ∀ (i j : Nat) (hj : j < l.length), (rolesFrom id b i l)[j]? = some (role id b (i + j) l[j]) := by
  induction l with
  | nil => intro i j hj; simp at hj
  | cons h t ih =>
    intro i j hj
    cases j with
    | zero => simp [rolesFrom]
    | succ j => simp only [rolesFrom, List.getElem?_cons_succ, List.getElem_cons_succ]; rw [ih (i + 1) j (by simpa using hj)]; congr 2; omega
theorem roles_len (id : Int) (l : List S80) : (roles id l).length = l.length := rolesFrom_len _ _ _ _
theorem roles_get (id : Int) (l : List S80) (i : Nat) (hi : i < l.length) : rd (roles id l) i = role id (bestOf id l) i l[i] := by
  unfold rd roles
  rw [Int.toNat_natCast, List.getD_eq_getElem?_getD, rolesFrom_get _ _ _ _ _ hi]
  simp
end Go.Proofs.YtfimhaodgekkgaaDoor.Pri
namespace Go.Proofs.YtfimhaodgekkgaaDoor.QTre
open Go.RowKit Go.Proofs.YtfimhaodgekkgaaDoorW.PrintWords Go.Proofs.YtfimhaodgekkgaaDoorW.PrintLast Go.Proofs.YtfimhaodgekkgaaDoorW.PrintMore
open Go.Proofs.YtfimhaodgekkgaaDoor.Gen (Own Trn)
open Go.Proofs.YtfimhaodgekkgaaDoor.Pri (FitH roles bestOf role)
set_option linter.unusedVariables false
set_option linter.unusedSimpArgs false
def heardOf (p : S84) : S80 := ⟨p.f2.f0, p.f2.f1, p.f1, p.f2.f3 || !p.f0⟩
theorem info80 : (Tryd.prog.info? 80).map (fun i => (i.zero, i.size, i.bytes)) = some (some (.agg #[(.int .i64 0), (.int .i64 0), (.int .i64 0), (.int .i64 0), (.int .i64 0), (.int .i64 0), (.bool false)]), 7, 56) := by kernel_rfl
structure PCells (w : World) (b q : Nat) (x : S84) : Prop where
  c0 : w.cell? ⟨b, q, none⟩ = some (.bool x.f0)
  c1 : w.cell? ⟨b, q + 1, none⟩ = some (.int .i64 x.f1)
  c2 : w.cell? ⟨b, q + 2, none⟩ = some (.int .i64 x.f2.f0.f0)
  c3 : w.cell? ⟨b, q + 3, none⟩ = some (.int .i64 x.f2.f0.f1)
  c4 : w.cell? ⟨b, q + 4, none⟩ = some (.int .i64 x.f2.f0.f2)
  c5 : w.cell? ⟨b, q + 5, none⟩ = some (.int .i64 x.f2.f0.f3)
  c6 : w.cell? ⟨b, q + 6, none⟩ = some (.int .i64 x.f2.f1)
  c7 : w.cell? ⟨b, q + 7, none⟩ = some (.int .i64 x.f2.f2)
  c8 : w.cell? ⟨b, q + 8, none⟩ = some (.bool x.f2.f3)
  c9 : w.cell? ⟨b, q + 9, none⟩ = some (.int .i64 x.f3)
  c10 : w.cell? ⟨b, q + 10, none⟩ = some (.int .i64 x.f4.f0)
  c11 : w.cell? ⟨b, q + 11, none⟩ = some (.int .i64 x.f4.f1)
  c12 : w.cell? ⟨b, q + 12, none⟩ = some (.bool x.f4.f2)
theorem pcells {w : World} {b cap : Nat} {xs : List S84} (h : Own enc84 13 84 w b cap xs) (i : Nat) (hi : i < xs.length) : PCells w b (i * 13) xs[i] := by
  have k := fun j hj => h.at_ enc84_len i j hi hj
  exact ⟨k 0 (by decide), k 1 (by decide), k 2 (by decide), k 3 (by decide), k 4 (by decide), k 5 (by decide), k 6 (by decide), k 7 (by decide), k 8 (by decide), k 9 (by decide), k 10 (by decide), k 11 (by decide), k 12 (by decide)⟩
theorem roles_calls (id : Int) (A : Option Addr) (c : Nat) (L : List S80) (w : World) (hr : Kd.C k80 w A L.length L) (hc : L.length ≤ c) (hn : L.length ≤ 1000) (hf : ∀ h ∈ L, FitH h) :
    Calls Tryd.prog 50 #[.int .i64 id, .slice A L.length c] w fun e w' => ∃ v : Value, e = .returned (.tuple #[v, .agg #[.int .i64 (bestOf id L).1.f0, .int .i64 (bestOf id L).1.f1, .int .i64 (bestOf id L).1.f2, .int .i64 (bestOf id L).1.f3], .int .i64 (bestOf id L).2]) ∧ Kd.R (Kd.int .i64) 3 w' w.heap.size (fun _ => True) v (roles id L) ∧ Below w.heap.size w w' := by
  obtain ⟨k, hk⟩ := (Pri.roles_prog id L (by omega) hf).rounds
  exact prio_Roles.calls k id A c L _ _ _ _ _ _ w hr hc hk
abbrev setBest (w : World) (g : Nat) (v : S36) (r : Int) : World := ((((w.setCell ⟨g, 2, none⟩ (.int .i64 v.f0)).setCell ⟨g, 3, none⟩ (.int .i64 v.f1)).setCell ⟨g, 4, none⟩ (.int .i64 v.f2)).setCell ⟨g, 5, none⟩ (.int .i64 v.f3)).setCell ⟨g, 6, none⟩ (.int .i64 r)
theorem kept_setBest (w : World) (g : Nat) (v : S36) (r : Int) : Kept w (setBest w g v r) (fun k => k = g) :=
  Kept.setCell (S := fun k => k = g) (Kept.setCell (S := fun k => k = g) (Kept.setCell (S := fun k => k = g) (Kept.setCell (S := fun k => k = g) (Gen.kept_set w g 2 _) (p := ⟨g, 3, none⟩) (.inl rfl) _) (p := ⟨g, 4, none⟩) (.inl rfl) _) (p := ⟨g, 5, none⟩) (.inl rfl) _) (p := ⟨g, 6, none⟩) (.inl rfl) _
theorem Tre.setBest {w : World} {base g b cap : Nat} {id root change : Int} {ports : List S84} {best : S36} (h : Tre w base g b cap id ports best root change) (v : S36) (r : Int) : Tre (setBest w g v r) base g b cap id ports v r change :=
  ⟨blk_put (blk_put (blk_put (blk_put (blk_put h.cell 2 _ rfl) 3 _ rfl) 4 _ rfl) 5 _ rfl) 6 _ rfl, h.row.kept (kept_setBest w g v r) (fun e => h.ne e.symm), h.ne, h.low, h.lowb, h.cap_le⟩
abbrev TF (g b : Nat) : Nat → Prop := fun k => k = g ∨ k = b
theorem trn_setBest {base : Nat} {w0 w W : World} {g b : Nat} (a : Trn base w0 w (TF g b) (TF g b) W) (hs : base ≤ w.heap.size) (hg : base ≤ g) (v : S36) (r : Int) : Trn base w0 w (TF g b) (TF g b) (setBest W g v r) :=
  ((((a.set hs (.inl rfl) hg 2 _).set hs (.inl rfl) hg 3 _).set hs (.inl rfl) hg 4 _).set hs (.inl rfl) hg 5 _).set hs (.inl rfl) hg 6 _
theorem Trn.below {base : Nat} {w0 w W W2 : World} {F F' : Nat → Prop} (a : Trn base w0 w F F' W) (hs : base ≤ w.heap.size) (hb : Below W.heap.size W W2) : Trn base w0 w F F' W2 :=
  ⟨Below.grown a.bel (Gen.grownBy_below (r := none) hb) (Nat.le_trans hs a.size) (fun q hq => by cases hq), a.kept.below hb, a.own⟩
def setPort (r now : Int) (p : S84) : S84 := ⟨p.f0, p.f1, p.f2, p.f3, (setR p.f4 (if p.f0 = true then r else 0) now).2⟩
def updN (rs : List Int) (now : Int) (ports : List S84) (j : Nat) : List S84 := ports.mapIdx fun k p => if k < j then setPort (rs.getD k 0) now p else p
theorem updN_len (rs : List Int) (now : Int) (ports : List S84) (j : Nat) : (updN rs now ports j).length = ports.length := by unfold updN; simp
theorem updN_zero (rs : List Int) (now : Int) (ports : List S84) : updN rs now ports 0 = ports := by
  apply List.ext_getElem
  · exact updN_len _ _ _ _
  · intro k h1 h2; unfold updN; simp
theorem updN_get (rs : List Int) (now : Int) (ports : List S84) (j : Nat) (hj : j < ports.length) : (updN rs now ports j)[j]'(by rw [updN_len]; exact hj) = ports[j] := by unfold updN; simp
theorem updN_at (rs : List Int) (now : Int) (ports : List S84) (j k : Nat) (h : k < (updN rs now ports j).length) : (updN rs now ports j)[k] = if k < j then setPort (rs.getD k 0) now (ports[k]'(by rw [updN_len] at h; exact h)) else ports[k]'(by rw [updN_len] at h; exact h) := by
  unfold updN; simp
theorem updN_step (rs : List Int) (now : Int) (ports : List S84) (j : Nat) (hj : j < ports.length) : (updN rs now ports j).set j (setPort (rs.getD j 0) now ports[j]) = updN rs now ports (j + 1) := by
  apply List.ext_getElem
  · rw [List.length_set, updN_len, updN_len]
  · intro k h1 h2
    rw [List.getElem_set]
    by_cases e : j = k
    · subst e; rw [if_pos rfl, updN_at, if_pos (by omega)]
    · rw [if_neg e, updN_at, updN_at]
      by_cases h3 : k < j
      · rw [if_pos h3, if_pos (by omega)]
      · rw [if_neg h3, if_neg (by omega)]
abbrev upd (id now : Int) (ports : List S84) : List S84 := updN (roles id (ports.map heardOf)) now ports ports.length
abbrev bst (id : Int) (ports : List S84) : S36 × Int := bestOf id (ports.map heardOf)
def FitP (p : S84) : Prop := Pri.Fit p.f2.f0.f0 ∧ Pri.Fit p.f2.f0.f1 ∧ Pri.Fit p.f1
theorem fit_heard {ports : List S84} (h : ∀ p ∈ ports, FitP p) : ∀ x ∈ ports.map heardOf, FitH x := by
  intro x hx
  obtain ⟨p, hp, rfl⟩ := List.mem_map.1 hx
  exact h p hp
def encI (x : Int) : List Value := [.int .i64 x]
theorem encI_M (w : World) (base : Nat) (ok : Nat → Prop) (x : Int) (cs : List Value) (h : (Kd.int .i64).M w base ok x cs) : cs = encI x := h
abbrev TFn (g b : Nat) (w : World) : Nat → Prop := fun k => TF g b k ∨ w.heap.size ≤ k
theorem trn_widen {base : Nat} {w0 w W : World} {g b : Nat} (a : Trn base w0 w (TF g b) (TF g b) W) : Trn base w0 w (TF g b) (TFn g b w) W := ⟨a.bel, a.kept, fun k hk => hk⟩
theorem trn_narrow {base : Nat} {w0 w W : World} {g b : Nat} (a : Trn base w0 w (TF g b) (TFn g b w) W) : Trn base w0 w (TF g b) (TF g b) W := ⟨a.bel, a.kept, fun k hk => .inl hk⟩
structure L2 (base g b cap : Nat) (id now : Int) (ports : List S84) (v : S36) (r change : Int) (rs : List Int) (rb rc : Nat) (w0 w : World) (j m : Nat) (W : World) : Prop where
  tre : Tre W base g b cap id (updN rs now ports j) v r change
  row : ∃ rs', Own encI 1 3 W rb rc rs' ∧ rs'.length = rs.length ∧ ∀ k, m ≤ k → rs'[k]? = rs[k]?
  trn : Trn base w0 w (TF g b) (TFn g b w) W
theorem setR_f2 (p : S82) (r now : Int) : (setR p r now).2.f2 = p.f2 := by
  unfold setR
  repeat' split
  all_goals rfl
theorem rset_port {W : World} {base g b cap : Nat} {id root change : Int} {P : List S84} {best : S36} (h : Tre W base g b cap id P best root change) (j : Nat) (hj : j < P.length) (x : S84) (e : P[j] = x) (r now : Int) :
    Calls Tryd.prog 51 #[.pointer (some ⟨b, j * 13 + 10, none⟩), .int .i64 r, .int .i64 now] W fun e w' => e = .returned (.bool (setR x.f4 r now).1) ∧ RSet b (j * 13 + 10) x.f4 (setR x.f4 r now).2 W w' := by
  have k := pcells h.row j hj
  rw [e] at k
  exact rset_calls b (j * 13 + 10) x.f4 r now W k.c10 k.c11 (h.row.fz _) (h.row.fz _)
theorem port_set {W W' : World} {base g b cap : Nat} {id root change : Int} {P : List S84} {best : S36} (h : Tre W base g b cap id P best root change) (j : Nat) (hj : j < P.length) (p' : S82) (e2 : p'.f2 = P[j].f4.f2) (hs : RSet b (j * 13 + 10) P[j].f4 p' W W') :
    Tre W' base g b cap id (P.set j ⟨P[j].f0, P[j].f1, P[j].f2, P[j].f3, p'⟩) best root change := by
  rcases hs.out with ⟨e, e'⟩ | e'
  · subst e e'
    rw [show P.set j ⟨P[j].f0, P[j].f1, P[j].f2, P[j].f3, P[j].f4⟩ = P from by rw [show (⟨P[j].f0, P[j].f1, P[j].f2, P[j].f3, P[j].f4⟩ : S84) = P[j] from rfl, List.set_getElem_self]]
    exact h
  · subst e'
    obtain ⟨q0, q1, q2⟩ := p'
    dsimp only at e2
    have o1 := h.row.put enc84_len j 10 hj (by decide) ⟨P[j].f0, P[j].f1, P[j].f2, P[j].f3, ⟨q0, P[j].f4.f1, P[j].f4.f2⟩⟩ (.int .i64 q0) rfl
    have o2 := o1.put enc84_len j 11 (by rw [List.length_set]; exact hj) (by decide) ⟨P[j].f0, P[j].f1, P[j].f2, P[j].f3, ⟨q0, q1, P[j].f4.f2⟩⟩ (.int .i64 q1) (by rw [List.getElem_set_self]; rfl)
    rw [List.set_set] at o2
    subst e2
    refine ⟨?_, o2, h.ne, h.low, h.lowb, h.cap_le⟩
    rw [List.length_set]
    exact blk_far (blk_far h.cell h.ne _) h.ne _
theorem trn_rset {W W' : World} {base g b q : Nat} {w0 w : World} {p p' : S82} (a : Trn base w0 w (TF g b) (TFn g b w) W) (hs : base ≤ w.heap.size) (hb : base ≤ b) (h : RSet b q p p' W W') : Trn base w0 w (TF g b) (TFn g b w) W' := by
  rcases h.out with ⟨_, e⟩ | e
  · subst e; exact a
  · subst e; exact (a.set hs (.inl (.inr rfl)) hb _ _).set hs (.inl (.inr rfl)) hb _ _
theorem kept_cell {w W : World} {S : Nat → Prop} (hk : Kept w W S) {a : Addr} {v : Value} (hn : ¬ S a.block) (hc : w.cell? a = some v) : W.cell? a = some v := by
  have hlt := World.block_lt_of_cell? w a hc
  have := hk.2 a.block hlt hn
  rw [← hc]
  unfold World.cell?
  rw [this]
theorem kept_rset {W W' : World} {b q : Nat} {p p' : S82} (h : RSet b q p p' W W') : Kept W W' (fun k => k = b) := by
  rcases h.out with ⟨_, e⟩ | e
  · subst e; exact Kept.refl _ _
  · subst e; exact Kept.setCell (S := fun k => k = b) (Gen.kept_set _ _ _ _) (p := ⟨b, q + 1, none⟩) (.inl rfl) _
section
variable {base g b cap : Nat} {id now : Int} {ports : List S84} {v : S36} {r change : Int} {rs : List Int} {rb rc : Nat} {w0 w W W' : World} {j m : Nat}
theorem L2.below (h : L2 base g b cap id now ports v r change rs rb rc w0 w j m W) (hs : base ≤ w.heap.size) (hb : Below W.heap.size W W') : L2 base g b cap id now ports v r change rs rb rc w0 w j m W' := by
  obtain ⟨rs', h1, h2, h3⟩ := h.row
  exact ⟨h.tre.below hb, ⟨rs', h1.below hb, h2, h3⟩, Trn.below h.trn hs hb⟩
theorem L2.put (h : L2 base g b cap id now ports v r change rs rb rc w0 w j j W) (hs : base ≤ w.heap.size) (hr : w.heap.size ≤ rb) (hg : rb ≠ g) (hb : rb ≠ b) (hj : j < rs.length) (x : Int) : L2 base g b cap id now ports v r change rs rb rc w0 w j (j + 1) (W.setCell ⟨rb, j, none⟩ (.int .i64 x)) := by
  obtain ⟨rs', h1, h2, h3⟩ := h.row
  refine ⟨h.tre.kept (Gen.kept_set W rb j _) (fun e => hg e.symm) (fun e => hb e.symm), ⟨rs'.set j x, ?_, by rw [List.length_set]; exact h2, fun k hk => ?_⟩, h.trn.set hs (.inr hr) (by omega) _ _⟩
  · have := h1.put (fun _ => rfl) j 0 (by omega) (by decide) x (.int .i64 x) rfl
    simpa using this
  · rw [List.getElem?_set_ne (by omega)]
    exact h3 k (by omega)
theorem L2.step (h : L2 base g b cap id now ports v r change rs rb rc w0 w j m W) (hs : base ≤ w.heap.size) (hm : m ≤ j + 1) (hb : rb ≠ b) (hj : j < ports.length) (q : Int) (hq : q = if ports[j].f0 = true then rs.getD j 0 else 0)
    (hS : RSet b (j * 13 + 10) ports[j].f4 (setR ports[j].f4 q now).2 W W') : L2 base g b cap id now ports v r change rs rb rc w0 w (j + 1) (j + 1) W' := by
  obtain ⟨rs', h1, h2, h3⟩ := h.row
  have hl : j < (updN rs now ports j).length := by rw [updN_len]; exact hj
  have hx := updN_get rs now ports j hj
  refine ⟨?_, ⟨rs', h1.kept (kept_rset hS) hb, h2, fun k hk => h3 k (by omega)⟩, trn_rset h.trn hs h.tre.lowb hS⟩
  have := port_set h.tre j hl (setR ports[j].f4 q now).2 (by rw [hx]; exact setR_f2 _ _ _) (by rw [hx]; exact hS)
  rw [hx] at this
  rw [← updN_step rs now ports j hj]
  unfold setPort
  rw [← hq]
  exact this
end
set_option maxHeartbeats 8000000 in
set_option maxRecDepth 100000 in
theorem update_calls (base g b cap : Nat) (id : Int) (ports : List S84) (best : S36) (root change now : Int) (w0 w : World) (hB : Below base w0 w) (hs : base ≤ w.heap.size) (ht : Tre w base g b cap id ports best root change) (hn : ports.length ≤ 100) (hn1 : 1 ≤ ports.length) (hf : ∀ p ∈ ports, FitP p) :
    Calls Tryd.prog 36 #[.pointer (some ⟨g, 0, none⟩), .int .i64 now] w fun e w' => e = .returned (.tuple #[]) ∧ Tre w' base g b cap id (upd id now ports) (bst id ports).1 (bst id ports).2 change ∧ Trn base w0 w (TF g b) (TF g b) w' := by
  have e50 : ∀ args w, (callFunc 50 args).run Tryd.prog w = .ok (.enter 50 args) w := enters_of Tryd.func50 (by kernel_rfl) rfl
  have hg1 : w.cell? ⟨g, 1, none⟩ = some (.slice (some ⟨b, 0, none⟩) ports.length cap) := (blk_cell ht.cell 1).trans rfl
  have HT := Aside0.mk ht
  have HFH := Aside0.mk (fit_heard hf)
  have HTR := Aside0.mk (fun (W : World) (hb : Below w.heap.size w W) => Trn.of_below (F := TF g b) hB hs hb)
  have HSZ := Aside0.mk hs
  have e51 : ∀ args w, (callFunc 51 args).run Tryd.prog w = .ok (.enter 51 args) w := enters_of Tryd.func51 (by kernel_rfl) rfl
  clear ht hf hB hs
  go_enter Tryd.func36, Tryd.ntmps36
  go_wp2
  go_loopg [4, 18] ports.length (fun gk s4 s18 wr => ∃ i : Nat, s18 = .int .i64 i ∧ i ≤ ports.length ∧ ports.length - i ≤ gk ∧ Aside0 (Kd.R k80 80 wr w.heap.size (fun _ => True) s4 ((ports.take i).map heardOf)) ∧ Aside0 (Below w.heap.size w wr))
  case atStart => exact ⟨0, rfl, Nat.zero_le _, by omega, ⟨Kd.R_nil _ _ _ _ _⟩, ⟨Below.refl _ _⟩⟩
  case round =>
    obtain ⟨i, rfl, hil, hgk, HO, HB⟩ := hrel
    by_cases hlt : i < ports.length
    · have hlz : (i : Int) < (ports.length : Int) := by omega
      obtain ⟨hx0, hx1, hx2, hx3, hx4, hx5, hx6, hx7, hx8, hx9, hx10, hx11, hx12⟩ := pcells (HT.out.below HB.out).row i hlt
      have hst : (ports.take (i + 1)).map heardOf = (ports.take i).map heardOf ++ [heardOf ports[i]] := by rw [List.take_succ_eq_append_getElem hlt, List.map_append]; rfl
      have HST := Aside0.mk hst
      have HLL := Aside0.mk (show (((ports.take i).map heardOf).length + 1) * 56 ≤ 140737488355328 by rw [List.length_map, List.length_take]; omega)
      clear hst
      generalize (ports.take i).map heardOf = Q at HO HST HLL
      generalize ports[i] = x at hx0 hx1 hx2 hx3 hx4 hx5 hx6 hx7 hx8 hx9 hx10 hx11 hx12 HST
      obtain ⟨p0, p1, ⟨⟨v0, v1, v2, v3⟩, v4, v5, v6⟩, p3, ⟨q0, q1, q2⟩⟩ := x
      dsimp only at hx0 hx1 hx2 hx3 hx4 hx5 hx6 hx7 hx8 hx9 hx10 hx11 hx12
      have key : (v6 = true) ∨ (v6 = false ∧ p0 = true) ∨ (v6 = false ∧ p0 = false) := by cases v6 <;> cases p0 <;> simp
      rcases key with e6 | ⟨e6, e0⟩ | ⟨e6, e0⟩
      · subst e6
        go_wp2_with ((with_reducible refine gate_builtin (b := .append) (xs := #[.tmp 35, .tmp 37]) rfl ?_); at_builtin; refine Kd.R_append k80 (w0 := w) w.heap.size rfl (.tmp 35) (.tmp 37) 94 80 (.agg #[(.int .i64 0), (.int .i64 0), (.int .i64 0), (.int .i64 0), (.int .i64 0), (.int .i64 0), (.bool false)]) 56 rfl Tryd.underlying94 info80 rfl (by decide) (by omega) u4 Q ⟨⟨v0, v1, v2, v3⟩, v4, p1, true⟩ [.int .i64 v0, .int .i64 v1, .int .i64 v2, .int .i64 v3, .int .i64 v4, .int .i64 p1, .bool true] (fun _ => True) (fun _ => False) rfl ?hx ?aP (fun _ hk => hk.elim) ?aF ?aO ?aB ?aS ?aL ?_; (case hx => simp [Act.eval, World.size_alloc]); (case aP => exact k80_mkM _ _ _ ⟨⟨v0, v1, v2, v3⟩, v4, p1, true⟩); (case aB => repeat (with_reducible first | exact HB.out | apply below_alloc | apply pw_below_drewN | apply below_drew1)); (case aF => exact fun _ _ => trivial); (case aO => (with_reducible repeat (first | apply Kd.R_alloc | apply Kd.R_drewN | apply Kd.R_drew)); exact HO.out); (case aS => exact (by repeat (with_reducible first | exact HB.out | apply below_alloc | apply pw_below_drewN | apply below_drew1) : Below w.heap.size w _).size); (case aL => exact HLL.out); intro u5 w4 ho4 hb4 hg4 hat4; have HO4 := Aside0.mk ho4; have HB4 := Aside0.mk hb4; clear ho4 hb4 hg4 hat4)
        go_roundg (ports.length - (i + 1))
        case measure => omega
        case rel => exact ⟨i + 1, by go_num, by omega, Nat.le_refl _, ⟨by rw [HST.out]; exact HO4.out⟩, HB4⟩
      · subst e6; subst e0
        go_wp2_with ((with_reducible refine gate_builtin (b := .append) (xs := #[.tmp 35, .tmp 37]) rfl ?_); at_builtin; refine Kd.R_append k80 (w0 := w) w.heap.size rfl (.tmp 35) (.tmp 37) 94 80 (.agg #[(.int .i64 0), (.int .i64 0), (.int .i64 0), (.int .i64 0), (.int .i64 0), (.int .i64 0), (.bool false)]) 56 rfl Tryd.underlying94 info80 rfl (by decide) (by omega) u4 Q ⟨⟨v0, v1, v2, v3⟩, v4, p1, false⟩ [.int .i64 v0, .int .i64 v1, .int .i64 v2, .int .i64 v3, .int .i64 v4, .int .i64 p1, .bool false] (fun _ => True) (fun _ => False) rfl ?hx ?aP (fun _ hk => hk.elim) ?aF ?aO ?aB ?aS ?aL ?_; (case hx => simp [Act.eval, World.size_alloc]); (case aP => exact k80_mkM _ _ _ ⟨⟨v0, v1, v2, v3⟩, v4, p1, false⟩); (case aB => repeat (with_reducible first | exact HB.out | apply below_alloc | apply pw_below_drewN | apply below_drew1)); (case aF => exact fun _ _ => trivial); (case aO => (with_reducible repeat (first | apply Kd.R_alloc | apply Kd.R_drewN | apply Kd.R_drew)); exact HO.out); (case aS => exact (by repeat (with_reducible first | exact HB.out | apply below_alloc | apply pw_below_drewN | apply below_drew1) : Below w.heap.size w _).size); (case aL => exact HLL.out); intro u5 w4 ho4 hb4 hg4 hat4; have HO4 := Aside0.mk ho4; have HB4 := Aside0.mk hb4; clear ho4 hb4 hg4 hat4)
        go_roundg (ports.length - (i + 1))
        case measure => omega
        case rel => exact ⟨i + 1, by go_num, by omega, Nat.le_refl _, ⟨by rw [HST.out]; exact HO4.out⟩, HB4⟩
      · subst e6; subst e0
        go_wp2_with ((with_reducible refine gate_builtin (b := .append) (xs := #[.tmp 35, .tmp 37]) rfl ?_); at_builtin; refine Kd.R_append k80 (w0 := w) w.heap.size rfl (.tmp 35) (.tmp 37) 94 80 (.agg #[(.int .i64 0), (.int .i64 0), (.int .i64 0), (.int .i64 0), (.int .i64 0), (.int .i64 0), (.bool false)]) 56 rfl Tryd.underlying94 info80 rfl (by decide) (by omega) u4 Q ⟨⟨v0, v1, v2, v3⟩, v4, p1, true⟩ [.int .i64 v0, .int .i64 v1, .int .i64 v2, .int .i64 v3, .int .i64 v4, .int .i64 p1, .bool true] (fun _ => True) (fun _ => False) rfl ?hx ?aP (fun _ hk => hk.elim) ?aF ?aO ?aB ?aS ?aL ?_; (case hx => simp [Act.eval, World.size_alloc]); (case aP => exact k80_mkM _ _ _ ⟨⟨v0, v1, v2, v3⟩, v4, p1, true⟩); (case aB => repeat (with_reducible first | exact HB.out | apply below_alloc | apply pw_below_drewN | apply below_drew1)); (case aF => exact fun _ _ => trivial); (case aO => (with_reducible repeat (first | apply Kd.R_alloc | apply Kd.R_drewN | apply Kd.R_drew)); exact HO.out); (case aS => exact (by repeat (with_reducible first | exact HB.out | apply below_alloc | apply pw_below_drewN | apply below_drew1) : Below w.heap.size w _).size); (case aL => exact HLL.out); intro u5 w4 ho4 hb4 hg4 hat4; have HO4 := Aside0.mk ho4; have HB4 := Aside0.mk hb4; clear ho4 hb4 hg4 hat4)
        go_roundg (ports.length - (i + 1))
        case measure => omega
        case rel => exact ⟨i + 1, by go_num, by omega, Nat.le_refl _, ⟨by rw [HST.out]; exact HO4.out⟩, HB4⟩
    · have e : i = ports.length := by omega
      subst e
      rw [List.take_length] at HO
      obtain ⟨A4, c4, e4, hc4, hC4⟩ := Gen.R_open HO.out
      rw [List.length_map] at e4
      subst e4
      have HRC := Aside0.mk (roles_calls id A4 c4 (ports.map heardOf) wr hC4 hc4 (by rw [List.length_map]; omega) HFH.out)
      rw [List.length_map] at HRC
      have hg0 : wr.cell? ⟨g, 0, none⟩ = some (.int .i64 id) := (blk_cell (HT.out.below HB.out).cell 0).trans rfl
      have hgw : g < wr.heap.size := (HT.out.below HB.out).lt
      have hrl : (roles id (ports.map heardOf)).length = ports.length := by rw [Pri.roles_len, List.length_map]
      have HUPD := Aside0.mk (show upd id now ports = updN (roles id (ports.map heardOf)) now ports ports.length from rfl)
      have HBST := Aside0.mk (show bst id ports = bestOf id (ports.map heardOf) from rfl)
      generalize bestOf id (ports.map heardOf) = bb at *
      generalize roles id (ports.map heardOf) = rs at *
      obtain ⟨⟨b0, b1, b2, b3⟩, br⟩ := bb
      dsimp only at HRC
      clear hc4 hC4 HO
      go_wp2_with (go_at_fn 50; refine HRC.out.mono ?_; rintro e w3 ⟨v3, rfl, hr3, hb3⟩; have HB3 := Aside0.mk (below_step HB.out hb3); have ht3 := HT.out.below (below_step HB.out hb3); have hh1 : w3.cell? ⟨g, 1, none⟩ = some (.slice (some ⟨b, 0, none⟩) ports.length cap) := (blk_cell ht3.cell 1).trans rfl; have hh2 : w3.cell? ⟨g, 2, none⟩ = some (.int .i64 best.f0) := (blk_cell ht3.cell 2).trans rfl; have hh3 : w3.cell? ⟨g, 3, none⟩ = some (.int .i64 best.f1) := (blk_cell ht3.cell 3).trans rfl; have hh4 : w3.cell? ⟨g, 4, none⟩ = some (.int .i64 best.f2) := (blk_cell ht3.cell 4).trans rfl; have hh5 : w3.cell? ⟨g, 5, none⟩ = some (.int .i64 best.f3) := (blk_cell ht3.cell 5).trans rfl; have hh6 : w3.cell? ⟨g, 6, none⟩ = some (.int .i64 root) := (blk_cell ht3.cell 6).trans rfl; have hq2 := blk_frozen ht3.cell 2; have hq3 := blk_frozen ht3.cell 3; have hq4 := blk_frozen ht3.cell 4; have hq5 := blk_frozen ht3.cell 5; have hq6 := blk_frozen ht3.cell 6; have hgl : g < w3.heap.size := ht3.lt; have hgn : ¬ (g = w3.heap.size) := Nat.ne_of_lt ht3.lt; have HR3 := Aside0.mk hr3; have HT3 := Aside0.mk ht3; clear ht3 hr3 hb3)
      rcases Own.ofR (enc := encI) (k := 1) (fun _ => rfl) rfl encI_M HR3.out with ⟨_, e2⟩ | ⟨rb, rc, e3, _, hrb, hrc, hrow⟩
      · subst e2; simp at hrl; omega
      rw [hrl] at e3
      subst e3
      have hwb : w.heap.size ≤ rb := Nat.le_trans HB.out.size hrb
      have hrbb : rb ≠ b := by have := (HT.out.below HB.out).row.lt; omega
      have hrbg : rb ≠ g := by omega
      have HRW := Aside0.mk hrow
      clear hrow HR3
      go_loopg [63] ports.length (fun gk s63 wr => ∃ j : Nat, s63 = .int .i64 j ∧ j ≤ ports.length ∧ ports.length - j ≤ gk ∧ Aside0 (L2 base g b cap id now ports ⟨b0, b1, b2, b3⟩ br change rs rb rc w0 w j j wr))
      case atStart =>
        refine ⟨0, rfl, Nat.zero_le _, by omega, ⟨?_, ⟨rs, ?_, rfl, fun _ _ => rfl⟩, ?_⟩⟩
        · rw [updN_zero]
          exact (HT3.out.setBest ⟨b0, b1, b2, b3⟩ br).below (below_alloc (Below.refl _ _) _)
        · exact (HRW.out.kept (kept_setBest w3 g ⟨b0, b1, b2, b3⟩ br) (fun e => by have := hgw; omega)).below (below_alloc (Below.refl _ _) _)
        · exact (trn_widen (Trn.below (trn_setBest (HTR.out w3 HB3.out) HSZ.out HT3.out.low ⟨b0, b1, b2, b3⟩ br) HSZ.out (below_alloc (Below.refl _ _) _)))
      case round =>
        obtain ⟨j, rfl, hjl, hgk2, HL⟩ := hrel
        by_cases hlt2 : j < ports.length
        · have hlz2 : (j : Int) < (ports.length : Int) := by omega
          have htj := HL.out.tre
          obtain ⟨rs', hrow, hrl', hrs⟩ := HL.out.row
          have hjr : j < rs'.length := by omega
          have hrv : rs'[j] = rs.getD j 0 := by
            have := hrs j (Nat.le_refl _)
            rw [List.getElem?_eq_getElem hjr] at this
            rw [List.getD_eq_getElem?_getD, ← this]; rfl
          have hr0 : wr.cell? ⟨rb, j, none⟩ = some (.int .i64 (rs.getD j 0)) := by
            have := hrow.at_ (fun _ => rfl) j 0 hjr (by decide)
            rw [hrv] at this
            simpa [encI] using this
          have hzr := hrow.fz j
          obtain ⟨q, hq⟩ : ∃ q, rs.getD j 0 = q := ⟨_, rfl⟩
          rw [hq] at hr0
          have HQ := Aside0.mk hq
          clear hq hrv
          have hpl : j < (updN rs now ports j).length := by rw [updN_len]; exact hlt2
          obtain ⟨hx0, hx1, hx2, hx3, hx4, hx5, hx6, hx7, hx8, hx9, hx10, hx11, hx12⟩ := pcells htj.row j hpl
          rw [updN_get rs now ports j hlt2] at hx0 hx10 hx11
          clear hx1 hx2 hx3 hx4 hx5 hx6 hx7 hx8 hx9 hx12
          have hk1 : wr.cell? ⟨g, 1, none⟩ = some (.slice (some ⟨b, 0, none⟩) ports.length cap) := by
            have := blk_cell htj.cell 1
            rw [updN_len] at this
            exact this.trans rfl
          have hz10 := htj.row.fz (j * 13 + 10)
          have hz11 := htj.row.fz (j * 13 + 10 + 1)
          have HRO := Aside0.mk hrow
          have HRS := Aside0.mk hrs
          clear htj hrow hrs
          have key : ports[j].f0 = true ∨ ports[j].f0 = false := by cases ports[j].f0 <;> simp
          rcases key with e0 | e0
          · rw [e0] at hx0
            have HRT := Aside0.mk (fun (W : World) (hb : Below wr.heap.size wr W) => rset_port (HL.out.tre.below hb) j hpl ports[j] (updN_get rs now ports j hlt2) q now)
            have hrd : wr.drew.cell? ⟨rb, j, none⟩ = some (.int .i64 q) := pw_cell_below (below_drew1 (Below.refl _ _)) hr0
            go_wp2_with fail
            go_region_held3 (fun W => W.cell? ⟨rb, j, none⟩ = some (.int .i64 q)) (first | assumption) (first
              | (go_at_call 51; with_reducible refine (HRT.out _ (below_drew1 (Below.refl _ _))).mono ?_; rintro e w5 ⟨rfl, h5⟩; have HS5 := Aside0.mk h5; have hr5 : w5.cell? ⟨rb, j, none⟩ = some (.int .i64 q) := kept_cell (kept_rset h5) hrbb hrd; clear h5))
            go_wp2
            go_roundg (ports.length - (j + 1))
            case measure => omega
            case rel => exact ⟨j + 1, by go_num, by omega, Nat.le_refl _, ⟨(HL.out.below HSZ.out (below_drew1 (Below.refl _ _))).step HSZ.out (by omega) hrbb hlt2 q (by rw [if_pos e0]; exact HQ.out.symm) HS5.out⟩⟩
          · rw [e0] at hx0
            have HL0 := Aside0.mk (HL.out.put HSZ.out hwb hrbg hrbb (by omega) 0)
            have HRT := Aside0.mk (fun (W : World) (hb : Below (wr.setCell ⟨rb, j, none⟩ (.int .i64 0)).heap.size (wr.setCell ⟨rb, j, none⟩ (.int .i64 0)) W) => rset_port (HL0.out.tre.below hb) j hpl ports[j] (updN_get rs now ports j hlt2) 0 now)
            have hra : (wr.setCell ⟨rb, j, none⟩ (.int .i64 0)).cell? ⟨rb, j, none⟩ = some (.int .i64 0) := by
              obtain ⟨rs2, h1, h2, h3⟩ := HL.out.row
              have := (h1.put (fun _ => rfl) j 0 (by omega) (by decide) 0 (.int .i64 0) rfl).at_ (fun _ => rfl) j 0 (by rw [List.length_set]; omega) (by decide)
              simpa [encI] using this
            have hrd : (wr.setCell ⟨rb, j, none⟩ (.int .i64 0)).drew.cell? ⟨rb, j, none⟩ = some (.int .i64 0) := pw_cell_below (below_drew1 (Below.refl _ _)) hra
            go_wp2_with fail
            go_region_held3 (fun W => W.cell? ⟨rb, j, none⟩ = some (.int .i64 0)) (first | assumption) (first
              | (go_at_call 51; with_reducible refine (HRT.out _ (below_drew1 (Below.refl _ _))).mono ?_; rintro e w5 ⟨rfl, h5⟩; have HS5 := Aside0.mk h5; have hr5 : w5.cell? ⟨rb, j, none⟩ = some (.int .i64 0) := kept_cell (kept_rset h5) hrbb hrd; clear h5))
            go_wp2
            go_roundg (ports.length - (j + 1))
            case measure => omega
            case rel => exact ⟨j + 1, by go_num, by omega, Nat.le_refl _, ⟨(HL0.out.below HSZ.out (below_drew1 (Below.refl _ _))).step HSZ.out (by omega) hrbb hlt2 0 (by rw [if_neg (by rw [e0]; decide)]) HS5.out⟩⟩
        · have e : j = ports.length := by omega
          subst e
          go_wp2
          go_end0
          refine ⟨rfl, ?_, trn_narrow HL.out.trn⟩
          rw [HUPD.out, HBST.out]
          exact HL.out.tre
end Go.Proofs.YtfimhaodgekkgaaDoor.QTre
namespace Go.Proofs.YtfimhaodgekkgaaDoor.QTre
open Go.RowKit Go.Proofs.YtfimhaodgekkgaaDoorW.PrintWords Go.Proofs.YtfimhaodgekkgaaDoorW.PrintLast Go.Proofs.YtfimhaodgekkgaaDoorW.PrintMore
open Go.Proofs.YtfimhaodgekkgaaDoor.Gen (Own Trn)
open Go.Proofs.YtfimhaodgekkgaaDoor.Pri (FitH roles bestOf role)
set_option linter.unusedVariables false
set_option linter.unusedSimpArgs false
theorem Tre.put {W : World} {base g b cap : Nat} {id root change : Int} {P : List S84} {best : S36} {k : Nat} {x : S84} (h : Tre W base g b cap id (P.set k x) best root change) (hk : k < P.length) (j : Nat) (hj : j < 13) (y : S84) (v : Value) (e : enc84 y = (enc84 x).set j v) :
    Tre (W.setCell ⟨b, k * 13 + j, none⟩ v) base g b cap id (P.set k y) best root change := by
  have o := h.row.put enc84_len k j (by rw [List.length_set]; exact hk) hj y v (by rw [List.getElem_set_self]; exact e)
  rw [List.set_set] at o
  refine ⟨?_, o, h.ne, h.low, h.lowb, h.cap_le⟩
  have := h.cell
  rw [List.length_set] at this ⊢
  exact blk_far this h.ne _
theorem Tre.same {W : World} {base g b cap : Nat} {id root change : Int} {P : List S84} {best : S36} (h : Tre W base g b cap id P best root change) (k : Nat) (hk : k < P.length) : Tre W base g b cap id (P.set k P[k]) best root change := by
  rw [List.set_getElem_self]; exact h
set_option maxHeartbeats 4000000 in
set_option maxRecDepth 100000 in
theorem set_bad (base g b cap : Nat) (id : Int) (ports : List S84) (best : S36) (root change : Int) (w : World) (ht : Tre w base g b cap id ports best root change) (i : Int) (up : Bool) (cost now : Int) (hbad : ¬ (0 ≤ i ∧ i < (ports.length : Int)) ∨ cost < 1 ∨ 16777216 < cost) :
    Calls Tryd.prog 15 #[.pointer (some ⟨g, 0, none⟩), .int .i64 i, .bool up, .int .i64 cost, .int .i64 now] w fun e w' => e = .returned (.int .i64 1) ∧ w' = w := by
  have e35 : ∀ args w, (callFunc 35 args).run Tryd.prog w = .ok (.enter 35 args) w := enters_of Tryd.func35 (by kernel_rfl) rfl
  have hg1 : w.cell? ⟨g, 1, none⟩ = some (.slice (some ⟨b, 0, none⟩) ports.length cap) := (blk_cell ht.cell 1).trans rfl
  have HI := Aside0.mk (is_calls w g _ _ _ hg1 i)
  clear ht
  have key : (decide (0 ≤ i ∧ i < (ports.length : Int)) = false) ∨ (decide (0 ≤ i ∧ i < (ports.length : Int)) = true ∧ cost < 1) ∨ (decide (0 ≤ i ∧ i < (ports.length : Int)) = true ∧ ¬ cost < 1 ∧ 16777216 < cost) := by
    simp only [decide_eq_true_eq, decide_eq_false_iff_not]; omega
  clear hbad
  rcases key with e | ⟨e, k⟩ | ⟨e, k, k2⟩
  all_goals
    rw [e] at HI
    clear e
    go_enter Tryd.func15, Tryd.ntmps15
    go_wp2_with (go_at_fn 35; refine HI.out.mono ?_; rintro e w1 ⟨rfl, e1⟩; have e2 := e1.symm; subst e2)
    go_ret
    exact ⟨rfl, rfl⟩
def none80 : S80 := ⟨⟨0, 0, 0, 0⟩, 0, 0, true⟩
abbrev forget (w : World) (b k : Nat) : World := ((((((w.setCell ⟨b, k * 13 + 2, none⟩ (.int .i64 0)).setCell ⟨b, k * 13 + 2 + 1, none⟩ (.int .i64 0)).setCell ⟨b, k * 13 + 2 + 2, none⟩ (.int .i64 0)).setCell ⟨b, k * 13 + 2 + 3, none⟩ (.int .i64 0)).setCell ⟨b, k * 13 + 2 + 4, none⟩ (.int .i64 0)).setCell ⟨b, k * 13 + 2 + 5, none⟩ (.int .i64 0)).setCell ⟨b, k * 13 + 2 + 6, none⟩ (.bool true)
theorem Tre.forget {W : World} {base g b cap : Nat} {id root change : Int} {P : List S84} {best : S36} {k : Nat} {x : S84} (h : Tre W base g b cap id (P.set k x) best root change) (hk : k < P.length) : Tre (forget W b k) base g b cap id (P.set k ⟨x.f0, x.f1, none80, x.f3, x.f4⟩) best root change :=
  ((((((h.put hk 2 (by decide) ⟨x.f0, x.f1, ⟨⟨0, x.f2.f0.f1, x.f2.f0.f2, x.f2.f0.f3⟩, x.f2.f1, x.f2.f2, x.f2.f3⟩, x.f3, x.f4⟩ _ rfl).put hk 3 (by decide) ⟨x.f0, x.f1, ⟨⟨0, 0, x.f2.f0.f2, x.f2.f0.f3⟩, x.f2.f1, x.f2.f2, x.f2.f3⟩, x.f3, x.f4⟩ _ rfl).put hk 4 (by decide) ⟨x.f0, x.f1, ⟨⟨0, 0, 0, x.f2.f0.f3⟩, x.f2.f1, x.f2.f2, x.f2.f3⟩, x.f3, x.f4⟩ _ rfl).put hk 5 (by decide) ⟨x.f0, x.f1, ⟨⟨0, 0, 0, 0⟩, x.f2.f1, x.f2.f2, x.f2.f3⟩, x.f3, x.f4⟩ _ rfl).put hk 6 (by decide) ⟨x.f0, x.f1, ⟨⟨0, 0, 0, 0⟩, 0, x.f2.f2, x.f2.f3⟩, x.f3, x.f4⟩ _ rfl).put hk 7 (by decide) ⟨x.f0, x.f1, ⟨⟨0, 0, 0, 0⟩, 0, 0, x.f2.f3⟩, x.f3, x.f4⟩ _ rfl).put hk 8 (by decide) ⟨x.f0, x.f1, none80, x.f3, x.f4⟩ _ rfl
theorem trn_forget {base : Nat} {w0 w W : World} {g b : Nat} (a : Trn base w0 w (TF g b) (TF g b) W) (hs : base ≤ w.heap.size) (hb : base ≤ b) (k : Nat) : Trn base w0 w (TF g b) (TF g b) (forget W b k) :=
  ((((((a.set hs (.inr rfl) hb _ _).set hs (.inr rfl) hb _ _).set hs (.inr rfl) hb _ _).set hs (.inr rfl) hb _ _).set hs (.inr rfl) hb _ _).set hs (.inr rfl) hb _ _).set hs (.inr rfl) hb _ _
theorem fit_set {P : List S84} (h : ∀ p ∈ P, FitP p) (k : Nat) (x : S84) (hx : FitP x) : ∀ p ∈ P.set k x, FitP p := by
  intro p hp
  rcases List.mem_or_eq_of_mem_set hp with h1 | h1
  · exact h p h1
  · subst h1; exact hx
abbrev setUC (w : World) (b k : Nat) (up : Bool) (cost : Int) : World := (w.setCell ⟨b, k * 13, none⟩ (.bool up)).setCell ⟨b, k * 13 + 1, none⟩ (.int .i64 cost)
theorem Tre.uc {W : World} {base g b cap : Nat} {id root change : Int} {P : List S84} {best : S36} {k : Nat} {x : S84} (h : Tre W base g b cap id (P.set k x) best root change) (hk : k < P.length) (up : Bool) (cost : Int) : Tre (setUC W b k up cost) base g b cap id (P.set k ⟨up, cost, x.f2, x.f3, x.f4⟩) best root change :=
  (h.put hk 0 (by decide) ⟨up, x.f1, x.f2, x.f3, x.f4⟩ _ rfl).put hk 1 (by decide) ⟨up, cost, x.f2, x.f3, x.f4⟩ _ rfl
theorem trn_uc {base : Nat} {w0 w W : World} {g b : Nat} (a : Trn base w0 w (TF g b) (TF g b) W) (hs : base ≤ w.heap.size) (hb : base ≤ b) (k : Nat) (up : Bool) (cost : Int) : Trn base w0 w (TF g b) (TF g b) (setUC W b k up cost) :=
  (a.set hs (.inr rfl) hb _ _).set hs (.inr rfl) hb _ _
theorem fit0 : Pri.Fit 0 := ⟨by decide, by decide⟩
def setP (p : S84) (up : Bool) (cost : Int) : S84 := ⟨up, cost, if up != p.f0 then none80 else p.f2, p.f3, p.f4⟩
set_option maxHeartbeats 4000000 in
set_option maxRecDepth 100000 in
theorem set_ok (base g b cap : Nat) (id : Int) (ports : List S84) (best : S36) (root change : Int) (w0 w : World) (hB : Below base w0 w) (hs : base ≤ w.heap.size) (hng : NG w) (ht : Tre w base g b cap id ports best root change) (hn : ports.length ≤ 100) (hf : ∀ p ∈ ports, FitP p) (k : Nat) (hk : k < ports.length) (up : Bool) (cost now : Int) (hc1 : ¬ cost < 1) (hc2 : ¬ 16777216 < cost) :
    Calls Tryd.prog 15 #[.pointer (some ⟨g, 0, none⟩), .int .i64 k, .bool up, .int .i64 cost, .int .i64 now] w fun e w' => e = .returned (.int .i64 0) ∧ Tre w' base g b cap id (upd id now (ports.set k (setP ports[k] up cost))) (bst id (ports.set k (setP ports[k] up cost))).1 (bst id (ports.set k (setP ports[k] up cost))).2 change ∧ Trn base w0 w (TF g b) (TF g b) w' := by
  have e35 : ∀ args w, (callFunc 35 args).run Tryd.prog w = .ok (.enter 35 args) w := enters_of Tryd.func35 (by kernel_rfl) rfl
  have e36 : ∀ args w, (callFunc 36 args).run Tryd.prog w = .ok (.enter 36 args) w := enters_of Tryd.func36 (by kernel_rfl) rfl
  have hg1 : w.cell? ⟨g, 1, none⟩ = some (.slice (some ⟨b, 0, none⟩) ports.length cap) := (blk_cell ht.cell 1).trans rfl
  have hik : decide (0 ≤ (k : Int) ∧ (k : Int) < (ports.length : Int)) = true := by simp only [decide_eq_true_eq]; omega
  have HI := Aside0.mk (is_calls w g _ _ _ hg1 k)
  rw [hik] at HI
  clear hik
  have hlz : (k : Int) < (ports.length : Int) := by omega
  obtain ⟨n0, n1, n2, n3, n4, n5, n6⟩ := hng
  obtain ⟨hx0, hx1, hx2, hx3, hx4, hx5, hx6, hx7, hx8, hx9, hx10, hx11, hx12⟩ := pcells ht.row k hk
  have hz := ht.row.fz
  have hbl := ht.row.lt
  have HT := Aside0.mk ht
  clear ht
  have key : (up = true ∧ ports[k].f0 = false) ∨ (up = false ∧ ports[k].f0 = true) ∨ (up = true ∧ ports[k].f0 = true) ∨ (up = false ∧ ports[k].f0 = false) := by cases up <;> cases ports[k].f0 <;> simp
  have hc : Pri.Fit cost := ⟨by omega, by omega⟩
  rcases key with ⟨e, e2⟩ | ⟨e, e2⟩ | ⟨e, e2⟩ | ⟨e, e2⟩
  · subst e
    have ep : setP ports[k] true cost = ⟨true, cost, none80, ports[k].f3, ports[k].f4⟩ := by unfold setP; rw [e2]; rfl
    have HTr := Aside0.mk (((HT.out.same k hk).forget hk).uc hk true cost)
    have HTn : Aside0 (Trn base w0 w (TF g b) (TF g b) (setUC (forget w b k) b k true cost)) := ⟨trn_uc (trn_forget (Trn.refl hB) hs HT.out.lowb k) hs HT.out.lowb k true cost⟩
    rw [← ep] at HTr
    have hfs : ∀ p ∈ ports.set k (setP ports[k] true cost), FitP p := fit_set hf k _ (by rw [ep]; exact ⟨fit0, fit0, hc⟩)
    generalize setP ports[k] true cost = P' at *
    have HU := Aside0.mk (update_calls base g b cap id (ports.set k P') best root change now w0 (setUC (forget w b k) b k true cost) HTn.out.bel (Nat.le_trans hs HTn.out.size) HTr.out (by rw [List.length_set]; exact hn) (by rw [List.length_set]; omega) hfs)
    rw [e2] at hx0
    clear hfs hf hB hs
    go_enter Tryd.func15, Tryd.ntmps15
    go_wp2_with (first | (go_at_fn 35; refine HI.out.mono ?_; rintro e w1 ⟨rfl, e1⟩; have e2 := e1.symm; subst e2) | (go_at_fn 36; refine HU.out.mono ?_; rintro e w9 ⟨rfl, h9, t9⟩; have H9 := Aside0.mk h9; have T9 := Aside0.mk t9; clear h9 t9))
    go_ret
    exact ⟨rfl, H9.out, HTn.out.trans T9.out⟩
  · subst e
    have ep : setP ports[k] false cost = ⟨false, cost, none80, ports[k].f3, ports[k].f4⟩ := by unfold setP; rw [e2]; rfl
    have HTr := Aside0.mk (((HT.out.same k hk).forget hk).uc hk false cost)
    have HTn : Aside0 (Trn base w0 w (TF g b) (TF g b) (setUC (forget w b k) b k false cost)) := ⟨trn_uc (trn_forget (Trn.refl hB) hs HT.out.lowb k) hs HT.out.lowb k false cost⟩
    rw [← ep] at HTr
    have hfs : ∀ p ∈ ports.set k (setP ports[k] false cost), FitP p := fit_set hf k _ (by rw [ep]; exact ⟨fit0, fit0, hc⟩)
    generalize setP ports[k] false cost = P' at *
    have HU := Aside0.mk (update_calls base g b cap id (ports.set k P') best root change now w0 (setUC (forget w b k) b k false cost) HTn.out.bel (Nat.le_trans hs HTn.out.size) HTr.out (by rw [List.length_set]; exact hn) (by rw [List.length_set]; omega) hfs)
    rw [e2] at hx0
    clear hfs hf hB hs
    go_enter Tryd.func15, Tryd.ntmps15
    go_wp2_with (first | (go_at_fn 35; refine HI.out.mono ?_; rintro e w1 ⟨rfl, e1⟩; have e2 := e1.symm; subst e2) | (go_at_fn 36; refine HU.out.mono ?_; rintro e w9 ⟨rfl, h9, t9⟩; have H9 := Aside0.mk h9; have T9 := Aside0.mk t9; clear h9 t9))
    go_ret
    exact ⟨rfl, H9.out, HTn.out.trans T9.out⟩
  · subst e
    have ep : setP ports[k] true cost = ⟨true, cost, ports[k].f2, ports[k].f3, ports[k].f4⟩ := by unfold setP; rw [e2]; rfl
    have HTr := Aside0.mk ((HT.out.same k hk).uc hk true cost)
    have HTn : Aside0 (Trn base w0 w (TF g b) (TF g b) (setUC w b k true cost)) := ⟨trn_uc (Trn.refl hB) hs HT.out.lowb k true cost⟩
    rw [← ep] at HTr
    have hfs : ∀ p ∈ ports.set k (setP ports[k] true cost), FitP p := fit_set hf k _ (by rw [ep]; exact ⟨(hf _ (List.getElem_mem hk)).1, (hf _ (List.getElem_mem hk)).2.1, hc⟩)
    generalize setP ports[k] true cost = P' at *
    have HU := Aside0.mk (update_calls base g b cap id (ports.set k P') best root change now w0 (setUC w b k true cost) HTn.out.bel (Nat.le_trans hs HTn.out.size) HTr.out (by rw [List.length_set]; exact hn) (by rw [List.length_set]; omega) hfs)
    rw [e2] at hx0
    clear hfs hf hB hs
    go_enter Tryd.func15, Tryd.ntmps15
    go_wp2_with (first | (go_at_fn 35; refine HI.out.mono ?_; rintro e w1 ⟨rfl, e1⟩; have e2 := e1.symm; subst e2) | (go_at_fn 36; refine HU.out.mono ?_; rintro e w9 ⟨rfl, h9, t9⟩; have H9 := Aside0.mk h9; have T9 := Aside0.mk t9; clear h9 t9))
    go_ret
    exact ⟨rfl, H9.out, HTn.out.trans T9.out⟩
  · subst e
    have ep : setP ports[k] false cost = ⟨false, cost, ports[k].f2, ports[k].f3, ports[k].f4⟩ := by unfold setP; rw [e2]; rfl
    have HTr := Aside0.mk ((HT.out.same k hk).uc hk false cost)
    have HTn : Aside0 (Trn base w0 w (TF g b) (TF g b) (setUC w b k false cost)) := ⟨trn_uc (Trn.refl hB) hs HT.out.lowb k false cost⟩
    rw [← ep] at HTr
    have hfs : ∀ p ∈ ports.set k (setP ports[k] false cost), FitP p := fit_set hf k _ (by rw [ep]; exact ⟨(hf _ (List.getElem_mem hk)).1, (hf _ (List.getElem_mem hk)).2.1, hc⟩)
    generalize setP ports[k] false cost = P' at *
    have HU := Aside0.mk (update_calls base g b cap id (ports.set k P') best root change now w0 (setUC w b k false cost) HTn.out.bel (Nat.le_trans hs HTn.out.size) HTr.out (by rw [List.length_set]; exact hn) (by rw [List.length_set]; omega) hfs)
    rw [e2] at hx0
    clear hfs hf hB hs
    go_enter Tryd.func15, Tryd.ntmps15
    go_wp2_with (first | (go_at_fn 35; refine HI.out.mono ?_; rintro e w1 ⟨rfl, e1⟩; have e2 := e1.symm; subst e2) | (go_at_fn 36; refine HU.out.mono ?_; rintro e w9 ⟨rfl, h9, t9⟩; have H9 := Aside0.mk h9; have T9 := Aside0.mk t9; clear h9 t9))
    go_ret
    exact ⟨rfl, H9.out, HTn.out.trans T9.out⟩
end Go.Proofs.YtfimhaodgekkgaaDoor.QTre
namespace Go.Proofs.YtfimhaodgekkgaaDoor.QTre
open Go.RowKit Go.Proofs.YtfimhaodgekkgaaDoorW.PrintWords Go.Proofs.YtfimhaodgekkgaaDoorW.PrintLast Go.Proofs.YtfimhaodgekkgaaDoorW.PrintMore
attribute [local go_sem] max2_int min2_int max_two min_two max_three min_three max_four min_four
set_option linter.unusedVariables false
set_option linter.unusedSimpArgs false
def IsS79 (w0 W : World) (g : Nat) (f0 : Int) (f1 : List (S84)) (f2 : Int) (f3 : Int) (f4 : Int) (f5 : Int) (f6 : Int) (f7 : Int) : Prop := ∃ A1 c1, W.heap[g]? = some (.cells #[.int .i64 f0, .slice A1 f1.length c1, .int .i64 f2, .int .i64 f3, .int .i64 f4, .int .i64 f5, .int .i64 f6, .int .i64 f7] 79 (0, 0)) ∧ w0.heap.size ≤ g ∧ Kd.C k84 w0 A1 f1.length f1
theorem IsS79.grown {w0 W : World} {g : Nat} {f0 : Int} {f1 : List (S84)} {f2 : Int} {f3 : Int} {f4 : Int} {f5 : Int} {f6 : Int} {f7 : Int} {W1 : World} {row : Option Nat} (h : IsS79 w0 W g f0 f1 f2 f3 f4 f5 f6 f7) (hw : W.grownBy W1 row) (hne : some g ≠ row) : IsS79 w0 W1 g f0 f1 f2 f3 f4 f5 f6 f7 := by
  obtain ⟨A1, c1, hb, hg, hr1⟩ := h
  exact ⟨A1, c1, blk_grown hb hw hne, hg, hr1⟩
theorem IsS79.kept {w0 W : World} {g : Nat} {f0 : Int} {f1 : List (S84)} {f2 : Int} {f3 : Int} {f4 : Int} {f5 : Int} {f6 : Int} {f7 : Int} {W1 : World} {S : Nat → Prop} (h : IsS79 w0 W g f0 f1 f2 f3 f4 f5 f6 f7) (hk : Kept W W1 S) (hne : ¬ S g) : IsS79 w0 W1 g f0 f1 f2 f3 f4 f5 f6 f7 := by
  obtain ⟨A1, c1, hb, hg, hr1⟩ := h
  exact ⟨A1, c1, blk_kept hb hk hne, hg, hr1⟩
theorem IsS79.below {w0 W : World} {g : Nat} {f0 : Int} {f1 : List (S84)} {f2 : Int} {f3 : Int} {f4 : Int} {f5 : Int} {f6 : Int} {f7 : Int} {W1 : World} (h : IsS79 w0 W g f0 f1 f2 f3 f4 f5 f6 f7) (hw : Below W.heap.size W W1) : IsS79 w0 W1 g f0 f1 f2 f3 f4 f5 f6 f7 := h.grown (grown_of_below hw none) (by simp)
theorem IsS79.alloc {w0 W : World} {g : Nat} {f0 : Int} {f1 : List (S84)} {f2 : Int} {f3 : Int} {f4 : Int} {f5 : Int} {f6 : Int} {f7 : Int} (h : IsS79 w0 W g f0 f1 f2 f3 f4 f5 f6 f7) (o : Obj) : IsS79 w0 (W.alloc o) g f0 f1 f2 f3 f4 f5 f6 f7 := h.below (below_alloc (Below.refl _ _) o)
theorem IsS79.drewN {w0 W : World} {g : Nat} {f0 : Int} {f1 : List (S84)} {f2 : Int} {f3 : Int} {f4 : Int} {f5 : Int} {f6 : Int} {f7 : Int} (h : IsS79 w0 W g f0 f1 f2 f3 f4 f5 f6 f7) (m : Nat) : IsS79 w0 (W.drewN m) g f0 f1 f2 f3 f4 f5 f6 f7 := h
theorem IsS79.drew {w0 W : World} {g : Nat} {f0 : Int} {f1 : List (S84)} {f2 : Int} {f3 : Int} {f4 : Int} {f5 : Int} {f6 : Int} {f7 : Int} (h : IsS79 w0 W g f0 f1 f2 f3 f4 f5 f6 f7) : IsS79 w0 W.drew g f0 f1 f2 f3 f4 f5 f6 f7 := h
theorem IsS79.at_ {w0 W : World} {g : Nat} {f0 : Int} {f1 : List (S84)} {f2 : Int} {f3 : Int} {f4 : Int} {f5 : Int} {f6 : Int} {f7 : Int} {w' : World} {m : Nat} (hq : W.drewN m = w') (h : IsS79 w0 W g f0 f1 f2 f3 f4 f5 f6 f7) : IsS79 w0 w' g f0 f1 f2 f3 f4 f5 f6 f7 := by subst hq; exact IsS79.drewN h m
theorem IsS79.apart {w0 W : World} {g : Nat} {f0 : Int} {f1 : List (S84)} {f2 : Int} {f3 : Int} {f4 : Int} {f5 : Int} {f6 : Int} {f7 : Int} {α : Type} {d : Kd α} {e : Nat} {base : Nat} {ok : Nat → Prop} {v : Value} {xs : List α} (h : IsS79 w0 W g f0 f1 f2 f3 f4 f5 f6 f7) (ho : d.R e W base ok v xs) (ht : ∀ q, q ∈ e :: d.E → q ≠ 79) : d.R e W base (fun k => ok k ∧ k ≠ g) v xs := by
  obtain ⟨A1, c1, hb, hg, hr1⟩ := h
  exact Kd.R_types ho hb ht
theorem IsS79.own_ne {w0 W : World} {g : Nat} {f0 : Int} {f1 : List (S84)} {f2 : Int} {f3 : Int} {f4 : Int} {f5 : Int} {f6 : Int} {f7 : Int} {α : Type} {d : Kd α} {e : Nat} {base : Nat} {ok : Nat → Prop} {v : Value} {xs : List α} (h : IsS79 w0 W g f0 f1 f2 f3 f4 f5 f6 f7) (ho : d.R e W base ok v xs) (ht : e ≠ 79) : some g ≠ v.ownBlock := by
  obtain ⟨A1, c1, hb, hg, hr1⟩ := h
  exact Kd.R_ne ho hb ht
theorem IsS79.lt {w0 W : World} {g : Nat} {f0 : Int} {f1 : List (S84)} {f2 : Int} {f3 : Int} {f4 : Int} {f5 : Int} {f6 : Int} {f7 : Int} (h : IsS79 w0 W g f0 f1 f2 f3 f4 f5 f6 f7) : g < W.heap.size := by
  obtain ⟨A1, c1, hb, hg, hr1⟩ := h
  exact blk_lt hb
theorem IsS79.far {w0 W : World} {g : Nat} {f0 : Int} {f1 : List (S84)} {f2 : Int} {f3 : Int} {f4 : Int} {f5 : Int} {f6 : Int} {f7 : Int} {p : Addr} (h : IsS79 w0 W g f0 f1 f2 f3 f4 f5 f6 f7) (hne : g ≠ p.block) (u : Value) : IsS79 w0 (W.setCell p u) g f0 f1 f2 f3 f4 f5 f6 f7 := by
  obtain ⟨A1, c1, hb, hg, hr1⟩ := h
  exact ⟨A1, c1, blk_far hb hne u, hg, hr1⟩
theorem IsS79.new (w0 W : World) (A1 : Option Addr) (c1 : Nat) (f0 : Int) (f1 : List (S84)) (f2 : Int) (f3 : Int) (f4 : Int) (f5 : Int) (f6 : Int) (f7 : Int) (hB : Below w0.heap.size w0 W) (hr1 : Kd.C k84 w0 A1 f1.length f1) : IsS79 w0 (W.alloc (.cells #[.int .i64 f0, .slice A1 f1.length c1, .int .i64 f2, .int .i64 f3, .int .i64 f4, .int .i64 f5, .int .i64 f6, .int .i64 f7] 79)) W.heap.size f0 f1 f2 f3 f4 f5 f6 f7 := ⟨A1, c1, by simpa using heap_alloc_new W _, hB.size, hr1⟩
def kissgateref02_Good.f (a0 : Int) : Option (Bool) := if a0 ≥ 0 then (some (decide (a0 < 281474976710656))) else (some false)
set_option maxHeartbeats 8000000 in
set_option maxRecDepth 100000 in
theorem kissgateref02_Good.calls (a0 : Int) (r : Bool) (w : World) (h : kissgateref02_Good.f a0 = some r) :
    Calls Tryd.prog 48 #[.int .i64 a0] w fun e w' => e = .returned (.bool r) ∧ Drawn0 w w' := by
  have H : (if a0 ≥ 0 then (some (decide (a0 < 281474976710656))) else (some false)) = some r := h
  clear h
  by_cases c2 : a0 ≥ 0
  · rw [if_pos c2] at H
    have c2b0 : decide (0 ≤ a0) = true := decide_eq_true c2
    clear c2
    obtain rfl := Option.some.inj H
    go_enter Tryd.func48, Tryd.ntmps48
    go_wp2
    go_ret
    exact ⟨by first | rfl | (simp; done) | (simp [*]; done), by repeat (first | exact Drawn0.refl _ | apply Drawn0.step)⟩
  · rw [if_neg c2] at H
    have c2b0 : decide (0 ≤ a0) = false := decide_eq_false c2
    clear c2
    obtain rfl := Option.some.inj H
    go_enter Tryd.func48, Tryd.ntmps48
    go_wp2
    go_ret
    exact ⟨by first | rfl | (simp; done) | (simp [*]; done), by repeat (first | exact Drawn0.refl _ | apply Drawn0.step)⟩
def kissgateref02_Many.f (a0 : Int) : Option (Bool) := (kissgateref02_Good.f a0).bind fun t190 => (if t190 = true then (some ((Int.tmod (wrap64 (Int.tdiv a0 1099511627776)) 2) == 1)) else (some false))
set_option maxHeartbeats 8000000 in
set_option maxRecDepth 100000 in
theorem kissgateref02_Many.calls (a0 : Int) (r : Bool) (w : World) (h : kissgateref02_Many.f a0 = some r) :
    Calls Tryd.prog 32 #[.int .i64 a0] w fun e w' => e = .returned (.bool r) ∧ Drawn0 w w' := by
  have H : ((kissgateref02_Good.f a0).bind fun t190 => (if t190 = true then (some ((Int.tmod (wrap64 (Int.tdiv a0 1099511627776)) 2) == 1)) else (some false))) = some r := h
  clear h
  replace H := Option.bind_eq_some_iff.mp H
  obtain ⟨t190, A20, H⟩ := H
  replace H : (if t190 = true then (some ((Int.tmod (wrap64 (Int.tdiv a0 1099511627776)) 2) == 1)) else (some false)) = some r := H
  have A2 := Aside0.mk A20
  clear A20
  by_cases c3 : t190 = true
  · subst c3
    have H1 : (some ((Int.tmod (wrap64 (Int.tdiv a0 1099511627776)) 2) == 1)) = some r := by rw [if_pos rfl] at H; exact H
    clear H
    have H := H1
    clear H1
    obtain rfl := Option.some.inj H
    go_enter Tryd.func32, Tryd.ntmps32
    go_wp2_with (first | ((with_reducible refine gate_callee (f := 48) rfl ?_); refine goesL_ (some 4) rfl rfl Tryd.func48 (by kernel_rfl) rfl #[.int .i64 a0] rfl (by (try simp only [List.map_toArray, List.map_cons, List.map_nil]); first | done | rfl | (simp only [List.length_drop, List.length_take]; rfl)) ?_; (with_reducible refine (kissgateref02_Good.calls a0 true _ A2.out).mono ?_); rintro e w' ⟨rfl, ⟨nd, rfl⟩⟩; refine ⟨_, rfl, ?_⟩))
    go_ret
    exact ⟨by first | rfl | (simp; done) | (simp [*]; done), by repeat (first | exact Drawn0.refl _ | apply Drawn0.step)⟩
  · replace c3 := Bool.eq_false_iff.mpr c3
    subst c3
    have H1 : (some false) = some r := by rw [if_neg (show ¬ (false = true) by decide)] at H; exact H
    clear H
    have H := H1
    clear H1
    obtain rfl := Option.some.inj H
    go_enter Tryd.func32, Tryd.ntmps32
    go_wp2_with (first | ((with_reducible refine gate_callee (f := 48) rfl ?_); refine goesL_ (some 4) rfl rfl Tryd.func48 (by kernel_rfl) rfl #[.int .i64 a0] rfl (by (try simp only [List.map_toArray, List.map_cons, List.map_nil]); first | done | rfl | (simp only [List.length_drop, List.length_take]; rfl)) ?_; (with_reducible refine (kissgateref02_Good.calls a0 false _ A2.out).mono ?_); rintro e w' ⟨rfl, ⟨nd, rfl⟩⟩; refine ⟨_, rfl, ?_⟩))
    go_ret
    exact ⟨by first | rfl | (simp; done) | (simp [*]; done), by repeat (first | exact Drawn0.refl _ | apply Drawn0.step)⟩
def kissgateref08_Bridge.f (a0 : Int) : Option (Bool) := if a0 ≤ 0 then (some false) else (if (wrap64 (Int.tdiv a0 281474976710656)) > 15 then (some false) else ((kissgateref02_Many.f (Int.tmod a0 281474976710656)).bind fun t191 => (some (!t191))))
set_option maxHeartbeats 8000000 in
set_option maxRecDepth 100000 in
theorem kissgateref08_Bridge.calls (a0 : Int) (r : Bool) (w : World) (h : kissgateref08_Bridge.f a0 = some r) :
    Calls Tryd.prog 13 #[.int .i64 a0] w fun e w' => e = .returned (.bool r) ∧ Drawn0 w w' := by
  have H : (if a0 ≤ 0 then (some false) else (if (wrap64 (Int.tdiv a0 281474976710656)) > 15 then (some false) else ((kissgateref02_Many.f (Int.tmod a0 281474976710656)).bind fun t191 => (some (!t191))))) = some r := h
  clear h
  by_cases c2 : a0 ≤ 0
  · rw [if_pos c2] at H
    have c2b0 : decide (a0 ≤ 0) = true := decide_eq_true c2
    clear c2
    obtain rfl := Option.some.inj H
    go_enter Tryd.func13, Tryd.ntmps13
    go_wp2
    go_ret
    exact ⟨by first | rfl | (simp; done) | (simp [*]; done), by repeat (first | exact Drawn0.refl _ | apply Drawn0.step)⟩
  · rw [if_neg c2] at H
    have c2b0 : decide (a0 ≤ 0) = false := decide_eq_false c2
    clear c2
    by_cases c3 : (wrap64 (Int.tdiv a0 281474976710656)) > 15
    · rw [if_pos c3] at H
      have c3b0 : decide (15 < (wrap64 (Int.tdiv a0 281474976710656))) = true := decide_eq_true c3
      clear c3
      obtain rfl := Option.some.inj H
      go_enter Tryd.func13, Tryd.ntmps13
      go_wp2
      go_ret
      exact ⟨by first | rfl | (simp; done) | (simp [*]; done), by repeat (first | exact Drawn0.refl _ | apply Drawn0.step)⟩
    · rw [if_neg c3] at H
      have c3b0 : decide (15 < (wrap64 (Int.tdiv a0 281474976710656))) = false := decide_eq_false c3
      clear c3
      replace H := Option.bind_eq_some_iff.mp H
      obtain ⟨t191, A40, H⟩ := H
      replace H : (some (!t191)) = some r := H
      have A4 := Aside0.mk A40
      clear A40
      obtain rfl := Option.some.inj H
      go_enter Tryd.func13, Tryd.ntmps13
      go_wp2_with (first | ((with_reducible refine gate_callee (f := 32) rfl ?_); refine goesL_ (some 12) rfl rfl Tryd.func32 (by kernel_rfl) rfl #[.int .i64 (Int.tmod a0 281474976710656)] rfl (by (try simp only [List.map_toArray, List.map_cons, List.map_nil]); first | done | rfl | (simp only [List.length_drop, List.length_take]; rfl)) ?_; (with_reducible refine (kissgateref02_Many.calls (Int.tmod a0 281474976710656) t191 _ A4.out).mono ?_); rintro e w' ⟨rfl, ⟨nd, rfl⟩⟩; refine ⟨_, rfl, ?_⟩))
      go_ret
      exact ⟨by first | rfl | (simp; done) | (simp [*]; done), by repeat (first | exact Drawn0.refl _ | apply Drawn0.step)⟩
def kissgateref10_Better.f (a0_0 : Int) (a0_1 : Int) (a0_2 : Int) (a0_3 : Int) (a1_0 : Int) (a1_1 : Int) (a1_2 : Int) (a1_3 : Int) : Option (Bool) := if a0_0 = a1_0 then (if a0_1 = a1_1 then (if a0_2 = a1_2 then (some (decide (a0_3 < a1_3))) else (some (decide (a0_2 < a1_2)))) else (some (decide (a0_1 < a1_1)))) else (some (decide (a0_0 < a1_0)))
set_option maxHeartbeats 8000000 in
set_option maxRecDepth 100000 in
theorem kissgateref10_Better.calls (a0_0 : Int) (a0_1 : Int) (a0_2 : Int) (a0_3 : Int) (a1_0 : Int) (a1_1 : Int) (a1_2 : Int) (a1_3 : Int) (r : Bool) (w : World) (h : kissgateref10_Better.f a0_0 a0_1 a0_2 a0_3 a1_0 a1_1 a1_2 a1_3 = some r) :
    Calls Tryd.prog 57 #[.agg #[.int .i64 a0_0, .int .i64 a0_1, .int .i64 a0_2, .int .i64 a0_3], .agg #[.int .i64 a1_0, .int .i64 a1_1, .int .i64 a1_2, .int .i64 a1_3]] w fun e w' => e = .returned (.bool r) ∧ Below w.heap.size w w' := by
  have hu36 := Tryd.underlying36
  have HB := Aside0.mk (Below.refl w.heap.size w)
  have H : (if a0_0 = a1_0 then (if a0_1 = a1_1 then (if a0_2 = a1_2 then (some (decide (a0_3 < a1_3))) else (some (decide (a0_2 < a1_2)))) else (some (decide (a0_1 < a1_1)))) else (some (decide (a0_0 < a1_0)))) = some r := h
  clear h
  by_cases c3 : a0_0 = a1_0
  · rw [if_pos c3] at H
    have c3b0 : (a0_0 == a1_0) = true := beq_iff_eq.mpr c3
    have c3b1 : (a0_0 != a1_0) = false := bne_eq_false_iff_eq.mpr c3
    clear c3
    by_cases c4 : a0_1 = a1_1
    · rw [if_pos c4] at H
      have c4b0 : (a0_1 == a1_1) = true := beq_iff_eq.mpr c4
      have c4b1 : (a0_1 != a1_1) = false := bne_eq_false_iff_eq.mpr c4
      clear c4
      by_cases c5 : a0_2 = a1_2
      · rw [if_pos c5] at H
        have c5b0 : (a0_2 == a1_2) = true := beq_iff_eq.mpr c5
        have c5b1 : (a0_2 != a1_2) = false := bne_eq_false_iff_eq.mpr c5
        clear c5
        obtain rfl := Option.some.inj H
        go_enter Tryd.func57, Tryd.ntmps57
        go_wp2_with (first | ((with_reducible refine gate_dst (N := 2) rfl ?_); refine box_event ?hg (N := 2) ?hd (cs := #[.int .i64 a0_0, .int .i64 a0_1, .int .i64 a0_2, .int .i64 a0_3]) (t := 36) ?hr ?_; (case hd => rfl); (case hg => rfl); (case hr => first | (go_simp; done) | (go_simp; rfl)); intro gb196 hg w6 hbox hb; have n0_ := Aside0.mk (below_step (by repeat (first | (with_reducible first | exact HB.out | apply below_alloc | apply pw_below_drewN | apply below_drew1) | exact HB.out)) hb); have n1_ := Aside0.mk (hbox); have n2_ := Aside0.mk ((by rw [hg]; exact (below_size (by repeat (first | (with_reducible first | exact HB.out | apply below_alloc | apply pw_below_drewN | apply below_drew1) | exact HB.out))) : w.heap.size ≤ gb196)); have n3_ := Aside0.mk ((by rw [hg]; exact (below_size (by repeat (first | (with_reducible first | exact HB.out | apply below_alloc | apply pw_below_drewN | apply below_drew1) | exact HB.out))) : w.heap.size ≤ gb196)); clear HB; have HB := n0_; have BK196 := n1_; have GW196 := n2_; have GE196 := n3_; clear n0_ n1_ n2_ n3_; clear hb hbox hg) | ((with_reducible refine gate_dst (N := 3) rfl ?_); refine box_event ?hg (N := 3) ?hd (cs := #[.int .i64 a1_0, .int .i64 a1_1, .int .i64 a1_2, .int .i64 a1_3]) (t := 36) ?hr ?_; (case hd => rfl); (case hg => rfl); (case hr => first | (go_simp; done) | (go_simp; rfl)); intro gb197 hg w7 hbox hb; have n0_ := Aside0.mk (blk_below (g := gb196) (o := .cells #[.int .i64 a0_0, .int .i64 a0_1, .int .i64 a0_2, .int .i64 a0_3] 36 (0, 0)) (by (with_reducible repeat (first | refine blk_drewN ?_ _ | refine blk_drew ?_ | refine blk_alloc ?_ _)); exact BK196.out) hb); have n1_ := Aside0.mk (below_step (by repeat (first | (with_reducible first | exact HB.out | apply below_alloc | apply pw_below_drewN | apply below_drew1 | refine below_set ?_ GE196.out) | exact HB.out)) hb); have n2_ := Aside0.mk (hbox); have n3_ := Aside0.mk ((by rw [hg]; exact (below_size (by repeat (first | (with_reducible first | exact HB.out | apply below_alloc | apply pw_below_drewN | apply below_drew1 | refine below_set ?_ GE196.out) | exact HB.out))) : w.heap.size ≤ gb197)); have n4_ := Aside0.mk ((by rw [hg]; exact (below_size (by repeat (first | (with_reducible first | exact HB.out | apply below_alloc | apply pw_below_drewN | apply below_drew1 | refine below_set ?_ GE196.out) | exact HB.out))) : w.heap.size ≤ gb197)); have n5_ := Aside0.mk ((by rw [hg]; exact Nat.ne_of_lt (blk_lt (g := gb196) (o := .cells #[.int .i64 a0_0, .int .i64 a0_1, .int .i64 a0_2, .int .i64 a0_3] 36 (0, 0)) (by (with_reducible repeat (first | refine blk_drewN ?_ _ | refine blk_drew ?_ | refine blk_alloc ?_ _)); exact BK196.out)) : gb196 ≠ gb197)); have n6_ := Aside0.mk ((by rw [hg]; exact Nat.ne_of_gt (blk_lt (g := gb196) (o := .cells #[.int .i64 a0_0, .int .i64 a0_1, .int .i64 a0_2, .int .i64 a0_3] 36 (0, 0)) (by (with_reducible repeat (first | refine blk_drewN ?_ _ | refine blk_drew ?_ | refine blk_alloc ?_ _)); exact BK196.out)) : gb197 ≠ gb196)); clear BK196; clear HB; have BK196 := n0_; have HB := n1_; have BK197 := n2_; have GW197 := n3_; have GE197 := n4_; have NB196_197 := n5_; have NB197_196 := n6_; clear n0_ n1_ n2_ n3_ n4_ n5_ n6_; clear hb hbox hg; have hnb8 := NB196_197.out; have hnc8 := NB197_196.out; have hcz9_0 : w7.cell? ⟨gb196, 0, none⟩ = some (.int .i64 a0_0) := (blk_cell BK196.out 0).trans rfl; have hcz9_1 : w7.cell? ⟨gb196, 1, none⟩ = some (.int .i64 a0_1) := (blk_cell BK196.out 1).trans rfl; have hcz9_2 : w7.cell? ⟨gb196, 2, none⟩ = some (.int .i64 a0_2) := (blk_cell BK196.out 2).trans rfl; have hcz9_3 : w7.cell? ⟨gb196, 3, none⟩ = some (.int .i64 a0_3) := (blk_cell BK196.out 3).trans rfl; have hfz9_0 := blk_frozen BK196.out 0; have hfz9_1 := blk_frozen BK196.out 1; have hfz9_2 := blk_frozen BK196.out 2; have hfz9_3 := blk_frozen BK196.out 3; have hcz10_0 : w7.cell? ⟨gb197, 0, none⟩ = some (.int .i64 a1_0) := (blk_cell BK197.out 0).trans rfl; have hcz10_1 : w7.cell? ⟨gb197, 1, none⟩ = some (.int .i64 a1_1) := (blk_cell BK197.out 1).trans rfl; have hcz10_2 : w7.cell? ⟨gb197, 2, none⟩ = some (.int .i64 a1_2) := (blk_cell BK197.out 2).trans rfl; have hcz10_3 : w7.cell? ⟨gb197, 3, none⟩ = some (.int .i64 a1_3) := (blk_cell BK197.out 3).trans rfl; have hfz10_0 := blk_frozen BK197.out 0; have hfz10_1 := blk_frozen BK197.out 1; have hfz10_2 := blk_frozen BK197.out 2; have hfz10_3 := blk_frozen BK197.out 3))
        go_ret
        exact ⟨by first | rfl | (simp [errW_none, errW_some] <;> rfl) | (simp [*, errW_none, errW_some] <;> rfl), by repeat (first | (with_reducible first | exact HB.out | apply below_alloc | apply pw_below_drewN | apply below_drew1 | refine below_set ?_ GE196.out | refine below_set ?_ GE197.out) | exact HB.out)⟩
      · rw [if_neg c5] at H
        have c5b0 : (a0_2 == a1_2) = false := beq_eq_false_iff_ne.mpr c5
        have c5b1 : (a0_2 != a1_2) = true := bne_iff_ne.mpr c5
        obtain rfl := Option.some.inj H
        go_enter Tryd.func57, Tryd.ntmps57
        go_wp2_with (first | ((with_reducible refine gate_dst (N := 2) rfl ?_); refine box_event ?hg (N := 2) ?hd (cs := #[.int .i64 a0_0, .int .i64 a0_1, .int .i64 a0_2, .int .i64 a0_3]) (t := 36) ?hr ?_; (case hd => rfl); (case hg => rfl); (case hr => first | (go_simp; done) | (go_simp; rfl)); intro gb196 hg w11 hbox hb; have n0_ := Aside0.mk (below_step (by repeat (first | (with_reducible first | exact HB.out | apply below_alloc | apply pw_below_drewN | apply below_drew1) | exact HB.out)) hb); have n1_ := Aside0.mk (hbox); have n2_ := Aside0.mk ((by rw [hg]; exact (below_size (by repeat (first | (with_reducible first | exact HB.out | apply below_alloc | apply pw_below_drewN | apply below_drew1) | exact HB.out))) : w.heap.size ≤ gb196)); have n3_ := Aside0.mk ((by rw [hg]; exact (below_size (by repeat (first | (with_reducible first | exact HB.out | apply below_alloc | apply pw_below_drewN | apply below_drew1) | exact HB.out))) : w.heap.size ≤ gb196)); clear HB; have HB := n0_; have BK196 := n1_; have GW196 := n2_; have GE196 := n3_; clear n0_ n1_ n2_ n3_; clear hb hbox hg) | ((with_reducible refine gate_dst (N := 3) rfl ?_); refine box_event ?hg (N := 3) ?hd (cs := #[.int .i64 a1_0, .int .i64 a1_1, .int .i64 a1_2, .int .i64 a1_3]) (t := 36) ?hr ?_; (case hd => rfl); (case hg => rfl); (case hr => first | (go_simp; done) | (go_simp; rfl)); intro gb197 hg w12 hbox hb; have n0_ := Aside0.mk (blk_below (g := gb196) (o := .cells #[.int .i64 a0_0, .int .i64 a0_1, .int .i64 a0_2, .int .i64 a0_3] 36 (0, 0)) (by (with_reducible repeat (first | refine blk_drewN ?_ _ | refine blk_drew ?_ | refine blk_alloc ?_ _)); exact BK196.out) hb); have n1_ := Aside0.mk (below_step (by repeat (first | (with_reducible first | exact HB.out | apply below_alloc | apply pw_below_drewN | apply below_drew1 | refine below_set ?_ GE196.out) | exact HB.out)) hb); have n2_ := Aside0.mk (hbox); have n3_ := Aside0.mk ((by rw [hg]; exact (below_size (by repeat (first | (with_reducible first | exact HB.out | apply below_alloc | apply pw_below_drewN | apply below_drew1 | refine below_set ?_ GE196.out) | exact HB.out))) : w.heap.size ≤ gb197)); have n4_ := Aside0.mk ((by rw [hg]; exact (below_size (by repeat (first | (with_reducible first | exact HB.out | apply below_alloc | apply pw_below_drewN | apply below_drew1 | refine below_set ?_ GE196.out) | exact HB.out))) : w.heap.size ≤ gb197)); have n5_ := Aside0.mk ((by rw [hg]; exact Nat.ne_of_lt (blk_lt (g := gb196) (o := .cells #[.int .i64 a0_0, .int .i64 a0_1, .int .i64 a0_2, .int .i64 a0_3] 36 (0, 0)) (by (with_reducible repeat (first | refine blk_drewN ?_ _ | refine blk_drew ?_ | refine blk_alloc ?_ _)); exact BK196.out)) : gb196 ≠ gb197)); have n6_ := Aside0.mk ((by rw [hg]; exact Nat.ne_of_gt (blk_lt (g := gb196) (o := .cells #[.int .i64 a0_0, .int .i64 a0_1, .int .i64 a0_2, .int .i64 a0_3] 36 (0, 0)) (by (with_reducible repeat (first | refine blk_drewN ?_ _ | refine blk_drew ?_ | refine blk_alloc ?_ _)); exact BK196.out)) : gb197 ≠ gb196)); clear BK196; clear HB; have BK196 := n0_; have HB := n1_; have BK197 := n2_; have GW197 := n3_; have GE197 := n4_; have NB196_197 := n5_; have NB197_196 := n6_; clear n0_ n1_ n2_ n3_ n4_ n5_ n6_; clear hb hbox hg; have hnb13 := NB196_197.out; have hnc13 := NB197_196.out; have hcz14_0 : w12.cell? ⟨gb196, 0, none⟩ = some (.int .i64 a0_0) := (blk_cell BK196.out 0).trans rfl; have hcz14_1 : w12.cell? ⟨gb196, 1, none⟩ = some (.int .i64 a0_1) := (blk_cell BK196.out 1).trans rfl; have hcz14_2 : w12.cell? ⟨gb196, 2, none⟩ = some (.int .i64 a0_2) := (blk_cell BK196.out 2).trans rfl; have hcz14_3 : w12.cell? ⟨gb196, 3, none⟩ = some (.int .i64 a0_3) := (blk_cell BK196.out 3).trans rfl; have hfz14_0 := blk_frozen BK196.out 0; have hfz14_1 := blk_frozen BK196.out 1; have hfz14_2 := blk_frozen BK196.out 2; have hfz14_3 := blk_frozen BK196.out 3; have hcz15_0 : w12.cell? ⟨gb197, 0, none⟩ = some (.int .i64 a1_0) := (blk_cell BK197.out 0).trans rfl; have hcz15_1 : w12.cell? ⟨gb197, 1, none⟩ = some (.int .i64 a1_1) := (blk_cell BK197.out 1).trans rfl; have hcz15_2 : w12.cell? ⟨gb197, 2, none⟩ = some (.int .i64 a1_2) := (blk_cell BK197.out 2).trans rfl; have hcz15_3 : w12.cell? ⟨gb197, 3, none⟩ = some (.int .i64 a1_3) := (blk_cell BK197.out 3).trans rfl; have hfz15_0 := blk_frozen BK197.out 0; have hfz15_1 := blk_frozen BK197.out 1; have hfz15_2 := blk_frozen BK197.out 2; have hfz15_3 := blk_frozen BK197.out 3))
        go_ret
        exact ⟨by first | rfl | (simp [errW_none, errW_some] <;> rfl) | (simp [*, errW_none, errW_some] <;> rfl), by repeat (first | (with_reducible first | exact HB.out | apply below_alloc | apply pw_below_drewN | apply below_drew1 | refine below_set ?_ GE196.out | refine below_set ?_ GE197.out) | exact HB.out)⟩
    · rw [if_neg c4] at H
      have c4b0 : (a0_1 == a1_1) = false := beq_eq_false_iff_ne.mpr c4
      have c4b1 : (a0_1 != a1_1) = true := bne_iff_ne.mpr c4
      obtain rfl := Option.some.inj H
      go_enter Tryd.func57, Tryd.ntmps57
      go_wp2_with (first | ((with_reducible refine gate_dst (N := 2) rfl ?_); refine box_event ?hg (N := 2) ?hd (cs := #[.int .i64 a0_0, .int .i64 a0_1, .int .i64 a0_2, .int .i64 a0_3]) (t := 36) ?hr ?_; (case hd => rfl); (case hg => rfl); (case hr => first | (go_simp; done) | (go_simp; rfl)); intro gb196 hg w16 hbox hb; have n0_ := Aside0.mk (below_step (by repeat (first | (with_reducible first | exact HB.out | apply below_alloc | apply pw_below_drewN | apply below_drew1) | exact HB.out)) hb); have n1_ := Aside0.mk (hbox); have n2_ := Aside0.mk ((by rw [hg]; exact (below_size (by repeat (first | (with_reducible first | exact HB.out | apply below_alloc | apply pw_below_drewN | apply below_drew1) | exact HB.out))) : w.heap.size ≤ gb196)); have n3_ := Aside0.mk ((by rw [hg]; exact (below_size (by repeat (first | (with_reducible first | exact HB.out | apply below_alloc | apply pw_below_drewN | apply below_drew1) | exact HB.out))) : w.heap.size ≤ gb196)); clear HB; have HB := n0_; have BK196 := n1_; have GW196 := n2_; have GE196 := n3_; clear n0_ n1_ n2_ n3_; clear hb hbox hg) | ((with_reducible refine gate_dst (N := 3) rfl ?_); refine box_event ?hg (N := 3) ?hd (cs := #[.int .i64 a1_0, .int .i64 a1_1, .int .i64 a1_2, .int .i64 a1_3]) (t := 36) ?hr ?_; (case hd => rfl); (case hg => rfl); (case hr => first | (go_simp; done) | (go_simp; rfl)); intro gb197 hg w17 hbox hb; have n0_ := Aside0.mk (blk_below (g := gb196) (o := .cells #[.int .i64 a0_0, .int .i64 a0_1, .int .i64 a0_2, .int .i64 a0_3] 36 (0, 0)) (by (with_reducible repeat (first | refine blk_drewN ?_ _ | refine blk_drew ?_ | refine blk_alloc ?_ _)); exact BK196.out) hb); have n1_ := Aside0.mk (below_step (by repeat (first | (with_reducible first | exact HB.out | apply below_alloc | apply pw_below_drewN | apply below_drew1 | refine below_set ?_ GE196.out) | exact HB.out)) hb); have n2_ := Aside0.mk (hbox); have n3_ := Aside0.mk ((by rw [hg]; exact (below_size (by repeat (first | (with_reducible first | exact HB.out | apply below_alloc | apply pw_below_drewN | apply below_drew1 | refine below_set ?_ GE196.out) | exact HB.out))) : w.heap.size ≤ gb197)); have n4_ := Aside0.mk ((by rw [hg]; exact (below_size (by repeat (first | (with_reducible first | exact HB.out | apply below_alloc | apply pw_below_drewN | apply below_drew1 | refine below_set ?_ GE196.out) | exact HB.out))) : w.heap.size ≤ gb197)); have n5_ := Aside0.mk ((by rw [hg]; exact Nat.ne_of_lt (blk_lt (g := gb196) (o := .cells #[.int .i64 a0_0, .int .i64 a0_1, .int .i64 a0_2, .int .i64 a0_3] 36 (0, 0)) (by (with_reducible repeat (first | refine blk_drewN ?_ _ | refine blk_drew ?_ | refine blk_alloc ?_ _)); exact BK196.out)) : gb196 ≠ gb197)); have n6_ := Aside0.mk ((by rw [hg]; exact Nat.ne_of_gt (blk_lt (g := gb196) (o := .cells #[.int .i64 a0_0, .int .i64 a0_1, .int .i64 a0_2, .int .i64 a0_3] 36 (0, 0)) (by (with_reducible repeat (first | refine blk_drewN ?_ _ | refine blk_drew ?_ | refine blk_alloc ?_ _)); exact BK196.out)) : gb197 ≠ gb196)); clear BK196; clear HB; have BK196 := n0_; have HB := n1_; have BK197 := n2_; have GW197 := n3_; have GE197 := n4_; have NB196_197 := n5_; have NB197_196 := n6_; clear n0_ n1_ n2_ n3_ n4_ n5_ n6_; clear hb hbox hg; have hnb18 := NB196_197.out; have hnc18 := NB197_196.out; have hcz19_0 : w17.cell? ⟨gb196, 0, none⟩ = some (.int .i64 a0_0) := (blk_cell BK196.out 0).trans rfl; have hcz19_1 : w17.cell? ⟨gb196, 1, none⟩ = some (.int .i64 a0_1) := (blk_cell BK196.out 1).trans rfl; have hcz19_2 : w17.cell? ⟨gb196, 2, none⟩ = some (.int .i64 a0_2) := (blk_cell BK196.out 2).trans rfl; have hcz19_3 : w17.cell? ⟨gb196, 3, none⟩ = some (.int .i64 a0_3) := (blk_cell BK196.out 3).trans rfl; have hfz19_0 := blk_frozen BK196.out 0; have hfz19_1 := blk_frozen BK196.out 1; have hfz19_2 := blk_frozen BK196.out 2; have hfz19_3 := blk_frozen BK196.out 3; have hcz20_0 : w17.cell? ⟨gb197, 0, none⟩ = some (.int .i64 a1_0) := (blk_cell BK197.out 0).trans rfl; have hcz20_1 : w17.cell? ⟨gb197, 1, none⟩ = some (.int .i64 a1_1) := (blk_cell BK197.out 1).trans rfl; have hcz20_2 : w17.cell? ⟨gb197, 2, none⟩ = some (.int .i64 a1_2) := (blk_cell BK197.out 2).trans rfl; have hcz20_3 : w17.cell? ⟨gb197, 3, none⟩ = some (.int .i64 a1_3) := (blk_cell BK197.out 3).trans rfl; have hfz20_0 := blk_frozen BK197.out 0; have hfz20_1 := blk_frozen BK197.out 1; have hfz20_2 := blk_frozen BK197.out 2; have hfz20_3 := blk_frozen BK197.out 3))
      go_ret
      exact ⟨by first | rfl | (simp [errW_none, errW_some] <;> rfl) | (simp [*, errW_none, errW_some] <;> rfl), by repeat (first | (with_reducible first | exact HB.out | apply below_alloc | apply pw_below_drewN | apply below_drew1 | refine below_set ?_ GE196.out | refine below_set ?_ GE197.out) | exact HB.out)⟩
  · rw [if_neg c3] at H
    have c3b0 : (a0_0 == a1_0) = false := beq_eq_false_iff_ne.mpr c3
    have c3b1 : (a0_0 != a1_0) = true := bne_iff_ne.mpr c3
    obtain rfl := Option.some.inj H
    go_enter Tryd.func57, Tryd.ntmps57
    go_wp2_with (first | ((with_reducible refine gate_dst (N := 2) rfl ?_); refine box_event ?hg (N := 2) ?hd (cs := #[.int .i64 a0_0, .int .i64 a0_1, .int .i64 a0_2, .int .i64 a0_3]) (t := 36) ?hr ?_; (case hd => rfl); (case hg => rfl); (case hr => first | (go_simp; done) | (go_simp; rfl)); intro gb196 hg w21 hbox hb; have n0_ := Aside0.mk (below_step (by repeat (first | (with_reducible first | exact HB.out | apply below_alloc | apply pw_below_drewN | apply below_drew1) | exact HB.out)) hb); have n1_ := Aside0.mk (hbox); have n2_ := Aside0.mk ((by rw [hg]; exact (below_size (by repeat (first | (with_reducible first | exact HB.out | apply below_alloc | apply pw_below_drewN | apply below_drew1) | exact HB.out))) : w.heap.size ≤ gb196)); have n3_ := Aside0.mk ((by rw [hg]; exact (below_size (by repeat (first | (with_reducible first | exact HB.out | apply below_alloc | apply pw_below_drewN | apply below_drew1) | exact HB.out))) : w.heap.size ≤ gb196)); clear HB; have HB := n0_; have BK196 := n1_; have GW196 := n2_; have GE196 := n3_; clear n0_ n1_ n2_ n3_; clear hb hbox hg) | ((with_reducible refine gate_dst (N := 3) rfl ?_); refine box_event ?hg (N := 3) ?hd (cs := #[.int .i64 a1_0, .int .i64 a1_1, .int .i64 a1_2, .int .i64 a1_3]) (t := 36) ?hr ?_; (case hd => rfl); (case hg => rfl); (case hr => first | (go_simp; done) | (go_simp; rfl)); intro gb197 hg w22 hbox hb; have n0_ := Aside0.mk (blk_below (g := gb196) (o := .cells #[.int .i64 a0_0, .int .i64 a0_1, .int .i64 a0_2, .int .i64 a0_3] 36 (0, 0)) (by (with_reducible repeat (first | refine blk_drewN ?_ _ | refine blk_drew ?_ | refine blk_alloc ?_ _)); exact BK196.out) hb); have n1_ := Aside0.mk (below_step (by repeat (first | (with_reducible first | exact HB.out | apply below_alloc | apply pw_below_drewN | apply below_drew1 | refine below_set ?_ GE196.out) | exact HB.out)) hb); have n2_ := Aside0.mk (hbox); have n3_ := Aside0.mk ((by rw [hg]; exact (below_size (by repeat (first | (with_reducible first | exact HB.out | apply below_alloc | apply pw_below_drewN | apply below_drew1 | refine below_set ?_ GE196.out) | exact HB.out))) : w.heap.size ≤ gb197)); have n4_ := Aside0.mk ((by rw [hg]; exact (below_size (by repeat (first | (with_reducible first | exact HB.out | apply below_alloc | apply pw_below_drewN | apply below_drew1 | refine below_set ?_ GE196.out) | exact HB.out))) : w.heap.size ≤ gb197)); have n5_ := Aside0.mk ((by rw [hg]; exact Nat.ne_of_lt (blk_lt (g := gb196) (o := .cells #[.int .i64 a0_0, .int .i64 a0_1, .int .i64 a0_2, .int .i64 a0_3] 36 (0, 0)) (by (with_reducible repeat (first | refine blk_drewN ?_ _ | refine blk_drew ?_ | refine blk_alloc ?_ _)); exact BK196.out)) : gb196 ≠ gb197)); have n6_ := Aside0.mk ((by rw [hg]; exact Nat.ne_of_gt (blk_lt (g := gb196) (o := .cells #[.int .i64 a0_0, .int .i64 a0_1, .int .i64 a0_2, .int .i64 a0_3] 36 (0, 0)) (by (with_reducible repeat (first | refine blk_drewN ?_ _ | refine blk_drew ?_ | refine blk_alloc ?_ _)); exact BK196.out)) : gb197 ≠ gb196)); clear BK196; clear HB; have BK196 := n0_; have HB := n1_; have BK197 := n2_; have GW197 := n3_; have GE197 := n4_; have NB196_197 := n5_; have NB197_196 := n6_; clear n0_ n1_ n2_ n3_ n4_ n5_ n6_; clear hb hbox hg; have hnb23 := NB196_197.out; have hnc23 := NB197_196.out; have hcz24_0 : w22.cell? ⟨gb196, 0, none⟩ = some (.int .i64 a0_0) := (blk_cell BK196.out 0).trans rfl; have hcz24_1 : w22.cell? ⟨gb196, 1, none⟩ = some (.int .i64 a0_1) := (blk_cell BK196.out 1).trans rfl; have hcz24_2 : w22.cell? ⟨gb196, 2, none⟩ = some (.int .i64 a0_2) := (blk_cell BK196.out 2).trans rfl; have hcz24_3 : w22.cell? ⟨gb196, 3, none⟩ = some (.int .i64 a0_3) := (blk_cell BK196.out 3).trans rfl; have hfz24_0 := blk_frozen BK196.out 0; have hfz24_1 := blk_frozen BK196.out 1; have hfz24_2 := blk_frozen BK196.out 2; have hfz24_3 := blk_frozen BK196.out 3; have hcz25_0 : w22.cell? ⟨gb197, 0, none⟩ = some (.int .i64 a1_0) := (blk_cell BK197.out 0).trans rfl; have hcz25_1 : w22.cell? ⟨gb197, 1, none⟩ = some (.int .i64 a1_1) := (blk_cell BK197.out 1).trans rfl; have hcz25_2 : w22.cell? ⟨gb197, 2, none⟩ = some (.int .i64 a1_2) := (blk_cell BK197.out 2).trans rfl; have hcz25_3 : w22.cell? ⟨gb197, 3, none⟩ = some (.int .i64 a1_3) := (blk_cell BK197.out 3).trans rfl; have hfz25_0 := blk_frozen BK197.out 0; have hfz25_1 := blk_frozen BK197.out 1; have hfz25_2 := blk_frozen BK197.out 2; have hfz25_3 := blk_frozen BK197.out 3))
    go_ret
    exact ⟨by first | rfl | (simp [errW_none, errW_some] <;> rfl) | (simp [*, errW_none, errW_some] <;> rfl), by repeat (first | (with_reducible first | exact HB.out | apply below_alloc | apply pw_below_drewN | apply below_drew1 | refine below_set ?_ GE196.out | refine below_set ?_ GE197.out) | exact HB.out)⟩
end Go.Proofs.YtfimhaodgekkgaaDoor.QTre
namespace Go.Proofs.YtfimhaodgekkgaaDoor.QTre
open Go.RowKit Go.Proofs.YtfimhaodgekkgaaDoorW.PrintWords Go.Proofs.YtfimhaodgekkgaaDoorW.PrintLast Go.Proofs.YtfimhaodgekkgaaDoorW.PrintMore
attribute [local go_sem] max2_int min2_int max_two min_two max_three min_three max_four min_four
set_option linter.unusedVariables false
set_option linter.unusedSimpArgs false
def kissgateref12_Hold.B14 : List Nat := [0, 0, 2, 0, 0, 16, 56, 120, 0, 0, 512, 1792, 3840, 0, 0, 16384, 57344, 122880, 0, 0, 524288, 1835008, 3932160, 0, 8388608, 0, 33554432, 134217720, 268435455, 536870911]
end Go.Proofs.YtfimhaodgekkgaaDoor.QTre
namespace Go.Proofs.YtfimhaodgekkgaaDoor.QTre
open Go.RowKit Go.Proofs.YtfimhaodgekkgaaDoorW.PrintWords Go.Proofs.YtfimhaodgekkgaaDoorW.PrintLast Go.Proofs.YtfimhaodgekkgaaDoorW.PrintMore
attribute [local go_sem] max2_int min2_int max_two min_two max_three min_three max_four min_four
set_option linter.unusedVariables false
set_option linter.unusedSimpArgs false
theorem eqA36 (d : Nat) (w : World) (x0 y0 : Int) (x1 y1 : Int) (x2 y2 : Int) (x3 y3 : Int) :
    (Op.equalIn (d + 2) 36 (.agg #[.int .i64 x0, .int .i64 x1, .int .i64 x2, .int .i64 x3]) (.agg #[.int .i64 y0, .int .i64 y1, .int .i64 y2, .int .i64 y3])).run Tryd.prog w = .ok (x0 == y0 && (x1 == y1 && (x2 == y2 && (x3 == y3)))) w := by
  refine eqA_of Tryd.underlying36 (by kernel_rfl) ?_
  refine eqf_cons (by rfl) (by go_simp; rfl) (by go_simp; rfl) (by go_simp) ?_
  refine eqf_cons (by rfl) (by go_simp; rfl) (by go_simp; rfl) (by go_simp) ?_
  refine eqf_cons (by rfl) (by go_simp; rfl) (by go_simp; rfl) (by go_simp) ?_
  exact eqf_last (by rfl) (by go_simp; rfl) (by go_simp; rfl) (by go_simp)
end Go.Proofs.YtfimhaodgekkgaaDoor.QTre
namespace Go.Proofs.YtfimhaodgekkgaaDoor.QTre
open Go.RowKit Go.Proofs.YtfimhaodgekkgaaDoorW.PrintWords Go.Proofs.YtfimhaodgekkgaaDoorW.PrintLast Go.Proofs.YtfimhaodgekkgaaDoorW.PrintMore
attribute [local go_sem] max2_int min2_int max_two min_two max_three min_three max_four min_four
set_option linter.unusedVariables false
set_option linter.unusedSimpArgs false
attribute [local go_sem high] eqA36
def kissgateref12_leads.T1 : Bool × List (List Nat × List Nat) := (true, [([], []), ([], []), ([0, 1], [0, 1]), ([2], [2]), ([3], [3]), ([], []), ([], []), ([5, 6], [5, 6]), ([7], [7]), ([8], [8]), ([], []), ([9, 10], [9, 10]), ([], []), ([], []), ([12, 13], [12, 13]), ([14], [14]), ([], []), ([4, 11, 15, 16], [4, 11, 15, 16]), ([], []), ([18, 17, 0, 1, 2, 3, 4, 5, 6, 7, 8, 9, 10, 11, 12, 13, 14, 15, 16, 17, 18], [17, 18])])
def kissgateref12_leads.B1 : List Nat := [0, 0, 3, 7, 15, 0, 0, 96, 224, 480, 0, 2016, 0, 0, 12288, 28672, 0, 131071, 0, 524287]
theorem kissgateref12_leads.tab1 : rtab .any (opsOf Tryd.f31 1) = kissgateref12_leads.T1 := by kernel_rfl
theorem kissgateref12_leads.bits1 : waitsOk kissgateref12_leads.T1.2 kissgateref12_leads.B1 = true := by kernel_rfl
def kissgateref12_leads.T2 : Bool × List (List Nat × List Nat) := (true, [([], []), ([], []), ([0, 1], [0, 1]), ([2], [2]), ([3], [3]), ([3], [3]), ([4, 5, 3], [3, 4, 5]), ([6, 3], [3, 6]), ([3], [3]), ([7, 8, 3], [3, 7, 8]), ([3, 9], [3, 9]), ([10, 3], [10]), ([11], [11]), ([12, 11], [11, 12]), ([11], [11]), ([11], [11]), ([14, 15, 11], [11, 14, 15]), ([16, 11], [11, 16]), ([13, 17, 11], [11, 13, 17]), ([11, 18], [11, 18])])
end Go.Proofs.YtfimhaodgekkgaaDoor.QTre
