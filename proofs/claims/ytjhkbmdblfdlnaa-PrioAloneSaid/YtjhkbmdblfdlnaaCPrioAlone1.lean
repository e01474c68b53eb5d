/- Functions of the program as plain Lean functions, what their calls do, and what follows of it. Conditions: each theorem's own. -/
import Derived.Test.YtjhkbmdblfdlnaaCPrioAlone0
namespace Go.Proofs.Ytjhkbmdblfdlnaa.QPrio
open Go.RowKit Go.Proofs.YtjhkbmdblfdlnaaW.PrintWords Go.Proofs.YtjhkbmdblfdlnaaW.PrintLast Go.Proofs.YtjhkbmdblfdlnaaW.PrintMore
attribute [local go_sem] max2_int min2_int max_two min_two max_three min_three max_four min_four
set_option linter.unusedVariables false
set_option linter.unusedSimpArgs false
def prio_Roles.l0 : Nat → Int → Int → List Int → List (S45) → Int → Int → Int → Int → Int → Int → Option (List Int × Int × Int × Int × Int × Int)
  | 0, _, _, _, _, _, _, _, _, _, _ => none
  | k + 1, x0, x8, x9, x18, x19, x20, x218000, x218001, x218002, x218003 => if x20 < x19 then (if 0 ≤ x20 then (if x20 < (x18.length : Int) then (if x20 = x8 then (if x9.length < 17592186044416 then (prio_Roles.l0 k x0 x8 (x9 ++ [1]) x18 x19 (wrap64 (x20 + 1)) x218000 x218001 x218002 x218003) else (none)) else ((prio_takes.f ((rd_T45 x18 x20).f0.f0) ((rd_T45 x18 x20).f0.f1) ((rd_T45 x18 x20).f0.f2) ((rd_T45 x18 x20).f0.f3) ((rd_T45 x18 x20).f1) ((rd_T45 x18 x20).f2) ((rd_T45 x18 x20).f3) x0).bind fun t223 => (if t223 = true then ((prio_Offer.f x218000 x218001 x218002 x218003 x0 x20).bind fun bt224 => ((prio_Better.f k bt224.1 bt224.2.1 bt224.2.2.1 bt224.2.2.2 ((rd_T45 x18 x20).f0.f0) ((rd_T45 x18 x20).f0.f1) ((rd_T45 x18 x20).f0.f2) ((rd_T45 x18 x20).f0.f3)).bind fun t228 => (if t228 = true then (if x9.length < 17592186044416 then (prio_Roles.l0 k x0 x8 (x9 ++ [2]) x18 x19 (wrap64 (x20 + 1)) x218000 x218001 x218002 x218003) else (none)) else (if x9.length < 17592186044416 then (prio_Roles.l0 k x0 x8 (x9 ++ [3]) x18 x19 (wrap64 (x20 + 1)) x218000 x218001 x218002 x218003) else (none))))) else (if x9.length < 17592186044416 then (prio_Roles.l0 k x0 x8 (x9 ++ [2]) x18 x19 (wrap64 (x20 + 1)) x218000 x218001 x218002 x218003) else (none))))) else (none)) else (none)) else (some (x9, x218000, x218001, x218002, x218003, x8))
def prio_Roles.f (k : Nat) (a0 : Int) (l1 : List (S45)) : Option (List Int × Int × Int × Int × Int × Int) := (prio_Best.f k a0 l1).bind fun bt212 => (prio_Roles.l0 k a0 bt212.2.2.2.2 ([] : List Int) l1 (l1.length : Int) 0 bt212.1 bt212.2.1 bt212.2.2.1 bt212.2.2.2.1)
def prio_Roles.T9 : Bool × List (List Nat × List Nat) := (true, [([], []), ([], []), ([0, 1], [0, 1]), ([2], [2]), ([3, 2], [3]), ([4], [4]), ([4], [4]), ([4], [4]), ([5, 6, 7, 4, 4], [4, 5, 6, 7]), ([4], [4]), ([9, 4], [4, 9]), ([8, 10, 8, 4], [4, 8, 10]), ([4, 11], [4, 11]), ([12, 11], [12])])
def prio_Roles.B9 : List Nat := [0, 0, 3, 7, 15, 31, 31, 31, 255, 31, 543, 2047, 4095, 8191]
theorem prio_Roles.tab9 : rtab .any (opsOf Try.f23 9) = prio_Roles.T9 := by kernel_rfl
theorem prio_Roles.bits9 : waitsOk prio_Roles.T9.2 prio_Roles.B9 = true := by kernel_rfl
set_option maxHeartbeats 8000000 in
set_option maxRecDepth 100000 in
theorem prio_Roles.calls (k : Nat) (a0 : Int) (A1 : Option Addr) (c1 : Nat) (l1 : List (S45)) (r1 : List Int) (r2 : Int) (r3 : Int) (r4 : Int) (r5 : Int) (r6 : Int) (w : World) (hr1 : Kd.C k45 w A1 l1.length l1) (hc1 : l1.length ≤ c1) (h : prio_Roles.f k a0 l1 = some (r1, r2, r3, r4, r5, r6)) :
    Calls Try.prog 23 #[.int .i64 a0, .slice A1 l1.length c1] w fun e w' => ∃ v0_ : Value, e = .returned (.tuple #[v0_, .agg #[.int .i64 r2, .int .i64 r3, .int .i64 r4, .int .i64 r5], .int .i64 r6]) ∧ Kd.R (Kd.int .i64) 3 w' w.heap.size (fun _ => True) v0_ r1 ∧ Below w.heap.size w w' := by
  have hu23 := Try.underlying23
  have hu45 := Try.underlying45
  have HR1 := Aside0.mk hr1
  have HC1 := Aside0.mk hc1
  clear hr1 hc1
  have HB := Aside0.mk (Below.refl w.heap.size w)
  have H : ((prio_Best.f k a0 l1).bind fun bt212 => (prio_Roles.l0 k a0 bt212.2.2.2.2 ([] : List Int) l1 (l1.length : Int) 0 bt212.1 bt212.2.1 bt212.2.2.1 bt212.2.2.2.1)) = some (r1, r2, r3, r4, r5, r6) := h
  clear h
  replace H := Option.bind_eq_some_iff.mp H
  obtain ⟨⟨t212, t213, t214, t215, t216⟩, A30, H⟩ := H
  replace H : (prio_Roles.l0 k a0 t216 ([] : List Int) l1 (l1.length : Int) 0 t212 t213 t214 t215) = some (r1, r2, r3, r4, r5, r6) := H
  have A3 := Aside0.mk A30
  clear A30
  have H' := Aside0.mk H
  clear H
  go_enter Try.func23, Try.ntmps23
  go_wp2_with (first | ((with_reducible refine gate_dst (N := 5) rfl ?_); refine box_event ?hg (N := 5) ?hd (cs := #[.int .i64 0, .int .i64 0, .int .i64 0, .int .i64 0]) (t := 23) ?hr ?_; (case hd => rfl); (case hg => rfl); (case hr => first | (go_simp; done) | (go_simp; rfl)); intro gb211 hg w4 hbox hb; have n0_ := Aside0.mk (below_step (by repeat (first | (with_reducible first | exact HB.out | apply below_alloc | apply pw_below_drewN | apply below_drew1) | exact HB.out)) hb); have n1_ := Aside0.mk (hbox); have n2_ := Aside0.mk ((by rw [hg]; exact (below_size (by repeat (first | (with_reducible first | exact HB.out | apply below_alloc | apply pw_below_drewN | apply below_drew1) | exact HB.out))) : w.heap.size ≤ gb211)); have n3_ := Aside0.mk ((by rw [hg]; exact (below_size (by repeat (first | (with_reducible first | exact HB.out | apply below_alloc | apply pw_below_drewN | apply below_drew1) | exact HB.out))) : w.heap.size ≤ gb211)); clear HB; have HB := n0_; have BK211 := n1_; have GW211 := n2_; have GE211 := n3_; clear n0_ n1_ n2_ n3_; clear hb hbox hg) | ((with_reducible refine gate_callee (f := 16) rfl ?_); refine goesL_ (some 15) rfl rfl Try.func16 (by kernel_rfl) rfl #[.int .i64 a0, .slice A1 l1.length c1] rfl (by (try simp only [List.map_toArray, List.map_cons, List.map_nil]); first | done | rfl | (simp only [List.length_drop, List.length_take]; rfl)) ?_; (with_reducible refine (prio_Best.calls k a0 _ _ l1 t212 t213 t214 t215 t216 _ ?side1 ?side2 A3.out).mono ?_); (case side1 => repeat (first | exact (Kd.C_below HR1.out HB.out) | (with_reducible refine Kd.C_alloc ?_ _) | (with_reducible refine Kd.C_drewN ?_ _) | (with_reducible refine Kd.C_drew ?_))); (case side2 => exact HC1.out); rintro e w5 ⟨rfl, hb⟩; refine ⟨_, rfl, ?_⟩; have n0_ := Aside0.mk (blk_below (g := gb211) (o := .cells #[.int .i64 0, .int .i64 0, .int .i64 0, .int .i64 0] 23 (0, 0)) (by (with_reducible repeat (first | refine blk_drewN ?_ _ | refine blk_drew ?_ | refine blk_alloc ?_ _)); exact BK211.out) hb); have n1_ := Aside0.mk (below_step (by repeat (first | (with_reducible first | exact HB.out | apply below_alloc | apply pw_below_drewN | apply below_drew1 | refine below_set ?_ GE211.out) | exact HB.out)) hb); clear BK211; clear HB; have BK211 := n0_; have HB := n1_; clear n0_ n1_; (try clear hb); (try clear hb2); (try clear hk); (try clear hi)) | ((with_reducible refine gate_dst (N := 7) rfl ?_); refine box_event ?hg (N := 7) ?hd (cs := #[.int .i64 0, .int .i64 0, .int .i64 0, .int .i64 0]) (t := 23) ?hr ?_; (case hd => rfl); (case hg => rfl); (case hr => first | (go_simp; done) | (go_simp; rfl)); intro gb217 hg w6 hbox hb; have n0_ := Aside0.mk (blk_below (g := gb211) (o := .cells #[.int .i64 0, .int .i64 0, .int .i64 0, .int .i64 0] 23 (0, 0)) (by (with_reducible repeat (first | refine blk_drewN ?_ _ | refine blk_drew ?_ | refine blk_alloc ?_ _)); exact BK211.out) hb); have n1_ := Aside0.mk (below_step (by repeat (first | (with_reducible first | exact HB.out | apply below_alloc | apply pw_below_drewN | apply below_drew1 | refine below_set ?_ GE211.out) | exact HB.out)) hb); have n2_ := Aside0.mk (hbox); have n3_ := Aside0.mk ((by rw [hg]; exact (below_size (by repeat (first | (with_reducible first | exact HB.out | apply below_alloc | apply pw_below_drewN | apply below_drew1 | refine below_set ?_ GE211.out) | exact HB.out))) : w.heap.size ≤ gb217)); have n4_ := Aside0.mk ((by rw [hg]; exact (below_size (by repeat (first | (with_reducible first | exact HB.out | apply below_alloc | apply pw_below_drewN | apply below_drew1 | refine below_set ?_ GE211.out) | exact HB.out))) : w.heap.size ≤ gb217)); have n5_ := Aside0.mk ((by rw [hg]; exact Nat.ne_of_lt (blk_lt (g := gb211) (o := .cells #[.int .i64 0, .int .i64 0, .int .i64 0, .int .i64 0] 23 (0, 0)) (by (with_reducible repeat (first | refine blk_drewN ?_ _ | refine blk_drew ?_ | refine blk_alloc ?_ _)); exact BK211.out)) : gb211 ≠ gb217)); have n6_ := Aside0.mk ((by rw [hg]; exact Nat.ne_of_gt (blk_lt (g := gb211) (o := .cells #[.int .i64 0, .int .i64 0, .int .i64 0, .int .i64 0] 23 (0, 0)) (by (with_reducible repeat (first | refine blk_drewN ?_ _ | refine blk_drew ?_ | refine blk_alloc ?_ _)); exact BK211.out)) : gb217 ≠ gb211)); clear BK211; clear HB; have BK211 := n0_; have HB := n1_; have BK217 := n2_; have GW217 := n3_; have GE217 := n4_; have NB211_217 := n5_; have NB217_211 := n6_; clear n0_ n1_ n2_ n3_ n4_ n5_ n6_; clear hb hbox hg; have hnb7 := NB217_211.out; have hnc7 := NB211_217.out; have hcz8_0 : w6.cell? ⟨gb217, 0, none⟩ = some (.int .i64 0) := (blk_cell BK217.out 0).trans rfl; have hcz8_1 : w6.cell? ⟨gb217, 1, none⟩ = some (.int .i64 0) := (blk_cell BK217.out 1).trans rfl; have hcz8_2 : w6.cell? ⟨gb217, 2, none⟩ = some (.int .i64 0) := (blk_cell BK217.out 2).trans rfl; have hcz8_3 : w6.cell? ⟨gb217, 3, none⟩ = some (.int .i64 0) := (blk_cell BK217.out 3).trans rfl; have hfz8_0 := blk_frozen BK217.out 0; have hfz8_1 := blk_frozen BK217.out 1; have hfz8_2 := blk_frozen BK217.out 2; have hfz8_3 := blk_frozen BK217.out 3))
  go_loopg [9, 20] k (fun kq v9 v20 w' => ∃ (x9_1 : List Int) (x20_1 : Int), v20 = .int .i64 x20_1 ∧ Aside0 (prio_Roles.l0 kq a0 t216 x9_1 l1 (l1.length : Int) x20_1 t212 t213 t214 t215 = some (r1, r2, r3, r4, r5, r6)) ∧ Aside0 (kq ≤ k) ∧ Aside0 (Kd.R (Kd.int .i64) 3 w' w.heap.size (fun _ => True) v9 x9_1) ∧ Aside0 (w'.heap[gb211]? = some (.cells #[.int .i64 0, .int .i64 0, .int .i64 0, .int .i64 0] 23 (0, 0))) ∧ Aside0 (w'.heap[gb217]? = some (.cells #[.int .i64 t212, .int .i64 t213, .int .i64 t214, .int .i64 t215] 23 (0, 0))) ∧ Aside0 (Below w.heap.size w w'))
  case atStart => exact ⟨(([] : List Int)), (0), (by first | rfl | (simp; done) | (simp [*]; done)), H', ⟨Nat.le_refl _⟩, ⟨by first | exact Kd.R_nil _ _ _ _ _ | exact Kd.N_nil _ _ _ _ _ | exact Kd.V_nil _ _ _ _ _ | exact Kd.Q_nil _ _ _ _ _ | exact Kd.S_nil _ _ _ _ _⟩, ⟨by (with_reducible repeat (first | refine blk_drewN ?_ _ | refine blk_drew ?_ | refine blk_alloc ?_ _)); refine blk_far ?_ NB211_217.out _; (with_reducible repeat (first | refine blk_drewN ?_ _ | refine blk_drew ?_ | refine blk_alloc ?_ _)); refine blk_far ?_ NB211_217.out _; (with_reducible repeat (first | refine blk_drewN ?_ _ | refine blk_drew ?_ | refine blk_alloc ?_ _)); refine blk_far ?_ NB211_217.out _; (with_reducible repeat (first | refine blk_drewN ?_ _ | refine blk_drew ?_ | refine blk_alloc ?_ _)); refine blk_far ?_ NB211_217.out _; (with_reducible repeat (first | refine blk_drewN ?_ _ | refine blk_drew ?_ | refine blk_alloc ?_ _)); exact BK211.out⟩, ⟨by (with_reducible repeat (first | refine blk_drewN ?_ _ | refine blk_drew ?_ | refine blk_alloc ?_ _)); refine blk_put (cs := #[.int .i64 t212, .int .i64 t213, .int .i64 t214, .int .i64 0]) ?_ 3 _ rfl; (with_reducible repeat (first | refine blk_drewN ?_ _ | refine blk_drew ?_ | refine blk_alloc ?_ _)); refine blk_put (cs := #[.int .i64 t212, .int .i64 t213, .int .i64 0, .int .i64 0]) ?_ 2 _ rfl; (with_reducible repeat (first | refine blk_drewN ?_ _ | refine blk_drew ?_ | refine blk_alloc ?_ _)); refine blk_put (cs := #[.int .i64 t212, .int .i64 0, .int .i64 0, .int .i64 0]) ?_ 1 _ rfl; (with_reducible repeat (first | refine blk_drewN ?_ _ | refine blk_drew ?_ | refine blk_alloc ?_ _)); refine blk_put (cs := #[.int .i64 0, .int .i64 0, .int .i64 0, .int .i64 0]) ?_ 0 _ rfl; (with_reducible repeat (first | refine blk_drewN ?_ _ | refine blk_drew ?_ | refine blk_alloc ?_ _)); exact BK217.out⟩, ⟨by repeat (first | (with_reducible first | exact HB.out | apply below_alloc | apply pw_below_drewN | apply below_drew1 | refine below_set ?_ GE211.out | refine below_set ?_ GE217.out) | exact HB.out)⟩⟩
  case round =>
    clear H'
    try clear c1
    try clear c2
    try clear p2
    try clear c7
    try clear hcz8_0
    try clear hcz8_1
    try clear hcz8_2
    try clear hcz8_3
    try clear hfz8_0
    try clear hfz8_1
    try clear hfz8_2
    try clear hfz8_3
    obtain ⟨x9_1, x20_1, rfl, HA, HK1, HO_9, BK211, BK217, HB⟩ := hrel
    cases gk with
    | zero => exact absurd HA.out (by simp [prio_Roles.l0])
    | succ k1 =>
      have H := HA.out
      clear HA
      simp only [prio_Roles.l0] at H
      by_cases c9 : x20_1 < (l1.length : Int)
      · rw [if_pos c9] at H
        have c9b0 : decide (x20_1 < (l1.length : Int)) = true := decide_eq_true c9
        clear c9
        by_cases c10 : 0 ≤ x20_1
        · rw [if_pos c10] at H
          have c10b0 : decide (0 ≤ x20_1) = true := decide_eq_true c10
          clear c10
          by_cases c11 : x20_1 < (l1.length : Int)
          · rw [if_pos c11] at H
            have c11b0 : decide (x20_1 < (l1.length : Int)) = true := decide_eq_true c11
            clear c11
            by_cases c12 : x20_1 = t216
            · rw [if_pos c12] at H
              have c12b0 : (x20_1 == t216) = true := beq_iff_eq.mpr c12
              have c12b1 : (x20_1 != t216) = false := bne_eq_false_iff_eq.mpr c12
              clear c12
              by_cases c13 : x9_1.length < 17592186044416
              · rw [if_pos c13] at H
                have LMc13 := Aside0.mk c13
                clear c13
                obtain ⟨y220, hy220⟩ : ∃ y_ : List Int, y_ = (x9_1 ++ [1]) := ⟨_, rfl⟩
                replace H : (prio_Roles.l0 k1 a0 t216 y220 l1 (l1.length : Int) (wrap64 (x20_1 + 1)) t212 t213 t214 t215) = some (r1, r2, r3, r4, r5, r6) := by first | (rw [hy220]; with_reducible exact H) | (have H2_ := (Option.bind_some _ _).symm.trans H; rw [hy220]; with_reducible exact H2_) | (have H2_ := (Option.bind_some _ _).symm.trans H; with_reducible exact H2_) | with_reducible exact H | (rw [hy220]; exact H) | exact H
                have Ny220 := Aside0.mk hy220
                clear hy220
                have H' := Aside0.mk H
                clear H
                have p218 : 0 ≤ (x20_1 : Int) := of_decide_eq_true (by first | (with_reducible assumption) | assumption)
                have q218 : x20_1 < (l1.length : Int) := of_decide_eq_true (by first | (with_reducible assumption) | assumption)
                obtain ⟨ad218, e218, hx218_0, hx218_1, hx218_2, hx218_3, hx218_4, hx218_5, hx218_6⟩ := at_T45 HR1.out x20_1 p218 q218
                cases e218
                replace hx218_0 := (HB.out.cell (World.block_lt_of_cell? w _ hx218_0)).trans hx218_0
                replace hx218_1 := (HB.out.cell (World.block_lt_of_cell? w _ hx218_1)).trans hx218_1
                replace hx218_2 := (HB.out.cell (World.block_lt_of_cell? w _ hx218_2)).trans hx218_2
                replace hx218_3 := (HB.out.cell (World.block_lt_of_cell? w _ hx218_3)).trans hx218_3
                replace hx218_4 := (HB.out.cell (World.block_lt_of_cell? w _ hx218_4)).trans hx218_4
                replace hx218_5 := (HB.out.cell (World.block_lt_of_cell? w _ hx218_5)).trans hx218_5
                replace hx218_6 := (HB.out.cell (World.block_lt_of_cell? w _ hx218_6)).trans hx218_6
                replace p218 := eq_true p218
                replace q218 := eq_true q218
                go_wp2_with (first | ((with_reducible refine gate_dst (N := 11) rfl ?_); refine box_event ?hg (N := 11) ?hd (cs := #[.int .i64 0, .int .i64 0, .int .i64 0, .int .i64 0, .int .i64 0, .int .i64 0, .bool false]) (t := 45) ?hr ?_; (case hd => rfl); (case hg => rfl); (case hr => first | (go_simp; done) | (go_simp; rfl)); intro gb219 hg w14 hbox hb; have n0_ := Aside0.mk (Kd.R_below (by (with_reducible repeat (first | apply Kd.R_alloc | apply Kd.R_drewN | apply Kd.R_drew)); exact HO_9.out) hb); have n1_ := Aside0.mk (blk_below (g := gb211) (o := .cells #[.int .i64 0, .int .i64 0, .int .i64 0, .int .i64 0] 23 (0, 0)) (by (with_reducible repeat (first | refine blk_drewN ?_ _ | refine blk_drew ?_ | refine blk_alloc ?_ _)); exact BK211.out) hb); have n2_ := Aside0.mk (blk_below (g := gb217) (o := .cells #[.int .i64 t212, .int .i64 t213, .int .i64 t214, .int .i64 t215] 23 (0, 0)) (by (with_reducible repeat (first | refine blk_drewN ?_ _ | refine blk_drew ?_ | refine blk_alloc ?_ _)); exact BK217.out) hb); have n3_ := Aside0.mk (below_step (by repeat (first | (with_reducible first | exact HB.out | apply below_alloc | apply pw_below_drewN | apply below_drew1 | refine below_set ?_ GE211.out | refine below_set ?_ GE217.out) | exact HB.out)) hb); have n4_ := Aside0.mk (hbox); have n5_ := Aside0.mk ((by rw [hg]; exact (below_size (by repeat (first | (with_reducible first | exact HB.out | apply below_alloc | apply pw_below_drewN | apply below_drew1 | refine below_set ?_ GE211.out | refine below_set ?_ GE217.out) | exact HB.out))) : w.heap.size ≤ gb219)); have n6_ := Aside0.mk ((by rw [hg]; exact (below_size (by repeat (first | (with_reducible first | exact HB.out | apply below_alloc | apply pw_below_drewN | apply below_drew1 | refine below_set ?_ GE211.out | refine below_set ?_ GE217.out) | exact HB.out))) : w.heap.size ≤ gb219)); have n7_ := Aside0.mk ((by rw [hg]; exact Nat.ne_of_lt (blk_lt (g := gb211) (o := .cells #[.int .i64 0, .int .i64 0, .int .i64 0, .int .i64 0] 23 (0, 0)) (by (with_reducible repeat (first | refine blk_drewN ?_ _ | refine blk_drew ?_ | refine blk_alloc ?_ _)); exact BK211.out)) : gb211 ≠ gb219)); have n8_ := Aside0.mk ((by rw [hg]; exact Nat.ne_of_gt (blk_lt (g := gb211) (o := .cells #[.int .i64 0, .int .i64 0, .int .i64 0, .int .i64 0] 23 (0, 0)) (by (with_reducible repeat (first | refine blk_drewN ?_ _ | refine blk_drew ?_ | refine blk_alloc ?_ _)); exact BK211.out)) : gb219 ≠ gb211)); have n9_ := Aside0.mk ((by rw [hg]; exact Nat.ne_of_lt (blk_lt (g := gb217) (o := .cells #[.int .i64 t212, .int .i64 t213, .int .i64 t214, .int .i64 t215] 23 (0, 0)) (by (with_reducible repeat (first | refine blk_drewN ?_ _ | refine blk_drew ?_ | refine blk_alloc ?_ _)); exact BK217.out)) : gb217 ≠ gb219)); have n10_ := Aside0.mk ((by rw [hg]; exact Nat.ne_of_gt (blk_lt (g := gb217) (o := .cells #[.int .i64 t212, .int .i64 t213, .int .i64 t214, .int .i64 t215] 23 (0, 0)) (by (with_reducible repeat (first | refine blk_drewN ?_ _ | refine blk_drew ?_ | refine blk_alloc ?_ _)); exact BK217.out)) : gb219 ≠ gb217)); clear HO_9; clear BK211; clear BK217; clear HB; have HO_9 := n0_; have BK211 := n1_; have BK217 := n2_; have HB := n3_; have BK219 := n4_; have GW219 := n5_; have GE219 := n6_; have NB211_219 := n7_; have NB219_211 := n8_; have NB217_219 := n9_; have NB219_217 := n10_; clear n0_ n1_ n2_ n3_ n4_ n5_ n6_ n7_ n8_ n9_ n10_; clear hb hbox hg; have hnb15 := NB219_211.out; have hnc15 := NB211_219.out; have hnb16 := NB219_217.out; have hnc16 := NB217_219.out; have hcz17_0 : w14.cell? ⟨gb219, 0, none⟩ = some (.int .i64 0) := (blk_cell BK219.out 0).trans rfl; have hcz17_1 : w14.cell? ⟨gb219, 1, none⟩ = some (.int .i64 0) := (blk_cell BK219.out 1).trans rfl; have hcz17_2 : w14.cell? ⟨gb219, 2, none⟩ = some (.int .i64 0) := (blk_cell BK219.out 2).trans rfl; have hcz17_3 : w14.cell? ⟨gb219, 3, none⟩ = some (.int .i64 0) := (blk_cell BK219.out 3).trans rfl; have hcz17_4 : w14.cell? ⟨gb219, 4, none⟩ = some (.int .i64 0) := (blk_cell BK219.out 4).trans rfl; have hcz17_5 : w14.cell? ⟨gb219, 5, none⟩ = some (.int .i64 0) := (blk_cell BK219.out 5).trans rfl; have hcz17_6 : w14.cell? ⟨gb219, 6, none⟩ = some (.bool false) := (blk_cell BK219.out 6).trans rfl; have hfz17_0 := blk_frozen BK219.out 0; have hfz17_1 := blk_frozen BK219.out 1; have hfz17_2 := blk_frozen BK219.out 2; have hfz17_3 := blk_frozen BK219.out 3; have hfz17_4 := blk_frozen BK219.out 4; have hfz17_5 := blk_frozen BK219.out 5; have hfz17_6 := blk_frozen BK219.out 6) | ((with_reducible refine gate_builtin (b := .append) (xs := #[.tmp 32, .tmp 33]) rfl ?_); at_builtin; refine Kd.R_append (Kd.int .i64) (w0 := w) w.heap.size rfl (.tmp 32) (.tmp 33) 40 3 (.int .i64 0) 8 rfl Try.underlying40 info3 rfl (by decide) (by omega) u9 x9_1 1 [.int .i64 1] (fun _ => True) (fun _ => False) rfl (by first | (go_simp; done) | (go_simp; rfl)) ?aP (fun _ hk => hk.elim) ?aF ?aO ?aB ?aS ?aL ?_; (case aP => exact rfl); (case aB => exact (by repeat (first | (with_reducible first | exact HB.out | apply below_alloc | apply pw_below_drewN | apply below_drew1 | refine below_set ?_ GE211.out | refine below_set ?_ GE217.out | refine below_set ?_ GE219.out) | exact HB.out))); (case aF => exact (fun _ _ => trivial)); (case aO => exact (by (with_reducible repeat (first | apply Kd.R_alloc | apply Kd.R_drewN | apply Kd.R_drew)); exact Kd.R_mono (Kd.R_far (p := ⟨gb219, 6, none⟩) (Kd.R_far (p := ⟨gb219, 5, none⟩) (Kd.R_far (p := ⟨gb219, 4, none⟩) (Kd.R_far (p := ⟨gb219, 3, none⟩) (Kd.R_far (p := ⟨gb219, 2, none⟩) (Kd.R_far (p := ⟨gb219, 1, none⟩) (Kd.R_far (p := ⟨gb219, 0, none⟩) (Kd.R_types HO_9.out BK219.out (by decide)) (fun _ hk => hk.2) (.int .i64 ((rd_T45 l1 x20_1).f0.f0))) (fun _ hk => hk.2) (.int .i64 ((rd_T45 l1 x20_1).f0.f1))) (fun _ hk => hk.2) (.int .i64 ((rd_T45 l1 x20_1).f0.f2))) (fun _ hk => hk.2) (.int .i64 ((rd_T45 l1 x20_1).f0.f3))) (fun _ hk => hk.2) (.int .i64 ((rd_T45 l1 x20_1).f1))) (fun _ hk => hk.2) (.int .i64 ((rd_T45 l1 x20_1).f2))) (fun _ hk => hk.2) (.bool ((rd_T45 l1 x20_1).f3))) (fun _ hk => trivial))); (case aS => exact (below_size (by repeat (first | (with_reducible first | exact HB.out | apply below_alloc | apply pw_below_drewN | apply below_drew1 | refine below_set ?_ GE211.out | refine below_set ?_ GE217.out | refine below_set ?_ GE219.out) | exact HB.out)))); (case aL => have := LMc13.out; omega); intro v221 w18 ho hb hg hat; rw [← Ny220.out] at ho; have n0_ := Aside0.mk (blk_grown (g := gb211) (o := .cells #[.int .i64 0, .int .i64 0, .int .i64 0, .int .i64 0] 23 (0, 0)) (by (with_reducible repeat (first | refine blk_drewN ?_ _ | refine blk_drew ?_ | refine blk_alloc ?_ _)); refine blk_far ?_ NB211_219.out _; (with_reducible repeat (first | refine blk_drewN ?_ _ | refine blk_drew ?_ | refine blk_alloc ?_ _)); refine blk_far ?_ NB211_219.out _; (with_reducible repeat (first | refine blk_drewN ?_ _ | refine blk_drew ?_ | refine blk_alloc ?_ _)); refine blk_far ?_ NB211_219.out _; (with_reducible repeat (first | refine blk_drewN ?_ _ | refine blk_drew ?_ | refine blk_alloc ?_ _)); refine blk_far ?_ NB211_219.out _; (with_reducible repeat (first | refine blk_drewN ?_ _ | refine blk_drew ?_ | refine blk_alloc ?_ _)); refine blk_far ?_ NB211_219.out _; (with_reducible repeat (first | refine blk_drewN ?_ _ | refine blk_drew ?_ | refine blk_alloc ?_ _)); refine blk_far ?_ NB211_219.out _; (with_reducible repeat (first | refine blk_drewN ?_ _ | refine blk_drew ?_ | refine blk_alloc ?_ _)); refine blk_far ?_ NB211_219.out _; (with_reducible repeat (first | refine blk_drewN ?_ _ | refine blk_drew ?_ | refine blk_alloc ?_ _)); exact BK211.out) hg (Kd.R_ne HO_9.out BK211.out (by decide))); have n1_ := Aside0.mk (blk_grown (g := gb217) (o := .cells #[.int .i64 t212, .int .i64 t213, .int .i64 t214, .int .i64 t215] 23 (0, 0)) (by (with_reducible repeat (first | refine blk_drewN ?_ _ | refine blk_drew ?_ | refine blk_alloc ?_ _)); refine blk_far ?_ NB217_219.out _; (with_reducible repeat (first | refine blk_drewN ?_ _ | refine blk_drew ?_ | refine blk_alloc ?_ _)); refine blk_far ?_ NB217_219.out _; (with_reducible repeat (first | refine blk_drewN ?_ _ | refine blk_drew ?_ | refine blk_alloc ?_ _)); refine blk_far ?_ NB217_219.out _; (with_reducible repeat (first | refine blk_drewN ?_ _ | refine blk_drew ?_ | refine blk_alloc ?_ _)); refine blk_far ?_ NB217_219.out _; (with_reducible repeat (first | refine blk_drewN ?_ _ | refine blk_drew ?_ | refine blk_alloc ?_ _)); refine blk_far ?_ NB217_219.out _; (with_reducible repeat (first | refine blk_drewN ?_ _ | refine blk_drew ?_ | refine blk_alloc ?_ _)); refine blk_far ?_ NB217_219.out _; (with_reducible repeat (first | refine blk_drewN ?_ _ | refine blk_drew ?_ | refine blk_alloc ?_ _)); refine blk_far ?_ NB217_219.out _; (with_reducible repeat (first | refine blk_drewN ?_ _ | refine blk_drew ?_ | refine blk_alloc ?_ _)); exact BK217.out) hg (Kd.R_ne HO_9.out BK217.out (by decide))); have n2_ := Aside0.mk (blk_grown (g := gb219) (o := .cells #[.int .i64 ((rd_T45 l1 x20_1).f0.f0), .int .i64 ((rd_T45 l1 x20_1).f0.f1), .int .i64 ((rd_T45 l1 x20_1).f0.f2), .int .i64 ((rd_T45 l1 x20_1).f0.f3), .int .i64 ((rd_T45 l1 x20_1).f1), .int .i64 ((rd_T45 l1 x20_1).f2), .bool ((rd_T45 l1 x20_1).f3)] 45 (0, 0)) (by (with_reducible repeat (first | refine blk_drewN ?_ _ | refine blk_drew ?_ | refine blk_alloc ?_ _)); refine blk_put (cs := #[.int .i64 ((rd_T45 l1 x20_1).f0.f0), .int .i64 ((rd_T45 l1 x20_1).f0.f1), .int .i64 ((rd_T45 l1 x20_1).f0.f2), .int .i64 ((rd_T45 l1 x20_1).f0.f3), .int .i64 ((rd_T45 l1 x20_1).f1), .int .i64 ((rd_T45 l1 x20_1).f2), .bool false]) ?_ 6 _ rfl; (with_reducible repeat (first | refine blk_drewN ?_ _ | refine blk_drew ?_ | refine blk_alloc ?_ _)); refine blk_put (cs := #[.int .i64 ((rd_T45 l1 x20_1).f0.f0), .int .i64 ((rd_T45 l1 x20_1).f0.f1), .int .i64 ((rd_T45 l1 x20_1).f0.f2), .int .i64 ((rd_T45 l1 x20_1).f0.f3), .int .i64 ((rd_T45 l1 x20_1).f1), .int .i64 0, .bool false]) ?_ 5 _ rfl; (with_reducible repeat (first | refine blk_drewN ?_ _ | refine blk_drew ?_ | refine blk_alloc ?_ _)); refine blk_put (cs := #[.int .i64 ((rd_T45 l1 x20_1).f0.f0), .int .i64 ((rd_T45 l1 x20_1).f0.f1), .int .i64 ((rd_T45 l1 x20_1).f0.f2), .int .i64 ((rd_T45 l1 x20_1).f0.f3), .int .i64 0, .int .i64 0, .bool false]) ?_ 4 _ rfl; (with_reducible repeat (first | refine blk_drewN ?_ _ | refine blk_drew ?_ | refine blk_alloc ?_ _)); refine blk_put (cs := #[.int .i64 ((rd_T45 l1 x20_1).f0.f0), .int .i64 ((rd_T45 l1 x20_1).f0.f1), .int .i64 ((rd_T45 l1 x20_1).f0.f2), .int .i64 0, .int .i64 0, .int .i64 0, .bool false]) ?_ 3 _ rfl; (with_reducible repeat (first | refine blk_drewN ?_ _ | refine blk_drew ?_ | refine blk_alloc ?_ _)); refine blk_put (cs := #[.int .i64 ((rd_T45 l1 x20_1).f0.f0), .int .i64 ((rd_T45 l1 x20_1).f0.f1), .int .i64 0, .int .i64 0, .int .i64 0, .int .i64 0, .bool false]) ?_ 2 _ rfl; (with_reducible repeat (first | refine blk_drewN ?_ _ | refine blk_drew ?_ | refine blk_alloc ?_ _)); refine blk_put (cs := #[.int .i64 ((rd_T45 l1 x20_1).f0.f0), .int .i64 0, .int .i64 0, .int .i64 0, .int .i64 0, .int .i64 0, .bool false]) ?_ 1 _ rfl; (with_reducible repeat (first | refine blk_drewN ?_ _ | refine blk_drew ?_ | refine blk_alloc ?_ _)); refine blk_put (cs := #[.int .i64 0, .int .i64 0, .int .i64 0, .int .i64 0, .int .i64 0, .int .i64 0, .bool false]) ?_ 0 _ rfl; (with_reducible repeat (first | refine blk_drewN ?_ _ | refine blk_drew ?_ | refine blk_alloc ?_ _)); exact BK219.out) hg (Kd.R_ne HO_9.out BK219.out (by decide))); have n3_ := Aside0.mk (hb); have n4_ := Aside0.mk (ho); clear BK211; clear BK217; clear BK219; clear HB; clear HO_9; have BK211 := n0_; have BK217 := n1_; have BK219 := n2_; have HB := n3_; have HO222 := n4_; clear n0_ n1_ n2_ n3_ n4_; clear ho hb hg hat))
                go_roundg k1
                case measure => have := HK1.out; omega
                case rel => exact ⟨(y220), (wrap64 (x20_1 + 1)), (by first | rfl | (simp; done) | (simp [*]; done)), H', ⟨by have := HK1.out; omega⟩, ⟨by (with_reducible repeat (first | apply Kd.R_alloc | apply Kd.R_drewN | apply Kd.R_drew)); exact HO222.out⟩, ⟨by (with_reducible repeat (first | refine blk_drewN ?_ _ | refine blk_drew ?_ | refine blk_alloc ?_ _)); exact BK211.out⟩, ⟨by (with_reducible repeat (first | refine blk_drewN ?_ _ | refine blk_drew ?_ | refine blk_alloc ?_ _)); exact BK217.out⟩, ⟨by repeat (first | (with_reducible first | exact HB.out | apply below_alloc | apply pw_below_drewN | apply below_drew1 | refine below_set ?_ GE211.out | refine below_set ?_ GE217.out | refine below_set ?_ GE219.out) | exact HB.out)⟩⟩
              · rw [if_neg c13] at H
                exact absurd H (by simp)
            · rw [if_neg c12] at H
              have c12b0 : (x20_1 == t216) = false := beq_eq_false_iff_ne.mpr c12
              have c12b1 : (x20_1 != t216) = true := bne_iff_ne.mpr c12
              replace H := Option.bind_eq_some_iff.mp H
              obtain ⟨t223, A190, H⟩ := H
              replace H : (if t223 = true then ((prio_Offer.f t212 t213 t214 t215 a0 x20_1).bind fun bt224 => ((prio_Better.f k1 bt224.1 bt224.2.1 bt224.2.2.1 bt224.2.2.2 ((rd_T45 l1 x20_1).f0.f0) ((rd_T45 l1 x20_1).f0.f1) ((rd_T45 l1 x20_1).f0.f2) ((rd_T45 l1 x20_1).f0.f3)).bind fun t228 => (if t228 = true then (if x9_1.length < 17592186044416 then (prio_Roles.l0 k1 a0 t216 (x9_1 ++ [2]) l1 (l1.length : Int) (wrap64 (x20_1 + 1)) t212 t213 t214 t215) else (none)) else (if x9_1.length < 17592186044416 then (prio_Roles.l0 k1 a0 t216 (x9_1 ++ [3]) l1 (l1.length : Int) (wrap64 (x20_1 + 1)) t212 t213 t214 t215) else (none))))) else (if x9_1.length < 17592186044416 then (prio_Roles.l0 k1 a0 t216 (x9_1 ++ [2]) l1 (l1.length : Int) (wrap64 (x20_1 + 1)) t212 t213 t214 t215) else (none))) = some (r1, r2, r3, r4, r5, r6) := H
              have A19 := Aside0.mk A190
              clear A190
              by_cases c20 : t223 = true
              · subst c20
                have H1 : ((prio_Offer.f t212 t213 t214 t215 a0 x20_1).bind fun bt224 => ((prio_Better.f k1 bt224.1 bt224.2.1 bt224.2.2.1 bt224.2.2.2 ((rd_T45 l1 x20_1).f0.f0) ((rd_T45 l1 x20_1).f0.f1) ((rd_T45 l1 x20_1).f0.f2) ((rd_T45 l1 x20_1).f0.f3)).bind fun t228 => (if t228 = true then (if x9_1.length < 17592186044416 then (prio_Roles.l0 k1 a0 t216 (x9_1 ++ [2]) l1 (l1.length : Int) (wrap64 (x20_1 + 1)) t212 t213 t214 t215) else (none)) else (if x9_1.length < 17592186044416 then (prio_Roles.l0 k1 a0 t216 (x9_1 ++ [3]) l1 (l1.length : Int) (wrap64 (x20_1 + 1)) t212 t213 t214 t215) else (none))))) = some (r1, r2, r3, r4, r5, r6) := by rw [if_pos rfl] at H; exact H
                clear H
                have H := H1
                clear H1
                replace H := Option.bind_eq_some_iff.mp H
                obtain ⟨⟨t224, t225, t226, t227⟩, A210, H⟩ := H
                replace H : ((prio_Better.f k1 t224 t225 t226 t227 ((rd_T45 l1 x20_1).f0.f0) ((rd_T45 l1 x20_1).f0.f1) ((rd_T45 l1 x20_1).f0.f2) ((rd_T45 l1 x20_1).f0.f3)).bind fun t228 => (if t228 = true then (if x9_1.length < 17592186044416 then (prio_Roles.l0 k1 a0 t216 (x9_1 ++ [2]) l1 (l1.length : Int) (wrap64 (x20_1 + 1)) t212 t213 t214 t215) else (none)) else (if x9_1.length < 17592186044416 then (prio_Roles.l0 k1 a0 t216 (x9_1 ++ [3]) l1 (l1.length : Int) (wrap64 (x20_1 + 1)) t212 t213 t214 t215) else (none)))) = some (r1, r2, r3, r4, r5, r6) := H
                have A21 := Aside0.mk A210
                clear A210
                replace H := Option.bind_eq_some_iff.mp H
                obtain ⟨t228, A220, H⟩ := H
                replace H : (if t228 = true then (if x9_1.length < 17592186044416 then (prio_Roles.l0 k1 a0 t216 (x9_1 ++ [2]) l1 (l1.length : Int) (wrap64 (x20_1 + 1)) t212 t213 t214 t215) else (none)) else (if x9_1.length < 17592186044416 then (prio_Roles.l0 k1 a0 t216 (x9_1 ++ [3]) l1 (l1.length : Int) (wrap64 (x20_1 + 1)) t212 t213 t214 t215) else (none))) = some (r1, r2, r3, r4, r5, r6) := H
                have A22 := Aside0.mk A220
                clear A220
                by_cases c23 : t228 = true
                · subst c23
                  have H1 : (if x9_1.length < 17592186044416 then (prio_Roles.l0 k1 a0 t216 (x9_1 ++ [2]) l1 (l1.length : Int) (wrap64 (x20_1 + 1)) t212 t213 t214 t215) else (none)) = some (r1, r2, r3, r4, r5, r6) := by rw [if_pos rfl] at H; exact H
                  clear H
                  have H := H1
                  clear H1
                  by_cases c24 : x9_1.length < 17592186044416
                  · rw [if_pos c24] at H
                    have LMc24 := Aside0.mk c24
                    clear c24
                    obtain ⟨y229, hy229⟩ : ∃ y_ : List Int, y_ = (x9_1 ++ [2]) := ⟨_, rfl⟩
                    replace H : (prio_Roles.l0 k1 a0 t216 y229 l1 (l1.length : Int) (wrap64 (x20_1 + 1)) t212 t213 t214 t215) = some (r1, r2, r3, r4, r5, r6) := by first | (rw [hy229]; with_reducible exact H) | (have H2_ := (Option.bind_some _ _).symm.trans H; rw [hy229]; with_reducible exact H2_) | (have H2_ := (Option.bind_some _ _).symm.trans H; with_reducible exact H2_) | with_reducible exact H | (rw [hy229]; exact H) | exact H
                    have Ny229 := Aside0.mk hy229
                    clear hy229
                    have H' := Aside0.mk H
                    clear H
                    have p218 : 0 ≤ (x20_1 : Int) := of_decide_eq_true (by first | (with_reducible assumption) | assumption)
                    have q218 : x20_1 < (l1.length : Int) := of_decide_eq_true (by first | (with_reducible assumption) | assumption)
                    obtain ⟨ad218, e218, hx218_0, hx218_1, hx218_2, hx218_3, hx218_4, hx218_5, hx218_6⟩ := at_T45 HR1.out x20_1 p218 q218
                    cases e218
                    replace hx218_0 := (HB.out.cell (World.block_lt_of_cell? w _ hx218_0)).trans hx218_0
                    replace hx218_1 := (HB.out.cell (World.block_lt_of_cell? w _ hx218_1)).trans hx218_1
                    replace hx218_2 := (HB.out.cell (World.block_lt_of_cell? w _ hx218_2)).trans hx218_2
                    replace hx218_3 := (HB.out.cell (World.block_lt_of_cell? w _ hx218_3)).trans hx218_3
                    replace hx218_4 := (HB.out.cell (World.block_lt_of_cell? w _ hx218_4)).trans hx218_4
                    replace hx218_5 := (HB.out.cell (World.block_lt_of_cell? w _ hx218_5)).trans hx218_5
                    replace hx218_6 := (HB.out.cell (World.block_lt_of_cell? w _ hx218_6)).trans hx218_6
                    replace p218 := eq_true p218
                    replace q218 := eq_true q218
                    try go_wp2_with (first | ((with_reducible refine gate_dst (N := 11) rfl ?_); refine box_event ?hg (N := 11) ?hd (cs := #[.int .i64 0, .int .i64 0, .int .i64 0, .int .i64 0, .int .i64 0, .int .i64 0, .bool false]) (t := 45) ?hr ?_; (case hd => rfl); (case hg => rfl); (case hr => first | (go_simp; done) | (go_simp; rfl)); intro gb219 hg w25 hbox hb; have n0_ := Aside0.mk (Kd.R_below (by (with_reducible repeat (first | apply Kd.R_alloc | apply Kd.R_drewN | apply Kd.R_drew)); exact HO_9.out) hb); have n1_ := Aside0.mk (blk_below (g := gb211) (o := .cells #[.int .i64 0, .int .i64 0, .int .i64 0, .int .i64 0] 23 (0, 0)) (by (with_reducible repeat (first | refine blk_drewN ?_ _ | refine blk_drew ?_ | refine blk_alloc ?_ _)); exact BK211.out) hb); have n2_ := Aside0.mk (blk_below (g := gb217) (o := .cells #[.int .i64 t212, .int .i64 t213, .int .i64 t214, .int .i64 t215] 23 (0, 0)) (by (with_reducible repeat (first | refine blk_drewN ?_ _ | refine blk_drew ?_ | refine blk_alloc ?_ _)); exact BK217.out) hb); have n3_ := Aside0.mk (below_step (by repeat (first | (with_reducible first | exact HB.out | apply below_alloc | apply pw_below_drewN | apply below_drew1 | refine below_set ?_ GE211.out | refine below_set ?_ GE217.out) | exact HB.out)) hb); have n4_ := Aside0.mk (hbox); have n5_ := Aside0.mk ((by rw [hg]; exact (below_size (by repeat (first | (with_reducible first | exact HB.out | apply below_alloc | apply pw_below_drewN | apply below_drew1 | refine below_set ?_ GE211.out | refine below_set ?_ GE217.out) | exact HB.out))) : w.heap.size ≤ gb219)); have n6_ := Aside0.mk ((by rw [hg]; exact (below_size (by repeat (first | (with_reducible first | exact HB.out | apply below_alloc | apply pw_below_drewN | apply below_drew1 | refine below_set ?_ GE211.out | refine below_set ?_ GE217.out) | exact HB.out))) : w.heap.size ≤ gb219)); have n7_ := Aside0.mk ((by rw [hg]; exact Nat.ne_of_lt (blk_lt (g := gb211) (o := .cells #[.int .i64 0, .int .i64 0, .int .i64 0, .int .i64 0] 23 (0, 0)) (by (with_reducible repeat (first | refine blk_drewN ?_ _ | refine blk_drew ?_ | refine blk_alloc ?_ _)); exact BK211.out)) : gb211 ≠ gb219)); have n8_ := Aside0.mk ((by rw [hg]; exact Nat.ne_of_gt (blk_lt (g := gb211) (o := .cells #[.int .i64 0, .int .i64 0, .int .i64 0, .int .i64 0] 23 (0, 0)) (by (with_reducible repeat (first | refine blk_drewN ?_ _ | refine blk_drew ?_ | refine blk_alloc ?_ _)); exact BK211.out)) : gb219 ≠ gb211)); have n9_ := Aside0.mk ((by rw [hg]; exact Nat.ne_of_lt (blk_lt (g := gb217) (o := .cells #[.int .i64 t212, .int .i64 t213, .int .i64 t214, .int .i64 t215] 23 (0, 0)) (by (with_reducible repeat (first | refine blk_drewN ?_ _ | refine blk_drew ?_ | refine blk_alloc ?_ _)); exact BK217.out)) : gb217 ≠ gb219)); have n10_ := Aside0.mk ((by rw [hg]; exact Nat.ne_of_gt (blk_lt (g := gb217) (o := .cells #[.int .i64 t212, .int .i64 t213, .int .i64 t214, .int .i64 t215] 23 (0, 0)) (by (with_reducible repeat (first | refine blk_drewN ?_ _ | refine blk_drew ?_ | refine blk_alloc ?_ _)); exact BK217.out)) : gb219 ≠ gb217)); clear HO_9; clear BK211; clear BK217; clear HB; have HO_9 := n0_; have BK211 := n1_; have BK217 := n2_; have HB := n3_; have BK219 := n4_; have GW219 := n5_; have GE219 := n6_; have NB211_219 := n7_; have NB219_211 := n8_; have NB217_219 := n9_; have NB219_217 := n10_; clear n0_ n1_ n2_ n3_ n4_ n5_ n6_ n7_ n8_ n9_ n10_; clear hb hbox hg; have hnb26 := NB219_211.out; have hnc26 := NB211_219.out; have hnb27 := NB219_217.out; have hnc27 := NB217_219.out; have hcz28_0 : w25.cell? ⟨gb219, 0, none⟩ = some (.int .i64 0) := (blk_cell BK219.out 0).trans rfl; have hcz28_1 : w25.cell? ⟨gb219, 1, none⟩ = some (.int .i64 0) := (blk_cell BK219.out 1).trans rfl; have hcz28_2 : w25.cell? ⟨gb219, 2, none⟩ = some (.int .i64 0) := (blk_cell BK219.out 2).trans rfl; have hcz28_3 : w25.cell? ⟨gb219, 3, none⟩ = some (.int .i64 0) := (blk_cell BK219.out 3).trans rfl; have hcz28_4 : w25.cell? ⟨gb219, 4, none⟩ = some (.int .i64 0) := (blk_cell BK219.out 4).trans rfl; have hcz28_5 : w25.cell? ⟨gb219, 5, none⟩ = some (.int .i64 0) := (blk_cell BK219.out 5).trans rfl; have hcz28_6 : w25.cell? ⟨gb219, 6, none⟩ = some (.bool false) := (blk_cell BK219.out 6).trans rfl; have hfz28_0 := blk_frozen BK219.out 0; have hfz28_1 := blk_frozen BK219.out 1; have hfz28_2 := blk_frozen BK219.out 2; have hfz28_3 := blk_frozen BK219.out 3; have hfz28_4 := blk_frozen BK219.out 4; have hfz28_5 := blk_frozen BK219.out 5; have hfz28_6 := blk_frozen BK219.out 6))
                    have n0_ : Aside0 (Kd.R (Kd.int .i64) 3 (((((((w25.setCell ⟨gb219, 0, none⟩ (.int .i64 ((rd_T45 l1 x20_1).f0.f0))).setCell ⟨gb219, 1, none⟩ (.int .i64 ((rd_T45 l1 x20_1).f0.f1))).setCell ⟨gb219, 2, none⟩ (.int .i64 ((rd_T45 l1 x20_1).f0.f2))).setCell ⟨gb219, 3, none⟩ (.int .i64 ((rd_T45 l1 x20_1).f0.f3))).setCell ⟨gb219, 4, none⟩ (.int .i64 ((rd_T45 l1 x20_1).f1))).setCell ⟨gb219, 5, none⟩ (.int .i64 ((rd_T45 l1 x20_1).f2))).setCell ⟨gb219, 6, none⟩ (.bool ((rd_T45 l1 x20_1).f3))) w.heap.size (fun _ => True) u9 x9_1) := ⟨by (with_reducible repeat (first | apply Kd.R_alloc | apply Kd.R_drewN | apply Kd.R_drew)); exact Kd.R_mono (Kd.R_far (p := ⟨gb219, 6, none⟩) (Kd.R_far (p := ⟨gb219, 5, none⟩) (Kd.R_far (p := ⟨gb219, 4, none⟩) (Kd.R_far (p := ⟨gb219, 3, none⟩) (Kd.R_far (p := ⟨gb219, 2, none⟩) (Kd.R_far (p := ⟨gb219, 1, none⟩) (Kd.R_far (p := ⟨gb219, 0, none⟩) (Kd.R_types HO_9.out BK219.out (by decide)) (fun _ hk => hk.2) (.int .i64 ((rd_T45 l1 x20_1).f0.f0))) (fun _ hk => hk.2) (.int .i64 ((rd_T45 l1 x20_1).f0.f1))) (fun _ hk => hk.2) (.int .i64 ((rd_T45 l1 x20_1).f0.f2))) (fun _ hk => hk.2) (.int .i64 ((rd_T45 l1 x20_1).f0.f3))) (fun _ hk => hk.2) (.int .i64 ((rd_T45 l1 x20_1).f1))) (fun _ hk => hk.2) (.int .i64 ((rd_T45 l1 x20_1).f2))) (fun _ hk => hk.2) (.bool ((rd_T45 l1 x20_1).f3))) (fun _ hk => trivial)⟩
                    have n1_ : Aside0 ((((((((w25.setCell ⟨gb219, 0, none⟩ (.int .i64 ((rd_T45 l1 x20_1).f0.f0))).setCell ⟨gb219, 1, none⟩ (.int .i64 ((rd_T45 l1 x20_1).f0.f1))).setCell ⟨gb219, 2, none⟩ (.int .i64 ((rd_T45 l1 x20_1).f0.f2))).setCell ⟨gb219, 3, none⟩ (.int .i64 ((rd_T45 l1 x20_1).f0.f3))).setCell ⟨gb219, 4, none⟩ (.int .i64 ((rd_T45 l1 x20_1).f1))).setCell ⟨gb219, 5, none⟩ (.int .i64 ((rd_T45 l1 x20_1).f2))).setCell ⟨gb219, 6, none⟩ (.bool ((rd_T45 l1 x20_1).f3))).heap[gb211]? = some (.cells #[.int .i64 0, .int .i64 0, .int .i64 0, .int .i64 0] 23 (0, 0))) := ⟨by (with_reducible repeat (first | refine blk_drewN ?_ _ | refine blk_drew ?_ | refine blk_alloc ?_ _)); refine blk_far ?_ NB211_219.out _; (with_reducible repeat (first | refine blk_drewN ?_ _ | refine blk_drew ?_ | refine blk_alloc ?_ _)); refine blk_far ?_ NB211_219.out _; (with_reducible repeat (first | refine blk_drewN ?_ _ | refine blk_drew ?_ | refine blk_alloc ?_ _)); refine blk_far ?_ NB211_219.out _; (with_reducible repeat (first | refine blk_drewN ?_ _ | refine blk_drew ?_ | refine blk_alloc ?_ _)); refine blk_far ?_ NB211_219.out _; (with_reducible repeat (first | refine blk_drewN ?_ _ | refine blk_drew ?_ | refine blk_alloc ?_ _)); refine blk_far ?_ NB211_219.out _; (with_reducible repeat (first | refine blk_drewN ?_ _ | refine blk_drew ?_ | refine blk_alloc ?_ _)); refine blk_far ?_ NB211_219.out _; (with_reducible repeat (first | refine blk_drewN ?_ _ | refine blk_drew ?_ | refine blk_alloc ?_ _)); refine blk_far ?_ NB211_219.out _; (with_reducible repeat (first | refine blk_drewN ?_ _ | refine blk_drew ?_ | refine blk_alloc ?_ _)); exact BK211.out⟩
                    have n2_ : Aside0 ((((((((w25.setCell ⟨gb219, 0, none⟩ (.int .i64 ((rd_T45 l1 x20_1).f0.f0))).setCell ⟨gb219, 1, none⟩ (.int .i64 ((rd_T45 l1 x20_1).f0.f1))).setCell ⟨gb219, 2, none⟩ (.int .i64 ((rd_T45 l1 x20_1).f0.f2))).setCell ⟨gb219, 3, none⟩ (.int .i64 ((rd_T45 l1 x20_1).f0.f3))).setCell ⟨gb219, 4, none⟩ (.int .i64 ((rd_T45 l1 x20_1).f1))).setCell ⟨gb219, 5, none⟩ (.int .i64 ((rd_T45 l1 x20_1).f2))).setCell ⟨gb219, 6, none⟩ (.bool ((rd_T45 l1 x20_1).f3))).heap[gb217]? = some (.cells #[.int .i64 t212, .int .i64 t213, .int .i64 t214, .int .i64 t215] 23 (0, 0))) := ⟨by (with_reducible repeat (first | refine blk_drewN ?_ _ | refine blk_drew ?_ | refine blk_alloc ?_ _)); refine blk_far ?_ NB217_219.out _; (with_reducible repeat (first | refine blk_drewN ?_ _ | refine blk_drew ?_ | refine blk_alloc ?_ _)); refine blk_far ?_ NB217_219.out _; (with_reducible repeat (first | refine blk_drewN ?_ _ | refine blk_drew ?_ | refine blk_alloc ?_ _)); refine blk_far ?_ NB217_219.out _; (with_reducible repeat (first | refine blk_drewN ?_ _ | refine blk_drew ?_ | refine blk_alloc ?_ _)); refine blk_far ?_ NB217_219.out _; (with_reducible repeat (first | refine blk_drewN ?_ _ | refine blk_drew ?_ | refine blk_alloc ?_ _)); refine blk_far ?_ NB217_219.out _; (with_reducible repeat (first | refine blk_drewN ?_ _ | refine blk_drew ?_ | refine blk_alloc ?_ _)); refine blk_far ?_ NB217_219.out _; (with_reducible repeat (first | refine blk_drewN ?_ _ | refine blk_drew ?_ | refine blk_alloc ?_ _)); refine blk_far ?_ NB217_219.out _; (with_reducible repeat (first | refine blk_drewN ?_ _ | refine blk_drew ?_ | refine blk_alloc ?_ _)); exact BK217.out⟩
                    have n3_ : Aside0 ((((((((w25.setCell ⟨gb219, 0, none⟩ (.int .i64 ((rd_T45 l1 x20_1).f0.f0))).setCell ⟨gb219, 1, none⟩ (.int .i64 ((rd_T45 l1 x20_1).f0.f1))).setCell ⟨gb219, 2, none⟩ (.int .i64 ((rd_T45 l1 x20_1).f0.f2))).setCell ⟨gb219, 3, none⟩ (.int .i64 ((rd_T45 l1 x20_1).f0.f3))).setCell ⟨gb219, 4, none⟩ (.int .i64 ((rd_T45 l1 x20_1).f1))).setCell ⟨gb219, 5, none⟩ (.int .i64 ((rd_T45 l1 x20_1).f2))).setCell ⟨gb219, 6, none⟩ (.bool ((rd_T45 l1 x20_1).f3))).heap[gb219]? = some (.cells #[.int .i64 ((rd_T45 l1 x20_1).f0.f0), .int .i64 ((rd_T45 l1 x20_1).f0.f1), .int .i64 ((rd_T45 l1 x20_1).f0.f2), .int .i64 ((rd_T45 l1 x20_1).f0.f3), .int .i64 ((rd_T45 l1 x20_1).f1), .int .i64 ((rd_T45 l1 x20_1).f2), .bool ((rd_T45 l1 x20_1).f3)] 45 (0, 0))) := ⟨by (with_reducible repeat (first | refine blk_drewN ?_ _ | refine blk_drew ?_ | refine blk_alloc ?_ _)); refine blk_put (cs := #[.int .i64 ((rd_T45 l1 x20_1).f0.f0), .int .i64 ((rd_T45 l1 x20_1).f0.f1), .int .i64 ((rd_T45 l1 x20_1).f0.f2), .int .i64 ((rd_T45 l1 x20_1).f0.f3), .int .i64 ((rd_T45 l1 x20_1).f1), .int .i64 ((rd_T45 l1 x20_1).f2), .bool false]) ?_ 6 _ rfl; (with_reducible repeat (first | refine blk_drewN ?_ _ | refine blk_drew ?_ | refine blk_alloc ?_ _)); refine blk_put (cs := #[.int .i64 ((rd_T45 l1 x20_1).f0.f0), .int .i64 ((rd_T45 l1 x20_1).f0.f1), .int .i64 ((rd_T45 l1 x20_1).f0.f2), .int .i64 ((rd_T45 l1 x20_1).f0.f3), .int .i64 ((rd_T45 l1 x20_1).f1), .int .i64 0, .bool false]) ?_ 5 _ rfl; (with_reducible repeat (first | refine blk_drewN ?_ _ | refine blk_drew ?_ | refine blk_alloc ?_ _)); refine blk_put (cs := #[.int .i64 ((rd_T45 l1 x20_1).f0.f0), .int .i64 ((rd_T45 l1 x20_1).f0.f1), .int .i64 ((rd_T45 l1 x20_1).f0.f2), .int .i64 ((rd_T45 l1 x20_1).f0.f3), .int .i64 0, .int .i64 0, .bool false]) ?_ 4 _ rfl; (with_reducible repeat (first | refine blk_drewN ?_ _ | refine blk_drew ?_ | refine blk_alloc ?_ _)); refine blk_put (cs := #[.int .i64 ((rd_T45 l1 x20_1).f0.f0), .int .i64 ((rd_T45 l1 x20_1).f0.f1), .int .i64 ((rd_T45 l1 x20_1).f0.f2), .int .i64 0, .int .i64 0, .int .i64 0, .bool false]) ?_ 3 _ rfl; (with_reducible repeat (first | refine blk_drewN ?_ _ | refine blk_drew ?_ | refine blk_alloc ?_ _)); refine blk_put (cs := #[.int .i64 ((rd_T45 l1 x20_1).f0.f0), .int .i64 ((rd_T45 l1 x20_1).f0.f1), .int .i64 0, .int .i64 0, .int .i64 0, .int .i64 0, .bool false]) ?_ 2 _ rfl; (with_reducible repeat (first | refine blk_drewN ?_ _ | refine blk_drew ?_ | refine blk_alloc ?_ _)); refine blk_put (cs := #[.int .i64 ((rd_T45 l1 x20_1).f0.f0), .int .i64 0, .int .i64 0, .int .i64 0, .int .i64 0, .int .i64 0, .bool false]) ?_ 1 _ rfl; (with_reducible repeat (first | refine blk_drewN ?_ _ | refine blk_drew ?_ | refine blk_alloc ?_ _)); refine blk_put (cs := #[.int .i64 0, .int .i64 0, .int .i64 0, .int .i64 0, .int .i64 0, .int .i64 0, .bool false]) ?_ 0 _ rfl; (with_reducible repeat (first | refine blk_drewN ?_ _ | refine blk_drew ?_ | refine blk_alloc ?_ _)); exact BK219.out⟩
                    have n4_ : Aside0 (Below w.heap.size w (((((((w25.setCell ⟨gb219, 0, none⟩ (.int .i64 ((rd_T45 l1 x20_1).f0.f0))).setCell ⟨gb219, 1, none⟩ (.int .i64 ((rd_T45 l1 x20_1).f0.f1))).setCell ⟨gb219, 2, none⟩ (.int .i64 ((rd_T45 l1 x20_1).f0.f2))).setCell ⟨gb219, 3, none⟩ (.int .i64 ((rd_T45 l1 x20_1).f0.f3))).setCell ⟨gb219, 4, none⟩ (.int .i64 ((rd_T45 l1 x20_1).f1))).setCell ⟨gb219, 5, none⟩ (.int .i64 ((rd_T45 l1 x20_1).f2))).setCell ⟨gb219, 6, none⟩ (.bool ((rd_T45 l1 x20_1).f3)))) := ⟨by repeat (first | (with_reducible first | exact HB.out | apply below_alloc | apply pw_below_drewN | apply below_drew1 | refine below_set ?_ GE211.out | refine below_set ?_ GE217.out | refine below_set ?_ GE219.out) | exact HB.out)⟩
                    (try clear HO_9)
                    (try clear BK211)
                    (try clear BK217)
                    (try clear BK219)
                    (try clear HB)
                    generalize (((((((w25.setCell ⟨gb219, 0, none⟩ (.int .i64 ((rd_T45 l1 x20_1).f0.f0))).setCell ⟨gb219, 1, none⟩ (.int .i64 ((rd_T45 l1 x20_1).f0.f1))).setCell ⟨gb219, 2, none⟩ (.int .i64 ((rd_T45 l1 x20_1).f0.f2))).setCell ⟨gb219, 3, none⟩ (.int .i64 ((rd_T45 l1 x20_1).f0.f3))).setCell ⟨gb219, 4, none⟩ (.int .i64 ((rd_T45 l1 x20_1).f1))).setCell ⟨gb219, 5, none⟩ (.int .i64 ((rd_T45 l1 x20_1).f2))).setCell ⟨gb219, 6, none⟩ (.bool ((rd_T45 l1 x20_1).f3))) = w29 at n0_ n1_ n2_ n3_ n4_ ⊢
                    have HO_9 := n0_
                    have BK211 := n1_
                    have BK217 := n2_
                    have BK219 := n3_
                    have HB := n4_
                    clear n0_ n1_ n2_ n3_ n4_
                    have n0_ := Aside0.mk (Kd.R_drew HO_9.out)
                    have n1_ := Aside0.mk (blk_drew BK211.out)
                    have n2_ := Aside0.mk (blk_drew BK217.out)
                    have n3_ := Aside0.mk (blk_drew BK219.out)
                    have n4_ := Aside0.mk (below_drew1 HB.out)
                    clear HO_9
                    clear BK211
                    clear BK217
                    clear BK219
                    clear HB
                    have HO_9 := n0_
                    have BK211 := n1_
                    have BK217 := n2_
                    have BK219 := n3_
                    have HB := n4_
                    clear n0_ n1_ n2_ n3_ n4_
                    refine start_ (n := 14) (S := fun w' => w'.cell? ⟨gb219, 0, none⟩ = some (.int .i64 ((rd_T45 l1 x20_1).f0.f0)) ∧ w'.cell? ⟨gb219, 1, none⟩ = some (.int .i64 ((rd_T45 l1 x20_1).f0.f1)) ∧ w'.cell? ⟨gb219, 2, none⟩ = some (.int .i64 ((rd_T45 l1 x20_1).f0.f2)) ∧ w'.cell? ⟨gb219, 3, none⟩ = some (.int .i64 ((rd_T45 l1 x20_1).f0.f3)) ∧ w'.cell? ⟨gb219, 4, none⟩ = some (.int .i64 ((rd_T45 l1 x20_1).f1)) ∧ w'.cell? ⟨gb219, 5, none⟩ = some (.int .i64 ((rd_T45 l1 x20_1).f2)) ∧ w'.cell? ⟨gb219, 6, none⟩ = some (.bool ((rd_T45 l1 x20_1).f3)) ∧ w'.cell? ⟨gb217, 0, none⟩ = some (.int .i64 t212) ∧ w'.cell? ⟨gb217, 1, none⟩ = some (.int .i64 t213) ∧ w'.cell? ⟨gb217, 2, none⟩ = some (.int .i64 t214) ∧ w'.cell? ⟨gb217, 3, none⟩ = some (.int .i64 t215)) (ds := []) #[false, false, false, false, false, false, false, false, false, false, false, false, false, false] (by kernel_rfl) rfl rfl ⟨(blk_cell BK219.out 0).trans rfl, (blk_cell BK219.out 1).trans rfl, (blk_cell BK219.out 2).trans rfl, (blk_cell BK219.out 3).trans rfl, (blk_cell BK219.out 4).trans rfl, (blk_cell BK219.out 5).trans rfl, (blk_cell BK219.out 6).trans rfl, (blk_cell BK217.out 0).trans rfl, (blk_cell BK217.out 1).trans rfl, (blk_cell BK217.out 2).trans rfl, (blk_cell BK217.out 3).trans rfl⟩ (fun hHeld => ?_); refine with_tabW prio_Roles.tab9 prio_Roles.bits9 (fun HT_ HW_ => ?_)
                    generalize w29.drew = w30 at HO_9 BK211 BK217 BK219 HB hHeld ⊢
                    refine pure_ (i := 1) (N := some 37) (v := ?_) (a' := ?_) #[false, true, false, false, false, false, false, false, false, false, false, false, false, false] rfl rfl (any_of HT_.out (by kernel_rfl)) (fun _ _ _ h => h) (Or.inl ⟨by rfl, ?_⟩) ?_ ?_
                    rotate_left
                    · intro w'
                      go_simp
                      with_reducible rfl
                    rotate_left
                    · simp only [Act.put, List.setIfInBounds_toArray, List.set_cons_zero, List.set_cons_succ, i64_w, i32_w]
                      rfl
                    refine take_ (i := 0) (N := some 36) (v := ?_) (a' := ?_) #[true, true, false, false, false, false, false, false, false, false, false, false, false, false] rfl rfl (take_ofW HT_.out HW_.out (by kernel_rfl)) (fun _ _ _ h => h) (Or.inl ⟨by rfl, ?_⟩) hHeld ?_ ?_
                    rotate_left
                    · rintro w' ⟨s0, s1, s2, s3, s4, s5, s6, s7, s8, s9, s10⟩
                      go_simp
                      with_reducible rfl
                    rotate_left
                    · simp only [Act.put, List.setIfInBounds_toArray, List.set_cons_zero, List.set_cons_succ, i64_w, i32_w]
                      rfl
                    refine one_ (i := 2) (N := some 38) #[true, true, true, false, false, false, false, false, false, false, false, false, false, false] rfl rfl (one_of HT_.out (by kernel_rfl)) (by decide) (fun K hK => ?_)
                    refine goes_ Try.func34 (by kernel_rfl) rfl #[.agg #[.int .i64 ((rd_T45 l1 x20_1).f0.f0), .int .i64 ((rd_T45 l1 x20_1).f0.f1), .int .i64 ((rd_T45 l1 x20_1).f0.f2), .int .i64 ((rd_T45 l1 x20_1).f0.f3), .int .i64 ((rd_T45 l1 x20_1).f1), .int .i64 ((rd_T45 l1 x20_1).f2), .bool ((rd_T45 l1 x20_1).f3)], .int .i64 a0] (by rfl) rfl rfl (by (try simp only [List.map_toArray, List.map_cons, List.map_nil]); first | done | rfl | (simp only [List.length_drop, List.length_take]; rfl)) ?_
                    with_reducible refine (prio_takes.calls ((rd_T45 l1 x20_1).f0.f0) ((rd_T45 l1 x20_1).f0.f1) ((rd_T45 l1 x20_1).f0.f2) ((rd_T45 l1 x20_1).f0.f3) ((rd_T45 l1 x20_1).f1) ((rd_T45 l1 x20_1).f2) ((rd_T45 l1 x20_1).f3) a0 true _ A19.out).mono ?_
                    rintro e w31 ⟨rfl, hb⟩
                    refine ⟨_, rfl, ?_⟩
                    have n0_ := Aside0.mk (Kd.R_below (by (with_reducible repeat (first | apply Kd.R_alloc | apply Kd.R_drewN | apply Kd.R_drew)); exact HO_9.out) hb)
                    have n1_ := Aside0.mk (blk_below (g := gb211) (o := .cells #[.int .i64 0, .int .i64 0, .int .i64 0, .int .i64 0] 23 (0, 0)) (by (with_reducible repeat (first | refine blk_drewN ?_ _ | refine blk_drew ?_ | refine blk_alloc ?_ _)); exact BK211.out) hb)
                    have n2_ := Aside0.mk (blk_below (g := gb217) (o := .cells #[.int .i64 t212, .int .i64 t213, .int .i64 t214, .int .i64 t215] 23 (0, 0)) (by (with_reducible repeat (first | refine blk_drewN ?_ _ | refine blk_drew ?_ | refine blk_alloc ?_ _)); exact BK217.out) hb)
                    have n3_ := Aside0.mk (blk_below (g := gb219) (o := .cells #[.int .i64 ((rd_T45 l1 x20_1).f0.f0), .int .i64 ((rd_T45 l1 x20_1).f0.f1), .int .i64 ((rd_T45 l1 x20_1).f0.f2), .int .i64 ((rd_T45 l1 x20_1).f0.f3), .int .i64 ((rd_T45 l1 x20_1).f1), .int .i64 ((rd_T45 l1 x20_1).f2), .bool ((rd_T45 l1 x20_1).f3)] 45 (0, 0)) (by (with_reducible repeat (first | refine blk_drewN ?_ _ | refine blk_drew ?_ | refine blk_alloc ?_ _)); exact BK219.out) hb)
                    have n4_ := Aside0.mk (below_step (by repeat (first | (with_reducible first | exact HB.out | apply below_alloc | apply pw_below_drewN | apply below_drew1 | refine below_set ?_ GE211.out | refine below_set ?_ GE217.out | refine below_set ?_ GE219.out) | exact HB.out)) hb)
                    clear HO_9
                    clear BK211
                    clear BK217
                    clear BK219
                    clear HB
                    have HO_9 := n0_
                    have BK211 := n1_
                    have BK217 := n2_
                    have BK219 := n3_
                    have HB := n4_
                    clear n0_ n1_ n2_ n3_ n4_
                    (try clear hb)
                    (try clear hb2)
                    (try clear hk)
                    (try clear hi)
                    refine hK.out _ _ ⟨(blk_cell BK219.out 0).trans rfl, (blk_cell BK219.out 1).trans rfl, (blk_cell BK219.out 2).trans rfl, (blk_cell BK219.out 3).trans rfl, (blk_cell BK219.out 4).trans rfl, (blk_cell BK219.out 5).trans rfl, (blk_cell BK219.out 6).trans rfl, (blk_cell BK217.out 0).trans rfl, (blk_cell BK217.out 1).trans rfl, (blk_cell BK217.out 2).trans rfl, (blk_cell BK217.out 3).trans rfl⟩ (fun hHeld => ?_)
                    clear hK K
                    refine norm_ (a' := ?_) ?_ ?_
                    rotate_left
                    · show Act.put _ (some 38) _ = _
                      simp only [Act.put, List.setIfInBounds_toArray, List.set_cons_zero, List.set_cons_succ, i64_w, i32_w]
                      rfl
                    refine pure_ (i := 3) (N := some 39) (v := ?_) (a' := ?_) #[true, true, true, true, false, false, false, false, false, false, false, false, false, false] rfl rfl (any_of HT_.out (by kernel_rfl)) (fun _ _ _ h => h) (Or.inl ⟨by rfl, ?_⟩) ?_ ?_
                    rotate_left
                    · intro w'
                      go_simp
                      with_reducible rfl
                    rotate_left
                    · simp only [Act.put, List.setIfInBounds_toArray, List.set_cons_zero, List.set_cons_succ, i64_w, i32_w]
                      rfl
                    refine pure_ (i := 4) (N := some 40) (v := ?_) (a' := ?_) #[true, true, true, true, true, false, false, false, false, false, false, false, false, false] rfl rfl (any_of HT_.out (by kernel_rfl)) (fun _ _ _ h => h) (Or.inl ⟨by rfl, ?_⟩) ?_ ?_
                    rotate_left
                    · intro w'
                      go_simp
                      with_reducible rfl
                    rotate_left
                    · simp only [Act.put, List.setIfInBounds_toArray, List.set_cons_zero, List.set_cons_succ, i64_w, i32_w]
                      rfl
                    refine pure_ (i := 6) (N := some 42) (v := ?_) (a' := ?_) #[true, true, true, true, true, false, true, false, false, false, false, false, false, false] rfl rfl (any_of HT_.out (by kernel_rfl)) (fun _ _ _ h => h) (Or.inl ⟨by rfl, ?_⟩) ?_ ?_
                    rotate_left
                    · intro w'
                      go_simp
                      with_reducible rfl
                    rotate_left
                    · simp only [Act.put, List.setIfInBounds_toArray, List.set_cons_zero, List.set_cons_succ, i64_w, i32_w]
                      rfl
                    refine pure_ (i := 7) (N := some 43) (v := ?_) (a' := ?_) #[true, true, true, true, true, false, true, true, false, false, false, false, false, false] rfl rfl (any_of HT_.out (by kernel_rfl)) (fun _ _ _ h => h) (Or.inl ⟨by rfl, ?_⟩) ?_ ?_
                    rotate_left
                    · intro w'
                      go_simp
                      with_reducible rfl
                    rotate_left
                    · simp only [Act.put, List.setIfInBounds_toArray, List.set_cons_zero, List.set_cons_succ, i64_w, i32_w]
                      rfl
                    refine pure_ (i := 9) (N := some 45) (v := ?_) (a' := ?_) #[true, true, true, true, true, false, true, true, false, true, false, false, false, false] rfl rfl (any_of HT_.out (by kernel_rfl)) (fun _ _ _ h => h) (Or.inl ⟨by rfl, ?_⟩) ?_ ?_
                    rotate_left
                    · intro w'
                      go_simp
                      with_reducible rfl
                    rotate_left
                    · simp only [Act.put, List.setIfInBounds_toArray, List.set_cons_zero, List.set_cons_succ, i64_w, i32_w]
                      rfl
                    refine take_ (i := 5) (N := some 41) (v := ?_) (a' := ?_) #[true, true, true, true, true, true, true, true, false, true, false, false, false, false] rfl rfl (take_ofW HT_.out HW_.out (by kernel_rfl)) (fun _ _ _ h => h) (Or.inl ⟨by rfl, ?_⟩) hHeld ?_ ?_
                    rotate_left
                    · rintro w' ⟨s0, s1, s2, s3, s4, s5, s6, s7, s8, s9, s10⟩
                      go_simp
                      with_reducible rfl
                    rotate_left
                    · simp only [Act.put, List.setIfInBounds_toArray, List.set_cons_zero, List.set_cons_succ, i64_w, i32_w]
                      rfl
                    refine take_ (i := 10) (N := some 46) (v := ?_) (a' := ?_) #[true, true, true, true, true, true, true, true, false, true, true, false, false, false] rfl rfl (take_ofW HT_.out HW_.out (by kernel_rfl)) (fun _ _ _ h => h) (Or.inl ⟨by rfl, ?_⟩) hHeld ?_ ?_
                    rotate_left
                    · rintro w' ⟨s0, s1, s2, s3, s4, s5, s6, s7, s8, s9, s10⟩
                      go_simp
                      with_reducible rfl
                    rotate_left
                    · simp only [Act.put, List.setIfInBounds_toArray, List.set_cons_zero, List.set_cons_succ, i64_w, i32_w]
                      rfl
                    refine one_ (i := 8) (N := some 44) #[true, true, true, true, true, true, true, true, true, true, true, false, false, false] rfl rfl (one_of HT_.out (by kernel_rfl)) (by decide) (fun K hK => ?_)
                    refine goes_ Try.func22 (by kernel_rfl) rfl #[.agg #[.int .i64 t212, .int .i64 t213, .int .i64 t214, .int .i64 t215], .int .i64 a0, .int .i64 x20_1] (by rfl) rfl rfl (by (try simp only [List.map_toArray, List.map_cons, List.map_nil]); first | done | rfl | (simp only [List.length_drop, List.length_take]; rfl)) ?_
                    with_reducible refine (prio_Offer.calls t212 t213 t214 t215 a0 x20_1 t224 t225 t226 t227 _ A21.out).mono ?_
                    rintro e w32 ⟨rfl, hb⟩
                    refine ⟨_, rfl, ?_⟩
                    have n0_ := Aside0.mk (Kd.R_below (by (with_reducible repeat (first | apply Kd.R_alloc | apply Kd.R_drewN | apply Kd.R_drew)); exact HO_9.out) hb)
                    have n1_ := Aside0.mk (blk_below (g := gb211) (o := .cells #[.int .i64 0, .int .i64 0, .int .i64 0, .int .i64 0] 23 (0, 0)) (by (with_reducible repeat (first | refine blk_drewN ?_ _ | refine blk_drew ?_ | refine blk_alloc ?_ _)); exact BK211.out) hb)
                    have n2_ := Aside0.mk (blk_below (g := gb217) (o := .cells #[.int .i64 t212, .int .i64 t213, .int .i64 t214, .int .i64 t215] 23 (0, 0)) (by (with_reducible repeat (first | refine blk_drewN ?_ _ | refine blk_drew ?_ | refine blk_alloc ?_ _)); exact BK217.out) hb)
                    have n3_ := Aside0.mk (blk_below (g := gb219) (o := .cells #[.int .i64 ((rd_T45 l1 x20_1).f0.f0), .int .i64 ((rd_T45 l1 x20_1).f0.f1), .int .i64 ((rd_T45 l1 x20_1).f0.f2), .int .i64 ((rd_T45 l1 x20_1).f0.f3), .int .i64 ((rd_T45 l1 x20_1).f1), .int .i64 ((rd_T45 l1 x20_1).f2), .bool ((rd_T45 l1 x20_1).f3)] 45 (0, 0)) (by (with_reducible repeat (first | refine blk_drewN ?_ _ | refine blk_drew ?_ | refine blk_alloc ?_ _)); exact BK219.out) hb)
                    have n4_ := Aside0.mk (below_step (by repeat (first | (with_reducible first | exact HB.out | apply below_alloc | apply pw_below_drewN | apply below_drew1 | refine below_set ?_ GE211.out | refine below_set ?_ GE217.out | refine below_set ?_ GE219.out) | exact HB.out)) hb)
                    clear HO_9
                    clear BK211
                    clear BK217
                    clear BK219
                    clear HB
                    have HO_9 := n0_
                    have BK211 := n1_
                    have BK217 := n2_
                    have BK219 := n3_
                    have HB := n4_
                    clear n0_ n1_ n2_ n3_ n4_
                    (try clear hb)
                    (try clear hb2)
                    (try clear hk)
                    (try clear hi)
                    refine hK.out _ _ ⟨(blk_cell BK219.out 0).trans rfl, (blk_cell BK219.out 1).trans rfl, (blk_cell BK219.out 2).trans rfl, (blk_cell BK219.out 3).trans rfl, (blk_cell BK219.out 4).trans rfl, (blk_cell BK219.out 5).trans rfl, (blk_cell BK219.out 6).trans rfl, (blk_cell BK217.out 0).trans rfl, (blk_cell BK217.out 1).trans rfl, (blk_cell BK217.out 2).trans rfl, (blk_cell BK217.out 3).trans rfl⟩ (fun hHeld => ?_)
                    clear hK K
                    refine norm_ (a' := ?_) ?_ ?_
                    rotate_left
                    · show Act.put _ (some 44) _ = _
                      simp only [Act.put, List.setIfInBounds_toArray, List.set_cons_zero, List.set_cons_succ, i64_w, i32_w]
                      rfl
                    refine one_ (i := 11) (N := some 47) #[true, true, true, true, true, true, true, true, true, true, true, true, false, false] rfl rfl (one_of HT_.out (by kernel_rfl)) (by decide) (fun K hK => ?_)
                    refine goes_ Try.func15 (by kernel_rfl) rfl #[.agg #[.int .i64 t224, .int .i64 t225, .int .i64 t226, .int .i64 t227], .agg #[.int .i64 ((rd_T45 l1 x20_1).f0.f0), .int .i64 ((rd_T45 l1 x20_1).f0.f1), .int .i64 ((rd_T45 l1 x20_1).f0.f2), .int .i64 ((rd_T45 l1 x20_1).f0.f3)]] (by rfl) rfl rfl (by (try simp only [List.map_toArray, List.map_cons, List.map_nil]); first | done | rfl | (simp only [List.length_drop, List.length_take]; rfl)) ?_
                    with_reducible refine (prio_Better.calls k1 t224 t225 t226 t227 ((rd_T45 l1 x20_1).f0.f0) ((rd_T45 l1 x20_1).f0.f1) ((rd_T45 l1 x20_1).f0.f2) ((rd_T45 l1 x20_1).f0.f3) true _ A22.out).mono ?_
                    rintro e w33 ⟨rfl, hb⟩
                    refine ⟨_, rfl, ?_⟩
                    have n0_ := Aside0.mk (Kd.R_below (by (with_reducible repeat (first | apply Kd.R_alloc | apply Kd.R_drewN | apply Kd.R_drew)); exact HO_9.out) hb)
                    have n1_ := Aside0.mk (blk_below (g := gb211) (o := .cells #[.int .i64 0, .int .i64 0, .int .i64 0, .int .i64 0] 23 (0, 0)) (by (with_reducible repeat (first | refine blk_drewN ?_ _ | refine blk_drew ?_ | refine blk_alloc ?_ _)); exact BK211.out) hb)
                    have n2_ := Aside0.mk (blk_below (g := gb217) (o := .cells #[.int .i64 t212, .int .i64 t213, .int .i64 t214, .int .i64 t215] 23 (0, 0)) (by (with_reducible repeat (first | refine blk_drewN ?_ _ | refine blk_drew ?_ | refine blk_alloc ?_ _)); exact BK217.out) hb)
                    have n3_ := Aside0.mk (blk_below (g := gb219) (o := .cells #[.int .i64 ((rd_T45 l1 x20_1).f0.f0), .int .i64 ((rd_T45 l1 x20_1).f0.f1), .int .i64 ((rd_T45 l1 x20_1).f0.f2), .int .i64 ((rd_T45 l1 x20_1).f0.f3), .int .i64 ((rd_T45 l1 x20_1).f1), .int .i64 ((rd_T45 l1 x20_1).f2), .bool ((rd_T45 l1 x20_1).f3)] 45 (0, 0)) (by (with_reducible repeat (first | refine blk_drewN ?_ _ | refine blk_drew ?_ | refine blk_alloc ?_ _)); exact BK219.out) hb)
                    have n4_ := Aside0.mk (below_step (by repeat (first | (with_reducible first | exact HB.out | apply below_alloc | apply pw_below_drewN | apply below_drew1 | refine below_set ?_ GE211.out | refine below_set ?_ GE217.out | refine below_set ?_ GE219.out) | exact HB.out)) hb)
                    clear HO_9
                    clear BK211
                    clear BK217
                    clear BK219
                    clear HB
                    have HO_9 := n0_
                    have BK211 := n1_
                    have BK217 := n2_
                    have BK219 := n3_
                    have HB := n4_
                    clear n0_ n1_ n2_ n3_ n4_
                    (try clear hb)
                    (try clear hb2)
                    (try clear hk)
                    (try clear hi)
                    refine hK.out _ _ ⟨(blk_cell BK219.out 0).trans rfl, (blk_cell BK219.out 1).trans rfl, (blk_cell BK219.out 2).trans rfl, (blk_cell BK219.out 3).trans rfl, (blk_cell BK219.out 4).trans rfl, (blk_cell BK219.out 5).trans rfl, (blk_cell BK219.out 6).trans rfl, (blk_cell BK217.out 0).trans rfl, (blk_cell BK217.out 1).trans rfl, (blk_cell BK217.out 2).trans rfl, (blk_cell BK217.out 3).trans rfl⟩ (fun hHeld => ?_)
                    clear hK K
                    refine norm_ (a' := ?_) ?_ ?_
                    rotate_left
                    · show Act.put _ (some 47) _ = _
                      simp only [Act.put, List.setIfInBounds_toArray, List.set_cons_zero, List.set_cons_succ, i64_w, i32_w]
                      rfl
                    refine pure_ (i := 12) (N := some 48) (v := ?_) (a' := ?_) #[true, true, true, true, true, true, true, true, true, true, true, true, true, false] rfl rfl (any_of HT_.out (by kernel_rfl)) (fun _ _ _ h => h) (Or.inl ⟨by rfl, ?_⟩) ?_ ?_
                    rotate_left
                    · intro w'
                      go_simp
                      with_reducible rfl
                    rotate_left
                    · simp only [Act.put, List.setIfInBounds_toArray, List.set_cons_zero, List.set_cons_succ, i64_w, i32_w]
                      rfl
                    refine pure_ (i := 13) (N := some 35) (v := ?_) (a' := ?_) #[true, true, true, true, true, true, true, true, true, true, true, true, true, true] rfl rfl (any_of HT_.out (by kernel_rfl)) (fun _ _ _ h => h) (Or.inl ⟨by rfl, ?_⟩) ?_ ?_
                    rotate_left
                    · intro w'
                      go_simp
                      with_reducible rfl
                    rotate_left
                    · simp only [Act.put, List.setIfInBounds_toArray, List.set_cons_zero, List.set_cons_succ, i64_w, i32_w]
                      rfl
                    refine done_ (done_of HT_.out (by kernel_rfl)) ?_
                    try go_wp2_with (first | ((with_reducible refine gate_builtin (b := .append) (xs := #[.tmp 49, .tmp 50]) rfl ?_); at_builtin; refine Kd.R_append (Kd.int .i64) (w0 := w) w.heap.size rfl (.tmp 49) (.tmp 50) 40 3 (.int .i64 0) 8 rfl Try.underlying40 info3 rfl (by decide) (by omega) u9 x9_1 2 [.int .i64 2] (fun _ => True) (fun _ => False) rfl rfl ?aP (fun _ hk => hk.elim) ?aF ?aO ?aB ?aS ?aL ?_; (case aP => exact rfl); (case aB => exact (by repeat (first | (with_reducible first | exact HB.out | apply below_alloc | apply pw_below_drewN | apply below_drew1 | refine below_set ?_ GE211.out | refine below_set ?_ GE217.out | refine below_set ?_ GE219.out) | exact HB.out))); (case aF => exact (fun _ _ => trivial)); (case aO => exact (by (with_reducible repeat (first | apply Kd.R_alloc | apply Kd.R_drewN | apply Kd.R_drew)); exact HO_9.out)); (case aS => exact (below_size (by repeat (first | (with_reducible first | exact HB.out | apply below_alloc | apply pw_below_drewN | apply below_drew1 | refine below_set ?_ GE211.out | refine below_set ?_ GE217.out | refine below_set ?_ GE219.out) | exact HB.out)))); (case aL => have := LMc24.out; omega); intro v230 w34 ho hb hg hat; rw [← Ny229.out] at ho; have n0_ := Aside0.mk (blk_grown (g := gb211) (o := .cells #[.int .i64 0, .int .i64 0, .int .i64 0, .int .i64 0] 23 (0, 0)) (by (with_reducible repeat (first | refine blk_drewN ?_ _ | refine blk_drew ?_ | refine blk_alloc ?_ _)); exact BK211.out) hg (Kd.R_ne HO_9.out BK211.out (by decide))); have n1_ := Aside0.mk (blk_grown (g := gb217) (o := .cells #[.int .i64 t212, .int .i64 t213, .int .i64 t214, .int .i64 t215] 23 (0, 0)) (by (with_reducible repeat (first | refine blk_drewN ?_ _ | refine blk_drew ?_ | refine blk_alloc ?_ _)); exact BK217.out) hg (Kd.R_ne HO_9.out BK217.out (by decide))); have n2_ := Aside0.mk (blk_grown (g := gb219) (o := .cells #[.int .i64 ((rd_T45 l1 x20_1).f0.f0), .int .i64 ((rd_T45 l1 x20_1).f0.f1), .int .i64 ((rd_T45 l1 x20_1).f0.f2), .int .i64 ((rd_T45 l1 x20_1).f0.f3), .int .i64 ((rd_T45 l1 x20_1).f1), .int .i64 ((rd_T45 l1 x20_1).f2), .bool ((rd_T45 l1 x20_1).f3)] 45 (0, 0)) (by (with_reducible repeat (first | refine blk_drewN ?_ _ | refine blk_drew ?_ | refine blk_alloc ?_ _)); exact BK219.out) hg (Kd.R_ne HO_9.out BK219.out (by decide))); have n3_ := Aside0.mk (hb); have n4_ := Aside0.mk (ho); clear BK211; clear BK217; clear BK219; clear HB; clear HO_9; have BK211 := n0_; have BK217 := n1_; have BK219 := n2_; have HB := n3_; have HO231 := n4_; clear n0_ n1_ n2_ n3_ n4_; clear ho hb hg hat))
                    go_roundg k1
                    case measure => have := HK1.out; omega
                    case rel => exact ⟨(y229), (wrap64 (x20_1 + 1)), (by first | rfl | (simp; done) | (simp [*]; done)), H', ⟨by have := HK1.out; omega⟩, ⟨by (with_reducible repeat (first | apply Kd.R_alloc | apply Kd.R_drewN | apply Kd.R_drew)); exact HO231.out⟩, ⟨by (with_reducible repeat (first | refine blk_drewN ?_ _ | refine blk_drew ?_ | refine blk_alloc ?_ _)); exact BK211.out⟩, ⟨by (with_reducible repeat (first | refine blk_drewN ?_ _ | refine blk_drew ?_ | refine blk_alloc ?_ _)); exact BK217.out⟩, ⟨by repeat (first | (with_reducible first | exact HB.out | apply below_alloc | apply pw_below_drewN | apply below_drew1 | refine below_set ?_ GE211.out | refine below_set ?_ GE217.out | refine below_set ?_ GE219.out) | exact HB.out)⟩⟩
                  · rw [if_neg c24] at H
                    exact absurd H (by simp)
                · replace c23 := Bool.eq_false_iff.mpr c23
                  subst c23
                  have H1 : (if x9_1.length < 17592186044416 then (prio_Roles.l0 k1 a0 t216 (x9_1 ++ [3]) l1 (l1.length : Int) (wrap64 (x20_1 + 1)) t212 t213 t214 t215) else (none)) = some (r1, r2, r3, r4, r5, r6) := by rw [if_neg (show ¬ (false = true) by decide)] at H; exact H
                  clear H
                  have H := H1
                  clear H1
                  by_cases c35 : x9_1.length < 17592186044416
                  · rw [if_pos c35] at H
                    have LMc35 := Aside0.mk c35
                    clear c35
                    obtain ⟨y232, hy232⟩ : ∃ y_ : List Int, y_ = (x9_1 ++ [3]) := ⟨_, rfl⟩
                    replace H : (prio_Roles.l0 k1 a0 t216 y232 l1 (l1.length : Int) (wrap64 (x20_1 + 1)) t212 t213 t214 t215) = some (r1, r2, r3, r4, r5, r6) := by first | (rw [hy232]; with_reducible exact H) | (have H2_ := (Option.bind_some _ _).symm.trans H; rw [hy232]; with_reducible exact H2_) | (have H2_ := (Option.bind_some _ _).symm.trans H; with_reducible exact H2_) | with_reducible exact H | (rw [hy232]; exact H) | exact H
                    have Ny232 := Aside0.mk hy232
                    clear hy232
                    have H' := Aside0.mk H
                    clear H
                    have p218 : 0 ≤ (x20_1 : Int) := of_decide_eq_true (by first | (with_reducible assumption) | assumption)
                    have q218 : x20_1 < (l1.length : Int) := of_decide_eq_true (by first | (with_reducible assumption) | assumption)
                    obtain ⟨ad218, e218, hx218_0, hx218_1, hx218_2, hx218_3, hx218_4, hx218_5, hx218_6⟩ := at_T45 HR1.out x20_1 p218 q218
                    cases e218
                    replace hx218_0 := (HB.out.cell (World.block_lt_of_cell? w _ hx218_0)).trans hx218_0
                    replace hx218_1 := (HB.out.cell (World.block_lt_of_cell? w _ hx218_1)).trans hx218_1
                    replace hx218_2 := (HB.out.cell (World.block_lt_of_cell? w _ hx218_2)).trans hx218_2
                    replace hx218_3 := (HB.out.cell (World.block_lt_of_cell? w _ hx218_3)).trans hx218_3
                    replace hx218_4 := (HB.out.cell (World.block_lt_of_cell? w _ hx218_4)).trans hx218_4
                    replace hx218_5 := (HB.out.cell (World.block_lt_of_cell? w _ hx218_5)).trans hx218_5
                    replace hx218_6 := (HB.out.cell (World.block_lt_of_cell? w _ hx218_6)).trans hx218_6
                    replace p218 := eq_true p218
                    replace q218 := eq_true q218
                    try go_wp2_with (first | ((with_reducible refine gate_dst (N := 11) rfl ?_); refine box_event ?hg (N := 11) ?hd (cs := #[.int .i64 0, .int .i64 0, .int .i64 0, .int .i64 0, .int .i64 0, .int .i64 0, .bool false]) (t := 45) ?hr ?_; (case hd => rfl); (case hg => rfl); (case hr => first | (go_simp; done) | (go_simp; rfl)); intro gb219 hg w36 hbox hb; have n0_ := Aside0.mk (Kd.R_below (by (with_reducible repeat (first | apply Kd.R_alloc | apply Kd.R_drewN | apply Kd.R_drew)); exact HO_9.out) hb); have n1_ := Aside0.mk (blk_below (g := gb211) (o := .cells #[.int .i64 0, .int .i64 0, .int .i64 0, .int .i64 0] 23 (0, 0)) (by (with_reducible repeat (first | refine blk_drewN ?_ _ | refine blk_drew ?_ | refine blk_alloc ?_ _)); exact BK211.out) hb); have n2_ := Aside0.mk (blk_below (g := gb217) (o := .cells #[.int .i64 t212, .int .i64 t213, .int .i64 t214, .int .i64 t215] 23 (0, 0)) (by (with_reducible repeat (first | refine blk_drewN ?_ _ | refine blk_drew ?_ | refine blk_alloc ?_ _)); exact BK217.out) hb); have n3_ := Aside0.mk (below_step (by repeat (first | (with_reducible first | exact HB.out | apply below_alloc | apply pw_below_drewN | apply below_drew1 | refine below_set ?_ GE211.out | refine below_set ?_ GE217.out) | exact HB.out)) hb); have n4_ := Aside0.mk (hbox); have n5_ := Aside0.mk ((by rw [hg]; exact (below_size (by repeat (first | (with_reducible first | exact HB.out | apply below_alloc | apply pw_below_drewN | apply below_drew1 | refine below_set ?_ GE211.out | refine below_set ?_ GE217.out) | exact HB.out))) : w.heap.size ≤ gb219)); have n6_ := Aside0.mk ((by rw [hg]; exact (below_size (by repeat (first | (with_reducible first | exact HB.out | apply below_alloc | apply pw_below_drewN | apply below_drew1 | refine below_set ?_ GE211.out | refine below_set ?_ GE217.out) | exact HB.out))) : w.heap.size ≤ gb219)); have n7_ := Aside0.mk ((by rw [hg]; exact Nat.ne_of_lt (blk_lt (g := gb211) (o := .cells #[.int .i64 0, .int .i64 0, .int .i64 0, .int .i64 0] 23 (0, 0)) (by (with_reducible repeat (first | refine blk_drewN ?_ _ | refine blk_drew ?_ | refine blk_alloc ?_ _)); exact BK211.out)) : gb211 ≠ gb219)); have n8_ := Aside0.mk ((by rw [hg]; exact Nat.ne_of_gt (blk_lt (g := gb211) (o := .cells #[.int .i64 0, .int .i64 0, .int .i64 0, .int .i64 0] 23 (0, 0)) (by (with_reducible repeat (first | refine blk_drewN ?_ _ | refine blk_drew ?_ | refine blk_alloc ?_ _)); exact BK211.out)) : gb219 ≠ gb211)); have n9_ := Aside0.mk ((by rw [hg]; exact Nat.ne_of_lt (blk_lt (g := gb217) (o := .cells #[.int .i64 t212, .int .i64 t213, .int .i64 t214, .int .i64 t215] 23 (0, 0)) (by (with_reducible repeat (first | refine blk_drewN ?_ _ | refine blk_drew ?_ | refine blk_alloc ?_ _)); exact BK217.out)) : gb217 ≠ gb219)); have n10_ := Aside0.mk ((by rw [hg]; exact Nat.ne_of_gt (blk_lt (g := gb217) (o := .cells #[.int .i64 t212, .int .i64 t213, .int .i64 t214, .int .i64 t215] 23 (0, 0)) (by (with_reducible repeat (first | refine blk_drewN ?_ _ | refine blk_drew ?_ | refine blk_alloc ?_ _)); exact BK217.out)) : gb219 ≠ gb217)); clear HO_9; clear BK211; clear BK217; clear HB; have HO_9 := n0_; have BK211 := n1_; have BK217 := n2_; have HB := n3_; have BK219 := n4_; have GW219 := n5_; have GE219 := n6_; have NB211_219 := n7_; have NB219_211 := n8_; have NB217_219 := n9_; have NB219_217 := n10_; clear n0_ n1_ n2_ n3_ n4_ n5_ n6_ n7_ n8_ n9_ n10_; clear hb hbox hg; have hnb37 := NB219_211.out; have hnc37 := NB211_219.out; have hnb38 := NB219_217.out; have hnc38 := NB217_219.out; have hcz39_0 : w36.cell? ⟨gb219, 0, none⟩ = some (.int .i64 0) := (blk_cell BK219.out 0).trans rfl; have hcz39_1 : w36.cell? ⟨gb219, 1, none⟩ = some (.int .i64 0) := (blk_cell BK219.out 1).trans rfl; have hcz39_2 : w36.cell? ⟨gb219, 2, none⟩ = some (.int .i64 0) := (blk_cell BK219.out 2).trans rfl; have hcz39_3 : w36.cell? ⟨gb219, 3, none⟩ = some (.int .i64 0) := (blk_cell BK219.out 3).trans rfl; have hcz39_4 : w36.cell? ⟨gb219, 4, none⟩ = some (.int .i64 0) := (blk_cell BK219.out 4).trans rfl; have hcz39_5 : w36.cell? ⟨gb219, 5, none⟩ = some (.int .i64 0) := (blk_cell BK219.out 5).trans rfl; have hcz39_6 : w36.cell? ⟨gb219, 6, none⟩ = some (.bool false) := (blk_cell BK219.out 6).trans rfl; have hfz39_0 := blk_frozen BK219.out 0; have hfz39_1 := blk_frozen BK219.out 1; have hfz39_2 := blk_frozen BK219.out 2; have hfz39_3 := blk_frozen BK219.out 3; have hfz39_4 := blk_frozen BK219.out 4; have hfz39_5 := blk_frozen BK219.out 5; have hfz39_6 := blk_frozen BK219.out 6))
                    have n0_ : Aside0 (Kd.R (Kd.int .i64) 3 (((((((w36.setCell ⟨gb219, 0, none⟩ (.int .i64 ((rd_T45 l1 x20_1).f0.f0))).setCell ⟨gb219, 1, none⟩ (.int .i64 ((rd_T45 l1 x20_1).f0.f1))).setCell ⟨gb219, 2, none⟩ (.int .i64 ((rd_T45 l1 x20_1).f0.f2))).setCell ⟨gb219, 3, none⟩ (.int .i64 ((rd_T45 l1 x20_1).f0.f3))).setCell ⟨gb219, 4, none⟩ (.int .i64 ((rd_T45 l1 x20_1).f1))).setCell ⟨gb219, 5, none⟩ (.int .i64 ((rd_T45 l1 x20_1).f2))).setCell ⟨gb219, 6, none⟩ (.bool ((rd_T45 l1 x20_1).f3))) w.heap.size (fun _ => True) u9 x9_1) := ⟨by (with_reducible repeat (first | apply Kd.R_alloc | apply Kd.R_drewN | apply Kd.R_drew)); exact Kd.R_mono (Kd.R_far (p := ⟨gb219, 6, none⟩) (Kd.R_far (p := ⟨gb219, 5, none⟩) (Kd.R_far (p := ⟨gb219, 4, none⟩) (Kd.R_far (p := ⟨gb219, 3, none⟩) (Kd.R_far (p := ⟨gb219, 2, none⟩) (Kd.R_far (p := ⟨gb219, 1, none⟩) (Kd.R_far (p := ⟨gb219, 0, none⟩) (Kd.R_types HO_9.out BK219.out (by decide)) (fun _ hk => hk.2) (.int .i64 ((rd_T45 l1 x20_1).f0.f0))) (fun _ hk => hk.2) (.int .i64 ((rd_T45 l1 x20_1).f0.f1))) (fun _ hk => hk.2) (.int .i64 ((rd_T45 l1 x20_1).f0.f2))) (fun _ hk => hk.2) (.int .i64 ((rd_T45 l1 x20_1).f0.f3))) (fun _ hk => hk.2) (.int .i64 ((rd_T45 l1 x20_1).f1))) (fun _ hk => hk.2) (.int .i64 ((rd_T45 l1 x20_1).f2))) (fun _ hk => hk.2) (.bool ((rd_T45 l1 x20_1).f3))) (fun _ hk => trivial)⟩
                    have n1_ : Aside0 ((((((((w36.setCell ⟨gb219, 0, none⟩ (.int .i64 ((rd_T45 l1 x20_1).f0.f0))).setCell ⟨gb219, 1, none⟩ (.int .i64 ((rd_T45 l1 x20_1).f0.f1))).setCell ⟨gb219, 2, none⟩ (.int .i64 ((rd_T45 l1 x20_1).f0.f2))).setCell ⟨gb219, 3, none⟩ (.int .i64 ((rd_T45 l1 x20_1).f0.f3))).setCell ⟨gb219, 4, none⟩ (.int .i64 ((rd_T45 l1 x20_1).f1))).setCell ⟨gb219, 5, none⟩ (.int .i64 ((rd_T45 l1 x20_1).f2))).setCell ⟨gb219, 6, none⟩ (.bool ((rd_T45 l1 x20_1).f3))).heap[gb211]? = some (.cells #[.int .i64 0, .int .i64 0, .int .i64 0, .int .i64 0] 23 (0, 0))) := ⟨by (with_reducible repeat (first | refine blk_drewN ?_ _ | refine blk_drew ?_ | refine blk_alloc ?_ _)); refine blk_far ?_ NB211_219.out _; (with_reducible repeat (first | refine blk_drewN ?_ _ | refine blk_drew ?_ | refine blk_alloc ?_ _)); refine blk_far ?_ NB211_219.out _; (with_reducible repeat (first | refine blk_drewN ?_ _ | refine blk_drew ?_ | refine blk_alloc ?_ _)); refine blk_far ?_ NB211_219.out _; (with_reducible repeat (first | refine blk_drewN ?_ _ | refine blk_drew ?_ | refine blk_alloc ?_ _)); refine blk_far ?_ NB211_219.out _; (with_reducible repeat (first | refine blk_drewN ?_ _ | refine blk_drew ?_ | refine blk_alloc ?_ _)); refine blk_far ?_ NB211_219.out _; (with_reducible repeat (first | refine blk_drewN ?_ _ | refine blk_drew ?_ | refine blk_alloc ?_ _)); refine blk_far ?_ NB211_219.out _; (with_reducible repeat (first | refine blk_drewN ?_ _ | refine blk_drew ?_ | refine blk_alloc ?_ _)); refine blk_far ?_ NB211_219.out _; (with_reducible repeat (first | refine blk_drewN ?_ _ | refine blk_drew ?_ | refine blk_alloc ?_ _)); exact BK211.out⟩
                    have n2_ : Aside0 ((((((((w36.setCell ⟨gb219, 0, none⟩ (.int .i64 ((rd_T45 l1 x20_1).f0.f0))).setCell ⟨gb219, 1, none⟩ (.int .i64 ((rd_T45 l1 x20_1).f0.f1))).setCell ⟨gb219, 2, none⟩ (.int .i64 ((rd_T45 l1 x20_1).f0.f2))).setCell ⟨gb219, 3, none⟩ (.int .i64 ((rd_T45 l1 x20_1).f0.f3))).setCell ⟨gb219, 4, none⟩ (.int .i64 ((rd_T45 l1 x20_1).f1))).setCell ⟨gb219, 5, none⟩ (.int .i64 ((rd_T45 l1 x20_1).f2))).setCell ⟨gb219, 6, none⟩ (.bool ((rd_T45 l1 x20_1).f3))).heap[gb217]? = some (.cells #[.int .i64 t212, .int .i64 t213, .int .i64 t214, .int .i64 t215] 23 (0, 0))) := ⟨by (with_reducible repeat (first | refine blk_drewN ?_ _ | refine blk_drew ?_ | refine blk_alloc ?_ _)); refine blk_far ?_ NB217_219.out _; (with_reducible repeat (first | refine blk_drewN ?_ _ | refine blk_drew ?_ | refine blk_alloc ?_ _)); refine blk_far ?_ NB217_219.out _; (with_reducible repeat (first | refine blk_drewN ?_ _ | refine blk_drew ?_ | refine blk_alloc ?_ _)); refine blk_far ?_ NB217_219.out _; (with_reducible repeat (first | refine blk_drewN ?_ _ | refine blk_drew ?_ | refine blk_alloc ?_ _)); refine blk_far ?_ NB217_219.out _; (with_reducible repeat (first | refine blk_drewN ?_ _ | refine blk_drew ?_ | refine blk_alloc ?_ _)); refine blk_far ?_ NB217_219.out _; (with_reducible repeat (first | refine blk_drewN ?_ _ | refine blk_drew ?_ | refine blk_alloc ?_ _)); refine blk_far ?_ NB217_219.out _; (with_reducible repeat (first | refine blk_drewN ?_ _ | refine blk_drew ?_ | refine blk_alloc ?_ _)); refine blk_far ?_ NB217_219.out _; (with_reducible repeat (first | refine blk_drewN ?_ _ | refine blk_drew ?_ | refine blk_alloc ?_ _)); exact BK217.out⟩
                    have n3_ : Aside0 ((((((((w36.setCell ⟨gb219, 0, none⟩ (.int .i64 ((rd_T45 l1 x20_1).f0.f0))).setCell ⟨gb219, 1, none⟩ (.int .i64 ((rd_T45 l1 x20_1).f0.f1))).setCell ⟨gb219, 2, none⟩ (.int .i64 ((rd_T45 l1 x20_1).f0.f2))).setCell ⟨gb219, 3, none⟩ (.int .i64 ((rd_T45 l1 x20_1).f0.f3))).setCell ⟨gb219, 4, none⟩ (.int .i64 ((rd_T45 l1 x20_1).f1))).setCell ⟨gb219, 5, none⟩ (.int .i64 ((rd_T45 l1 x20_1).f2))).setCell ⟨gb219, 6, none⟩ (.bool ((rd_T45 l1 x20_1).f3))).heap[gb219]? = some (.cells #[.int .i64 ((rd_T45 l1 x20_1).f0.f0), .int .i64 ((rd_T45 l1 x20_1).f0.f1), .int .i64 ((rd_T45 l1 x20_1).f0.f2), .int .i64 ((rd_T45 l1 x20_1).f0.f3), .int .i64 ((rd_T45 l1 x20_1).f1), .int .i64 ((rd_T45 l1 x20_1).f2), .bool ((rd_T45 l1 x20_1).f3)] 45 (0, 0))) := ⟨by (with_reducible repeat (first | refine blk_drewN ?_ _ | refine blk_drew ?_ | refine blk_alloc ?_ _)); refine blk_put (cs := #[.int .i64 ((rd_T45 l1 x20_1).f0.f0), .int .i64 ((rd_T45 l1 x20_1).f0.f1), .int .i64 ((rd_T45 l1 x20_1).f0.f2), .int .i64 ((rd_T45 l1 x20_1).f0.f3), .int .i64 ((rd_T45 l1 x20_1).f1), .int .i64 ((rd_T45 l1 x20_1).f2), .bool false]) ?_ 6 _ rfl; (with_reducible repeat (first | refine blk_drewN ?_ _ | refine blk_drew ?_ | refine blk_alloc ?_ _)); refine blk_put (cs := #[.int .i64 ((rd_T45 l1 x20_1).f0.f0), .int .i64 ((rd_T45 l1 x20_1).f0.f1), .int .i64 ((rd_T45 l1 x20_1).f0.f2), .int .i64 ((rd_T45 l1 x20_1).f0.f3), .int .i64 ((rd_T45 l1 x20_1).f1), .int .i64 0, .bool false]) ?_ 5 _ rfl; (with_reducible repeat (first | refine blk_drewN ?_ _ | refine blk_drew ?_ | refine blk_alloc ?_ _)); refine blk_put (cs := #[.int .i64 ((rd_T45 l1 x20_1).f0.f0), .int .i64 ((rd_T45 l1 x20_1).f0.f1), .int .i64 ((rd_T45 l1 x20_1).f0.f2), .int .i64 ((rd_T45 l1 x20_1).f0.f3), .int .i64 0, .int .i64 0, .bool false]) ?_ 4 _ rfl; (with_reducible repeat (first | refine blk_drewN ?_ _ | refine blk_drew ?_ | refine blk_alloc ?_ _)); refine blk_put (cs := #[.int .i64 ((rd_T45 l1 x20_1).f0.f0), .int .i64 ((rd_T45 l1 x20_1).f0.f1), .int .i64 ((rd_T45 l1 x20_1).f0.f2), .int .i64 0, .int .i64 0, .int .i64 0, .bool false]) ?_ 3 _ rfl; (with_reducible repeat (first | refine blk_drewN ?_ _ | refine blk_drew ?_ | refine blk_alloc ?_ _)); refine blk_put (cs := #[.int .i64 ((rd_T45 l1 x20_1).f0.f0), .int .i64 ((rd_T45 l1 x20_1).f0.f1), .int .i64 0, .int .i64 0, .int .i64 0, .int .i64 0, .bool false]) ?_ 2 _ rfl; (with_reducible repeat (first | refine blk_drewN ?_ _ | refine blk_drew ?_ | refine blk_alloc ?_ _)); refine blk_put (cs := #[.int .i64 ((rd_T45 l1 x20_1).f0.f0), .int .i64 0, .int .i64 0, .int .i64 0, .int .i64 0, .int .i64 0, .bool false]) ?_ 1 _ rfl; (with_reducible repeat (first | refine blk_drewN ?_ _ | refine blk_drew ?_ | refine blk_alloc ?_ _)); refine blk_put (cs := #[.int .i64 0, .int .i64 0, .int .i64 0, .int .i64 0, .int .i64 0, .int .i64 0, .bool false]) ?_ 0 _ rfl; (with_reducible repeat (first | refine blk_drewN ?_ _ | refine blk_drew ?_ | refine blk_alloc ?_ _)); exact BK219.out⟩
                    have n4_ : Aside0 (Below w.heap.size w (((((((w36.setCell ⟨gb219, 0, none⟩ (.int .i64 ((rd_T45 l1 x20_1).f0.f0))).setCell ⟨gb219, 1, none⟩ (.int .i64 ((rd_T45 l1 x20_1).f0.f1))).setCell ⟨gb219, 2, none⟩ (.int .i64 ((rd_T45 l1 x20_1).f0.f2))).setCell ⟨gb219, 3, none⟩ (.int .i64 ((rd_T45 l1 x20_1).f0.f3))).setCell ⟨gb219, 4, none⟩ (.int .i64 ((rd_T45 l1 x20_1).f1))).setCell ⟨gb219, 5, none⟩ (.int .i64 ((rd_T45 l1 x20_1).f2))).setCell ⟨gb219, 6, none⟩ (.bool ((rd_T45 l1 x20_1).f3)))) := ⟨by repeat (first | (with_reducible first | exact HB.out | apply below_alloc | apply pw_below_drewN | apply below_drew1 | refine below_set ?_ GE211.out | refine below_set ?_ GE217.out | refine below_set ?_ GE219.out) | exact HB.out)⟩
                    (try clear HO_9)
                    (try clear BK211)
                    (try clear BK217)
                    (try clear BK219)
                    (try clear HB)
                    generalize (((((((w36.setCell ⟨gb219, 0, none⟩ (.int .i64 ((rd_T45 l1 x20_1).f0.f0))).setCell ⟨gb219, 1, none⟩ (.int .i64 ((rd_T45 l1 x20_1).f0.f1))).setCell ⟨gb219, 2, none⟩ (.int .i64 ((rd_T45 l1 x20_1).f0.f2))).setCell ⟨gb219, 3, none⟩ (.int .i64 ((rd_T45 l1 x20_1).f0.f3))).setCell ⟨gb219, 4, none⟩ (.int .i64 ((rd_T45 l1 x20_1).f1))).setCell ⟨gb219, 5, none⟩ (.int .i64 ((rd_T45 l1 x20_1).f2))).setCell ⟨gb219, 6, none⟩ (.bool ((rd_T45 l1 x20_1).f3))) = w40 at n0_ n1_ n2_ n3_ n4_ ⊢
                    have HO_9 := n0_
                    have BK211 := n1_
                    have BK217 := n2_
                    have BK219 := n3_
                    have HB := n4_
                    clear n0_ n1_ n2_ n3_ n4_
                    have n0_ := Aside0.mk (Kd.R_drew HO_9.out)
                    have n1_ := Aside0.mk (blk_drew BK211.out)
                    have n2_ := Aside0.mk (blk_drew BK217.out)
                    have n3_ := Aside0.mk (blk_drew BK219.out)
                    have n4_ := Aside0.mk (below_drew1 HB.out)
                    clear HO_9
                    clear BK211
                    clear BK217
                    clear BK219
                    clear HB
                    have HO_9 := n0_
                    have BK211 := n1_
                    have BK217 := n2_
                    have BK219 := n3_
                    have HB := n4_
                    clear n0_ n1_ n2_ n3_ n4_
                    refine start_ (n := 14) (S := fun w' => w'.cell? ⟨gb219, 0, none⟩ = some (.int .i64 ((rd_T45 l1 x20_1).f0.f0)) ∧ w'.cell? ⟨gb219, 1, none⟩ = some (.int .i64 ((rd_T45 l1 x20_1).f0.f1)) ∧ w'.cell? ⟨gb219, 2, none⟩ = some (.int .i64 ((rd_T45 l1 x20_1).f0.f2)) ∧ w'.cell? ⟨gb219, 3, none⟩ = some (.int .i64 ((rd_T45 l1 x20_1).f0.f3)) ∧ w'.cell? ⟨gb219, 4, none⟩ = some (.int .i64 ((rd_T45 l1 x20_1).f1)) ∧ w'.cell? ⟨gb219, 5, none⟩ = some (.int .i64 ((rd_T45 l1 x20_1).f2)) ∧ w'.cell? ⟨gb219, 6, none⟩ = some (.bool ((rd_T45 l1 x20_1).f3)) ∧ w'.cell? ⟨gb217, 0, none⟩ = some (.int .i64 t212) ∧ w'.cell? ⟨gb217, 1, none⟩ = some (.int .i64 t213) ∧ w'.cell? ⟨gb217, 2, none⟩ = some (.int .i64 t214) ∧ w'.cell? ⟨gb217, 3, none⟩ = some (.int .i64 t215)) (ds := []) #[false, false, false, false, false, false, false, false, false, false, false, false, false, false] (by kernel_rfl) rfl rfl ⟨(blk_cell BK219.out 0).trans rfl, (blk_cell BK219.out 1).trans rfl, (blk_cell BK219.out 2).trans rfl, (blk_cell BK219.out 3).trans rfl, (blk_cell BK219.out 4).trans rfl, (blk_cell BK219.out 5).trans rfl, (blk_cell BK219.out 6).trans rfl, (blk_cell BK217.out 0).trans rfl, (blk_cell BK217.out 1).trans rfl, (blk_cell BK217.out 2).trans rfl, (blk_cell BK217.out 3).trans rfl⟩ (fun hHeld => ?_); refine with_tabW prio_Roles.tab9 prio_Roles.bits9 (fun HT_ HW_ => ?_)
                    generalize w40.drew = w41 at HO_9 BK211 BK217 BK219 HB hHeld ⊢
                    refine pure_ (i := 1) (N := some 37) (v := ?_) (a' := ?_) #[false, true, false, false, false, false, false, false, false, false, false, false, false, false] rfl rfl (any_of HT_.out (by kernel_rfl)) (fun _ _ _ h => h) (Or.inl ⟨by rfl, ?_⟩) ?_ ?_
                    rotate_left
                    · intro w'
                      go_simp
                      with_reducible rfl
                    rotate_left
                    · simp only [Act.put, List.setIfInBounds_toArray, List.set_cons_zero, List.set_cons_succ, i64_w, i32_w]
                      rfl
                    refine take_ (i := 0) (N := some 36) (v := ?_) (a' := ?_) #[true, true, false, false, false, false, false, false, false, false, false, false, false, false] rfl rfl (take_ofW HT_.out HW_.out (by kernel_rfl)) (fun _ _ _ h => h) (Or.inl ⟨by rfl, ?_⟩) hHeld ?_ ?_
                    rotate_left
                    · rintro w' ⟨s0, s1, s2, s3, s4, s5, s6, s7, s8, s9, s10⟩
                      go_simp
                      with_reducible rfl
                    rotate_left
                    · simp only [Act.put, List.setIfInBounds_toArray, List.set_cons_zero, List.set_cons_succ, i64_w, i32_w]
                      rfl
                    refine one_ (i := 2) (N := some 38) #[true, true, true, false, false, false, false, false, false, false, false, false, false, false] rfl rfl (one_of HT_.out (by kernel_rfl)) (by decide) (fun K hK => ?_)
                    refine goes_ Try.func34 (by kernel_rfl) rfl #[.agg #[.int .i64 ((rd_T45 l1 x20_1).f0.f0), .int .i64 ((rd_T45 l1 x20_1).f0.f1), .int .i64 ((rd_T45 l1 x20_1).f0.f2), .int .i64 ((rd_T45 l1 x20_1).f0.f3), .int .i64 ((rd_T45 l1 x20_1).f1), .int .i64 ((rd_T45 l1 x20_1).f2), .bool ((rd_T45 l1 x20_1).f3)], .int .i64 a0] (by rfl) rfl rfl (by (try simp only [List.map_toArray, List.map_cons, List.map_nil]); first | done | rfl | (simp only [List.length_drop, List.length_take]; rfl)) ?_
                    with_reducible refine (prio_takes.calls ((rd_T45 l1 x20_1).f0.f0) ((rd_T45 l1 x20_1).f0.f1) ((rd_T45 l1 x20_1).f0.f2) ((rd_T45 l1 x20_1).f0.f3) ((rd_T45 l1 x20_1).f1) ((rd_T45 l1 x20_1).f2) ((rd_T45 l1 x20_1).f3) a0 true _ A19.out).mono ?_
                    rintro e w42 ⟨rfl, hb⟩
                    refine ⟨_, rfl, ?_⟩
                    have n0_ := Aside0.mk (Kd.R_below (by (with_reducible repeat (first | apply Kd.R_alloc | apply Kd.R_drewN | apply Kd.R_drew)); exact HO_9.out) hb)
                    have n1_ := Aside0.mk (blk_below (g := gb211) (o := .cells #[.int .i64 0, .int .i64 0, .int .i64 0, .int .i64 0] 23 (0, 0)) (by (with_reducible repeat (first | refine blk_drewN ?_ _ | refine blk_drew ?_ | refine blk_alloc ?_ _)); exact BK211.out) hb)
                    have n2_ := Aside0.mk (blk_below (g := gb217) (o := .cells #[.int .i64 t212, .int .i64 t213, .int .i64 t214, .int .i64 t215] 23 (0, 0)) (by (with_reducible repeat (first | refine blk_drewN ?_ _ | refine blk_drew ?_ | refine blk_alloc ?_ _)); exact BK217.out) hb)
                    have n3_ := Aside0.mk (blk_below (g := gb219) (o := .cells #[.int .i64 ((rd_T45 l1 x20_1).f0.f0), .int .i64 ((rd_T45 l1 x20_1).f0.f1), .int .i64 ((rd_T45 l1 x20_1).f0.f2), .int .i64 ((rd_T45 l1 x20_1).f0.f3), .int .i64 ((rd_T45 l1 x20_1).f1), .int .i64 ((rd_T45 l1 x20_1).f2), .bool ((rd_T45 l1 x20_1).f3)] 45 (0, 0)) (by (with_reducible repeat (first | refine blk_drewN ?_ _ | refine blk_drew ?_ | refine blk_alloc ?_ _)); exact BK219.out) hb)
                    have n4_ := Aside0.mk (below_step (by repeat (first | (with_reducible first | exact HB.out | apply below_alloc | apply pw_below_drewN | apply below_drew1 | refine below_set ?_ GE211.out | refine below_set ?_ GE217.out | refine below_set ?_ GE219.out) | exact HB.out)) hb)
                    clear HO_9
                    clear BK211
                    clear BK217
                    clear BK219
                    clear HB
                    have HO_9 := n0_
                    have BK211 := n1_
                    have BK217 := n2_
                    have BK219 := n3_
                    have HB := n4_
                    clear n0_ n1_ n2_ n3_ n4_
                    (try clear hb)
                    (try clear hb2)
                    (try clear hk)
                    (try clear hi)
                    refine hK.out _ _ ⟨(blk_cell BK219.out 0).trans rfl, (blk_cell BK219.out 1).trans rfl, (blk_cell BK219.out 2).trans rfl, (blk_cell BK219.out 3).trans rfl, (blk_cell BK219.out 4).trans rfl, (blk_cell BK219.out 5).trans rfl, (blk_cell BK219.out 6).trans rfl, (blk_cell BK217.out 0).trans rfl, (blk_cell BK217.out 1).trans rfl, (blk_cell BK217.out 2).trans rfl, (blk_cell BK217.out 3).trans rfl⟩ (fun hHeld => ?_)
                    clear hK K
                    refine norm_ (a' := ?_) ?_ ?_
                    rotate_left
                    · show Act.put _ (some 38) _ = _
                      simp only [Act.put, List.setIfInBounds_toArray, List.set_cons_zero, List.set_cons_succ, i64_w, i32_w]
                      rfl
                    refine pure_ (i := 3) (N := some 39) (v := ?_) (a' := ?_) #[true, true, true, true, false, false, false, false, false, false, false, false, false, false] rfl rfl (any_of HT_.out (by kernel_rfl)) (fun _ _ _ h => h) (Or.inl ⟨by rfl, ?_⟩) ?_ ?_
                    rotate_left
                    · intro w'
                      go_simp
                      with_reducible rfl
                    rotate_left
                    · simp only [Act.put, List.setIfInBounds_toArray, List.set_cons_zero, List.set_cons_succ, i64_w, i32_w]
                      rfl
                    refine pure_ (i := 4) (N := some 40) (v := ?_) (a' := ?_) #[true, true, true, true, true, false, false, false, false, false, false, false, false, false] rfl rfl (any_of HT_.out (by kernel_rfl)) (fun _ _ _ h => h) (Or.inl ⟨by rfl, ?_⟩) ?_ ?_
                    rotate_left
                    · intro w'
                      go_simp
                      with_reducible rfl
                    rotate_left
                    · simp only [Act.put, List.setIfInBounds_toArray, List.set_cons_zero, List.set_cons_succ, i64_w, i32_w]
                      rfl
                    refine pure_ (i := 6) (N := some 42) (v := ?_) (a' := ?_) #[true, true, true, true, true, false, true, false, false, false, false, false, false, false] rfl rfl (any_of HT_.out (by kernel_rfl)) (fun _ _ _ h => h) (Or.inl ⟨by rfl, ?_⟩) ?_ ?_
                    rotate_left
                    · intro w'
                      go_simp
                      with_reducible rfl
                    rotate_left
                    · simp only [Act.put, List.setIfInBounds_toArray, List.set_cons_zero, List.set_cons_succ, i64_w, i32_w]
                      rfl
                    refine pure_ (i := 7) (N := some 43) (v := ?_) (a' := ?_) #[true, true, true, true, true, false, true, true, false, false, false, false, false, false] rfl rfl (any_of HT_.out (by kernel_rfl)) (fun _ _ _ h => h) (Or.inl ⟨by rfl, ?_⟩) ?_ ?_
                    rotate_left
                    · intro w'
                      go_simp
                      with_reducible rfl
                    rotate_left
                    · simp only [Act.put, List.setIfInBounds_toArray, List.set_cons_zero, List.set_cons_succ, i64_w, i32_w]
                      rfl
                    refine pure_ (i := 9) (N := some 45) (v := ?_) (a' := ?_) #[true, true, true, true, true, false, true, true, false, true, false, false, false, false] rfl rfl (any_of HT_.out (by kernel_rfl)) (fun _ _ _ h => h) (Or.inl ⟨by rfl, ?_⟩) ?_ ?_
                    rotate_left
                    · intro w'
                      go_simp
                      with_reducible rfl
                    rotate_left
                    · simp only [Act.put, List.setIfInBounds_toArray, List.set_cons_zero, List.set_cons_succ, i64_w, i32_w]
                      rfl
                    refine take_ (i := 5) (N := some 41) (v := ?_) (a' := ?_) #[true, true, true, true, true, true, true, true, false, true, false, false, false, false] rfl rfl (take_ofW HT_.out HW_.out (by kernel_rfl)) (fun _ _ _ h => h) (Or.inl ⟨by rfl, ?_⟩) hHeld ?_ ?_
                    rotate_left
                    · rintro w' ⟨s0, s1, s2, s3, s4, s5, s6, s7, s8, s9, s10⟩
                      go_simp
                      with_reducible rfl
                    rotate_left
                    · simp only [Act.put, List.setIfInBounds_toArray, List.set_cons_zero, List.set_cons_succ, i64_w, i32_w]
                      rfl
                    refine take_ (i := 10) (N := some 46) (v := ?_) (a' := ?_) #[true, true, true, true, true, true, true, true, false, true, true, false, false, false] rfl rfl (take_ofW HT_.out HW_.out (by kernel_rfl)) (fun _ _ _ h => h) (Or.inl ⟨by rfl, ?_⟩) hHeld ?_ ?_
                    rotate_left
                    · rintro w' ⟨s0, s1, s2, s3, s4, s5, s6, s7, s8, s9, s10⟩
                      go_simp
                      with_reducible rfl
                    rotate_left
                    · simp only [Act.put, List.setIfInBounds_toArray, List.set_cons_zero, List.set_cons_succ, i64_w, i32_w]
                      rfl
                    refine one_ (i := 8) (N := some 44) #[true, true, true, true, true, true, true, true, true, true, true, false, false, false] rfl rfl (one_of HT_.out (by kernel_rfl)) (by decide) (fun K hK => ?_)
                    refine goes_ Try.func22 (by kernel_rfl) rfl #[.agg #[.int .i64 t212, .int .i64 t213, .int .i64 t214, .int .i64 t215], .int .i64 a0, .int .i64 x20_1] (by rfl) rfl rfl (by (try simp only [List.map_toArray, List.map_cons, List.map_nil]); first | done | rfl | (simp only [List.length_drop, List.length_take]; rfl)) ?_
                    with_reducible refine (prio_Offer.calls t212 t213 t214 t215 a0 x20_1 t224 t225 t226 t227 _ A21.out).mono ?_
                    rintro e w43 ⟨rfl, hb⟩
                    refine ⟨_, rfl, ?_⟩
                    have n0_ := Aside0.mk (Kd.R_below (by (with_reducible repeat (first | apply Kd.R_alloc | apply Kd.R_drewN | apply Kd.R_drew)); exact HO_9.out) hb)
                    have n1_ := Aside0.mk (blk_below (g := gb211) (o := .cells #[.int .i64 0, .int .i64 0, .int .i64 0, .int .i64 0] 23 (0, 0)) (by (with_reducible repeat (first | refine blk_drewN ?_ _ | refine blk_drew ?_ | refine blk_alloc ?_ _)); exact BK211.out) hb)
                    have n2_ := Aside0.mk (blk_below (g := gb217) (o := .cells #[.int .i64 t212, .int .i64 t213, .int .i64 t214, .int .i64 t215] 23 (0, 0)) (by (with_reducible repeat (first | refine blk_drewN ?_ _ | refine blk_drew ?_ | refine blk_alloc ?_ _)); exact BK217.out) hb)
                    have n3_ := Aside0.mk (blk_below (g := gb219) (o := .cells #[.int .i64 ((rd_T45 l1 x20_1).f0.f0), .int .i64 ((rd_T45 l1 x20_1).f0.f1), .int .i64 ((rd_T45 l1 x20_1).f0.f2), .int .i64 ((rd_T45 l1 x20_1).f0.f3), .int .i64 ((rd_T45 l1 x20_1).f1), .int .i64 ((rd_T45 l1 x20_1).f2), .bool ((rd_T45 l1 x20_1).f3)] 45 (0, 0)) (by (with_reducible repeat (first | refine blk_drewN ?_ _ | refine blk_drew ?_ | refine blk_alloc ?_ _)); exact BK219.out) hb)
                    have n4_ := Aside0.mk (below_step (by repeat (first | (with_reducible first | exact HB.out | apply below_alloc | apply pw_below_drewN | apply below_drew1 | refine below_set ?_ GE211.out | refine below_set ?_ GE217.out | refine below_set ?_ GE219.out) | exact HB.out)) hb)
                    clear HO_9
                    clear BK211
                    clear BK217
                    clear BK219
                    clear HB
                    have HO_9 := n0_
                    have BK211 := n1_
                    have BK217 := n2_
                    have BK219 := n3_
                    have HB := n4_
                    clear n0_ n1_ n2_ n3_ n4_
                    (try clear hb)
                    (try clear hb2)
                    (try clear hk)
                    (try clear hi)
                    refine hK.out _ _ ⟨(blk_cell BK219.out 0).trans rfl, (blk_cell BK219.out 1).trans rfl, (blk_cell BK219.out 2).trans rfl, (blk_cell BK219.out 3).trans rfl, (blk_cell BK219.out 4).trans rfl, (blk_cell BK219.out 5).trans rfl, (blk_cell BK219.out 6).trans rfl, (blk_cell BK217.out 0).trans rfl, (blk_cell BK217.out 1).trans rfl, (blk_cell BK217.out 2).trans rfl, (blk_cell BK217.out 3).trans rfl⟩ (fun hHeld => ?_)
                    clear hK K
                    refine norm_ (a' := ?_) ?_ ?_
                    rotate_left
                    · show Act.put _ (some 44) _ = _
                      simp only [Act.put, List.setIfInBounds_toArray, List.set_cons_zero, List.set_cons_succ, i64_w, i32_w]
                      rfl
                    refine one_ (i := 11) (N := some 47) #[true, true, true, true, true, true, true, true, true, true, true, true, false, false] rfl rfl (one_of HT_.out (by kernel_rfl)) (by decide) (fun K hK => ?_)
                    refine goes_ Try.func15 (by kernel_rfl) rfl #[.agg #[.int .i64 t224, .int .i64 t225, .int .i64 t226, .int .i64 t227], .agg #[.int .i64 ((rd_T45 l1 x20_1).f0.f0), .int .i64 ((rd_T45 l1 x20_1).f0.f1), .int .i64 ((rd_T45 l1 x20_1).f0.f2), .int .i64 ((rd_T45 l1 x20_1).f0.f3)]] (by rfl) rfl rfl (by (try simp only [List.map_toArray, List.map_cons, List.map_nil]); first | done | rfl | (simp only [List.length_drop, List.length_take]; rfl)) ?_
                    with_reducible refine (prio_Better.calls k1 t224 t225 t226 t227 ((rd_T45 l1 x20_1).f0.f0) ((rd_T45 l1 x20_1).f0.f1) ((rd_T45 l1 x20_1).f0.f2) ((rd_T45 l1 x20_1).f0.f3) false _ A22.out).mono ?_
                    rintro e w44 ⟨rfl, hb⟩
                    refine ⟨_, rfl, ?_⟩
                    have n0_ := Aside0.mk (Kd.R_below (by (with_reducible repeat (first | apply Kd.R_alloc | apply Kd.R_drewN | apply Kd.R_drew)); exact HO_9.out) hb)
                    have n1_ := Aside0.mk (blk_below (g := gb211) (o := .cells #[.int .i64 0, .int .i64 0, .int .i64 0, .int .i64 0] 23 (0, 0)) (by (with_reducible repeat (first | refine blk_drewN ?_ _ | refine blk_drew ?_ | refine blk_alloc ?_ _)); exact BK211.out) hb)
                    have n2_ := Aside0.mk (blk_below (g := gb217) (o := .cells #[.int .i64 t212, .int .i64 t213, .int .i64 t214, .int .i64 t215] 23 (0, 0)) (by (with_reducible repeat (first | refine blk_drewN ?_ _ | refine blk_drew ?_ | refine blk_alloc ?_ _)); exact BK217.out) hb)
                    have n3_ := Aside0.mk (blk_below (g := gb219) (o := .cells #[.int .i64 ((rd_T45 l1 x20_1).f0.f0), .int .i64 ((rd_T45 l1 x20_1).f0.f1), .int .i64 ((rd_T45 l1 x20_1).f0.f2), .int .i64 ((rd_T45 l1 x20_1).f0.f3), .int .i64 ((rd_T45 l1 x20_1).f1), .int .i64 ((rd_T45 l1 x20_1).f2), .bool ((rd_T45 l1 x20_1).f3)] 45 (0, 0)) (by (with_reducible repeat (first | refine blk_drewN ?_ _ | refine blk_drew ?_ | refine blk_alloc ?_ _)); exact BK219.out) hb)
                    have n4_ := Aside0.mk (below_step (by repeat (first | (with_reducible first | exact HB.out | apply below_alloc | apply pw_below_drewN | apply below_drew1 | refine below_set ?_ GE211.out | refine below_set ?_ GE217.out | refine below_set ?_ GE219.out) | exact HB.out)) hb)
                    clear HO_9
                    clear BK211
                    clear BK217
                    clear BK219
                    clear HB
                    have HO_9 := n0_
                    have BK211 := n1_
                    have BK217 := n2_
                    have BK219 := n3_
                    have HB := n4_
                    clear n0_ n1_ n2_ n3_ n4_
                    (try clear hb)
                    (try clear hb2)
                    (try clear hk)
                    (try clear hi)
                    refine hK.out _ _ ⟨(blk_cell BK219.out 0).trans rfl, (blk_cell BK219.out 1).trans rfl, (blk_cell BK219.out 2).trans rfl, (blk_cell BK219.out 3).trans rfl, (blk_cell BK219.out 4).trans rfl, (blk_cell BK219.out 5).trans rfl, (blk_cell BK219.out 6).trans rfl, (blk_cell BK217.out 0).trans rfl, (blk_cell BK217.out 1).trans rfl, (blk_cell BK217.out 2).trans rfl, (blk_cell BK217.out 3).trans rfl⟩ (fun hHeld => ?_)
                    clear hK K
                    refine norm_ (a' := ?_) ?_ ?_
                    rotate_left
                    · show Act.put _ (some 47) _ = _
                      simp only [Act.put, List.setIfInBounds_toArray, List.set_cons_zero, List.set_cons_succ, i64_w, i32_w]
                      rfl
                    refine pure_ (i := 12) (N := some 48) (v := ?_) (a' := ?_) #[true, true, true, true, true, true, true, true, true, true, true, true, true, false] rfl rfl (any_of HT_.out (by kernel_rfl)) (fun _ _ _ h => h) (Or.inl ⟨by rfl, ?_⟩) ?_ ?_
                    rotate_left
                    · intro w'
                      go_simp
                      with_reducible rfl
                    rotate_left
                    · simp only [Act.put, List.setIfInBounds_toArray, List.set_cons_zero, List.set_cons_succ, i64_w, i32_w]
                      rfl
                    refine pure_ (i := 13) (N := some 35) (v := ?_) (a' := ?_) #[true, true, true, true, true, true, true, true, true, true, true, true, true, true] rfl rfl (any_of HT_.out (by kernel_rfl)) (fun _ _ _ h => h) (Or.inl ⟨by rfl, ?_⟩) ?_ ?_
                    rotate_left
                    · intro w'
                      go_simp
                      with_reducible rfl
                    rotate_left
                    · simp only [Act.put, List.setIfInBounds_toArray, List.set_cons_zero, List.set_cons_succ, i64_w, i32_w]
                      rfl
                    refine done_ (done_of HT_.out (by kernel_rfl)) ?_
                    try go_wp2_with (first | ((with_reducible refine gate_builtin (b := .append) (xs := #[.tmp 25, .tmp 26]) rfl ?_); at_builtin; refine Kd.R_append (Kd.int .i64) (w0 := w) w.heap.size rfl (.tmp 25) (.tmp 26) 40 3 (.int .i64 0) 8 rfl Try.underlying40 info3 rfl (by decide) (by omega) u9 x9_1 3 [.int .i64 3] (fun _ => True) (fun _ => False) rfl rfl ?aP (fun _ hk => hk.elim) ?aF ?aO ?aB ?aS ?aL ?_; (case aP => exact rfl); (case aB => exact (by repeat (first | (with_reducible first | exact HB.out | apply below_alloc | apply pw_below_drewN | apply below_drew1 | refine below_set ?_ GE211.out | refine below_set ?_ GE217.out | refine below_set ?_ GE219.out) | exact HB.out))); (case aF => exact (fun _ _ => trivial)); (case aO => exact (by (with_reducible repeat (first | apply Kd.R_alloc | apply Kd.R_drewN | apply Kd.R_drew)); exact HO_9.out)); (case aS => exact (below_size (by repeat (first | (with_reducible first | exact HB.out | apply below_alloc | apply pw_below_drewN | apply below_drew1 | refine below_set ?_ GE211.out | refine below_set ?_ GE217.out | refine below_set ?_ GE219.out) | exact HB.out)))); (case aL => have := LMc35.out; omega); intro v233 w45 ho hb hg hat; rw [← Ny232.out] at ho; have n0_ := Aside0.mk (blk_grown (g := gb211) (o := .cells #[.int .i64 0, .int .i64 0, .int .i64 0, .int .i64 0] 23 (0, 0)) (by (with_reducible repeat (first | refine blk_drewN ?_ _ | refine blk_drew ?_ | refine blk_alloc ?_ _)); exact BK211.out) hg (Kd.R_ne HO_9.out BK211.out (by decide))); have n1_ := Aside0.mk (blk_grown (g := gb217) (o := .cells #[.int .i64 t212, .int .i64 t213, .int .i64 t214, .int .i64 t215] 23 (0, 0)) (by (with_reducible repeat (first | refine blk_drewN ?_ _ | refine blk_drew ?_ | refine blk_alloc ?_ _)); exact BK217.out) hg (Kd.R_ne HO_9.out BK217.out (by decide))); have n2_ := Aside0.mk (blk_grown (g := gb219) (o := .cells #[.int .i64 ((rd_T45 l1 x20_1).f0.f0), .int .i64 ((rd_T45 l1 x20_1).f0.f1), .int .i64 ((rd_T45 l1 x20_1).f0.f2), .int .i64 ((rd_T45 l1 x20_1).f0.f3), .int .i64 ((rd_T45 l1 x20_1).f1), .int .i64 ((rd_T45 l1 x20_1).f2), .bool ((rd_T45 l1 x20_1).f3)] 45 (0, 0)) (by (with_reducible repeat (first | refine blk_drewN ?_ _ | refine blk_drew ?_ | refine blk_alloc ?_ _)); exact BK219.out) hg (Kd.R_ne HO_9.out BK219.out (by decide))); have n3_ := Aside0.mk (hb); have n4_ := Aside0.mk (ho); clear BK211; clear BK217; clear BK219; clear HB; clear HO_9; have BK211 := n0_; have BK217 := n1_; have BK219 := n2_; have HB := n3_; have HO234 := n4_; clear n0_ n1_ n2_ n3_ n4_; clear ho hb hg hat))
                    go_roundg k1
                    case measure => have := HK1.out; omega
                    case rel => exact ⟨(y232), (wrap64 (x20_1 + 1)), (by first | rfl | (simp; done) | (simp [*]; done)), H', ⟨by have := HK1.out; omega⟩, ⟨by (with_reducible repeat (first | apply Kd.R_alloc | apply Kd.R_drewN | apply Kd.R_drew)); exact HO234.out⟩, ⟨by (with_reducible repeat (first | refine blk_drewN ?_ _ | refine blk_drew ?_ | refine blk_alloc ?_ _)); exact BK211.out⟩, ⟨by (with_reducible repeat (first | refine blk_drewN ?_ _ | refine blk_drew ?_ | refine blk_alloc ?_ _)); exact BK217.out⟩, ⟨by repeat (first | (with_reducible first | exact HB.out | apply below_alloc | apply pw_below_drewN | apply below_drew1 | refine below_set ?_ GE211.out | refine below_set ?_ GE217.out | refine below_set ?_ GE219.out) | exact HB.out)⟩⟩
                  · rw [if_neg c35] at H
                    exact absurd H (by simp)
              · replace c20 := Bool.eq_false_iff.mpr c20
                subst c20
                have H1 : (if x9_1.length < 17592186044416 then (prio_Roles.l0 k1 a0 t216 (x9_1 ++ [2]) l1 (l1.length : Int) (wrap64 (x20_1 + 1)) t212 t213 t214 t215) else (none)) = some (r1, r2, r3, r4, r5, r6) := by rw [if_neg (show ¬ (false = true) by decide)] at H; exact H
                clear H
                have H := H1
                clear H1
                by_cases c46 : x9_1.length < 17592186044416
                · rw [if_pos c46] at H
                  have LMc46 := Aside0.mk c46
                  clear c46
                  obtain ⟨y235, hy235⟩ : ∃ y_ : List Int, y_ = (x9_1 ++ [2]) := ⟨_, rfl⟩
                  replace H : (prio_Roles.l0 k1 a0 t216 y235 l1 (l1.length : Int) (wrap64 (x20_1 + 1)) t212 t213 t214 t215) = some (r1, r2, r3, r4, r5, r6) := by first | (rw [hy235]; with_reducible exact H) | (have H2_ := (Option.bind_some _ _).symm.trans H; rw [hy235]; with_reducible exact H2_) | (have H2_ := (Option.bind_some _ _).symm.trans H; with_reducible exact H2_) | with_reducible exact H | (rw [hy235]; exact H) | exact H
                  have Ny235 := Aside0.mk hy235
                  clear hy235
                  have H' := Aside0.mk H
                  clear H
                  have p218 : 0 ≤ (x20_1 : Int) := of_decide_eq_true (by first | (with_reducible assumption) | assumption)
                  have q218 : x20_1 < (l1.length : Int) := of_decide_eq_true (by first | (with_reducible assumption) | assumption)
                  obtain ⟨ad218, e218, hx218_0, hx218_1, hx218_2, hx218_3, hx218_4, hx218_5, hx218_6⟩ := at_T45 HR1.out x20_1 p218 q218
                  cases e218
                  replace hx218_0 := (HB.out.cell (World.block_lt_of_cell? w _ hx218_0)).trans hx218_0
                  replace hx218_1 := (HB.out.cell (World.block_lt_of_cell? w _ hx218_1)).trans hx218_1
                  replace hx218_2 := (HB.out.cell (World.block_lt_of_cell? w _ hx218_2)).trans hx218_2
                  replace hx218_3 := (HB.out.cell (World.block_lt_of_cell? w _ hx218_3)).trans hx218_3
                  replace hx218_4 := (HB.out.cell (World.block_lt_of_cell? w _ hx218_4)).trans hx218_4
                  replace hx218_5 := (HB.out.cell (World.block_lt_of_cell? w _ hx218_5)).trans hx218_5
                  replace hx218_6 := (HB.out.cell (World.block_lt_of_cell? w _ hx218_6)).trans hx218_6
                  replace p218 := eq_true p218
                  replace q218 := eq_true q218
                  try go_wp2_with (first | ((with_reducible refine gate_dst (N := 11) rfl ?_); refine box_event ?hg (N := 11) ?hd (cs := #[.int .i64 0, .int .i64 0, .int .i64 0, .int .i64 0, .int .i64 0, .int .i64 0, .bool false]) (t := 45) ?hr ?_; (case hd => rfl); (case hg => rfl); (case hr => first | (go_simp; done) | (go_simp; rfl)); intro gb219 hg w47 hbox hb; have n0_ := Aside0.mk (Kd.R_below (by (with_reducible repeat (first | apply Kd.R_alloc | apply Kd.R_drewN | apply Kd.R_drew)); exact HO_9.out) hb); have n1_ := Aside0.mk (blk_below (g := gb211) (o := .cells #[.int .i64 0, .int .i64 0, .int .i64 0, .int .i64 0] 23 (0, 0)) (by (with_reducible repeat (first | refine blk_drewN ?_ _ | refine blk_drew ?_ | refine blk_alloc ?_ _)); exact BK211.out) hb); have n2_ := Aside0.mk (blk_below (g := gb217) (o := .cells #[.int .i64 t212, .int .i64 t213, .int .i64 t214, .int .i64 t215] 23 (0, 0)) (by (with_reducible repeat (first | refine blk_drewN ?_ _ | refine blk_drew ?_ | refine blk_alloc ?_ _)); exact BK217.out) hb); have n3_ := Aside0.mk (below_step (by repeat (first | (with_reducible first | exact HB.out | apply below_alloc | apply pw_below_drewN | apply below_drew1 | refine below_set ?_ GE211.out | refine below_set ?_ GE217.out) | exact HB.out)) hb); have n4_ := Aside0.mk (hbox); have n5_ := Aside0.mk ((by rw [hg]; exact (below_size (by repeat (first | (with_reducible first | exact HB.out | apply below_alloc | apply pw_below_drewN | apply below_drew1 | refine below_set ?_ GE211.out | refine below_set ?_ GE217.out) | exact HB.out))) : w.heap.size ≤ gb219)); have n6_ := Aside0.mk ((by rw [hg]; exact (below_size (by repeat (first | (with_reducible first | exact HB.out | apply below_alloc | apply pw_below_drewN | apply below_drew1 | refine below_set ?_ GE211.out | refine below_set ?_ GE217.out) | exact HB.out))) : w.heap.size ≤ gb219)); have n7_ := Aside0.mk ((by rw [hg]; exact Nat.ne_of_lt (blk_lt (g := gb211) (o := .cells #[.int .i64 0, .int .i64 0, .int .i64 0, .int .i64 0] 23 (0, 0)) (by (with_reducible repeat (first | refine blk_drewN ?_ _ | refine blk_drew ?_ | refine blk_alloc ?_ _)); exact BK211.out)) : gb211 ≠ gb219)); have n8_ := Aside0.mk ((by rw [hg]; exact Nat.ne_of_gt (blk_lt (g := gb211) (o := .cells #[.int .i64 0, .int .i64 0, .int .i64 0, .int .i64 0] 23 (0, 0)) (by (with_reducible repeat (first | refine blk_drewN ?_ _ | refine blk_drew ?_ | refine blk_alloc ?_ _)); exact BK211.out)) : gb219 ≠ gb211)); have n9_ := Aside0.mk ((by rw [hg]; exact Nat.ne_of_lt (blk_lt (g := gb217) (o := .cells #[.int .i64 t212, .int .i64 t213, .int .i64 t214, .int .i64 t215] 23 (0, 0)) (by (with_reducible repeat (first | refine blk_drewN ?_ _ | refine blk_drew ?_ | refine blk_alloc ?_ _)); exact BK217.out)) : gb217 ≠ gb219)); have n10_ := Aside0.mk ((by rw [hg]; exact Nat.ne_of_gt (blk_lt (g := gb217) (o := .cells #[.int .i64 t212, .int .i64 t213, .int .i64 t214, .int .i64 t215] 23 (0, 0)) (by (with_reducible repeat (first | refine blk_drewN ?_ _ | refine blk_drew ?_ | refine blk_alloc ?_ _)); exact BK217.out)) : gb219 ≠ gb217)); clear HO_9; clear BK211; clear BK217; clear HB; have HO_9 := n0_; have BK211 := n1_; have BK217 := n2_; have HB := n3_; have BK219 := n4_; have GW219 := n5_; have GE219 := n6_; have NB211_219 := n7_; have NB219_211 := n8_; have NB217_219 := n9_; have NB219_217 := n10_; clear n0_ n1_ n2_ n3_ n4_ n5_ n6_ n7_ n8_ n9_ n10_; clear hb hbox hg; have hnb48 := NB219_211.out; have hnc48 := NB211_219.out; have hnb49 := NB219_217.out; have hnc49 := NB217_219.out; have hcz50_0 : w47.cell? ⟨gb219, 0, none⟩ = some (.int .i64 0) := (blk_cell BK219.out 0).trans rfl; have hcz50_1 : w47.cell? ⟨gb219, 1, none⟩ = some (.int .i64 0) := (blk_cell BK219.out 1).trans rfl; have hcz50_2 : w47.cell? ⟨gb219, 2, none⟩ = some (.int .i64 0) := (blk_cell BK219.out 2).trans rfl; have hcz50_3 : w47.cell? ⟨gb219, 3, none⟩ = some (.int .i64 0) := (blk_cell BK219.out 3).trans rfl; have hcz50_4 : w47.cell? ⟨gb219, 4, none⟩ = some (.int .i64 0) := (blk_cell BK219.out 4).trans rfl; have hcz50_5 : w47.cell? ⟨gb219, 5, none⟩ = some (.int .i64 0) := (blk_cell BK219.out 5).trans rfl; have hcz50_6 : w47.cell? ⟨gb219, 6, none⟩ = some (.bool false) := (blk_cell BK219.out 6).trans rfl; have hfz50_0 := blk_frozen BK219.out 0; have hfz50_1 := blk_frozen BK219.out 1; have hfz50_2 := blk_frozen BK219.out 2; have hfz50_3 := blk_frozen BK219.out 3; have hfz50_4 := blk_frozen BK219.out 4; have hfz50_5 := blk_frozen BK219.out 5; have hfz50_6 := blk_frozen BK219.out 6))
                  have n0_ : Aside0 (Kd.R (Kd.int .i64) 3 (((((((w47.setCell ⟨gb219, 0, none⟩ (.int .i64 ((rd_T45 l1 x20_1).f0.f0))).setCell ⟨gb219, 1, none⟩ (.int .i64 ((rd_T45 l1 x20_1).f0.f1))).setCell ⟨gb219, 2, none⟩ (.int .i64 ((rd_T45 l1 x20_1).f0.f2))).setCell ⟨gb219, 3, none⟩ (.int .i64 ((rd_T45 l1 x20_1).f0.f3))).setCell ⟨gb219, 4, none⟩ (.int .i64 ((rd_T45 l1 x20_1).f1))).setCell ⟨gb219, 5, none⟩ (.int .i64 ((rd_T45 l1 x20_1).f2))).setCell ⟨gb219, 6, none⟩ (.bool ((rd_T45 l1 x20_1).f3))) w.heap.size (fun _ => True) u9 x9_1) := ⟨by (with_reducible repeat (first | apply Kd.R_alloc | apply Kd.R_drewN | apply Kd.R_drew)); exact Kd.R_mono (Kd.R_far (p := ⟨gb219, 6, none⟩) (Kd.R_far (p := ⟨gb219, 5, none⟩) (Kd.R_far (p := ⟨gb219, 4, none⟩) (Kd.R_far (p := ⟨gb219, 3, none⟩) (Kd.R_far (p := ⟨gb219, 2, none⟩) (Kd.R_far (p := ⟨gb219, 1, none⟩) (Kd.R_far (p := ⟨gb219, 0, none⟩) (Kd.R_types HO_9.out BK219.out (by decide)) (fun _ hk => hk.2) (.int .i64 ((rd_T45 l1 x20_1).f0.f0))) (fun _ hk => hk.2) (.int .i64 ((rd_T45 l1 x20_1).f0.f1))) (fun _ hk => hk.2) (.int .i64 ((rd_T45 l1 x20_1).f0.f2))) (fun _ hk => hk.2) (.int .i64 ((rd_T45 l1 x20_1).f0.f3))) (fun _ hk => hk.2) (.int .i64 ((rd_T45 l1 x20_1).f1))) (fun _ hk => hk.2) (.int .i64 ((rd_T45 l1 x20_1).f2))) (fun _ hk => hk.2) (.bool ((rd_T45 l1 x20_1).f3))) (fun _ hk => trivial)⟩
                  have n1_ : Aside0 ((((((((w47.setCell ⟨gb219, 0, none⟩ (.int .i64 ((rd_T45 l1 x20_1).f0.f0))).setCell ⟨gb219, 1, none⟩ (.int .i64 ((rd_T45 l1 x20_1).f0.f1))).setCell ⟨gb219, 2, none⟩ (.int .i64 ((rd_T45 l1 x20_1).f0.f2))).setCell ⟨gb219, 3, none⟩ (.int .i64 ((rd_T45 l1 x20_1).f0.f3))).setCell ⟨gb219, 4, none⟩ (.int .i64 ((rd_T45 l1 x20_1).f1))).setCell ⟨gb219, 5, none⟩ (.int .i64 ((rd_T45 l1 x20_1).f2))).setCell ⟨gb219, 6, none⟩ (.bool ((rd_T45 l1 x20_1).f3))).heap[gb211]? = some (.cells #[.int .i64 0, .int .i64 0, .int .i64 0, .int .i64 0] 23 (0, 0))) := ⟨by (with_reducible repeat (first | refine blk_drewN ?_ _ | refine blk_drew ?_ | refine blk_alloc ?_ _)); refine blk_far ?_ NB211_219.out _; (with_reducible repeat (first | refine blk_drewN ?_ _ | refine blk_drew ?_ | refine blk_alloc ?_ _)); refine blk_far ?_ NB211_219.out _; (with_reducible repeat (first | refine blk_drewN ?_ _ | refine blk_drew ?_ | refine blk_alloc ?_ _)); refine blk_far ?_ NB211_219.out _; (with_reducible repeat (first | refine blk_drewN ?_ _ | refine blk_drew ?_ | refine blk_alloc ?_ _)); refine blk_far ?_ NB211_219.out _; (with_reducible repeat (first | refine blk_drewN ?_ _ | refine blk_drew ?_ | refine blk_alloc ?_ _)); refine blk_far ?_ NB211_219.out _; (with_reducible repeat (first | refine blk_drewN ?_ _ | refine blk_drew ?_ | refine blk_alloc ?_ _)); refine blk_far ?_ NB211_219.out _; (with_reducible repeat (first | refine blk_drewN ?_ _ | refine blk_drew ?_ | refine blk_alloc ?_ _)); refine blk_far ?_ NB211_219.out _; (with_reducible repeat (first | refine blk_drewN ?_ _ | refine blk_drew ?_ | refine blk_alloc ?_ _)); exact BK211.out⟩
                  have n2_ : Aside0 ((((((((w47.setCell ⟨gb219, 0, none⟩ (.int .i64 ((rd_T45 l1 x20_1).f0.f0))).setCell ⟨gb219, 1, none⟩ (.int .i64 ((rd_T45 l1 x20_1).f0.f1))).setCell ⟨gb219, 2, none⟩ (.int .i64 ((rd_T45 l1 x20_1).f0.f2))).setCell ⟨gb219, 3, none⟩ (.int .i64 ((rd_T45 l1 x20_1).f0.f3))).setCell ⟨gb219, 4, none⟩ (.int .i64 ((rd_T45 l1 x20_1).f1))).setCell ⟨gb219, 5, none⟩ (.int .i64 ((rd_T45 l1 x20_1).f2))).setCell ⟨gb219, 6, none⟩ (.bool ((rd_T45 l1 x20_1).f3))).heap[gb217]? = some (.cells #[.int .i64 t212, .int .i64 t213, .int .i64 t214, .int .i64 t215] 23 (0, 0))) := ⟨by (with_reducible repeat (first | refine blk_drewN ?_ _ | refine blk_drew ?_ | refine blk_alloc ?_ _)); refine blk_far ?_ NB217_219.out _; (with_reducible repeat (first | refine blk_drewN ?_ _ | refine blk_drew ?_ | refine blk_alloc ?_ _)); refine blk_far ?_ NB217_219.out _; (with_reducible repeat (first | refine blk_drewN ?_ _ | refine blk_drew ?_ | refine blk_alloc ?_ _)); refine blk_far ?_ NB217_219.out _; (with_reducible repeat (first | refine blk_drewN ?_ _ | refine blk_drew ?_ | refine blk_alloc ?_ _)); refine blk_far ?_ NB217_219.out _; (with_reducible repeat (first | refine blk_drewN ?_ _ | refine blk_drew ?_ | refine blk_alloc ?_ _)); refine blk_far ?_ NB217_219.out _; (with_reducible repeat (first | refine blk_drewN ?_ _ | refine blk_drew ?_ | refine blk_alloc ?_ _)); refine blk_far ?_ NB217_219.out _; (with_reducible repeat (first | refine blk_drewN ?_ _ | refine blk_drew ?_ | refine blk_alloc ?_ _)); refine blk_far ?_ NB217_219.out _; (with_reducible repeat (first | refine blk_drewN ?_ _ | refine blk_drew ?_ | refine blk_alloc ?_ _)); exact BK217.out⟩
                  have n3_ : Aside0 ((((((((w47.setCell ⟨gb219, 0, none⟩ (.int .i64 ((rd_T45 l1 x20_1).f0.f0))).setCell ⟨gb219, 1, none⟩ (.int .i64 ((rd_T45 l1 x20_1).f0.f1))).setCell ⟨gb219, 2, none⟩ (.int .i64 ((rd_T45 l1 x20_1).f0.f2))).setCell ⟨gb219, 3, none⟩ (.int .i64 ((rd_T45 l1 x20_1).f0.f3))).setCell ⟨gb219, 4, none⟩ (.int .i64 ((rd_T45 l1 x20_1).f1))).setCell ⟨gb219, 5, none⟩ (.int .i64 ((rd_T45 l1 x20_1).f2))).setCell ⟨gb219, 6, none⟩ (.bool ((rd_T45 l1 x20_1).f3))).heap[gb219]? = some (.cells #[.int .i64 ((rd_T45 l1 x20_1).f0.f0), .int .i64 ((rd_T45 l1 x20_1).f0.f1), .int .i64 ((rd_T45 l1 x20_1).f0.f2), .int .i64 ((rd_T45 l1 x20_1).f0.f3), .int .i64 ((rd_T45 l1 x20_1).f1), .int .i64 ((rd_T45 l1 x20_1).f2), .bool ((rd_T45 l1 x20_1).f3)] 45 (0, 0))) := ⟨by (with_reducible repeat (first | refine blk_drewN ?_ _ | refine blk_drew ?_ | refine blk_alloc ?_ _)); refine blk_put (cs := #[.int .i64 ((rd_T45 l1 x20_1).f0.f0), .int .i64 ((rd_T45 l1 x20_1).f0.f1), .int .i64 ((rd_T45 l1 x20_1).f0.f2), .int .i64 ((rd_T45 l1 x20_1).f0.f3), .int .i64 ((rd_T45 l1 x20_1).f1), .int .i64 ((rd_T45 l1 x20_1).f2), .bool false]) ?_ 6 _ rfl; (with_reducible repeat (first | refine blk_drewN ?_ _ | refine blk_drew ?_ | refine blk_alloc ?_ _)); refine blk_put (cs := #[.int .i64 ((rd_T45 l1 x20_1).f0.f0), .int .i64 ((rd_T45 l1 x20_1).f0.f1), .int .i64 ((rd_T45 l1 x20_1).f0.f2), .int .i64 ((rd_T45 l1 x20_1).f0.f3), .int .i64 ((rd_T45 l1 x20_1).f1), .int .i64 0, .bool false]) ?_ 5 _ rfl; (with_reducible repeat (first | refine blk_drewN ?_ _ | refine blk_drew ?_ | refine blk_alloc ?_ _)); refine blk_put (cs := #[.int .i64 ((rd_T45 l1 x20_1).f0.f0), .int .i64 ((rd_T45 l1 x20_1).f0.f1), .int .i64 ((rd_T45 l1 x20_1).f0.f2), .int .i64 ((rd_T45 l1 x20_1).f0.f3), .int .i64 0, .int .i64 0, .bool false]) ?_ 4 _ rfl; (with_reducible repeat (first | refine blk_drewN ?_ _ | refine blk_drew ?_ | refine blk_alloc ?_ _)); refine blk_put (cs := #[.int .i64 ((rd_T45 l1 x20_1).f0.f0), .int .i64 ((rd_T45 l1 x20_1).f0.f1), .int .i64 ((rd_T45 l1 x20_1).f0.f2), .int .i64 0, .int .i64 0, .int .i64 0, .bool false]) ?_ 3 _ rfl; (with_reducible repeat (first | refine blk_drewN ?_ _ | refine blk_drew ?_ | refine blk_alloc ?_ _)); refine blk_put (cs := #[.int .i64 ((rd_T45 l1 x20_1).f0.f0), .int .i64 ((rd_T45 l1 x20_1).f0.f1), .int .i64 0, .int .i64 0, .int .i64 0, .int .i64 0, .bool false]) ?_ 2 _ rfl; (with_reducible repeat (first | refine blk_drewN ?_ _ | refine blk_drew ?_ | refine blk_alloc ?_ _)); refine blk_put (cs := #[.int .i64 ((rd_T45 l1 x20_1).f0.f0), .int .i64 0, .int .i64 0, .int .i64 0, .int .i64 0, .int .i64 0, .bool false]) ?_ 1 _ rfl; (with_reducible repeat (first | refine blk_drewN ?_ _ | refine blk_drew ?_ | refine blk_alloc ?_ _)); refine blk_put (cs := #[.int .i64 0, .int .i64 0, .int .i64 0, .int .i64 0, .int .i64 0, .int .i64 0, .bool false]) ?_ 0 _ rfl; (with_reducible repeat (first | refine blk_drewN ?_ _ | refine blk_drew ?_ | refine blk_alloc ?_ _)); exact BK219.out⟩
                  have n4_ : Aside0 (Below w.heap.size w (((((((w47.setCell ⟨gb219, 0, none⟩ (.int .i64 ((rd_T45 l1 x20_1).f0.f0))).setCell ⟨gb219, 1, none⟩ (.int .i64 ((rd_T45 l1 x20_1).f0.f1))).setCell ⟨gb219, 2, none⟩ (.int .i64 ((rd_T45 l1 x20_1).f0.f2))).setCell ⟨gb219, 3, none⟩ (.int .i64 ((rd_T45 l1 x20_1).f0.f3))).setCell ⟨gb219, 4, none⟩ (.int .i64 ((rd_T45 l1 x20_1).f1))).setCell ⟨gb219, 5, none⟩ (.int .i64 ((rd_T45 l1 x20_1).f2))).setCell ⟨gb219, 6, none⟩ (.bool ((rd_T45 l1 x20_1).f3)))) := ⟨by repeat (first | (with_reducible first | exact HB.out | apply below_alloc | apply pw_below_drewN | apply below_drew1 | refine below_set ?_ GE211.out | refine below_set ?_ GE217.out | refine below_set ?_ GE219.out) | exact HB.out)⟩
                  (try clear HO_9)
                  (try clear BK211)
                  (try clear BK217)
                  (try clear BK219)
                  (try clear HB)
                  generalize (((((((w47.setCell ⟨gb219, 0, none⟩ (.int .i64 ((rd_T45 l1 x20_1).f0.f0))).setCell ⟨gb219, 1, none⟩ (.int .i64 ((rd_T45 l1 x20_1).f0.f1))).setCell ⟨gb219, 2, none⟩ (.int .i64 ((rd_T45 l1 x20_1).f0.f2))).setCell ⟨gb219, 3, none⟩ (.int .i64 ((rd_T45 l1 x20_1).f0.f3))).setCell ⟨gb219, 4, none⟩ (.int .i64 ((rd_T45 l1 x20_1).f1))).setCell ⟨gb219, 5, none⟩ (.int .i64 ((rd_T45 l1 x20_1).f2))).setCell ⟨gb219, 6, none⟩ (.bool ((rd_T45 l1 x20_1).f3))) = w51 at n0_ n1_ n2_ n3_ n4_ ⊢
                  have HO_9 := n0_
                  have BK211 := n1_
                  have BK217 := n2_
                  have BK219 := n3_
                  have HB := n4_
                  clear n0_ n1_ n2_ n3_ n4_
                  have n0_ := Aside0.mk (Kd.R_drew HO_9.out)
                  have n1_ := Aside0.mk (blk_drew BK211.out)
                  have n2_ := Aside0.mk (blk_drew BK217.out)
                  have n3_ := Aside0.mk (blk_drew BK219.out)
                  have n4_ := Aside0.mk (below_drew1 HB.out)
                  clear HO_9
                  clear BK211
                  clear BK217
                  clear BK219
                  clear HB
                  have HO_9 := n0_
                  have BK211 := n1_
                  have BK217 := n2_
                  have BK219 := n3_
                  have HB := n4_
                  clear n0_ n1_ n2_ n3_ n4_
                  refine start_ (n := 14) (S := fun w' => w'.cell? ⟨gb219, 0, none⟩ = some (.int .i64 ((rd_T45 l1 x20_1).f0.f0)) ∧ w'.cell? ⟨gb219, 1, none⟩ = some (.int .i64 ((rd_T45 l1 x20_1).f0.f1)) ∧ w'.cell? ⟨gb219, 2, none⟩ = some (.int .i64 ((rd_T45 l1 x20_1).f0.f2)) ∧ w'.cell? ⟨gb219, 3, none⟩ = some (.int .i64 ((rd_T45 l1 x20_1).f0.f3)) ∧ w'.cell? ⟨gb219, 4, none⟩ = some (.int .i64 ((rd_T45 l1 x20_1).f1)) ∧ w'.cell? ⟨gb219, 5, none⟩ = some (.int .i64 ((rd_T45 l1 x20_1).f2)) ∧ w'.cell? ⟨gb219, 6, none⟩ = some (.bool ((rd_T45 l1 x20_1).f3))) (ds := []) #[false, false, false, false, false, false, false, false, false, false, false, false, false, false] (by kernel_rfl) rfl rfl ⟨(blk_cell BK219.out 0).trans rfl, (blk_cell BK219.out 1).trans rfl, (blk_cell BK219.out 2).trans rfl, (blk_cell BK219.out 3).trans rfl, (blk_cell BK219.out 4).trans rfl, (blk_cell BK219.out 5).trans rfl, (blk_cell BK219.out 6).trans rfl⟩ (fun hHeld => ?_); refine with_tabW prio_Roles.tab9 prio_Roles.bits9 (fun HT_ HW_ => ?_)
                  generalize w51.drew = w52 at HO_9 BK211 BK217 BK219 HB hHeld ⊢
                  refine pure_ (i := 1) (N := some 37) (v := ?_) (a' := ?_) #[false, true, false, false, false, false, false, false, false, false, false, false, false, false] rfl rfl (any_of HT_.out (by kernel_rfl)) (fun _ _ _ h => h) (Or.inl ⟨by rfl, ?_⟩) ?_ ?_
                  rotate_left
                  · intro w'
                    go_simp
                    with_reducible rfl
                  rotate_left
                  · simp only [Act.put, List.setIfInBounds_toArray, List.set_cons_zero, List.set_cons_succ, i64_w, i32_w]
                    rfl
                  refine take_ (i := 0) (N := some 36) (v := ?_) (a' := ?_) #[true, true, false, false, false, false, false, false, false, false, false, false, false, false] rfl rfl (take_ofW HT_.out HW_.out (by kernel_rfl)) (fun _ _ _ h => h) (Or.inl ⟨by rfl, ?_⟩) hHeld ?_ ?_
                  rotate_left
                  · rintro w' ⟨s0, s1, s2, s3, s4, s5, s6⟩
                    go_simp
                    with_reducible rfl
                  rotate_left
                  · simp only [Act.put, List.setIfInBounds_toArray, List.set_cons_zero, List.set_cons_succ, i64_w, i32_w]
                    rfl
                  refine one_ (i := 2) (N := some 38) #[true, true, true, false, false, false, false, false, false, false, false, false, false, false] rfl rfl (one_of HT_.out (by kernel_rfl)) (by decide) (fun K hK => ?_)
                  refine goes_ Try.func34 (by kernel_rfl) rfl #[.agg #[.int .i64 ((rd_T45 l1 x20_1).f0.f0), .int .i64 ((rd_T45 l1 x20_1).f0.f1), .int .i64 ((rd_T45 l1 x20_1).f0.f2), .int .i64 ((rd_T45 l1 x20_1).f0.f3), .int .i64 ((rd_T45 l1 x20_1).f1), .int .i64 ((rd_T45 l1 x20_1).f2), .bool ((rd_T45 l1 x20_1).f3)], .int .i64 a0] (by rfl) rfl rfl (by (try simp only [List.map_toArray, List.map_cons, List.map_nil]); first | done | rfl | (simp only [List.length_drop, List.length_take]; rfl)) ?_
                  with_reducible refine (prio_takes.calls ((rd_T45 l1 x20_1).f0.f0) ((rd_T45 l1 x20_1).f0.f1) ((rd_T45 l1 x20_1).f0.f2) ((rd_T45 l1 x20_1).f0.f3) ((rd_T45 l1 x20_1).f1) ((rd_T45 l1 x20_1).f2) ((rd_T45 l1 x20_1).f3) a0 false _ A19.out).mono ?_
                  rintro e w53 ⟨rfl, hb⟩
                  refine ⟨_, rfl, ?_⟩
                  have n0_ := Aside0.mk (Kd.R_below (by (with_reducible repeat (first | apply Kd.R_alloc | apply Kd.R_drewN | apply Kd.R_drew)); exact HO_9.out) hb)
                  have n1_ := Aside0.mk (blk_below (g := gb211) (o := .cells #[.int .i64 0, .int .i64 0, .int .i64 0, .int .i64 0] 23 (0, 0)) (by (with_reducible repeat (first | refine blk_drewN ?_ _ | refine blk_drew ?_ | refine blk_alloc ?_ _)); exact BK211.out) hb)
                  have n2_ := Aside0.mk (blk_below (g := gb217) (o := .cells #[.int .i64 t212, .int .i64 t213, .int .i64 t214, .int .i64 t215] 23 (0, 0)) (by (with_reducible repeat (first | refine blk_drewN ?_ _ | refine blk_drew ?_ | refine blk_alloc ?_ _)); exact BK217.out) hb)
                  have n3_ := Aside0.mk (blk_below (g := gb219) (o := .cells #[.int .i64 ((rd_T45 l1 x20_1).f0.f0), .int .i64 ((rd_T45 l1 x20_1).f0.f1), .int .i64 ((rd_T45 l1 x20_1).f0.f2), .int .i64 ((rd_T45 l1 x20_1).f0.f3), .int .i64 ((rd_T45 l1 x20_1).f1), .int .i64 ((rd_T45 l1 x20_1).f2), .bool ((rd_T45 l1 x20_1).f3)] 45 (0, 0)) (by (with_reducible repeat (first | refine blk_drewN ?_ _ | refine blk_drew ?_ | refine blk_alloc ?_ _)); exact BK219.out) hb)
                  have n4_ := Aside0.mk (below_step (by repeat (first | (with_reducible first | exact HB.out | apply below_alloc | apply pw_below_drewN | apply below_drew1 | refine below_set ?_ GE211.out | refine below_set ?_ GE217.out | refine below_set ?_ GE219.out) | exact HB.out)) hb)
                  clear HO_9
                  clear BK211
                  clear BK217
                  clear BK219
                  clear HB
                  have HO_9 := n0_
                  have BK211 := n1_
                  have BK217 := n2_
                  have BK219 := n3_
                  have HB := n4_
                  clear n0_ n1_ n2_ n3_ n4_
                  (try clear hb)
                  (try clear hb2)
                  (try clear hk)
                  (try clear hi)
                  refine hK.out _ _ ⟨(blk_cell BK219.out 0).trans rfl, (blk_cell BK219.out 1).trans rfl, (blk_cell BK219.out 2).trans rfl, (blk_cell BK219.out 3).trans rfl, (blk_cell BK219.out 4).trans rfl, (blk_cell BK219.out 5).trans rfl, (blk_cell BK219.out 6).trans rfl⟩ (fun hHeld => ?_)
                  clear hK K
                  refine norm_ (a' := ?_) ?_ ?_
                  rotate_left
                  · show Act.put _ (some 38) _ = _
                    simp only [Act.put, List.setIfInBounds_toArray, List.set_cons_zero, List.set_cons_succ, i64_w, i32_w]
                    rfl
                  refine pure_ (i := 3) (N := some 39) (v := ?_) (a' := ?_) #[true, true, true, true, false, false, false, false, false, false, false, false, false, false] rfl rfl (any_of HT_.out (by kernel_rfl)) (fun _ _ _ h => h) (Or.inl ⟨by rfl, ?_⟩) ?_ ?_
                  rotate_left
                  · intro w'
                    go_simp
                    with_reducible rfl
                  rotate_left
                  · simp only [Act.put, List.setIfInBounds_toArray, List.set_cons_zero, List.set_cons_succ, i64_w, i32_w]
                    rfl
                  refine pure_ (i := 4) (N := some 40) (v := ?_) (a' := ?_) #[true, true, true, true, true, false, false, false, false, false, false, false, false, false] rfl rfl (any_of HT_.out (by kernel_rfl)) (fun _ _ _ h => h) (Or.inl ⟨by rfl, ?_⟩) ?_ ?_
                  rotate_left
                  · intro w'
                    go_simp
                    with_reducible rfl
                  rotate_left
                  · simp only [Act.put, List.setIfInBounds_toArray, List.set_cons_zero, List.set_cons_succ, i64_w, i32_w]
                    rfl
                  refine pure_ (i := 5) (N := some 41) (v := undef) (a' := ?_) #[true, true, true, true, true, true, false, false, false, false, false, false, false, false] rfl rfl (any_of HT_.out (by kernel_rfl)) (fun _ _ _ h => h) (Or.inr ⟨by rfl, rfl⟩) ?_ ?_
                  rotate_left
                  · simp only [Act.put, List.setIfInBounds_toArray, List.set_cons_zero, List.set_cons_succ, i64_w, i32_w]
                    rfl
                  refine pure_ (i := 6) (N := some 42) (v := undef) (a' := ?_) #[true, true, true, true, true, true, true, false, false, false, false, false, false, false] rfl rfl (any_of HT_.out (by kernel_rfl)) (fun _ _ _ h => h) (Or.inr ⟨by rfl, rfl⟩) ?_ ?_
                  rotate_left
                  · simp only [Act.put, List.setIfInBounds_toArray, List.set_cons_zero, List.set_cons_succ, i64_w, i32_w]
                    rfl
                  refine pure_ (i := 7) (N := some 43) (v := undef) (a' := ?_) #[true, true, true, true, true, true, true, true, false, false, false, false, false, false] rfl rfl (any_of HT_.out (by kernel_rfl)) (fun _ _ _ h => h) (Or.inr ⟨by rfl, rfl⟩) ?_ ?_
                  rotate_left
                  · simp only [Act.put, List.setIfInBounds_toArray, List.set_cons_zero, List.set_cons_succ, i64_w, i32_w]
                    rfl
                  refine pure_ (i := 8) (N := some 44) (v := undef) (a' := ?_) #[true, true, true, true, true, true, true, true, true, false, false, false, false, false] rfl rfl (any_of HT_.out (by kernel_rfl)) (fun _ _ _ h => h) (Or.inr ⟨by rfl, rfl⟩) ?_ ?_
                  rotate_left
                  · simp only [Act.put, List.setIfInBounds_toArray, List.set_cons_zero, List.set_cons_succ, i64_w, i32_w]
                    rfl
                  refine pure_ (i := 9) (N := some 45) (v := undef) (a' := ?_) #[true, true, true, true, true, true, true, true, true, true, false, false, false, false] rfl rfl (any_of HT_.out (by kernel_rfl)) (fun _ _ _ h => h) (Or.inr ⟨by rfl, rfl⟩) ?_ ?_
                  rotate_left
                  · simp only [Act.put, List.setIfInBounds_toArray, List.set_cons_zero, List.set_cons_succ, i64_w, i32_w]
                    rfl
                  refine pure_ (i := 10) (N := some 46) (v := undef) (a' := ?_) #[true, true, true, true, true, true, true, true, true, true, true, false, false, false] rfl rfl (any_of HT_.out (by kernel_rfl)) (fun _ _ _ h => h) (Or.inr ⟨by rfl, rfl⟩) ?_ ?_
                  rotate_left
                  · simp only [Act.put, List.setIfInBounds_toArray, List.set_cons_zero, List.set_cons_succ, i64_w, i32_w]
                    rfl
                  refine pure_ (i := 11) (N := some 47) (v := undef) (a' := ?_) #[true, true, true, true, true, true, true, true, true, true, true, true, false, false] rfl rfl (any_of HT_.out (by kernel_rfl)) (fun _ _ _ h => h) (Or.inr ⟨by rfl, rfl⟩) ?_ ?_
                  rotate_left
                  · simp only [Act.put, List.setIfInBounds_toArray, List.set_cons_zero, List.set_cons_succ, i64_w, i32_w]
                    rfl
                  refine pure_ (i := 12) (N := some 48) (v := ?_) (a' := ?_) #[true, true, true, true, true, true, true, true, true, true, true, true, true, false] rfl rfl (any_of HT_.out (by kernel_rfl)) (fun _ _ _ h => h) (Or.inl ⟨by rfl, ?_⟩) ?_ ?_
                  rotate_left
                  · intro w'
                    go_simp
                    with_reducible rfl
                  rotate_left
                  · simp only [Act.put, List.setIfInBounds_toArray, List.set_cons_zero, List.set_cons_succ, i64_w, i32_w]
                    rfl
                  refine pure_ (i := 13) (N := some 35) (v := ?_) (a' := ?_) #[true, true, true, true, true, true, true, true, true, true, true, true, true, true] rfl rfl (any_of HT_.out (by kernel_rfl)) (fun _ _ _ h => h) (Or.inl ⟨by rfl, ?_⟩) ?_ ?_
                  rotate_left
                  · intro w'
                    go_simp
                    with_reducible rfl
                  rotate_left
                  · simp only [Act.put, List.setIfInBounds_toArray, List.set_cons_zero, List.set_cons_succ, i64_w, i32_w]
                    rfl
                  refine done_ (done_of HT_.out (by kernel_rfl)) ?_
                  try go_wp2_with (first | ((with_reducible refine gate_builtin (b := .append) (xs := #[.tmp 49, .tmp 50]) rfl ?_); at_builtin; refine Kd.R_append (Kd.int .i64) (w0 := w) w.heap.size rfl (.tmp 49) (.tmp 50) 40 3 (.int .i64 0) 8 rfl Try.underlying40 info3 rfl (by decide) (by omega) u9 x9_1 2 [.int .i64 2] (fun _ => True) (fun _ => False) rfl rfl ?aP (fun _ hk => hk.elim) ?aF ?aO ?aB ?aS ?aL ?_; (case aP => exact rfl); (case aB => exact (by repeat (first | (with_reducible first | exact HB.out | apply below_alloc | apply pw_below_drewN | apply below_drew1 | refine below_set ?_ GE211.out | refine below_set ?_ GE217.out | refine below_set ?_ GE219.out) | exact HB.out))); (case aF => exact (fun _ _ => trivial)); (case aO => exact (by (with_reducible repeat (first | apply Kd.R_alloc | apply Kd.R_drewN | apply Kd.R_drew)); exact HO_9.out)); (case aS => exact (below_size (by repeat (first | (with_reducible first | exact HB.out | apply below_alloc | apply pw_below_drewN | apply below_drew1 | refine below_set ?_ GE211.out | refine below_set ?_ GE217.out | refine below_set ?_ GE219.out) | exact HB.out)))); (case aL => have := LMc46.out; omega); intro v236 w54 ho hb hg hat; rw [← Ny235.out] at ho; have n0_ := Aside0.mk (blk_grown (g := gb211) (o := .cells #[.int .i64 0, .int .i64 0, .int .i64 0, .int .i64 0] 23 (0, 0)) (by (with_reducible repeat (first | refine blk_drewN ?_ _ | refine blk_drew ?_ | refine blk_alloc ?_ _)); exact BK211.out) hg (Kd.R_ne HO_9.out BK211.out (by decide))); have n1_ := Aside0.mk (blk_grown (g := gb217) (o := .cells #[.int .i64 t212, .int .i64 t213, .int .i64 t214, .int .i64 t215] 23 (0, 0)) (by (with_reducible repeat (first | refine blk_drewN ?_ _ | refine blk_drew ?_ | refine blk_alloc ?_ _)); exact BK217.out) hg (Kd.R_ne HO_9.out BK217.out (by decide))); have n2_ := Aside0.mk (blk_grown (g := gb219) (o := .cells #[.int .i64 ((rd_T45 l1 x20_1).f0.f0), .int .i64 ((rd_T45 l1 x20_1).f0.f1), .int .i64 ((rd_T45 l1 x20_1).f0.f2), .int .i64 ((rd_T45 l1 x20_1).f0.f3), .int .i64 ((rd_T45 l1 x20_1).f1), .int .i64 ((rd_T45 l1 x20_1).f2), .bool ((rd_T45 l1 x20_1).f3)] 45 (0, 0)) (by (with_reducible repeat (first | refine blk_drewN ?_ _ | refine blk_drew ?_ | refine blk_alloc ?_ _)); exact BK219.out) hg (Kd.R_ne HO_9.out BK219.out (by decide))); have n3_ := Aside0.mk (hb); have n4_ := Aside0.mk (ho); clear BK211; clear BK217; clear BK219; clear HB; clear HO_9; have BK211 := n0_; have BK217 := n1_; have BK219 := n2_; have HB := n3_; have HO237 := n4_; clear n0_ n1_ n2_ n3_ n4_; clear ho hb hg hat))
                  go_roundg k1
                  case measure => have := HK1.out; omega
                  case rel => exact ⟨(y235), (wrap64 (x20_1 + 1)), (by first | rfl | (simp; done) | (simp [*]; done)), H', ⟨by have := HK1.out; omega⟩, ⟨by (with_reducible repeat (first | apply Kd.R_alloc | apply Kd.R_drewN | apply Kd.R_drew)); exact HO237.out⟩, ⟨by (with_reducible repeat (first | refine blk_drewN ?_ _ | refine blk_drew ?_ | refine blk_alloc ?_ _)); exact BK211.out⟩, ⟨by (with_reducible repeat (first | refine blk_drewN ?_ _ | refine blk_drew ?_ | refine blk_alloc ?_ _)); exact BK217.out⟩, ⟨by repeat (first | (with_reducible first | exact HB.out | apply below_alloc | apply pw_below_drewN | apply below_drew1 | refine below_set ?_ GE211.out | refine below_set ?_ GE217.out | refine below_set ?_ GE219.out) | exact HB.out)⟩⟩
                · rw [if_neg c46] at H
                  exact absurd H (by simp)
          · rw [if_neg c11] at H
            exact absurd H (by simp)
        · rw [if_neg c10] at H
          exact absurd H (by simp)
      · rw [if_neg c9] at H
        have c9b0 : decide (x20_1 < (l1.length : Int)) = false := decide_eq_false c9
        clear c9
        simp only [Option.some.injEq, Prod.mk.injEq] at H
        obtain ⟨rfl, rfl, rfl, rfl, rfl, rfl⟩ := H
        try go_wp2
        have n0_ := Aside0.mk (Kd.R_drew HO_9.out)
        have n1_ := Aside0.mk (blk_drew BK211.out)
        have n2_ := Aside0.mk (blk_drew BK217.out)
        have n3_ := Aside0.mk (below_drew1 HB.out)
        clear HO_9
        clear BK211
        clear BK217
        clear HB
        have HO_9 := n0_
        have BK211 := n1_
        have BK217 := n2_
        have HB := n3_
        clear n0_ n1_ n2_ n3_
        refine start_ (n := 6) (S := fun w' => w'.cell? ⟨gb217, 0, none⟩ = some (.int .i64 t212) ∧ w'.cell? ⟨gb217, 1, none⟩ = some (.int .i64 t213) ∧ w'.cell? ⟨gb217, 2, none⟩ = some (.int .i64 t214) ∧ w'.cell? ⟨gb217, 3, none⟩ = some (.int .i64 t215)) (ds := []) #[false, false, false, false, false, false] (by kernel_rfl) rfl rfl ⟨(blk_cell BK217.out 0).trans rfl, (blk_cell BK217.out 1).trans rfl, (blk_cell BK217.out 2).trans rfl, (blk_cell BK217.out 3).trans rfl⟩ (fun hHeld => ?_)
        generalize wr.drew = w55 at HO_9 BK211 BK217 HB hHeld ⊢
        refine pure_ (i := 0) (N := some 53) (v := ?_) (a' := ?_) #[true, false, false, false, false, false] rfl rfl (by kernel_rfl) (fun _ _ _ h => h) (Or.inl ⟨by rfl, ?_⟩) ?_ ?_
        rotate_left
        · intro w'
          go_simp
          with_reducible rfl
        rotate_left
        · simp only [Act.put, List.setIfInBounds_toArray, List.set_cons_zero, List.set_cons_succ, i64_w, i32_w]
          rfl
        refine pure_ (i := 2) (N := some 55) (v := ?_) (a' := ?_) #[true, false, true, false, false, false] rfl rfl (by kernel_rfl) (fun _ _ _ h => h) (Or.inl ⟨by rfl, ?_⟩) ?_ ?_
        rotate_left
        · intro w'
          go_simp
          with_reducible rfl
        rotate_left
        · simp only [Act.put, List.setIfInBounds_toArray, List.set_cons_zero, List.set_cons_succ, i64_w, i32_w]
          rfl
        refine pure_ (i := 3) (N := some 4) (v := ?_) (a' := ?_) #[true, false, true, true, false, false] rfl rfl (by kernel_rfl) (fun _ _ _ h => h) (Or.inl ⟨by rfl, ?_⟩) ?_ ?_
        rotate_left
        · intro w'
          go_simp
          with_reducible rfl
        rotate_left
        · simp only [Act.put, List.setIfInBounds_toArray, List.set_cons_zero, List.set_cons_succ, i64_w, i32_w]
          rfl
        refine take_ (i := 1) (N := some 54) (v := ?_) (a' := ?_) #[true, true, true, true, false, false] rfl rfl (by kernel_rfl) (fun _ _ _ h => h) (Or.inl ⟨by rfl, ?_⟩) hHeld ?_ ?_
        rotate_left
        · rintro w' ⟨s0, s1, s2, s3⟩
          go_simp
          with_reducible rfl
        rotate_left
        · simp only [Act.put, List.setIfInBounds_toArray, List.set_cons_zero, List.set_cons_succ, i64_w, i32_w]
          rfl
        refine one_ (i := 4) (N := none) #[true, true, true, true, true, false] rfl rfl (by kernel_rfl) (by decide) (fun K hK => ?_)
        have hs56 : w55.cell? ⟨gb211, 0, none⟩ = some (.int .i64 0) := (blk_cell BK211.out 0).trans rfl
        have hfs56 := blk_frozen BK211.out 0
        have hns56_1 := NB217_211.out
        have hms56_1 := NB211_217.out
        have hs57 : w55.cell? ⟨gb211, 1, none⟩ = some (.int .i64 0) := (blk_cell BK211.out 1).trans rfl
        have hfs57 := blk_frozen BK211.out 1
        have hns57_1 := NB217_211.out
        have hms57_1 := NB211_217.out
        have hs58 : w55.cell? ⟨gb211, 2, none⟩ = some (.int .i64 0) := (blk_cell BK211.out 2).trans rfl
        have hfs58 := blk_frozen BK211.out 2
        have hns58_1 := NB217_211.out
        have hms58_1 := NB211_217.out
        have hs59 : w55.cell? ⟨gb211, 3, none⟩ = some (.int .i64 0) := (blk_cell BK211.out 3).trans rfl
        have hfs59 := blk_frozen BK211.out 3
        have hns59_1 := NB217_211.out
        have hms59_1 := NB211_217.out
        refine skip_ (w1 := ?_) (by rfl) rfl ?_ ?_
        rotate_left
        · go_simp
          rfl
        refine hK.out _ _ ⟨((cell_far (p := ⟨gb211, _, none⟩) NB217_211.out _).trans (((cell_far (p := ⟨gb211, _, none⟩) NB217_211.out _).trans (((cell_far (p := ⟨gb211, _, none⟩) NB217_211.out _).trans (((cell_far (p := ⟨gb211, _, none⟩) NB217_211.out _).trans (hHeld.1)))))))), ((cell_far (p := ⟨gb211, _, none⟩) NB217_211.out _).trans (((cell_far (p := ⟨gb211, _, none⟩) NB217_211.out _).trans (((cell_far (p := ⟨gb211, _, none⟩) NB217_211.out _).trans (((cell_far (p := ⟨gb211, _, none⟩) NB217_211.out _).trans (hHeld.2.1)))))))), ((cell_far (p := ⟨gb211, _, none⟩) NB217_211.out _).trans (((cell_far (p := ⟨gb211, _, none⟩) NB217_211.out _).trans (((cell_far (p := ⟨gb211, _, none⟩) NB217_211.out _).trans (((cell_far (p := ⟨gb211, _, none⟩) NB217_211.out _).trans (hHeld.2.2.1)))))))), ((cell_far (p := ⟨gb211, _, none⟩) NB217_211.out _).trans (((cell_far (p := ⟨gb211, _, none⟩) NB217_211.out _).trans (((cell_far (p := ⟨gb211, _, none⟩) NB217_211.out _).trans (((cell_far (p := ⟨gb211, _, none⟩) NB217_211.out _).trans (hHeld.2.2.2))))))))⟩ (fun hHeld => ?_)
        clear hK K
        refine pure_ (i := 5) (N := some 6) (v := ?_) (a' := ?_) #[true, true, true, true, true, true] rfl rfl (by kernel_rfl) (fun _ _ _ h => h) (Or.inl ⟨by rfl, ?_⟩) ?_ ?_
        rotate_left
        · intro w'
          go_simp
          with_reducible rfl
        rotate_left
        · simp only [Act.put, List.setIfInBounds_toArray, List.set_cons_zero, List.set_cons_succ, i64_w, i32_w]
          rfl
        refine done_ (by kernel_rfl) ?_
        try go_wp2
        refine bodyPost_ret (results_list (rs := [.tmp 4, .cell 5 23, .tmp 6]) rfl (by simp) (.tmp (.cell gb211 23 #[.int .i64 t212, .int .i64 t213, .int .i64 t214, .int .i64 t215] (0, 0) _ rfl (by (with_reducible repeat (first | refine blk_drewN ?_ _ | refine blk_drew ?_ | refine blk_alloc ?_ _)); refine blk_put (cs := #[.int .i64 t212, .int .i64 t213, .int .i64 t214, .int .i64 0]) ?_ 3 _ rfl; (with_reducible repeat (first | refine blk_drewN ?_ _ | refine blk_drew ?_ | refine blk_alloc ?_ _)); refine blk_put (cs := #[.int .i64 t212, .int .i64 t213, .int .i64 0, .int .i64 0]) ?_ 2 _ rfl; (with_reducible repeat (first | refine blk_drewN ?_ _ | refine blk_drew ?_ | refine blk_alloc ?_ _)); refine blk_put (cs := #[.int .i64 t212, .int .i64 0, .int .i64 0, .int .i64 0]) ?_ 1 _ rfl; (with_reducible repeat (first | refine blk_drewN ?_ _ | refine blk_drew ?_ | refine blk_alloc ?_ _)); refine blk_put (cs := #[.int .i64 0, .int .i64 0, .int .i64 0, .int .i64 0]) ?_ 0 _ rfl; (with_reducible repeat (first | refine blk_drewN ?_ _ | refine blk_drew ?_ | refine blk_alloc ?_ _)); exact BK211.out) Try.underlying23 rfl (by kernel_rfl) (.tmp .nil)))) rfl ?_
        exact ⟨_, by first | rfl | (simp [errW_none, errW_some] <;> rfl) | (simp [*, errW_none, errW_some] <;> rfl), by (with_reducible repeat (first | apply Kd.R_alloc | apply Kd.R_drewN | apply Kd.R_drew)); exact Kd.R_mono (Kd.R_far (p := ⟨gb211, 3, none⟩) (Kd.R_far (p := ⟨gb211, 2, none⟩) (Kd.R_far (p := ⟨gb211, 1, none⟩) (Kd.R_far (p := ⟨gb211, 0, none⟩) (Kd.R_types HO_9.out BK211.out (by decide)) (fun _ hk => hk.2) (.int .i64 t212)) (fun _ hk => hk.2) (.int .i64 t213)) (fun _ hk => hk.2) (.int .i64 t214)) (fun _ hk => hk.2) (.int .i64 t215)) (fun _ hk => trivial), by repeat (first | (with_reducible first | exact HB.out | apply below_alloc | apply pw_below_drewN | apply below_drew1 | refine below_set ?_ GE211.out | refine below_set ?_ GE217.out) | exact HB.out)⟩
end Go.Proofs.Ytjhkbmdblfdlnaa.QPrio
