/- Functions of the program as plain Lean functions, what their calls do, and what follows of it. Conditions: each theorem's own. -/
import Derived.Test.YtjhkbmdblfdlnaaCPrioAlone1
namespace Go.Proofs.Ytjhkbmdblfdlnaa.QPrio
open Go.RowKit Go.Proofs.YtjhkbmdblfdlnaaW.PrintWords Go.Proofs.YtjhkbmdblfdlnaaW.PrintLast Go.Proofs.YtjhkbmdblfdlnaaW.PrintMore
attribute [local go_sem] max2_int min2_int max_two min_two max_three min_three max_four min_four
set_option linter.unusedVariables false
set_option linter.unusedSimpArgs false
attribute [local go_sem high] eqA23
mutual
def kissgatelaw10_PrioAlone.l0 : Nat → Int → List (S45) → List (S45) → Bool → List (S45) → Int → Int → Option (Bool)
  | 0, _, _, _, _, _, _, _ => none
  | k + 1, x0, x1, x5, x6, x21, x22, x23 => if x23 < x22 then (if 0 ≤ x23 then (if x23 < (x21.length : Int) then (if x5.length < 2513169434916 then ((some (x5 ++ [(⟨(⟨(rd_T45 x21 x23).f0.f0, (rd_T45 x21 x23).f0.f1, (rd_T45 x21 x23).f0.f2, (rd_T45 x21 x23).f0.f3⟩ : S23), (rd_T45 x21 x23).f1, (rd_T45 x21 x23).f2, true⟩ : S45)] : List (S45))).bind fun y273 => (if x6 = true then (kissgatelaw10_PrioAlone.l0 k x0 x1 y273 (decide (((rd_T45 x21 x23).f0.f0) ≥ x0)) x21 x22 (wrap64 (x23 + 1))) else (kissgatelaw10_PrioAlone.l0 k x0 x1 y273 false x21 x22 (wrap64 (x23 + 1))))) else (none)) else (none)) else (none)) else ((prio_Roles.f k x0 x5).bind fun bt276 => (kissgatelaw10_PrioAlone.l1 k x0 x1 x6 bt276.1 bt276.2.2.2.2.2 bt276.1 (bt276.1.length : Int) 0 bt276.2.1 bt276.2.2.1 bt276.2.2.2.1 bt276.2.2.2.2.1))
def kissgatelaw10_PrioAlone.l1 : Nat → Int → List (S45) → Bool → List Int → Int → List Int → Int → Int → Int → Int → Int → Int → Option (Bool)
  | 0, _, _, _, _, _, _, _, _, _, _, _, _ => none
  | k + 1, x0, x1, x6, x9, x11, x48, x49, x50, x285000, x285001, x285002, x285003 => if x50 < x49 then (if 0 ≤ x50 then (if x50 < (x48.length : Int) then (if (rd x48 x50) = 2 then (kissgatelaw10_PrioAlone.l1 k x0 x1 x6 x9 x11 x48 x49 (wrap64 (x50 + 1)) x285000 x285001 x285002 x285003) else (some false)) else (none)) else (none)) else ((prio_Own.f x0).bind fun bt286 => (if (!(x285000 == bt286.1) || (!(x285001 == bt286.2.1) || (!(x285002 == bt286.2.2.1) || (!(x285003 == bt286.2.2.2))))) = true then (kissgatelaw10_PrioAlone.j2 k x0 x1 x6 true) else (if x11 = (-1) then (kissgatelaw10_PrioAlone.j2 k x0 x1 x6 ((x9.length : Int) != (x1.length : Int))) else (kissgatelaw10_PrioAlone.j2 k x0 x1 x6 true))))
def kissgatelaw10_PrioAlone.j2 : Nat → Int → List (S45) → Bool → Bool → Option (Bool)
  | 0, _, _, _, _ => none
  | k + 1, x0, x1, x6, x71 => if x71 = true then (some false) else ((prio_Best.f k x0 x1).bind fun bt290 => (if x6 = true then ((prio_Own.f x0).bind fun bt296 => (if (bt290.1 == bt296.1 && (bt290.2.1 == bt296.2.1 && (bt290.2.2.1 == bt296.2.2.1 && (bt290.2.2.2.1 == bt296.2.2.2)))) = true then (some (bt290.2.2.2.2 == (-1))) else (some false))) else (some true)))
end
def kissgatelaw10_PrioAlone.f (k : Nat) (a0 : Int) (l1 : List (S45)) : Option (Bool) := (kissgatelaw10_alive.f k).bind fun t270 => (if t270 = true then (if (l1.length : Int) > 20 then (some true) else (kissgatelaw10_PrioAlone.l0 k a0 l1 ([] : List (S45)) true l1 (l1.length : Int) 0)) else (some false))
def kissgatelaw10_PrioAlone.T21 : Bool × List (List Nat × List Nat) := (true, [([], []), ([], []), ([1], [1]), ([0, 2], [0, 2]), ([3, 2], [3]), ([4], [4]), ([5, 4], [4, 5]), ([4, 6], [4, 6]), ([7, 4], [7]), ([8], [8]), ([9, 8], [8, 9]), ([8], [8]), ([11, 8], [8, 11]), ([10, 12, 8], [8, 10, 12]), ([8, 13], [8, 13])])
def kissgatelaw10_PrioAlone.B21 : List Nat := [0, 0, 2, 7, 15, 31, 63, 127, 255, 511, 1023, 511, 2559, 8191, 16383]
theorem kissgatelaw10_PrioAlone.tab21 : rtab .any (opsOf Try.f7 21) = kissgatelaw10_PrioAlone.T21 := by kernel_rfl
theorem kissgatelaw10_PrioAlone.bits21 : waitsOk kissgatelaw10_PrioAlone.T21.2 kissgatelaw10_PrioAlone.B21 = true := by kernel_rfl
def kissgatelaw10_PrioAlone.T24 : Bool × List (List Nat × List Nat) := (true, [([], []), ([0], [0]), ([1], [1]), ([2], [2]), ([2], [2]), ([4, 2, 2], [2, 4]), ([3, 5, 2], [2, 3, 5]), ([6, 5, 2], [2, 6]), ([7], [7]), ([8, 7], [7, 8]), ([7, 9, 2], [2, 7, 9]), ([2, 10], [2, 10]), ([11, 7, 0, 1, 2, 3, 4, 5, 6, 7, 8, 9, 10, 11], [11])])
def kissgatelaw10_PrioAlone.B24 : List Nat := [0, 1, 3, 7, 7, 23, 63, 127, 255, 511, 1023, 2047, 4095]
theorem kissgatelaw10_PrioAlone.tab24 : rtab .any (opsOf Try.f7 24) = kissgatelaw10_PrioAlone.T24 := by kernel_rfl
theorem kissgatelaw10_PrioAlone.bits24 : waitsOk kissgatelaw10_PrioAlone.T24.2 kissgatelaw10_PrioAlone.B24 = true := by kernel_rfl
set_option maxHeartbeats 8000000 in
set_option maxRecDepth 100000 in
theorem kissgatelaw10_PrioAlone.calls (k : Nat) (a0 : Int) (A1 : Option Addr) (c1 : Nat) (l1 : List (S45)) (r : Bool) (w : World) (hr1 : Kd.C k45 w A1 l1.length l1) (hc1 : l1.length ≤ c1) (h : kissgatelaw10_PrioAlone.f k a0 l1 = some r) :
    Calls Try.prog 7 #[.int .i64 a0, .slice A1 l1.length c1] w fun e w' => e = .returned (.bool r) ∧ Below w.heap.size w w' := by
  have hu45 := Try.underlying45
  have hu23 := Try.underlying23
  have HR1 := Aside0.mk hr1
  have HC1 := Aside0.mk hc1
  clear hr1 hc1
  have HB := Aside0.mk (Below.refl w.heap.size w)
  have H : ((kissgatelaw10_alive.f k).bind fun t270 => (if t270 = true then (if (l1.length : Int) > 20 then (some true) else (kissgatelaw10_PrioAlone.l0 k a0 l1 ([] : List (S45)) true l1 (l1.length : Int) 0)) else (some false))) = some r := h
  clear h
  replace H := Option.bind_eq_some_iff.mp H
  obtain ⟨t270, A30, H⟩ := H
  replace H : (if t270 = true then (if (l1.length : Int) > 20 then (some true) else (kissgatelaw10_PrioAlone.l0 k a0 l1 ([] : List (S45)) true l1 (l1.length : Int) 0)) else (some false)) = some r := H
  have A3 := Aside0.mk A30
  clear A30
  by_cases c4 : t270 = true
  · subst c4
    have H1 : (if (l1.length : Int) > 20 then (some true) else (kissgatelaw10_PrioAlone.l0 k a0 l1 ([] : List (S45)) true l1 (l1.length : Int) 0)) = some r := by rw [if_pos rfl] at H; exact H
    clear H
    have H := H1
    clear H1
    by_cases c5 : (l1.length : Int) > 20
    · rw [if_pos c5] at H
      have c5b0 : decide (20 < (l1.length : Int)) = true := decide_eq_true c5
      have c5b1 : decide (20 < l1.length) = true := decide_eq_true (by omega)
      clear c5
      obtain rfl := Option.some.inj H
      go_enter Try.func7, Try.ntmps7
      go_wp2_with (first | ((with_reducible refine gate_callee (f := 12) rfl ?_); refine goesL_ (some 16) rfl rfl Try.func12 (by kernel_rfl) rfl #[] rfl (by (try simp only [List.map_toArray, List.map_cons, List.map_nil]); first | done | rfl | (simp only [List.length_drop, List.length_take]; rfl)) ?_; (with_reducible refine (kissgatelaw10_alive.calls k  true _ A3.out).mono ?_); rintro e w6 ⟨rfl, hb⟩; refine ⟨_, rfl, ?_⟩; have n0_ := Aside0.mk (below_step (by repeat (first | (with_reducible first | exact HB.out | apply below_alloc | apply pw_below_drewN | apply below_drew1) | exact HB.out)) hb); clear HB; have HB := n0_; clear n0_; (try clear hb); (try clear hb2); (try clear hk); (try clear hi)))
      go_ret
      exact ⟨by first | rfl | (simp [errW_none, errW_some] <;> rfl) | (simp [*, errW_none, errW_some] <;> rfl), by repeat (first | (with_reducible first | exact HB.out | apply below_alloc | apply pw_below_drewN | apply below_drew1) | exact HB.out)⟩
    · rw [if_neg c5] at H
      have c5b0 : decide (20 < (l1.length : Int)) = false := decide_eq_false c5
      have c5b1 : decide (20 < l1.length) = false := decide_eq_false (by omega)
      clear c5
      have H' := Aside0.mk H
      clear H
      go_enter Try.func7, Try.ntmps7
      go_wp2_with (first | ((with_reducible refine gate_callee (f := 12) rfl ?_); refine goesL_ (some 16) rfl rfl Try.func12 (by kernel_rfl) rfl #[] rfl (by (try simp only [List.map_toArray, List.map_cons, List.map_nil]); first | done | rfl | (simp only [List.length_drop, List.length_take]; rfl)) ?_; (with_reducible refine (kissgatelaw10_alive.calls k  true _ A3.out).mono ?_); rintro e w7 ⟨rfl, hb⟩; refine ⟨_, rfl, ?_⟩; have n0_ := Aside0.mk (below_step (by repeat (first | (with_reducible first | exact HB.out | apply below_alloc | apply pw_below_drewN | apply below_drew1) | exact HB.out)) hb); clear HB; have HB := n0_; clear n0_; (try clear hb); (try clear hb2); (try clear hk); (try clear hi)))
      go_loopg [5, 6, 23] k (fun kq v5 v6 v23 w' => ∃ (x5_1 : List (S45)) (x6_1 : Bool) (x23_1 : Int), v6 = .bool x6_1 ∧ v23 = .int .i64 x23_1 ∧ Aside0 (kissgatelaw10_PrioAlone.l0 kq a0 l1 x5_1 x6_1 l1 (l1.length : Int) x23_1 = some r) ∧ Aside0 (kq ≤ k) ∧ Aside0 (Kd.R k45 45 w' w.heap.size (fun _ => True) v5 x5_1) ∧ Aside0 (Below w.heap.size w w'))
      case atStart => exact ⟨(([] : List (S45))), (true), (0), (by first | rfl | (simp; done) | (simp [*]; done)), (by first | rfl | (simp; done) | (simp [*]; done)), H', ⟨Nat.le_refl _⟩, ⟨by first | exact Kd.R_nil _ _ _ _ _ | exact Kd.N_nil _ _ _ _ _ | exact Kd.V_nil _ _ _ _ _ | exact Kd.Q_nil _ _ _ _ _ | exact Kd.S_nil _ _ _ _ _⟩, ⟨by repeat (first | (with_reducible first | exact HB.out | apply below_alloc | apply pw_below_drewN | apply below_drew1) | exact HB.out)⟩⟩
      case round =>
        clear H'
        try clear c1
        try clear p2
        try clear c4
        try clear c5
        try clear c5b0
        try clear c5b1
        try clear c7
        obtain ⟨x5_1, x6_1, x23_1, rfl, rfl, HA, HK1, HO_5, HB⟩ := hrel
        cases gk with
        | zero => exact absurd HA.out (by simp [kissgatelaw10_PrioAlone.l0])
        | succ k1 =>
          have H := HA.out
          clear HA
          simp only [kissgatelaw10_PrioAlone.l0] at H
          by_cases c8 : x23_1 < (l1.length : Int)
          · rw [if_pos c8] at H
            have c8b0 : decide (x23_1 < (l1.length : Int)) = true := decide_eq_true c8
            clear c8
            by_cases c9 : 0 ≤ x23_1
            · rw [if_pos c9] at H
              have c9b0 : decide (0 ≤ x23_1) = true := decide_eq_true c9
              clear c9
              by_cases c10 : x23_1 < (l1.length : Int)
              · rw [if_pos c10] at H
                have c10b0 : decide (x23_1 < (l1.length : Int)) = true := decide_eq_true c10
                clear c10
                by_cases c11 : x5_1.length < 2513169434916
                · rw [if_pos c11] at H
                  have LMc11 := Aside0.mk c11
                  clear c11
                  obtain ⟨y273, hy273⟩ : ∃ y_ : List (S45), y_ = (x5_1 ++ [(⟨(⟨(rd_T45 l1 x23_1).f0.f0, (rd_T45 l1 x23_1).f0.f1, (rd_T45 l1 x23_1).f0.f2, (rd_T45 l1 x23_1).f0.f3⟩ : S23), (rd_T45 l1 x23_1).f1, (rd_T45 l1 x23_1).f2, true⟩ : S45)]) := ⟨_, rfl⟩
                  replace H : (if x6_1 = true then (kissgatelaw10_PrioAlone.l0 k1 a0 l1 y273 (decide (((rd_T45 l1 x23_1).f0.f0) ≥ a0)) l1 (l1.length : Int) (wrap64 (x23_1 + 1))) else (kissgatelaw10_PrioAlone.l0 k1 a0 l1 y273 false l1 (l1.length : Int) (wrap64 (x23_1 + 1)))) = some r := by first | (rw [hy273]; with_reducible exact H) | (have H2_ := (Option.bind_some _ _).symm.trans H; rw [hy273]; with_reducible exact H2_) | (have H2_ := (Option.bind_some _ _).symm.trans H; with_reducible exact H2_) | with_reducible exact H | (rw [hy273]; exact H) | exact H
                  have Ny273 := Aside0.mk hy273
                  clear hy273
                  by_cases c12 : x6_1 = true
                  · subst c12
                    have H1 : (kissgatelaw10_PrioAlone.l0 k1 a0 l1 y273 (decide (((rd_T45 l1 x23_1).f0.f0) ≥ a0)) l1 (l1.length : Int) (wrap64 (x23_1 + 1))) = some r := by rw [if_pos rfl] at H; exact H
                    clear H
                    have H := H1
                    clear H1
                    have H' := Aside0.mk H
                    clear H
                    have p271 : 0 ≤ (x23_1 : Int) := of_decide_eq_true (by first | (with_reducible assumption) | assumption)
                    have q271 : x23_1 < (l1.length : Int) := of_decide_eq_true (by first | (with_reducible assumption) | assumption)
                    obtain ⟨ad271, e271, hx271_0, hx271_1, hx271_2, hx271_3, hx271_4, hx271_5, hx271_6⟩ := at_T45 HR1.out x23_1 p271 q271
                    cases e271
                    replace hx271_0 := (HB.out.cell (World.block_lt_of_cell? w _ hx271_0)).trans hx271_0
                    replace hx271_1 := (HB.out.cell (World.block_lt_of_cell? w _ hx271_1)).trans hx271_1
                    replace hx271_2 := (HB.out.cell (World.block_lt_of_cell? w _ hx271_2)).trans hx271_2
                    replace hx271_3 := (HB.out.cell (World.block_lt_of_cell? w _ hx271_3)).trans hx271_3
                    replace hx271_4 := (HB.out.cell (World.block_lt_of_cell? w _ hx271_4)).trans hx271_4
                    replace hx271_5 := (HB.out.cell (World.block_lt_of_cell? w _ hx271_5)).trans hx271_5
                    replace hx271_6 := (HB.out.cell (World.block_lt_of_cell? w _ hx271_6)).trans hx271_6
                    replace p271 := eq_true p271
                    replace q271 := eq_true q271
                    go_upto_region 10 with (first | ((with_reducible refine gate_dst (N := 8) rfl ?_); (try (refine gate_guard (by rfl) ?_; dsimp only)); refine box_event ?hg (N := 8) ?hd (cs := #[.int .i64 0, .int .i64 0, .int .i64 0, .int .i64 0, .int .i64 0, .int .i64 0, .bool false]) (t := 45) ?hr ?_; (case hd => rfl); (case hg => rfl); (case hr => first | (go_simp; done) | (go_simp; rfl)); intro gb272 hg w13 hbox hb; have n0_ := Aside0.mk (Kd.R_below (Kd.R_elderB (by (with_reducible repeat (first | apply Kd.R_alloc | apply Kd.R_drewN | apply Kd.R_drew)); exact HO_5.out) gb272 (Nat.le_of_eq hg.symm)) hb); have n1_ := Aside0.mk (below_step (by repeat (first | (with_reducible first | exact HB.out | apply below_alloc | apply pw_below_drewN | apply below_drew1) | exact HB.out)) hb); have n2_ := Aside0.mk (hbox); have n3_ := Aside0.mk ((by rw [hg]; exact (below_size (by repeat (first | (with_reducible first | exact HB.out | apply below_alloc | apply pw_below_drewN | apply below_drew1) | exact HB.out))) : w.heap.size ≤ gb272)); have n4_ := Aside0.mk ((by rw [hg]; exact (below_size (by repeat (first | (with_reducible first | exact HB.out | apply below_alloc | apply pw_below_drewN | apply below_drew1) | exact HB.out))) : w.heap.size ≤ gb272)); clear HO_5; clear HB; have HO_5 := n0_; have HB := n1_; have BK272 := n2_; have GW272 := n3_; have GE272 := n4_; clear n0_ n1_ n2_ n3_ n4_; clear hb hbox hg; have hcz14_0 : w13.cell? ⟨gb272, 0, none⟩ = some (.int .i64 0) := (blk_cell BK272.out 0).trans rfl; have hcz14_1 : w13.cell? ⟨gb272, 1, none⟩ = some (.int .i64 0) := (blk_cell BK272.out 1).trans rfl; have hcz14_2 : w13.cell? ⟨gb272, 2, none⟩ = some (.int .i64 0) := (blk_cell BK272.out 2).trans rfl; have hcz14_3 : w13.cell? ⟨gb272, 3, none⟩ = some (.int .i64 0) := (blk_cell BK272.out 3).trans rfl; have hcz14_4 : w13.cell? ⟨gb272, 4, none⟩ = some (.int .i64 0) := (blk_cell BK272.out 4).trans rfl; have hcz14_5 : w13.cell? ⟨gb272, 5, none⟩ = some (.int .i64 0) := (blk_cell BK272.out 5).trans rfl; have hcz14_6 : w13.cell? ⟨gb272, 6, none⟩ = some (.bool false) := (blk_cell BK272.out 6).trans rfl; have hfz14_0 := blk_frozen BK272.out 0; have hfz14_1 := blk_frozen BK272.out 1; have hfz14_2 := blk_frozen BK272.out 2; have hfz14_3 := blk_frozen BK272.out 3; have hfz14_4 := blk_frozen BK272.out 4; have hfz14_5 := blk_frozen BK272.out 5; have hfz14_6 := blk_frozen BK272.out 6))
                    have n0_ : Aside0 ((((((((w13.setCell ⟨gb272, 0, none⟩ (.int .i64 ((rd_T45 l1 x23_1).f0.f0))).setCell ⟨gb272, 1, none⟩ (.int .i64 ((rd_T45 l1 x23_1).f0.f1))).setCell ⟨gb272, 2, none⟩ (.int .i64 ((rd_T45 l1 x23_1).f0.f2))).setCell ⟨gb272, 3, none⟩ (.int .i64 ((rd_T45 l1 x23_1).f0.f3))).setCell ⟨gb272, 4, none⟩ (.int .i64 ((rd_T45 l1 x23_1).f1))).setCell ⟨gb272, 5, none⟩ (.int .i64 ((rd_T45 l1 x23_1).f2))).setCell ⟨gb272, 6, none⟩ (.bool ((rd_T45 l1 x23_1).f3))).heap[gb272]? = some (.cells #[.int .i64 ((rd_T45 l1 x23_1).f0.f0), .int .i64 ((rd_T45 l1 x23_1).f0.f1), .int .i64 ((rd_T45 l1 x23_1).f0.f2), .int .i64 ((rd_T45 l1 x23_1).f0.f3), .int .i64 ((rd_T45 l1 x23_1).f1), .int .i64 ((rd_T45 l1 x23_1).f2), .bool ((rd_T45 l1 x23_1).f3)] 45 (0, 0))) := ⟨by refine blk_put (cs := #[.int .i64 ((rd_T45 l1 x23_1).f0.f0), .int .i64 ((rd_T45 l1 x23_1).f0.f1), .int .i64 ((rd_T45 l1 x23_1).f0.f2), .int .i64 ((rd_T45 l1 x23_1).f0.f3), .int .i64 ((rd_T45 l1 x23_1).f1), .int .i64 ((rd_T45 l1 x23_1).f2), .bool false]) ?_ 6 _ rfl; refine blk_put (cs := #[.int .i64 ((rd_T45 l1 x23_1).f0.f0), .int .i64 ((rd_T45 l1 x23_1).f0.f1), .int .i64 ((rd_T45 l1 x23_1).f0.f2), .int .i64 ((rd_T45 l1 x23_1).f0.f3), .int .i64 ((rd_T45 l1 x23_1).f1), .int .i64 0, .bool false]) ?_ 5 _ rfl; refine blk_put (cs := #[.int .i64 ((rd_T45 l1 x23_1).f0.f0), .int .i64 ((rd_T45 l1 x23_1).f0.f1), .int .i64 ((rd_T45 l1 x23_1).f0.f2), .int .i64 ((rd_T45 l1 x23_1).f0.f3), .int .i64 0, .int .i64 0, .bool false]) ?_ 4 _ rfl; refine blk_put (cs := #[.int .i64 ((rd_T45 l1 x23_1).f0.f0), .int .i64 ((rd_T45 l1 x23_1).f0.f1), .int .i64 ((rd_T45 l1 x23_1).f0.f2), .int .i64 0, .int .i64 0, .int .i64 0, .bool false]) ?_ 3 _ rfl; refine blk_put (cs := #[.int .i64 ((rd_T45 l1 x23_1).f0.f0), .int .i64 ((rd_T45 l1 x23_1).f0.f1), .int .i64 0, .int .i64 0, .int .i64 0, .int .i64 0, .bool false]) ?_ 2 _ rfl; refine blk_put (cs := #[.int .i64 ((rd_T45 l1 x23_1).f0.f0), .int .i64 0, .int .i64 0, .int .i64 0, .int .i64 0, .int .i64 0, .bool false]) ?_ 1 _ rfl; refine blk_put (cs := #[.int .i64 0, .int .i64 0, .int .i64 0, .int .i64 0, .int .i64 0, .int .i64 0, .bool false]) ?_ 0 _ rfl; exact BK272.out⟩
                    have n1_ : Aside0 (k45.R 45 (((((((w13.setCell ⟨gb272, 0, none⟩ (.int .i64 ((rd_T45 l1 x23_1).f0.f0))).setCell ⟨gb272, 1, none⟩ (.int .i64 ((rd_T45 l1 x23_1).f0.f1))).setCell ⟨gb272, 2, none⟩ (.int .i64 ((rd_T45 l1 x23_1).f0.f2))).setCell ⟨gb272, 3, none⟩ (.int .i64 ((rd_T45 l1 x23_1).f0.f3))).setCell ⟨gb272, 4, none⟩ (.int .i64 ((rd_T45 l1 x23_1).f1))).setCell ⟨gb272, 5, none⟩ (.int .i64 ((rd_T45 l1 x23_1).f2))).setCell ⟨gb272, 6, none⟩ (.bool ((rd_T45 l1 x23_1).f3))) w.heap.size (fun k_ => True ∧ k_ ≠ gb272) u5 x5_1) := ⟨by refine Kd.R_far ?_ (fun _ hk => hk.2) _; refine Kd.R_far ?_ (fun _ hk => hk.2) _; refine Kd.R_far ?_ (fun _ hk => hk.2) _; refine Kd.R_far ?_ (fun _ hk => hk.2) _; refine Kd.R_far ?_ (fun _ hk => hk.2) _; refine Kd.R_far ?_ (fun _ hk => hk.2) _; refine Kd.R_far ?_ (fun _ hk => hk.2) _; exact HO_5.out⟩
                    have n2_ : Aside0 (Below w.heap.size w (((((((w13.setCell ⟨gb272, 0, none⟩ (.int .i64 ((rd_T45 l1 x23_1).f0.f0))).setCell ⟨gb272, 1, none⟩ (.int .i64 ((rd_T45 l1 x23_1).f0.f1))).setCell ⟨gb272, 2, none⟩ (.int .i64 ((rd_T45 l1 x23_1).f0.f2))).setCell ⟨gb272, 3, none⟩ (.int .i64 ((rd_T45 l1 x23_1).f0.f3))).setCell ⟨gb272, 4, none⟩ (.int .i64 ((rd_T45 l1 x23_1).f1))).setCell ⟨gb272, 5, none⟩ (.int .i64 ((rd_T45 l1 x23_1).f2))).setCell ⟨gb272, 6, none⟩ (.bool ((rd_T45 l1 x23_1).f3)))) := ⟨by refine below_set ?_ GE272.out; refine below_set ?_ GE272.out; refine below_set ?_ GE272.out; refine below_set ?_ GE272.out; refine below_set ?_ GE272.out; refine below_set ?_ GE272.out; refine below_set ?_ GE272.out; exact HB.out⟩
                    clear HO_5 HB BK272 hcz14_0 hfz14_0 hcz14_1 hfz14_1 hcz14_2 hfz14_2 hcz14_3 hfz14_3 hcz14_4 hfz14_4 hcz14_5 hfz14_5 hcz14_6 hfz14_6 hx271_0 hx271_1 hx271_2 hx271_3 hx271_4 hx271_5 hx271_6
                    generalize (((((((w13.setCell ⟨gb272, 0, none⟩ (.int .i64 ((rd_T45 l1 x23_1).f0.f0))).setCell ⟨gb272, 1, none⟩ (.int .i64 ((rd_T45 l1 x23_1).f0.f1))).setCell ⟨gb272, 2, none⟩ (.int .i64 ((rd_T45 l1 x23_1).f0.f2))).setCell ⟨gb272, 3, none⟩ (.int .i64 ((rd_T45 l1 x23_1).f0.f3))).setCell ⟨gb272, 4, none⟩ (.int .i64 ((rd_T45 l1 x23_1).f1))).setCell ⟨gb272, 5, none⟩ (.int .i64 ((rd_T45 l1 x23_1).f2))).setCell ⟨gb272, 6, none⟩ (.bool ((rd_T45 l1 x23_1).f3))) = wy_ at n0_ n1_ n2_ ⊢
                    have hy6_ : wy_.cell? ⟨gb272, 6, none⟩ = some (.bool ((rd_T45 l1 x23_1).f3)) := (blk_cell n0_.out 6).trans rfl
                    have hf6_ := blk_frozen n0_.out 6
                    go_upto_region 11 with (fail)
                    have BK272 : Aside0 ((wy_.setCell ⟨gb272, 6, none⟩ (.bool true)).heap[gb272]? = some (.cells #[.int .i64 ((rd_T45 l1 x23_1).f0.f0), .int .i64 ((rd_T45 l1 x23_1).f0.f1), .int .i64 ((rd_T45 l1 x23_1).f0.f2), .int .i64 ((rd_T45 l1 x23_1).f0.f3), .int .i64 ((rd_T45 l1 x23_1).f1), .int .i64 ((rd_T45 l1 x23_1).f2), .bool true] 45 (0, 0))) := ⟨by refine blk_put (cs := #[.int .i64 ((rd_T45 l1 x23_1).f0.f0), .int .i64 ((rd_T45 l1 x23_1).f0.f1), .int .i64 ((rd_T45 l1 x23_1).f0.f2), .int .i64 ((rd_T45 l1 x23_1).f0.f3), .int .i64 ((rd_T45 l1 x23_1).f1), .int .i64 ((rd_T45 l1 x23_1).f2), .bool ((rd_T45 l1 x23_1).f3)]) ?_ 6 _ rfl; exact n0_.out⟩
                    have HO_5 : Aside0 (k45.R 45 (wy_.setCell ⟨gb272, 6, none⟩ (.bool true)) w.heap.size (fun k_ => True ∧ k_ ≠ gb272) u5 x5_1) := ⟨by refine Kd.R_far ?_ (fun _ hk => hk.2) _; exact n1_.out⟩
                    have HB : Aside0 (Below w.heap.size w (wy_.setCell ⟨gb272, 6, none⟩ (.bool true))) := ⟨by refine below_set ?_ GE272.out; exact n2_.out⟩
                    clear n0_ n1_ n2_ hy6_ hf6_
                    generalize (wy_.setCell ⟨gb272, 6, none⟩ (.bool true)) = wz_ at BK272 HO_5 HB ⊢
                    have hz0_ : wz_.cell? ⟨gb272, 0, none⟩ = some (.int .i64 ((rd_T45 l1 x23_1).f0.f0)) := (blk_cell BK272.out 0).trans rfl
                    have hz1_ : wz_.cell? ⟨gb272, 1, none⟩ = some (.int .i64 ((rd_T45 l1 x23_1).f0.f1)) := (blk_cell BK272.out 1).trans rfl
                    have hz2_ : wz_.cell? ⟨gb272, 2, none⟩ = some (.int .i64 ((rd_T45 l1 x23_1).f0.f2)) := (blk_cell BK272.out 2).trans rfl
                    have hz3_ : wz_.cell? ⟨gb272, 3, none⟩ = some (.int .i64 ((rd_T45 l1 x23_1).f0.f3)) := (blk_cell BK272.out 3).trans rfl
                    have hz4_ : wz_.cell? ⟨gb272, 4, none⟩ = some (.int .i64 ((rd_T45 l1 x23_1).f1)) := (blk_cell BK272.out 4).trans rfl
                    have hz5_ : wz_.cell? ⟨gb272, 5, none⟩ = some (.int .i64 ((rd_T45 l1 x23_1).f2)) := (blk_cell BK272.out 5).trans rfl
                    have hz6_ : wz_.cell? ⟨gb272, 6, none⟩ = some (.bool true) := (blk_cell BK272.out 6).trans rfl
                    go_wp2_with (first | ((with_reducible refine gate_builtin (b := .append) (xs := #[.tmp 28, .tmp 30]) rfl ?_); (try (refine gate_guard (by rfl) ?_; dsimp only)); at_builtin; refine Kd.R_append k45 (w0 := w) w.heap.size rfl (.tmp 28) (.tmp 30) 28 45 (.agg #[(.int .i64 0), (.int .i64 0), (.int .i64 0), (.int .i64 0), (.int .i64 0), (.int .i64 0), (.bool false)]) 56 rfl Try.underlying28 info45 rfl (by decide) (by omega) u5 x5_1 (⟨(⟨(rd_T45 l1 x23_1).f0.f0, (rd_T45 l1 x23_1).f0.f1, (rd_T45 l1 x23_1).f0.f2, (rd_T45 l1 x23_1).f0.f3⟩ : S23), (rd_T45 l1 x23_1).f1, (rd_T45 l1 x23_1).f2, true⟩ : S45) [.int .i64 ((rd_T45 l1 x23_1).f0.f0), .int .i64 ((rd_T45 l1 x23_1).f0.f1), .int .i64 ((rd_T45 l1 x23_1).f0.f2), .int .i64 ((rd_T45 l1 x23_1).f0.f3), .int .i64 ((rd_T45 l1 x23_1).f1), .int .i64 ((rd_T45 l1 x23_1).f2), .bool true] (fun k_ => k_ ≠ gb272) (fun _ => False) rfl (by first | (go_simp; done) | (go_simp; rfl)) ?aP (fun _ hk => hk.elim) ?aF ?aO ?aB ?aS ?aL ?_; (case aP => exact k45_mkM _ _ _ (⟨(⟨(rd_T45 l1 x23_1).f0.f0, (rd_T45 l1 x23_1).f0.f1, (rd_T45 l1 x23_1).f0.f2, (rd_T45 l1 x23_1).f0.f3⟩ : S23), (rd_T45 l1 x23_1).f1, (rd_T45 l1 x23_1).f2, true⟩ : S45)); (case aB => exact (by repeat (first | (with_reducible first | exact HB.out | apply below_alloc | apply pw_below_drewN | apply below_drew1 | refine below_set ?_ GE272.out) | exact HB.out))); (case aF => exact (fun k_ hk => Kd.freshB (g := gb272) (o := .cells #[.int .i64 ((rd_T45 l1 x23_1).f0.f0), .int .i64 ((rd_T45 l1 x23_1).f0.f1), .int .i64 ((rd_T45 l1 x23_1).f0.f2), .int .i64 ((rd_T45 l1 x23_1).f0.f3), .int .i64 ((rd_T45 l1 x23_1).f1), .int .i64 ((rd_T45 l1 x23_1).f2), .bool true] 45 (0, 0)) (by (with_reducible repeat (first | refine blk_drewN ?_ _ | refine blk_drew ?_ | refine blk_alloc ?_ _)); exact BK272.out) k_ hk)); (case aO => exact (by (with_reducible repeat (first | apply Kd.R_alloc | apply Kd.R_drewN | apply Kd.R_drew)); exact Kd.R_mono HO_5.out (fun _ hk => hk.2))); (case aS => exact (below_size (by repeat (first | (with_reducible first | exact HB.out | apply below_alloc | apply pw_below_drewN | apply below_drew1 | refine below_set ?_ GE272.out) | exact HB.out)))); (case aL => have := LMc11.out; omega); intro v274 w15 ho hb hg hat; clear hz0_ hz1_ hz2_ hz3_ hz4_ hz5_ hz6_; rw [← Ny273.out] at ho; have n0_ := Aside0.mk (blk_grown (g := gb272) (o := .cells #[.int .i64 ((rd_T45 l1 x23_1).f0.f0), .int .i64 ((rd_T45 l1 x23_1).f0.f1), .int .i64 ((rd_T45 l1 x23_1).f0.f2), .int .i64 ((rd_T45 l1 x23_1).f0.f3), .int .i64 ((rd_T45 l1 x23_1).f1), .int .i64 ((rd_T45 l1 x23_1).f2), .bool true] 45 (0, 0)) (by (with_reducible repeat (first | refine blk_drewN ?_ _ | refine blk_drew ?_ | refine blk_alloc ?_ _)); exact BK272.out) hg (Kd.R_away HO_5.out (fun _ hk => hk.2))); have n1_ := Aside0.mk (hb); have n2_ := Aside0.mk (ho); clear BK272; clear HB; clear HO_5; have BK272 := n0_; have HB := n1_; have HO275 := n2_; clear n0_ n1_ n2_; clear ho hb hg hat; have hcz16_0 : w15.cell? ⟨gb272, 0, none⟩ = some (.int .i64 ((rd_T45 l1 x23_1).f0.f0)) := (blk_cell BK272.out 0).trans rfl; have hcz16_1 : w15.cell? ⟨gb272, 1, none⟩ = some (.int .i64 ((rd_T45 l1 x23_1).f0.f1)) := (blk_cell BK272.out 1).trans rfl; have hcz16_2 : w15.cell? ⟨gb272, 2, none⟩ = some (.int .i64 ((rd_T45 l1 x23_1).f0.f2)) := (blk_cell BK272.out 2).trans rfl; have hcz16_3 : w15.cell? ⟨gb272, 3, none⟩ = some (.int .i64 ((rd_T45 l1 x23_1).f0.f3)) := (blk_cell BK272.out 3).trans rfl; have hcz16_4 : w15.cell? ⟨gb272, 4, none⟩ = some (.int .i64 ((rd_T45 l1 x23_1).f1)) := (blk_cell BK272.out 4).trans rfl; have hcz16_5 : w15.cell? ⟨gb272, 5, none⟩ = some (.int .i64 ((rd_T45 l1 x23_1).f2)) := (blk_cell BK272.out 5).trans rfl; have hcz16_6 : w15.cell? ⟨gb272, 6, none⟩ = some (.bool true) := (blk_cell BK272.out 6).trans rfl; have hfz16_0 := blk_frozen BK272.out 0; have hfz16_1 := blk_frozen BK272.out 1; have hfz16_2 := blk_frozen BK272.out 2; have hfz16_3 := blk_frozen BK272.out 3; have hfz16_4 := blk_frozen BK272.out 4; have hfz16_5 := blk_frozen BK272.out 5; have hfz16_6 := blk_frozen BK272.out 6))
                    go_roundg k1
                    case measure => have := HK1.out; omega
                    case rel => exact ⟨(y273), (decide (((rd_T45 l1 x23_1).f0.f0) ≥ a0)), (wrap64 (x23_1 + 1)), (by first | rfl | (simp; done) | (simp [*]; done)), (by first | rfl | (simp; done) | (simp [*]; done)), H', ⟨by have := HK1.out; omega⟩, ⟨by (with_reducible repeat (first | apply Kd.R_alloc | apply Kd.R_drewN | apply Kd.R_drew)); exact Kd.R_mono HO275.out (fun _ hk => trivial)⟩, ⟨by repeat (first | (with_reducible first | exact HB.out | apply below_alloc | apply pw_below_drewN | apply below_drew1 | refine below_set ?_ GE272.out) | exact HB.out)⟩⟩
                  · replace c12 := Bool.eq_false_iff.mpr c12
                    subst c12
                    have H1 : (kissgatelaw10_PrioAlone.l0 k1 a0 l1 y273 false l1 (l1.length : Int) (wrap64 (x23_1 + 1))) = some r := by rw [if_neg (show ¬ (false = true) by decide)] at H; exact H
                    clear H
                    have H := H1
                    clear H1
                    have H' := Aside0.mk H
                    clear H
                    have p271 : 0 ≤ (x23_1 : Int) := of_decide_eq_true (by first | (with_reducible assumption) | assumption)
                    have q271 : x23_1 < (l1.length : Int) := of_decide_eq_true (by first | (with_reducible assumption) | assumption)
                    obtain ⟨ad271, e271, hx271_0, hx271_1, hx271_2, hx271_3, hx271_4, hx271_5, hx271_6⟩ := at_T45 HR1.out x23_1 p271 q271
                    cases e271
                    replace hx271_0 := (HB.out.cell (World.block_lt_of_cell? w _ hx271_0)).trans hx271_0
                    replace hx271_1 := (HB.out.cell (World.block_lt_of_cell? w _ hx271_1)).trans hx271_1
                    replace hx271_2 := (HB.out.cell (World.block_lt_of_cell? w _ hx271_2)).trans hx271_2
                    replace hx271_3 := (HB.out.cell (World.block_lt_of_cell? w _ hx271_3)).trans hx271_3
                    replace hx271_4 := (HB.out.cell (World.block_lt_of_cell? w _ hx271_4)).trans hx271_4
                    replace hx271_5 := (HB.out.cell (World.block_lt_of_cell? w _ hx271_5)).trans hx271_5
                    replace hx271_6 := (HB.out.cell (World.block_lt_of_cell? w _ hx271_6)).trans hx271_6
                    replace p271 := eq_true p271
                    replace q271 := eq_true q271
                    go_upto_region 10 with (first | ((with_reducible refine gate_dst (N := 8) rfl ?_); (try (refine gate_guard (by rfl) ?_; dsimp only)); refine box_event ?hg (N := 8) ?hd (cs := #[.int .i64 0, .int .i64 0, .int .i64 0, .int .i64 0, .int .i64 0, .int .i64 0, .bool false]) (t := 45) ?hr ?_; (case hd => rfl); (case hg => rfl); (case hr => first | (go_simp; done) | (go_simp; rfl)); intro gb272 hg w17 hbox hb; have n0_ := Aside0.mk (Kd.R_below (Kd.R_elderB (by (with_reducible repeat (first | apply Kd.R_alloc | apply Kd.R_drewN | apply Kd.R_drew)); exact HO_5.out) gb272 (Nat.le_of_eq hg.symm)) hb); have n1_ := Aside0.mk (below_step (by repeat (first | (with_reducible first | exact HB.out | apply below_alloc | apply pw_below_drewN | apply below_drew1) | exact HB.out)) hb); have n2_ := Aside0.mk (hbox); have n3_ := Aside0.mk ((by rw [hg]; exact (below_size (by repeat (first | (with_reducible first | exact HB.out | apply below_alloc | apply pw_below_drewN | apply below_drew1) | exact HB.out))) : w.heap.size ≤ gb272)); have n4_ := Aside0.mk ((by rw [hg]; exact (below_size (by repeat (first | (with_reducible first | exact HB.out | apply below_alloc | apply pw_below_drewN | apply below_drew1) | exact HB.out))) : w.heap.size ≤ gb272)); clear HO_5; clear HB; have HO_5 := n0_; have HB := n1_; have BK272 := n2_; have GW272 := n3_; have GE272 := n4_; clear n0_ n1_ n2_ n3_ n4_; clear hb hbox hg; have hcz18_0 : w17.cell? ⟨gb272, 0, none⟩ = some (.int .i64 0) := (blk_cell BK272.out 0).trans rfl; have hcz18_1 : w17.cell? ⟨gb272, 1, none⟩ = some (.int .i64 0) := (blk_cell BK272.out 1).trans rfl; have hcz18_2 : w17.cell? ⟨gb272, 2, none⟩ = some (.int .i64 0) := (blk_cell BK272.out 2).trans rfl; have hcz18_3 : w17.cell? ⟨gb272, 3, none⟩ = some (.int .i64 0) := (blk_cell BK272.out 3).trans rfl; have hcz18_4 : w17.cell? ⟨gb272, 4, none⟩ = some (.int .i64 0) := (blk_cell BK272.out 4).trans rfl; have hcz18_5 : w17.cell? ⟨gb272, 5, none⟩ = some (.int .i64 0) := (blk_cell BK272.out 5).trans rfl; have hcz18_6 : w17.cell? ⟨gb272, 6, none⟩ = some (.bool false) := (blk_cell BK272.out 6).trans rfl; have hfz18_0 := blk_frozen BK272.out 0; have hfz18_1 := blk_frozen BK272.out 1; have hfz18_2 := blk_frozen BK272.out 2; have hfz18_3 := blk_frozen BK272.out 3; have hfz18_4 := blk_frozen BK272.out 4; have hfz18_5 := blk_frozen BK272.out 5; have hfz18_6 := blk_frozen BK272.out 6))
                    have n0_ : Aside0 ((((((((w17.setCell ⟨gb272, 0, none⟩ (.int .i64 ((rd_T45 l1 x23_1).f0.f0))).setCell ⟨gb272, 1, none⟩ (.int .i64 ((rd_T45 l1 x23_1).f0.f1))).setCell ⟨gb272, 2, none⟩ (.int .i64 ((rd_T45 l1 x23_1).f0.f2))).setCell ⟨gb272, 3, none⟩ (.int .i64 ((rd_T45 l1 x23_1).f0.f3))).setCell ⟨gb272, 4, none⟩ (.int .i64 ((rd_T45 l1 x23_1).f1))).setCell ⟨gb272, 5, none⟩ (.int .i64 ((rd_T45 l1 x23_1).f2))).setCell ⟨gb272, 6, none⟩ (.bool ((rd_T45 l1 x23_1).f3))).heap[gb272]? = some (.cells #[.int .i64 ((rd_T45 l1 x23_1).f0.f0), .int .i64 ((rd_T45 l1 x23_1).f0.f1), .int .i64 ((rd_T45 l1 x23_1).f0.f2), .int .i64 ((rd_T45 l1 x23_1).f0.f3), .int .i64 ((rd_T45 l1 x23_1).f1), .int .i64 ((rd_T45 l1 x23_1).f2), .bool ((rd_T45 l1 x23_1).f3)] 45 (0, 0))) := ⟨by refine blk_put (cs := #[.int .i64 ((rd_T45 l1 x23_1).f0.f0), .int .i64 ((rd_T45 l1 x23_1).f0.f1), .int .i64 ((rd_T45 l1 x23_1).f0.f2), .int .i64 ((rd_T45 l1 x23_1).f0.f3), .int .i64 ((rd_T45 l1 x23_1).f1), .int .i64 ((rd_T45 l1 x23_1).f2), .bool false]) ?_ 6 _ rfl; refine blk_put (cs := #[.int .i64 ((rd_T45 l1 x23_1).f0.f0), .int .i64 ((rd_T45 l1 x23_1).f0.f1), .int .i64 ((rd_T45 l1 x23_1).f0.f2), .int .i64 ((rd_T45 l1 x23_1).f0.f3), .int .i64 ((rd_T45 l1 x23_1).f1), .int .i64 0, .bool false]) ?_ 5 _ rfl; refine blk_put (cs := #[.int .i64 ((rd_T45 l1 x23_1).f0.f0), .int .i64 ((rd_T45 l1 x23_1).f0.f1), .int .i64 ((rd_T45 l1 x23_1).f0.f2), .int .i64 ((rd_T45 l1 x23_1).f0.f3), .int .i64 0, .int .i64 0, .bool false]) ?_ 4 _ rfl; refine blk_put (cs := #[.int .i64 ((rd_T45 l1 x23_1).f0.f0), .int .i64 ((rd_T45 l1 x23_1).f0.f1), .int .i64 ((rd_T45 l1 x23_1).f0.f2), .int .i64 0, .int .i64 0, .int .i64 0, .bool false]) ?_ 3 _ rfl; refine blk_put (cs := #[.int .i64 ((rd_T45 l1 x23_1).f0.f0), .int .i64 ((rd_T45 l1 x23_1).f0.f1), .int .i64 0, .int .i64 0, .int .i64 0, .int .i64 0, .bool false]) ?_ 2 _ rfl; refine blk_put (cs := #[.int .i64 ((rd_T45 l1 x23_1).f0.f0), .int .i64 0, .int .i64 0, .int .i64 0, .int .i64 0, .int .i64 0, .bool false]) ?_ 1 _ rfl; refine blk_put (cs := #[.int .i64 0, .int .i64 0, .int .i64 0, .int .i64 0, .int .i64 0, .int .i64 0, .bool false]) ?_ 0 _ rfl; exact BK272.out⟩
                    have n1_ : Aside0 (k45.R 45 (((((((w17.setCell ⟨gb272, 0, none⟩ (.int .i64 ((rd_T45 l1 x23_1).f0.f0))).setCell ⟨gb272, 1, none⟩ (.int .i64 ((rd_T45 l1 x23_1).f0.f1))).setCell ⟨gb272, 2, none⟩ (.int .i64 ((rd_T45 l1 x23_1).f0.f2))).setCell ⟨gb272, 3, none⟩ (.int .i64 ((rd_T45 l1 x23_1).f0.f3))).setCell ⟨gb272, 4, none⟩ (.int .i64 ((rd_T45 l1 x23_1).f1))).setCell ⟨gb272, 5, none⟩ (.int .i64 ((rd_T45 l1 x23_1).f2))).setCell ⟨gb272, 6, none⟩ (.bool ((rd_T45 l1 x23_1).f3))) w.heap.size (fun k_ => True ∧ k_ ≠ gb272) u5 x5_1) := ⟨by refine Kd.R_far ?_ (fun _ hk => hk.2) _; refine Kd.R_far ?_ (fun _ hk => hk.2) _; refine Kd.R_far ?_ (fun _ hk => hk.2) _; refine Kd.R_far ?_ (fun _ hk => hk.2) _; refine Kd.R_far ?_ (fun _ hk => hk.2) _; refine Kd.R_far ?_ (fun _ hk => hk.2) _; refine Kd.R_far ?_ (fun _ hk => hk.2) _; exact HO_5.out⟩
                    have n2_ : Aside0 (Below w.heap.size w (((((((w17.setCell ⟨gb272, 0, none⟩ (.int .i64 ((rd_T45 l1 x23_1).f0.f0))).setCell ⟨gb272, 1, none⟩ (.int .i64 ((rd_T45 l1 x23_1).f0.f1))).setCell ⟨gb272, 2, none⟩ (.int .i64 ((rd_T45 l1 x23_1).f0.f2))).setCell ⟨gb272, 3, none⟩ (.int .i64 ((rd_T45 l1 x23_1).f0.f3))).setCell ⟨gb272, 4, none⟩ (.int .i64 ((rd_T45 l1 x23_1).f1))).setCell ⟨gb272, 5, none⟩ (.int .i64 ((rd_T45 l1 x23_1).f2))).setCell ⟨gb272, 6, none⟩ (.bool ((rd_T45 l1 x23_1).f3)))) := ⟨by refine below_set ?_ GE272.out; refine below_set ?_ GE272.out; refine below_set ?_ GE272.out; refine below_set ?_ GE272.out; refine below_set ?_ GE272.out; refine below_set ?_ GE272.out; refine below_set ?_ GE272.out; exact HB.out⟩
                    clear HO_5 HB BK272 hcz18_0 hfz18_0 hcz18_1 hfz18_1 hcz18_2 hfz18_2 hcz18_3 hfz18_3 hcz18_4 hfz18_4 hcz18_5 hfz18_5 hcz18_6 hfz18_6 hx271_0 hx271_1 hx271_2 hx271_3 hx271_4 hx271_5 hx271_6
                    generalize (((((((w17.setCell ⟨gb272, 0, none⟩ (.int .i64 ((rd_T45 l1 x23_1).f0.f0))).setCell ⟨gb272, 1, none⟩ (.int .i64 ((rd_T45 l1 x23_1).f0.f1))).setCell ⟨gb272, 2, none⟩ (.int .i64 ((rd_T45 l1 x23_1).f0.f2))).setCell ⟨gb272, 3, none⟩ (.int .i64 ((rd_T45 l1 x23_1).f0.f3))).setCell ⟨gb272, 4, none⟩ (.int .i64 ((rd_T45 l1 x23_1).f1))).setCell ⟨gb272, 5, none⟩ (.int .i64 ((rd_T45 l1 x23_1).f2))).setCell ⟨gb272, 6, none⟩ (.bool ((rd_T45 l1 x23_1).f3))) = wy_ at n0_ n1_ n2_ ⊢
                    have hy6_ : wy_.cell? ⟨gb272, 6, none⟩ = some (.bool ((rd_T45 l1 x23_1).f3)) := (blk_cell n0_.out 6).trans rfl
                    have hf6_ := blk_frozen n0_.out 6
                    go_upto_region 11 with (fail)
                    have BK272 : Aside0 ((wy_.setCell ⟨gb272, 6, none⟩ (.bool true)).heap[gb272]? = some (.cells #[.int .i64 ((rd_T45 l1 x23_1).f0.f0), .int .i64 ((rd_T45 l1 x23_1).f0.f1), .int .i64 ((rd_T45 l1 x23_1).f0.f2), .int .i64 ((rd_T45 l1 x23_1).f0.f3), .int .i64 ((rd_T45 l1 x23_1).f1), .int .i64 ((rd_T45 l1 x23_1).f2), .bool true] 45 (0, 0))) := ⟨by refine blk_put (cs := #[.int .i64 ((rd_T45 l1 x23_1).f0.f0), .int .i64 ((rd_T45 l1 x23_1).f0.f1), .int .i64 ((rd_T45 l1 x23_1).f0.f2), .int .i64 ((rd_T45 l1 x23_1).f0.f3), .int .i64 ((rd_T45 l1 x23_1).f1), .int .i64 ((rd_T45 l1 x23_1).f2), .bool ((rd_T45 l1 x23_1).f3)]) ?_ 6 _ rfl; exact n0_.out⟩
                    have HO_5 : Aside0 (k45.R 45 (wy_.setCell ⟨gb272, 6, none⟩ (.bool true)) w.heap.size (fun k_ => True ∧ k_ ≠ gb272) u5 x5_1) := ⟨by refine Kd.R_far ?_ (fun _ hk => hk.2) _; exact n1_.out⟩
                    have HB : Aside0 (Below w.heap.size w (wy_.setCell ⟨gb272, 6, none⟩ (.bool true))) := ⟨by refine below_set ?_ GE272.out; exact n2_.out⟩
                    clear n0_ n1_ n2_ hy6_ hf6_
                    generalize (wy_.setCell ⟨gb272, 6, none⟩ (.bool true)) = wz_ at BK272 HO_5 HB ⊢
                    have hz0_ : wz_.cell? ⟨gb272, 0, none⟩ = some (.int .i64 ((rd_T45 l1 x23_1).f0.f0)) := (blk_cell BK272.out 0).trans rfl
                    have hz1_ : wz_.cell? ⟨gb272, 1, none⟩ = some (.int .i64 ((rd_T45 l1 x23_1).f0.f1)) := (blk_cell BK272.out 1).trans rfl
                    have hz2_ : wz_.cell? ⟨gb272, 2, none⟩ = some (.int .i64 ((rd_T45 l1 x23_1).f0.f2)) := (blk_cell BK272.out 2).trans rfl
                    have hz3_ : wz_.cell? ⟨gb272, 3, none⟩ = some (.int .i64 ((rd_T45 l1 x23_1).f0.f3)) := (blk_cell BK272.out 3).trans rfl
                    have hz4_ : wz_.cell? ⟨gb272, 4, none⟩ = some (.int .i64 ((rd_T45 l1 x23_1).f1)) := (blk_cell BK272.out 4).trans rfl
                    have hz5_ : wz_.cell? ⟨gb272, 5, none⟩ = some (.int .i64 ((rd_T45 l1 x23_1).f2)) := (blk_cell BK272.out 5).trans rfl
                    have hz6_ : wz_.cell? ⟨gb272, 6, none⟩ = some (.bool true) := (blk_cell BK272.out 6).trans rfl
                    go_wp2_with (first | ((with_reducible refine gate_builtin (b := .append) (xs := #[.tmp 28, .tmp 30]) rfl ?_); (try (refine gate_guard (by rfl) ?_; dsimp only)); at_builtin; refine Kd.R_append k45 (w0 := w) w.heap.size rfl (.tmp 28) (.tmp 30) 28 45 (.agg #[(.int .i64 0), (.int .i64 0), (.int .i64 0), (.int .i64 0), (.int .i64 0), (.int .i64 0), (.bool false)]) 56 rfl Try.underlying28 info45 rfl (by decide) (by omega) u5 x5_1 (⟨(⟨(rd_T45 l1 x23_1).f0.f0, (rd_T45 l1 x23_1).f0.f1, (rd_T45 l1 x23_1).f0.f2, (rd_T45 l1 x23_1).f0.f3⟩ : S23), (rd_T45 l1 x23_1).f1, (rd_T45 l1 x23_1).f2, true⟩ : S45) [.int .i64 ((rd_T45 l1 x23_1).f0.f0), .int .i64 ((rd_T45 l1 x23_1).f0.f1), .int .i64 ((rd_T45 l1 x23_1).f0.f2), .int .i64 ((rd_T45 l1 x23_1).f0.f3), .int .i64 ((rd_T45 l1 x23_1).f1), .int .i64 ((rd_T45 l1 x23_1).f2), .bool true] (fun k_ => k_ ≠ gb272) (fun _ => False) rfl (by first | (go_simp; done) | (go_simp; rfl)) ?aP (fun _ hk => hk.elim) ?aF ?aO ?aB ?aS ?aL ?_; (case aP => exact k45_mkM _ _ _ (⟨(⟨(rd_T45 l1 x23_1).f0.f0, (rd_T45 l1 x23_1).f0.f1, (rd_T45 l1 x23_1).f0.f2, (rd_T45 l1 x23_1).f0.f3⟩ : S23), (rd_T45 l1 x23_1).f1, (rd_T45 l1 x23_1).f2, true⟩ : S45)); (case aB => exact (by repeat (first | (with_reducible first | exact HB.out | apply below_alloc | apply pw_below_drewN | apply below_drew1 | refine below_set ?_ GE272.out) | exact HB.out))); (case aF => exact (fun k_ hk => Kd.freshB (g := gb272) (o := .cells #[.int .i64 ((rd_T45 l1 x23_1).f0.f0), .int .i64 ((rd_T45 l1 x23_1).f0.f1), .int .i64 ((rd_T45 l1 x23_1).f0.f2), .int .i64 ((rd_T45 l1 x23_1).f0.f3), .int .i64 ((rd_T45 l1 x23_1).f1), .int .i64 ((rd_T45 l1 x23_1).f2), .bool true] 45 (0, 0)) (by (with_reducible repeat (first | refine blk_drewN ?_ _ | refine blk_drew ?_ | refine blk_alloc ?_ _)); exact BK272.out) k_ hk)); (case aO => exact (by (with_reducible repeat (first | apply Kd.R_alloc | apply Kd.R_drewN | apply Kd.R_drew)); exact Kd.R_mono HO_5.out (fun _ hk => hk.2))); (case aS => exact (below_size (by repeat (first | (with_reducible first | exact HB.out | apply below_alloc | apply pw_below_drewN | apply below_drew1 | refine below_set ?_ GE272.out) | exact HB.out)))); (case aL => have := LMc11.out; omega); intro v274 w19 ho hb hg hat; clear hz0_ hz1_ hz2_ hz3_ hz4_ hz5_ hz6_; rw [← Ny273.out] at ho; have n0_ := Aside0.mk (blk_grown (g := gb272) (o := .cells #[.int .i64 ((rd_T45 l1 x23_1).f0.f0), .int .i64 ((rd_T45 l1 x23_1).f0.f1), .int .i64 ((rd_T45 l1 x23_1).f0.f2), .int .i64 ((rd_T45 l1 x23_1).f0.f3), .int .i64 ((rd_T45 l1 x23_1).f1), .int .i64 ((rd_T45 l1 x23_1).f2), .bool true] 45 (0, 0)) (by (with_reducible repeat (first | refine blk_drewN ?_ _ | refine blk_drew ?_ | refine blk_alloc ?_ _)); exact BK272.out) hg (Kd.R_away HO_5.out (fun _ hk => hk.2))); have n1_ := Aside0.mk (hb); have n2_ := Aside0.mk (ho); clear BK272; clear HB; clear HO_5; have BK272 := n0_; have HB := n1_; have HO275 := n2_; clear n0_ n1_ n2_; clear ho hb hg hat))
                    go_roundg k1
                    case measure => have := HK1.out; omega
                    case rel => exact ⟨(y273), (false), (wrap64 (x23_1 + 1)), (by first | rfl | (simp; done) | (simp [*]; done)), (by first | rfl | (simp; done) | (simp [*]; done)), H', ⟨by have := HK1.out; omega⟩, ⟨by (with_reducible repeat (first | apply Kd.R_alloc | apply Kd.R_drewN | apply Kd.R_drew)); exact Kd.R_mono HO275.out (fun _ hk => trivial)⟩, ⟨by repeat (first | (with_reducible first | exact HB.out | apply below_alloc | apply pw_below_drewN | apply below_drew1 | refine below_set ?_ GE272.out) | exact HB.out)⟩⟩
                · rw [if_neg c11] at H
                  exact absurd H (by simp)
              · rw [if_neg c10] at H
                exact absurd H (by simp)
            · rw [if_neg c9] at H
              exact absurd H (by simp)
          · rw [if_neg c8] at H
            have c8b0 : decide (x23_1 < (l1.length : Int)) = false := decide_eq_false c8
            clear c8
            replace H := Option.bind_eq_some_iff.mp H
            obtain ⟨⟨t276, t279, t280, t281, t282, t283⟩, A200, H⟩ := H
            replace H : (kissgatelaw10_PrioAlone.l1 k1 a0 l1 x6_1 t276 t283 t276 (t276.length : Int) 0 t279 t280 t281 t282) = some r := H
            have A20 := Aside0.mk A200
            clear A200
            have H' := Aside0.mk H
            clear H
            obtain ⟨Ao21, co21, eo21⟩ := Kd.R_slice HO_5.out
            subst eo21
            go_wp2_with (first | ((with_reducible refine gate_callee (f := 23) rfl ?_); refine goesL_ (some 44) rfl rfl Try.func23 (by kernel_rfl) rfl #[.int .i64 a0, .slice Ao21 x5_1.length co21] rfl (by (try simp only [List.map_toArray, List.map_cons, List.map_nil]); first | done | rfl | (simp only [List.length_drop, List.length_take]; rfl)) ?_; (with_reducible refine (prio_Roles.calls k1 a0 _ _ x5_1 t276 t279 t280 t281 t282 t283 _ ?side1 ?side2 A20.out).mono ?_); (case side1 => repeat (first | exact (Kd.R_reads' HO_5.out).2.2 | (with_reducible refine Kd.C_alloc ?_ _) | (with_reducible refine Kd.C_drewN ?_ _) | (with_reducible refine Kd.C_drew ?_))); (case side2 => exact (Kd.R_reads' HO_5.out).2.1); rintro e w22 ⟨v277, rfl, ho0, hb⟩; refine ⟨_, rfl, ?_⟩; have n0_ := Aside0.mk (Kd.R_below (by (with_reducible repeat (first | apply Kd.R_alloc | apply Kd.R_drewN | apply Kd.R_drew)); exact HO_5.out) hb); have n1_ := Aside0.mk (Kd.R_lower ho0 (below_size (by repeat (first | (with_reducible first | exact HB.out | apply below_alloc | apply pw_below_drewN | apply below_drew1) | exact HB.out)))); have n2_ := Aside0.mk (below_step (by repeat (first | (with_reducible first | exact HB.out | apply below_alloc | apply pw_below_drewN | apply below_drew1) | exact HB.out)) hb); clear HO_5; clear HB; have HO_5 := n0_; have HO278 := n1_; have HB := n2_; clear n0_ n1_ n2_; (try clear hb); (try clear hb2); (try clear hk); (try clear hi); (try clear ho0)) | ((with_reducible refine gate_dst (N := 10) rfl ?_); (try (refine gate_guard (by rfl) ?_; dsimp only)); refine box_event ?hg (N := 10) ?hd (cs := #[.int .i64 0, .int .i64 0, .int .i64 0, .int .i64 0]) (t := 23) ?hr ?_; (case hd => rfl); (case hg => rfl); (case hr => first | (go_simp; done) | (go_simp; rfl)); intro gb284 hg w23 hbox hb; have n0_ := Aside0.mk (Kd.R_below (by (with_reducible repeat (first | apply Kd.R_alloc | apply Kd.R_drewN | apply Kd.R_drew)); exact HO_5.out) hb); have n1_ := Aside0.mk (Kd.R_below (by (with_reducible repeat (first | apply Kd.R_alloc | apply Kd.R_drewN | apply Kd.R_drew)); exact HO278.out) hb); have n2_ := Aside0.mk (below_step (by repeat (first | (with_reducible first | exact HB.out | apply below_alloc | apply pw_below_drewN | apply below_drew1) | exact HB.out)) hb); have n3_ := Aside0.mk (hbox); have n4_ := Aside0.mk ((by rw [hg]; exact (below_size (by repeat (first | (with_reducible first | exact HB.out | apply below_alloc | apply pw_below_drewN | apply below_drew1) | exact HB.out))) : w.heap.size ≤ gb284)); have n5_ := Aside0.mk ((by rw [hg]; exact (below_size (by repeat (first | (with_reducible first | exact HB.out | apply below_alloc | apply pw_below_drewN | apply below_drew1) | exact HB.out))) : w.heap.size ≤ gb284)); clear HO_5; clear HO278; clear HB; have HO_5 := n0_; have HO278 := n1_; have HB := n2_; have BK284 := n3_; have GW284 := n4_; have GE284 := n5_; clear n0_ n1_ n2_ n3_ n4_ n5_; clear hb hbox hg; have hcz24_0 : w23.cell? ⟨gb284, 0, none⟩ = some (.int .i64 0) := (blk_cell BK284.out 0).trans rfl; have hcz24_1 : w23.cell? ⟨gb284, 1, none⟩ = some (.int .i64 0) := (blk_cell BK284.out 1).trans rfl; have hcz24_2 : w23.cell? ⟨gb284, 2, none⟩ = some (.int .i64 0) := (blk_cell BK284.out 2).trans rfl; have hcz24_3 : w23.cell? ⟨gb284, 3, none⟩ = some (.int .i64 0) := (blk_cell BK284.out 3).trans rfl; have hfz24_0 := blk_frozen BK284.out 0; have hfz24_1 := blk_frozen BK284.out 1; have hfz24_2 := blk_frozen BK284.out 2; have hfz24_3 := blk_frozen BK284.out 3; obtain ⟨Ao25, co25, eo25⟩ := Kd.R_slice HO278.out; subst eo25))
            go_loopg [50] k1 (fun kq v50 w' => ∃ (x50_2 : Int), v50 = .int .i64 x50_2 ∧ Aside0 (kissgatelaw10_PrioAlone.l1 kq a0 l1 x6_1 t276 t283 t276 (t276.length : Int) x50_2 t279 t280 t281 t282 = some r) ∧ Aside0 (kq ≤ k1) ∧ Aside0 (Kd.R (Kd.int .i64) 3 w' w.heap.size (fun _ => True) (.slice Ao25 t276.length co25) t276) ∧ Aside0 (Kd.R (Kd.int .i64) 3 w' w.heap.size (fun _ => True) (.slice Ao25 t276.length co25) t276) ∧ Aside0 (w'.heap[gb284]? = some (.cells #[.int .i64 t279, .int .i64 t280, .int .i64 t281, .int .i64 t282] 23 (0, 0))) ∧ Aside0 (Below w.heap.size w w'))
            case atStart => exact ⟨(0), (by first | rfl | (simp; done) | (simp [*]; done)), H', ⟨Nat.le_refl _⟩, ⟨by (with_reducible repeat (first | apply Kd.R_alloc | apply Kd.R_drewN | apply Kd.R_drew)); exact Kd.R_mono (Kd.R_far (p := ⟨gb284, 3, none⟩) (Kd.R_far (p := ⟨gb284, 2, none⟩) (Kd.R_far (p := ⟨gb284, 1, none⟩) (Kd.R_far (p := ⟨gb284, 0, none⟩) (Kd.R_types HO278.out BK284.out (by decide)) (fun _ hk => hk.2) (.int .i64 t279)) (fun _ hk => hk.2) (.int .i64 t280)) (fun _ hk => hk.2) (.int .i64 t281)) (fun _ hk => hk.2) (.int .i64 t282)) (fun _ hk => trivial)⟩, ⟨by (with_reducible repeat (first | apply Kd.R_alloc | apply Kd.R_drewN | apply Kd.R_drew)); exact Kd.R_mono (Kd.R_far (p := ⟨gb284, 3, none⟩) (Kd.R_far (p := ⟨gb284, 2, none⟩) (Kd.R_far (p := ⟨gb284, 1, none⟩) (Kd.R_far (p := ⟨gb284, 0, none⟩) (Kd.R_types HO278.out BK284.out (by decide)) (fun _ hk => hk.2) (.int .i64 t279)) (fun _ hk => hk.2) (.int .i64 t280)) (fun _ hk => hk.2) (.int .i64 t281)) (fun _ hk => hk.2) (.int .i64 t282)) (fun _ hk => trivial)⟩, ⟨by (with_reducible repeat (first | refine blk_drewN ?_ _ | refine blk_drew ?_ | refine blk_alloc ?_ _)); refine blk_put (cs := #[.int .i64 t279, .int .i64 t280, .int .i64 t281, .int .i64 0]) ?_ 3 _ rfl; (with_reducible repeat (first | refine blk_drewN ?_ _ | refine blk_drew ?_ | refine blk_alloc ?_ _)); refine blk_put (cs := #[.int .i64 t279, .int .i64 t280, .int .i64 0, .int .i64 0]) ?_ 2 _ rfl; (with_reducible repeat (first | refine blk_drewN ?_ _ | refine blk_drew ?_ | refine blk_alloc ?_ _)); refine blk_put (cs := #[.int .i64 t279, .int .i64 0, .int .i64 0, .int .i64 0]) ?_ 1 _ rfl; (with_reducible repeat (first | refine blk_drewN ?_ _ | refine blk_drew ?_ | refine blk_alloc ?_ _)); refine blk_put (cs := #[.int .i64 0, .int .i64 0, .int .i64 0, .int .i64 0]) ?_ 0 _ rfl; (with_reducible repeat (first | refine blk_drewN ?_ _ | refine blk_drew ?_ | refine blk_alloc ?_ _)); exact BK284.out⟩, ⟨by repeat (first | (with_reducible first | exact HB.out | apply below_alloc | apply pw_below_drewN | apply below_drew1 | refine below_set ?_ GE284.out) | exact HB.out)⟩⟩
            case round =>
              clear H'
              try clear c1
              try clear c2
              try clear p2
              try clear q2
              try clear hx2
              try clear c4
              try clear c5
              try clear c5b0
              try clear c5b1
              try clear p6
              try clear c7
              try clear c8
              try clear c8b0
              try clear c9
              try clear c9b0
              try clear c10
              try clear c10b0
              try clear c11
              try clear c12
              try clear c23
              try clear hcz14_0
              try clear hcz14_1
              try clear hcz14_2
              try clear hcz14_3
              try clear hcz14_4
              try clear hcz14_5
              try clear hcz14_6
              try clear hcz16_0
              try clear hcz16_1
              try clear hcz16_2
              try clear hcz16_3
              try clear hcz16_4
              try clear hcz16_5
              try clear hcz16_6
              try clear hcz18_0
              try clear hcz18_1
              try clear hcz18_2
              try clear hcz18_3
              try clear hcz18_4
              try clear hcz18_5
              try clear hcz18_6
              try clear hcz24_0
              try clear hcz24_1
              try clear hcz24_2
              try clear hcz24_3
              try clear hfz14_0
              try clear hfz14_1
              try clear hfz14_2
              try clear hfz14_3
              try clear hfz14_4
              try clear hfz14_5
              try clear hfz14_6
              try clear hfz16_0
              try clear hfz16_1
              try clear hfz16_2
              try clear hfz16_3
              try clear hfz16_4
              try clear hfz16_5
              try clear hfz16_6
              try clear hfz18_0
              try clear hfz18_1
              try clear hfz18_2
              try clear hfz18_3
              try clear hfz18_4
              try clear hfz18_5
              try clear hfz18_6
              try clear hfz24_0
              try clear hfz24_1
              try clear hfz24_2
              try clear hfz24_3
              try clear hx271_0
              try clear hx271_1
              try clear hx271_2
              try clear hx271_3
              try clear hx271_4
              try clear hx271_5
              try clear hx271_6
              try clear p2
              try clear p271
              try clear q271
              obtain ⟨x50_2, rfl, HA, HK2, HO_9, HO_48, BK284, HB⟩ := hrel
              cases gk with
              | zero => exact absurd HA.out (by simp [kissgatelaw10_PrioAlone.l1])
              | succ k2 =>
                have H := HA.out
                clear HA
                simp only [kissgatelaw10_PrioAlone.l1] at H
                by_cases c26 : x50_2 < (t276.length : Int)
                · rw [if_pos c26] at H
                  have c26b0 : decide (x50_2 < (t276.length : Int)) = true := decide_eq_true c26
                  clear c26
                  by_cases c27 : 0 ≤ x50_2
                  · rw [if_pos c27] at H
                    have c27b0 : decide (0 ≤ x50_2) = true := decide_eq_true c27
                    clear c27
                    by_cases c28 : x50_2 < (t276.length : Int)
                    · rw [if_pos c28] at H
                      have c28b0 : decide (x50_2 < (t276.length : Int)) = true := decide_eq_true c28
                      clear c28
                      by_cases c29 : (rd t276 x50_2) = 2
                      · rw [if_pos c29] at H
                        have c29b0 : ((rd t276 x50_2) == 2) = true := beq_iff_eq.mpr c29
                        have c29b1 : ((rd t276 x50_2) != 2) = false := bne_eq_false_iff_eq.mpr c29
                        clear c29
                        have H' := Aside0.mk H
                        clear H
                        have p285 : 0 ≤ (x50_2 : Int) := of_decide_eq_true (by first | (with_reducible assumption) | assumption)
                        have q285 : x50_2 < (t276.length : Int) := of_decide_eq_true (by first | (with_reducible assumption) | assumption)
                        obtain ⟨ad285, e285, hx285_0⟩ := Kd.at_int (Kd.R_reads' HO_48.out).2.2 x50_2 p285 q285
                        cases e285
                        replace p285 := eq_true p285
                        replace q285 := eq_true q285
                        go_wp2
                        go_roundg k2
                        case measure => have := HK1.out; have := HK2.out; omega
                        case rel => exact ⟨(wrap64 (x50_2 + 1)), (by first | rfl | (simp; done) | (simp [*]; done)), H', ⟨by have := HK1.out; have := HK2.out; omega⟩, ⟨by (with_reducible repeat (first | apply Kd.R_alloc | apply Kd.R_drewN | apply Kd.R_drew)); exact HO_9.out⟩, ⟨by (with_reducible repeat (first | apply Kd.R_alloc | apply Kd.R_drewN | apply Kd.R_drew)); exact HO_48.out⟩, ⟨by (with_reducible repeat (first | refine blk_drewN ?_ _ | refine blk_drew ?_ | refine blk_alloc ?_ _)); exact BK284.out⟩, ⟨by repeat (first | (with_reducible first | exact HB.out | apply below_alloc | apply pw_below_drewN | apply below_drew1 | refine below_set ?_ GE284.out) | exact HB.out)⟩⟩
                      · rw [if_neg c29] at H
                        have c29b0 : ((rd t276 x50_2) == 2) = false := beq_eq_false_iff_ne.mpr c29
                        have c29b1 : ((rd t276 x50_2) != 2) = true := bne_iff_ne.mpr c29
                        obtain rfl := Option.some.inj H
                        have p285 : 0 ≤ (x50_2 : Int) := of_decide_eq_true (by first | (with_reducible assumption) | assumption)
                        have q285 : x50_2 < (t276.length : Int) := of_decide_eq_true (by first | (with_reducible assumption) | assumption)
                        obtain ⟨ad285, e285, hx285_0⟩ := Kd.at_int (Kd.R_reads' HO_48.out).2.2 x50_2 p285 q285
                        cases e285
                        replace p285 := eq_true p285
                        replace q285 := eq_true q285
                        go_wp2
                        go_ret
                        exact ⟨by first | rfl | (simp [errW_none, errW_some] <;> rfl) | (simp [*, errW_none, errW_some] <;> rfl), by repeat (first | (with_reducible first | exact HB.out | apply below_alloc | apply pw_below_drewN | apply below_drew1 | refine below_set ?_ GE284.out) | exact HB.out)⟩
                    · rw [if_neg c28] at H
                      exact absurd H (by simp)
                  · rw [if_neg c27] at H
                    exact absurd H (by simp)
                · rw [if_neg c26] at H
                  have c26b0 : decide (x50_2 < (t276.length : Int)) = false := decide_eq_false c26
                  clear c26
                  have HC30 := Aside0.mk H
                  clear H
                  go_upto_region 21 with (fail)
                  go_cut [71] (fun v71 wc => ∃ (kq : Nat) (x71_29 : Bool), v71 = .bool x71_29 ∧ Aside0 (kissgatelaw10_PrioAlone.j2 kq a0 l1 x6_1 x71_29 = some r) ∧ Aside0 (kq ≤ k2) ∧ Aside0 (wc.heap[gb284]? = some (.cells #[.int .i64 t279, .int .i64 t280, .int .i64 t281, .int .i64 t282] 23 (0, 0))) ∧ Aside0 (Below w.heap.size w wc))
                  case first =>
                    have H := HC30.out
                    clear HC30
                    replace H := Option.bind_eq_some_iff.mp H
                    obtain ⟨⟨t286, t287, t288, t289⟩, A310, H⟩ := H
                    replace H : (if (!(t279 == t286) || (!(t280 == t287) || (!(t281 == t288) || (!(t282 == t289))))) = true then (kissgatelaw10_PrioAlone.j2 k2 a0 l1 x6_1 true) else (if t283 = (-1) then (kissgatelaw10_PrioAlone.j2 k2 a0 l1 x6_1 ((t276.length : Int) != (l1.length : Int))) else (kissgatelaw10_PrioAlone.j2 k2 a0 l1 x6_1 true))) = some r := H
                    have A31 := Aside0.mk A310
                    clear A310
                    by_cases c32 : (!(t279 == t286) || (!(t280 == t287) || (!(t281 == t288) || (!(t282 == t289))))) = true
                    · rw [if_pos c32] at H
                      have c32b0 : (!(t279 == t286) || (!(t280 == t287) || (!(t281 == t288) || (!(t282 == t289))))) = true := c32
                      clear c32
                      (first | rw [c32b0] | (simp only [i64_w, i32_w]; rw [c32b0]) | skip)
                      have H' := Aside0.mk H
                      clear H
                      try go_wp2
                      have n0_ := Aside0.mk (Kd.R_drew HO_9.out)
                      have n1_ := Aside0.mk (Kd.R_drew HO_48.out)
                      have n2_ := Aside0.mk (blk_drew BK284.out)
                      have n3_ := Aside0.mk (below_drew1 HB.out)
                      clear HO_9
                      clear HO_48
                      clear BK284
                      clear HB
                      have HO_9 := n0_
                      have HO_48 := n1_
                      have BK284 := n2_
                      have HB := n3_
                      clear n0_ n1_ n2_ n3_
                      refine start_ (n := 15) (S := fun w' => w'.cell? ⟨gb284, 0, none⟩ = some (.int .i64 t279) ∧ w'.cell? ⟨gb284, 1, none⟩ = some (.int .i64 t280) ∧ w'.cell? ⟨gb284, 2, none⟩ = some (.int .i64 t281) ∧ w'.cell? ⟨gb284, 3, none⟩ = some (.int .i64 t282)) (ds := []) #[false, false, false, false, false, false, false, false, false, false, false, false, false, false, false] (by kernel_rfl) rfl rfl ⟨(blk_cell BK284.out 0).trans rfl, (blk_cell BK284.out 1).trans rfl, (blk_cell BK284.out 2).trans rfl, (blk_cell BK284.out 3).trans rfl⟩ (fun hHeld => ?_); refine with_tabW kissgatelaw10_PrioAlone.tab21 kissgatelaw10_PrioAlone.bits21 (fun HT_ HW_ => ?_)
                      generalize wr.drew = w33 at HO_9 HO_48 BK284 HB hHeld ⊢
                      refine pure_ (i := 1) (N := some 58) (v := ?_) (a' := ?_) #[false, true, false, false, false, false, false, false, false, false, false, false, false, false, false] rfl rfl (any_of HT_.out (by kernel_rfl)) (fun _ _ _ h => h) (Or.inl ⟨by rfl, ?_⟩) ?_ ?_
                      rotate_left
                      · intro w'
                        go_simp
                        with_reducible rfl
                      rotate_left
                      · simp only [Act.put, List.setIfInBounds_toArray, List.set_cons_zero, List.set_cons_succ, i64_w, i32_w]
                        rfl
                      refine take_ (i := 0) (N := some 57) (v := ?_) (a' := ?_) #[true, true, false, false, false, false, false, false, false, false, false, false, false, false, false] rfl rfl (take_ofW HT_.out HW_.out (by kernel_rfl)) (fun _ _ _ h => h) (Or.inl ⟨by rfl, ?_⟩) hHeld ?_ ?_
                      rotate_left
                      · rintro w' ⟨s0, s1, s2, s3⟩
                        go_simp
                        with_reducible rfl
                      rotate_left
                      · simp only [Act.put, List.setIfInBounds_toArray, List.set_cons_zero, List.set_cons_succ, i64_w, i32_w]
                        rfl
                      refine one_ (i := 2) (N := some 59) #[true, true, true, false, false, false, false, false, false, false, false, false, false, false, false] rfl rfl (one_of HT_.out (by kernel_rfl)) (by decide) (fun K hK => ?_)
                      refine goes_ Try.func20 (by kernel_rfl) rfl #[.int .i64 a0] (by rfl) rfl rfl (by (try simp only [List.map_toArray, List.map_cons, List.map_nil]); first | done | rfl | (simp only [List.length_drop, List.length_take]; rfl)) ?_
                      with_reducible refine (prio_Own.calls a0 t286 t287 t288 t289 _ A31.out).mono ?_
                      rintro e w34 ⟨rfl, hb⟩
                      refine ⟨_, rfl, ?_⟩
                      have n0_ := Aside0.mk (Kd.R_below (by (with_reducible repeat (first | apply Kd.R_alloc | apply Kd.R_drewN | apply Kd.R_drew)); exact HO_9.out) hb)
                      have n1_ := Aside0.mk (Kd.R_below (by (with_reducible repeat (first | apply Kd.R_alloc | apply Kd.R_drewN | apply Kd.R_drew)); exact HO_48.out) hb)
                      have n2_ := Aside0.mk (blk_below (g := gb284) (o := .cells #[.int .i64 t279, .int .i64 t280, .int .i64 t281, .int .i64 t282] 23 (0, 0)) (by (with_reducible repeat (first | refine blk_drewN ?_ _ | refine blk_drew ?_ | refine blk_alloc ?_ _)); exact BK284.out) hb)
                      have n3_ := Aside0.mk (below_step (by repeat (first | (with_reducible first | exact HB.out | apply below_alloc | apply pw_below_drewN | apply below_drew1 | refine below_set ?_ GE284.out) | exact HB.out)) hb)
                      clear HO_9
                      clear HO_48
                      clear BK284
                      clear HB
                      have HO_9 := n0_
                      have HO_48 := n1_
                      have BK284 := n2_
                      have HB := n3_
                      clear n0_ n1_ n2_ n3_
                      (try clear hb)
                      (try clear hb2)
                      (try clear hk)
                      (try clear hi)
                      refine hK.out _ _ ⟨(blk_cell BK284.out 0).trans rfl, (blk_cell BK284.out 1).trans rfl, (blk_cell BK284.out 2).trans rfl, (blk_cell BK284.out 3).trans rfl⟩ (fun hHeld => ?_)
                      clear hK K
                      refine norm_ (a' := ?_) ?_ ?_
                      rotate_left
                      · show Act.put _ (some 59) _ = _
                        simp only [Act.put, List.setIfInBounds_toArray, List.set_cons_zero, List.set_cons_succ, i64_w, i32_w]
                        rfl
                      refine pure_ (i := 3) (N := some 60) (v := ?_) (a' := ?_) #[true, true, true, true, false, false, false, false, false, false, false, false, false, false, false] rfl rfl (any_of HT_.out (by kernel_rfl)) (fun _ _ _ h => h) (Or.inl ⟨by rfl, ?_⟩) ?_ ?_
                      rotate_left
                      · intro w'
                        go_simp
                        with_reducible rfl
                      rotate_left
                      · simp only [Act.put, List.setIfInBounds_toArray, List.set_cons_zero, List.set_cons_succ, i64_w, i32_w]
                        rfl
                      refine pure_ (i := 4) (N := some 61) (v := ?_) (a' := ?_) #[true, true, true, true, true, false, false, false, false, false, false, false, false, false, false] rfl rfl (any_of HT_.out (by kernel_rfl)) (fun _ _ _ h => h) (Or.inl ⟨by rfl, ?_⟩) ?_ ?_
                      rotate_left
                      · intro w'
                        go_simp
                        with_reducible rfl
                      rotate_left
                      · simp only [Act.put, List.setIfInBounds_toArray, List.set_cons_zero, List.set_cons_succ, i64_w, i32_w]
                        rfl
                      refine pure_ (i := 5) (N := some 62) (v := undef) (a' := ?_) #[true, true, true, true, true, true, false, false, false, false, false, false, false, false, false] rfl rfl (any_of HT_.out (by kernel_rfl)) (fun _ _ _ h => h) (Or.inr ⟨by rfl, rfl⟩) ?_ ?_
                      rotate_left
                      · simp only [Act.put, List.setIfInBounds_toArray, List.set_cons_zero, List.set_cons_succ, i64_w, i32_w]
                        rfl
                      refine pure_ (i := 6) (N := some 63) (v := undef) (a' := ?_) #[true, true, true, true, true, true, true, false, false, false, false, false, false, false, false] rfl rfl (any_of HT_.out (by kernel_rfl)) (fun _ _ _ h => h) (Or.inr ⟨by rfl, rfl⟩) ?_ ?_
                      rotate_left
                      · simp only [Act.put, List.setIfInBounds_toArray, List.set_cons_zero, List.set_cons_succ, i64_w, i32_w]
                        rfl
                      refine pure_ (i := 7) (N := some 64) (v := ?_) (a' := ?_) #[true, true, true, true, true, true, true, true, false, false, false, false, false, false, false] rfl rfl (any_of HT_.out (by kernel_rfl)) (fun _ _ _ h => h) (Or.inl ⟨by rfl, ?_⟩) ?_ ?_
                      rotate_left
                      · intro w'
                        go_simp
                        with_reducible rfl
                      rotate_left
                      · simp only [Act.put, List.setIfInBounds_toArray, List.set_cons_zero, List.set_cons_succ, i64_w, i32_w]
                        rfl
                      refine pure_ (i := 8) (N := some 65) (v := ?_) (a' := ?_) #[true, true, true, true, true, true, true, true, true, false, false, false, false, false, false] rfl rfl (any_of HT_.out (by kernel_rfl)) (fun _ _ _ h => h) (Or.inl ⟨by rfl, ?_⟩) ?_ ?_
                      rotate_left
                      · intro w'
                        go_simp
                        with_reducible rfl
                      rotate_left
                      · simp only [Act.put, List.setIfInBounds_toArray, List.set_cons_zero, List.set_cons_succ, i64_w, i32_w]
                        rfl
                      refine pure_ (i := 9) (N := some 66) (v := undef) (a' := ?_) #[true, true, true, true, true, true, true, true, true, true, false, false, false, false, false] rfl rfl (any_of HT_.out (by kernel_rfl)) (fun _ _ _ h => h) (Or.inr ⟨by rfl, rfl⟩) ?_ ?_
                      rotate_left
                      · simp only [Act.put, List.setIfInBounds_toArray, List.set_cons_zero, List.set_cons_succ, i64_w, i32_w]
                        rfl
                      refine pure_ (i := 10) (N := some 67) (v := undef) (a' := ?_) #[true, true, true, true, true, true, true, true, true, true, true, false, false, false, false] rfl rfl (any_of HT_.out (by kernel_rfl)) (fun _ _ _ h => h) (Or.inr ⟨by rfl, rfl⟩) ?_ ?_
                      rotate_left
                      · simp only [Act.put, List.setIfInBounds_toArray, List.set_cons_zero, List.set_cons_succ, i64_w, i32_w]
                        rfl
                      refine pure_ (i := 11) (N := some 68) (v := undef) (a' := ?_) #[true, true, true, true, true, true, true, true, true, true, true, true, false, false, false] rfl rfl (any_of HT_.out (by kernel_rfl)) (fun _ _ _ h => h) (Or.inr ⟨by rfl, rfl⟩) ?_ ?_
                      rotate_left
                      · simp only [Act.put, List.setIfInBounds_toArray, List.set_cons_zero, List.set_cons_succ, i64_w, i32_w]
                        rfl
                      refine pure_ (i := 12) (N := some 69) (v := undef) (a' := ?_) #[true, true, true, true, true, true, true, true, true, true, true, true, true, false, false] rfl rfl (any_of HT_.out (by kernel_rfl)) (fun _ _ _ h => h) (Or.inr ⟨by rfl, rfl⟩) ?_ ?_
                      rotate_left
                      · simp only [Act.put, List.setIfInBounds_toArray, List.set_cons_zero, List.set_cons_succ, i64_w, i32_w]
                        rfl
                      refine pure_ (i := 13) (N := some 70) (v := undef) (a' := ?_) #[true, true, true, true, true, true, true, true, true, true, true, true, true, true, false] rfl rfl (any_of HT_.out (by kernel_rfl)) (fun _ _ _ h => h) (Or.inr ⟨by rfl, rfl⟩) ?_ ?_
                      rotate_left
                      · simp only [Act.put, List.setIfInBounds_toArray, List.set_cons_zero, List.set_cons_succ, i64_w, i32_w]
                        rfl
                      refine pure_ (i := 14) (N := some 71) (v := ?_) (a' := ?_) #[true, true, true, true, true, true, true, true, true, true, true, true, true, true, true] rfl rfl (any_of HT_.out (by kernel_rfl)) (fun _ _ _ h => h) (Or.inl ⟨by rfl, ?_⟩) ?_ ?_
                      rotate_left
                      · intro w'
                        go_simp
                        with_reducible rfl
                      rotate_left
                      · simp only [Act.put, List.setIfInBounds_toArray, List.set_cons_zero, List.set_cons_succ, i64_w, i32_w]
                        rfl
                      refine done_ (done_of HT_.out (by kernel_rfl)) ?_
                      try go_wp2
                      go_meet
                      case rel => exact ⟨_, (true), (by first | rfl | (simp; done) | (simp [*]; done)), H', ⟨by have := HK1.out; have := HK2.out; first | omega | exact Nat.le_refl _⟩, ⟨by (with_reducible repeat (first | refine blk_drewN ?_ _ | refine blk_drew ?_ | refine blk_alloc ?_ _)); exact BK284.out⟩, ⟨by repeat (first | (with_reducible first | exact HB.out | apply below_alloc | apply pw_below_drewN | apply below_drew1 | refine below_set ?_ GE284.out) | exact HB.out)⟩⟩
                    · rw [if_neg c32] at H
                      have c32b0 : (!(t279 == t286) || (!(t280 == t287) || (!(t281 == t288) || (!(t282 == t289))))) = false := by simpa using c32
                      clear c32
                      (first | rw [c32b0] | (simp only [i64_w, i32_w]; rw [c32b0]) | skip)
                      by_cases c35 : t283 = (-1)
                      · rw [if_pos c35] at H
                        have c35b0 : (t283 == (-1)) = true := beq_iff_eq.mpr c35
                        have c35b1 : (t283 != (-1)) = false := bne_eq_false_iff_eq.mpr c35
                        clear c35
                        have H' := Aside0.mk H
                        clear H
                        try go_wp2
                        have n0_ := Aside0.mk (Kd.R_drew HO_9.out)
                        have n1_ := Aside0.mk (Kd.R_drew HO_48.out)
                        have n2_ := Aside0.mk (blk_drew BK284.out)
                        have n3_ := Aside0.mk (below_drew1 HB.out)
                        clear HO_9
                        clear HO_48
                        clear BK284
                        clear HB
                        have HO_9 := n0_
                        have HO_48 := n1_
                        have BK284 := n2_
                        have HB := n3_
                        clear n0_ n1_ n2_ n3_
                        refine start_ (n := 15) (S := fun w' => w'.cell? ⟨gb284, 0, none⟩ = some (.int .i64 t279) ∧ w'.cell? ⟨gb284, 1, none⟩ = some (.int .i64 t280) ∧ w'.cell? ⟨gb284, 2, none⟩ = some (.int .i64 t281) ∧ w'.cell? ⟨gb284, 3, none⟩ = some (.int .i64 t282)) (ds := []) #[false, false, false, false, false, false, false, false, false, false, false, false, false, false, false] (by kernel_rfl) rfl rfl ⟨(blk_cell BK284.out 0).trans rfl, (blk_cell BK284.out 1).trans rfl, (blk_cell BK284.out 2).trans rfl, (blk_cell BK284.out 3).trans rfl⟩ (fun hHeld => ?_); refine with_tabW kissgatelaw10_PrioAlone.tab21 kissgatelaw10_PrioAlone.bits21 (fun HT_ HW_ => ?_)
                        generalize wr.drew = w36 at HO_9 HO_48 BK284 HB hHeld ⊢
                        refine pure_ (i := 1) (N := some 58) (v := ?_) (a' := ?_) #[false, true, false, false, false, false, false, false, false, false, false, false, false, false, false] rfl rfl (any_of HT_.out (by kernel_rfl)) (fun _ _ _ h => h) (Or.inl ⟨by rfl, ?_⟩) ?_ ?_
                        rotate_left
                        · intro w'
                          go_simp
                          with_reducible rfl
                        rotate_left
                        · simp only [Act.put, List.setIfInBounds_toArray, List.set_cons_zero, List.set_cons_succ, i64_w, i32_w]
                          rfl
                        refine take_ (i := 0) (N := some 57) (v := ?_) (a' := ?_) #[true, true, false, false, false, false, false, false, false, false, false, false, false, false, false] rfl rfl (take_ofW HT_.out HW_.out (by kernel_rfl)) (fun _ _ _ h => h) (Or.inl ⟨by rfl, ?_⟩) hHeld ?_ ?_
                        rotate_left
                        · rintro w' ⟨s0, s1, s2, s3⟩
                          go_simp
                          with_reducible rfl
                        rotate_left
                        · simp only [Act.put, List.setIfInBounds_toArray, List.set_cons_zero, List.set_cons_succ, i64_w, i32_w]
                          rfl
                        refine one_ (i := 2) (N := some 59) #[true, true, true, false, false, false, false, false, false, false, false, false, false, false, false] rfl rfl (one_of HT_.out (by kernel_rfl)) (by decide) (fun K hK => ?_)
                        refine goes_ Try.func20 (by kernel_rfl) rfl #[.int .i64 a0] (by rfl) rfl rfl (by (try simp only [List.map_toArray, List.map_cons, List.map_nil]); first | done | rfl | (simp only [List.length_drop, List.length_take]; rfl)) ?_
                        with_reducible refine (prio_Own.calls a0 t286 t287 t288 t289 _ A31.out).mono ?_
                        rintro e w37 ⟨rfl, hb⟩
                        refine ⟨_, rfl, ?_⟩
                        have n0_ := Aside0.mk (Kd.R_below (by (with_reducible repeat (first | apply Kd.R_alloc | apply Kd.R_drewN | apply Kd.R_drew)); exact HO_9.out) hb)
                        have n1_ := Aside0.mk (Kd.R_below (by (with_reducible repeat (first | apply Kd.R_alloc | apply Kd.R_drewN | apply Kd.R_drew)); exact HO_48.out) hb)
                        have n2_ := Aside0.mk (blk_below (g := gb284) (o := .cells #[.int .i64 t279, .int .i64 t280, .int .i64 t281, .int .i64 t282] 23 (0, 0)) (by (with_reducible repeat (first | refine blk_drewN ?_ _ | refine blk_drew ?_ | refine blk_alloc ?_ _)); exact BK284.out) hb)
                        have n3_ := Aside0.mk (below_step (by repeat (first | (with_reducible first | exact HB.out | apply below_alloc | apply pw_below_drewN | apply below_drew1 | refine below_set ?_ GE284.out) | exact HB.out)) hb)
                        clear HO_9
                        clear HO_48
                        clear BK284
                        clear HB
                        have HO_9 := n0_
                        have HO_48 := n1_
                        have BK284 := n2_
                        have HB := n3_
                        clear n0_ n1_ n2_ n3_
                        (try clear hb)
                        (try clear hb2)
                        (try clear hk)
                        (try clear hi)
                        refine hK.out _ _ ⟨(blk_cell BK284.out 0).trans rfl, (blk_cell BK284.out 1).trans rfl, (blk_cell BK284.out 2).trans rfl, (blk_cell BK284.out 3).trans rfl⟩ (fun hHeld => ?_)
                        clear hK K
                        refine norm_ (a' := ?_) ?_ ?_
                        rotate_left
                        · show Act.put _ (some 59) _ = _
                          simp only [Act.put, List.setIfInBounds_toArray, List.set_cons_zero, List.set_cons_succ, i64_w, i32_w]
                          rfl
                        refine pure_ (i := 3) (N := some 60) (v := ?_) (a' := ?_) #[true, true, true, true, false, false, false, false, false, false, false, false, false, false, false] rfl rfl (any_of HT_.out (by kernel_rfl)) (fun _ _ _ h => h) (Or.inl ⟨by rfl, ?_⟩) ?_ ?_
                        rotate_left
                        · intro w'
                          go_simp
                          with_reducible rfl
                        rotate_left
                        · simp only [Act.put, List.setIfInBounds_toArray, List.set_cons_zero, List.set_cons_succ, i64_w, i32_w]
                          rfl
                        refine pure_ (i := 4) (N := some 61) (v := ?_) (a' := ?_) #[true, true, true, true, true, false, false, false, false, false, false, false, false, false, false] rfl rfl (any_of HT_.out (by kernel_rfl)) (fun _ _ _ h => h) (Or.inl ⟨by rfl, ?_⟩) ?_ ?_
                        rotate_left
                        · intro w'
                          go_simp
                          with_reducible rfl
                        rotate_left
                        · simp only [Act.put, List.setIfInBounds_toArray, List.set_cons_zero, List.set_cons_succ, i64_w, i32_w]
                          rfl
                        refine pure_ (i := 5) (N := some 62) (v := ?_) (a' := ?_) #[true, true, true, true, true, true, false, false, false, false, false, false, false, false, false] rfl rfl (any_of HT_.out (by kernel_rfl)) (fun _ _ _ h => h) (Or.inl ⟨by rfl, ?_⟩) ?_ ?_
                        rotate_left
                        · intro w'
                          go_simp
                          with_reducible rfl
                        rotate_left
                        · simp only [Act.put, List.setIfInBounds_toArray, List.set_cons_zero, List.set_cons_succ, i64_w, i32_w]
                          rfl
                        refine pure_ (i := 6) (N := some 63) (v := ?_) (a' := ?_) #[true, true, true, true, true, true, true, false, false, false, false, false, false, false, false] rfl rfl (any_of HT_.out (by kernel_rfl)) (fun _ _ _ h => h) (Or.inl ⟨by rfl, ?_⟩) ?_ ?_
                        rotate_left
                        · intro w'
                          go_simp
                          with_reducible rfl
                        rotate_left
                        · simp only [Act.put, List.setIfInBounds_toArray, List.set_cons_zero, List.set_cons_succ, i64_w, i32_w]
                          rfl
                        refine pure_ (i := 7) (N := some 64) (v := ?_) (a' := ?_) #[true, true, true, true, true, true, true, true, false, false, false, false, false, false, false] rfl rfl (any_of HT_.out (by kernel_rfl)) (fun _ _ _ h => h) (Or.inl ⟨by rfl, ?_⟩) ?_ ?_
                        rotate_left
                        · intro w'
                          go_simp
                          with_reducible rfl
                        rotate_left
                        · simp only [Act.put, List.setIfInBounds_toArray, List.set_cons_zero, List.set_cons_succ, i64_w, i32_w]
                          rfl
                        refine pure_ (i := 8) (N := some 65) (v := ?_) (a' := ?_) #[true, true, true, true, true, true, true, true, true, false, false, false, false, false, false] rfl rfl (any_of HT_.out (by kernel_rfl)) (fun _ _ _ h => h) (Or.inl ⟨by rfl, ?_⟩) ?_ ?_
                        rotate_left
                        · intro w'
                          go_simp
                          with_reducible rfl
                        rotate_left
                        · simp only [Act.put, List.setIfInBounds_toArray, List.set_cons_zero, List.set_cons_succ, i64_w, i32_w]
                          rfl
                        refine pure_ (i := 9) (N := some 66) (v := ?_) (a' := ?_) #[true, true, true, true, true, true, true, true, true, true, false, false, false, false, false] rfl rfl (any_of HT_.out (by kernel_rfl)) (fun _ _ _ h => h) (Or.inl ⟨by rfl, ?_⟩) ?_ ?_
                        rotate_left
                        · intro w'
                          go_simp
                          with_reducible rfl
                        rotate_left
                        · simp only [Act.put, List.setIfInBounds_toArray, List.set_cons_zero, List.set_cons_succ, i64_w, i32_w]
                          rfl
                        refine pure_ (i := 10) (N := some 67) (v := ?_) (a' := ?_) #[true, true, true, true, true, true, true, true, true, true, true, false, false, false, false] rfl rfl (any_of HT_.out (by kernel_rfl)) (fun _ _ _ h => h) (Or.inl ⟨by rfl, ?_⟩) ?_ ?_
                        rotate_left
                        · intro w'
                          go_simp
                          with_reducible rfl
                        rotate_left
                        · simp only [Act.put, List.setIfInBounds_toArray, List.set_cons_zero, List.set_cons_succ, i64_w, i32_w]
                          rfl
                        refine pure_ (i := 11) (N := some 68) (v := ?_) (a' := ?_) #[true, true, true, true, true, true, true, true, true, true, true, true, false, false, false] rfl rfl (any_of HT_.out (by kernel_rfl)) (fun _ _ _ h => h) (Or.inl ⟨by rfl, ?_⟩) ?_ ?_
                        rotate_left
                        · intro w'
                          go_simp
                          with_reducible rfl
                        rotate_left
                        · simp only [Act.put, List.setIfInBounds_toArray, List.set_cons_zero, List.set_cons_succ, i64_w, i32_w]
                          rfl
                        refine pure_ (i := 12) (N := some 69) (v := ?_) (a' := ?_) #[true, true, true, true, true, true, true, true, true, true, true, true, true, false, false] rfl rfl (any_of HT_.out (by kernel_rfl)) (fun _ _ _ h => h) (Or.inl ⟨by rfl, ?_⟩) ?_ ?_
                        rotate_left
                        · intro w'
                          go_simp
                          with_reducible rfl
                        rotate_left
                        · simp only [Act.put, List.setIfInBounds_toArray, List.set_cons_zero, List.set_cons_succ, i64_w, i32_w]
                          rfl
                        refine pure_ (i := 13) (N := some 70) (v := ?_) (a' := ?_) #[true, true, true, true, true, true, true, true, true, true, true, true, true, true, false] rfl rfl (any_of HT_.out (by kernel_rfl)) (fun _ _ _ h => h) (Or.inl ⟨by rfl, ?_⟩) ?_ ?_
                        rotate_left
                        · intro w'
                          go_simp
                          with_reducible rfl
                        rotate_left
                        · simp only [Act.put, List.setIfInBounds_toArray, List.set_cons_zero, List.set_cons_succ, i64_w, i32_w]
                          rfl
                        refine pure_ (i := 14) (N := some 71) (v := ?_) (a' := ?_) #[true, true, true, true, true, true, true, true, true, true, true, true, true, true, true] rfl rfl (any_of HT_.out (by kernel_rfl)) (fun _ _ _ h => h) (Or.inl ⟨by rfl, ?_⟩) ?_ ?_
                        rotate_left
                        · intro w'
                          go_simp
                          with_reducible rfl
                        rotate_left
                        · simp only [Act.put, List.setIfInBounds_toArray, List.set_cons_zero, List.set_cons_succ, i64_w, i32_w]
                          rfl
                        refine done_ (done_of HT_.out (by kernel_rfl)) ?_
                        try go_wp2
                        go_meet
                        case rel => exact ⟨_, (((t276.length : Int) != (l1.length : Int))), (by first | rfl | (simp; done) | (simp [*]; done)), H', ⟨by have := HK1.out; have := HK2.out; first | omega | exact Nat.le_refl _⟩, ⟨by (with_reducible repeat (first | refine blk_drewN ?_ _ | refine blk_drew ?_ | refine blk_alloc ?_ _)); exact BK284.out⟩, ⟨by repeat (first | (with_reducible first | exact HB.out | apply below_alloc | apply pw_below_drewN | apply below_drew1 | refine below_set ?_ GE284.out) | exact HB.out)⟩⟩
                      · rw [if_neg c35] at H
                        have c35b0 : (t283 == (-1)) = false := beq_eq_false_iff_ne.mpr c35
                        have c35b1 : (t283 != (-1)) = true := bne_iff_ne.mpr c35
                        have H' := Aside0.mk H
                        clear H
                        try go_wp2
                        have n0_ := Aside0.mk (Kd.R_drew HO_9.out)
                        have n1_ := Aside0.mk (Kd.R_drew HO_48.out)
                        have n2_ := Aside0.mk (blk_drew BK284.out)
                        have n3_ := Aside0.mk (below_drew1 HB.out)
                        clear HO_9
                        clear HO_48
                        clear BK284
                        clear HB
                        have HO_9 := n0_
                        have HO_48 := n1_
                        have BK284 := n2_
                        have HB := n3_
                        clear n0_ n1_ n2_ n3_
                        refine start_ (n := 15) (S := fun w' => w'.cell? ⟨gb284, 0, none⟩ = some (.int .i64 t279) ∧ w'.cell? ⟨gb284, 1, none⟩ = some (.int .i64 t280) ∧ w'.cell? ⟨gb284, 2, none⟩ = some (.int .i64 t281) ∧ w'.cell? ⟨gb284, 3, none⟩ = some (.int .i64 t282)) (ds := []) #[false, false, false, false, false, false, false, false, false, false, false, false, false, false, false] (by kernel_rfl) rfl rfl ⟨(blk_cell BK284.out 0).trans rfl, (blk_cell BK284.out 1).trans rfl, (blk_cell BK284.out 2).trans rfl, (blk_cell BK284.out 3).trans rfl⟩ (fun hHeld => ?_); refine with_tabW kissgatelaw10_PrioAlone.tab21 kissgatelaw10_PrioAlone.bits21 (fun HT_ HW_ => ?_)
                        generalize wr.drew = w38 at HO_9 HO_48 BK284 HB hHeld ⊢
                        refine pure_ (i := 1) (N := some 58) (v := ?_) (a' := ?_) #[false, true, false, false, false, false, false, false, false, false, false, false, false, false, false] rfl rfl (any_of HT_.out (by kernel_rfl)) (fun _ _ _ h => h) (Or.inl ⟨by rfl, ?_⟩) ?_ ?_
                        rotate_left
                        · intro w'
                          go_simp
                          with_reducible rfl
                        rotate_left
                        · simp only [Act.put, List.setIfInBounds_toArray, List.set_cons_zero, List.set_cons_succ, i64_w, i32_w]
                          rfl
                        refine take_ (i := 0) (N := some 57) (v := ?_) (a' := ?_) #[true, true, false, false, false, false, false, false, false, false, false, false, false, false, false] rfl rfl (take_ofW HT_.out HW_.out (by kernel_rfl)) (fun _ _ _ h => h) (Or.inl ⟨by rfl, ?_⟩) hHeld ?_ ?_
                        rotate_left
                        · rintro w' ⟨s0, s1, s2, s3⟩
                          go_simp
                          with_reducible rfl
                        rotate_left
                        · simp only [Act.put, List.setIfInBounds_toArray, List.set_cons_zero, List.set_cons_succ, i64_w, i32_w]
                          rfl
                        refine one_ (i := 2) (N := some 59) #[true, true, true, false, false, false, false, false, false, false, false, false, false, false, false] rfl rfl (one_of HT_.out (by kernel_rfl)) (by decide) (fun K hK => ?_)
                        refine goes_ Try.func20 (by kernel_rfl) rfl #[.int .i64 a0] (by rfl) rfl rfl (by (try simp only [List.map_toArray, List.map_cons, List.map_nil]); first | done | rfl | (simp only [List.length_drop, List.length_take]; rfl)) ?_
                        with_reducible refine (prio_Own.calls a0 t286 t287 t288 t289 _ A31.out).mono ?_
                        rintro e w39 ⟨rfl, hb⟩
                        refine ⟨_, rfl, ?_⟩
                        have n0_ := Aside0.mk (Kd.R_below (by (with_reducible repeat (first | apply Kd.R_alloc | apply Kd.R_drewN | apply Kd.R_drew)); exact HO_9.out) hb)
                        have n1_ := Aside0.mk (Kd.R_below (by (with_reducible repeat (first | apply Kd.R_alloc | apply Kd.R_drewN | apply Kd.R_drew)); exact HO_48.out) hb)
                        have n2_ := Aside0.mk (blk_below (g := gb284) (o := .cells #[.int .i64 t279, .int .i64 t280, .int .i64 t281, .int .i64 t282] 23 (0, 0)) (by (with_reducible repeat (first | refine blk_drewN ?_ _ | refine blk_drew ?_ | refine blk_alloc ?_ _)); exact BK284.out) hb)
                        have n3_ := Aside0.mk (below_step (by repeat (first | (with_reducible first | exact HB.out | apply below_alloc | apply pw_below_drewN | apply below_drew1 | refine below_set ?_ GE284.out) | exact HB.out)) hb)
                        clear HO_9
                        clear HO_48
                        clear BK284
                        clear HB
                        have HO_9 := n0_
                        have HO_48 := n1_
                        have BK284 := n2_
                        have HB := n3_
                        clear n0_ n1_ n2_ n3_
                        (try clear hb)
                        (try clear hb2)
                        (try clear hk)
                        (try clear hi)
                        refine hK.out _ _ ⟨(blk_cell BK284.out 0).trans rfl, (blk_cell BK284.out 1).trans rfl, (blk_cell BK284.out 2).trans rfl, (blk_cell BK284.out 3).trans rfl⟩ (fun hHeld => ?_)
                        clear hK K
                        refine norm_ (a' := ?_) ?_ ?_
                        rotate_left
                        · show Act.put _ (some 59) _ = _
                          simp only [Act.put, List.setIfInBounds_toArray, List.set_cons_zero, List.set_cons_succ, i64_w, i32_w]
                          rfl
                        refine pure_ (i := 3) (N := some 60) (v := ?_) (a' := ?_) #[true, true, true, true, false, false, false, false, false, false, false, false, false, false, false] rfl rfl (any_of HT_.out (by kernel_rfl)) (fun _ _ _ h => h) (Or.inl ⟨by rfl, ?_⟩) ?_ ?_
                        rotate_left
                        · intro w'
                          go_simp
                          with_reducible rfl
                        rotate_left
                        · simp only [Act.put, List.setIfInBounds_toArray, List.set_cons_zero, List.set_cons_succ, i64_w, i32_w]
                          rfl
                        refine pure_ (i := 4) (N := some 61) (v := ?_) (a' := ?_) #[true, true, true, true, true, false, false, false, false, false, false, false, false, false, false] rfl rfl (any_of HT_.out (by kernel_rfl)) (fun _ _ _ h => h) (Or.inl ⟨by rfl, ?_⟩) ?_ ?_
                        rotate_left
                        · intro w'
                          go_simp
                          with_reducible rfl
                        rotate_left
                        · simp only [Act.put, List.setIfInBounds_toArray, List.set_cons_zero, List.set_cons_succ, i64_w, i32_w]
                          rfl
                        refine pure_ (i := 5) (N := some 62) (v := ?_) (a' := ?_) #[true, true, true, true, true, true, false, false, false, false, false, false, false, false, false] rfl rfl (any_of HT_.out (by kernel_rfl)) (fun _ _ _ h => h) (Or.inl ⟨by rfl, ?_⟩) ?_ ?_
                        rotate_left
                        · intro w'
                          go_simp
                          with_reducible rfl
                        rotate_left
                        · simp only [Act.put, List.setIfInBounds_toArray, List.set_cons_zero, List.set_cons_succ, i64_w, i32_w]
                          rfl
                        refine pure_ (i := 6) (N := some 63) (v := ?_) (a' := ?_) #[true, true, true, true, true, true, true, false, false, false, false, false, false, false, false] rfl rfl (any_of HT_.out (by kernel_rfl)) (fun _ _ _ h => h) (Or.inl ⟨by rfl, ?_⟩) ?_ ?_
                        rotate_left
                        · intro w'
                          go_simp
                          with_reducible rfl
                        rotate_left
                        · simp only [Act.put, List.setIfInBounds_toArray, List.set_cons_zero, List.set_cons_succ, i64_w, i32_w]
                          rfl
                        refine pure_ (i := 7) (N := some 64) (v := ?_) (a' := ?_) #[true, true, true, true, true, true, true, true, false, false, false, false, false, false, false] rfl rfl (any_of HT_.out (by kernel_rfl)) (fun _ _ _ h => h) (Or.inl ⟨by rfl, ?_⟩) ?_ ?_
                        rotate_left
                        · intro w'
                          go_simp
                          with_reducible rfl
                        rotate_left
                        · simp only [Act.put, List.setIfInBounds_toArray, List.set_cons_zero, List.set_cons_succ, i64_w, i32_w]
                          rfl
                        refine pure_ (i := 8) (N := some 65) (v := ?_) (a' := ?_) #[true, true, true, true, true, true, true, true, true, false, false, false, false, false, false] rfl rfl (any_of HT_.out (by kernel_rfl)) (fun _ _ _ h => h) (Or.inl ⟨by rfl, ?_⟩) ?_ ?_
                        rotate_left
                        · intro w'
                          go_simp
                          with_reducible rfl
                        rotate_left
                        · simp only [Act.put, List.setIfInBounds_toArray, List.set_cons_zero, List.set_cons_succ, i64_w, i32_w]
                          rfl
                        refine pure_ (i := 9) (N := some 66) (v := undef) (a' := ?_) #[true, true, true, true, true, true, true, true, true, true, false, false, false, false, false] rfl rfl (any_of HT_.out (by kernel_rfl)) (fun _ _ _ h => h) (Or.inr ⟨by rfl, rfl⟩) ?_ ?_
                        rotate_left
                        · simp only [Act.put, List.setIfInBounds_toArray, List.set_cons_zero, List.set_cons_succ, i64_w, i32_w]
                          rfl
                        refine pure_ (i := 10) (N := some 67) (v := undef) (a' := ?_) #[true, true, true, true, true, true, true, true, true, true, true, false, false, false, false] rfl rfl (any_of HT_.out (by kernel_rfl)) (fun _ _ _ h => h) (Or.inr ⟨by rfl, rfl⟩) ?_ ?_
                        rotate_left
                        · simp only [Act.put, List.setIfInBounds_toArray, List.set_cons_zero, List.set_cons_succ, i64_w, i32_w]
                          rfl
                        refine pure_ (i := 11) (N := some 68) (v := undef) (a' := ?_) #[true, true, true, true, true, true, true, true, true, true, true, true, false, false, false] rfl rfl (any_of HT_.out (by kernel_rfl)) (fun _ _ _ h => h) (Or.inr ⟨by rfl, rfl⟩) ?_ ?_
                        rotate_left
                        · simp only [Act.put, List.setIfInBounds_toArray, List.set_cons_zero, List.set_cons_succ, i64_w, i32_w]
                          rfl
                        refine pure_ (i := 12) (N := some 69) (v := undef) (a' := ?_) #[true, true, true, true, true, true, true, true, true, true, true, true, true, false, false] rfl rfl (any_of HT_.out (by kernel_rfl)) (fun _ _ _ h => h) (Or.inr ⟨by rfl, rfl⟩) ?_ ?_
                        rotate_left
                        · simp only [Act.put, List.setIfInBounds_toArray, List.set_cons_zero, List.set_cons_succ, i64_w, i32_w]
                          rfl
                        refine pure_ (i := 13) (N := some 70) (v := undef) (a' := ?_) #[true, true, true, true, true, true, true, true, true, true, true, true, true, true, false] rfl rfl (any_of HT_.out (by kernel_rfl)) (fun _ _ _ h => h) (Or.inr ⟨by rfl, rfl⟩) ?_ ?_
                        rotate_left
                        · simp only [Act.put, List.setIfInBounds_toArray, List.set_cons_zero, List.set_cons_succ, i64_w, i32_w]
                          rfl
                        refine pure_ (i := 14) (N := some 71) (v := ?_) (a' := ?_) #[true, true, true, true, true, true, true, true, true, true, true, true, true, true, true] rfl rfl (any_of HT_.out (by kernel_rfl)) (fun _ _ _ h => h) (Or.inl ⟨by rfl, ?_⟩) ?_ ?_
                        rotate_left
                        · intro w'
                          go_simp
                          with_reducible rfl
                        rotate_left
                        · simp only [Act.put, List.setIfInBounds_toArray, List.set_cons_zero, List.set_cons_succ, i64_w, i32_w]
                          rfl
                        refine done_ (done_of HT_.out (by kernel_rfl)) ?_
                        try go_wp2
                        go_meet
                        case rel => exact ⟨_, (true), (by first | rfl | (simp; done) | (simp [*]; done)), H', ⟨by have := HK1.out; have := HK2.out; first | omega | exact Nat.le_refl _⟩, ⟨by (with_reducible repeat (first | refine blk_drewN ?_ _ | refine blk_drew ?_ | refine blk_alloc ?_ _)); exact BK284.out⟩, ⟨by repeat (first | (with_reducible first | exact HB.out | apply below_alloc | apply pw_below_drewN | apply below_drew1 | refine below_set ?_ GE284.out) | exact HB.out)⟩⟩
                  case rest =>
                    clear HC30
                    try clear c1
                    try clear c2
                    try clear p2
                    try clear q2
                    try clear hx2
                    try clear c3
                    try clear c5
                    try clear c5b1
                    try clear p6
                    try clear c7
                    try clear c8
                    try clear c8b0
                    try clear c9
                    try clear c9b0
                    try clear c10
                    try clear c10b0
                    try clear c11
                    try clear c12
                    try clear c20
                    try clear c23
                    try clear c26
                    try clear c26b0
                    try clear c27
                    try clear c27b0
                    try clear p27
                    try clear q27
                    try clear hx27
                    try clear c28
                    try clear c28b0
                    try clear p28
                    try clear q28
                    try clear hx28
                    try clear c29
                    try clear c29b0
                    try clear c29b1
                    try clear c32
                    try clear c32b0
                    try clear c35
                    try clear c35b0
                    try clear c35b1
                    try clear hcz14_0
                    try clear hcz14_1
                    try clear hcz14_2
                    try clear hcz14_3
                    try clear hcz14_4
                    try clear hcz14_5
                    try clear hcz14_6
                    try clear hcz16_0
                    try clear hcz16_1
                    try clear hcz16_2
                    try clear hcz16_3
                    try clear hcz16_4
                    try clear hcz16_5
                    try clear hcz16_6
                    try clear hcz18_0
                    try clear hcz18_1
                    try clear hcz18_2
                    try clear hcz18_3
                    try clear hcz18_4
                    try clear hcz18_5
                    try clear hcz18_6
                    try clear hcz24_0
                    try clear hcz24_1
                    try clear hcz24_2
                    try clear hcz24_3
                    try clear hfz14_0
                    try clear hfz14_1
                    try clear hfz14_2
                    try clear hfz14_3
                    try clear hfz14_4
                    try clear hfz14_5
                    try clear hfz14_6
                    try clear hfz16_0
                    try clear hfz16_1
                    try clear hfz16_2
                    try clear hfz16_3
                    try clear hfz16_4
                    try clear hfz16_5
                    try clear hfz16_6
                    try clear hfz18_0
                    try clear hfz18_1
                    try clear hfz18_2
                    try clear hfz18_3
                    try clear hfz18_4
                    try clear hfz18_5
                    try clear hfz18_6
                    try clear hfz24_0
                    try clear hfz24_1
                    try clear hfz24_2
                    try clear hfz24_3
                    try clear hx271_0
                    try clear hx271_1
                    try clear hx271_2
                    try clear hx271_3
                    try clear hx271_4
                    try clear hx271_5
                    try clear hx271_6
                    try clear hx285_0
                    try clear p2
                    try clear p271
                    try clear p285
                    try clear p6
                    try clear q271
                    try clear q285
                    obtain ⟨kq, x71_29, rfl, HA, HJ29, BK284, HB⟩ := hcut
                    cases kq with
                    | zero => exact absurd HA.out (by simp [kissgatelaw10_PrioAlone.j2])
                    | succ kj29 =>
                      have H := HA.out
                      clear HA
                      simp only [kissgatelaw10_PrioAlone.j2] at H
                      by_cases c40 : x71_29 = true
                      · subst c40
                        have H1 : (some false) = some r := by rw [if_pos rfl] at H; exact H
                        clear H
                        have H := H1
                        clear H1
                        obtain rfl := Option.some.inj H
                        go_wp2
                        go_ret
                        exact ⟨by first | rfl | (simp [errW_none, errW_some] <;> rfl) | (simp [*, errW_none, errW_some] <;> rfl), by repeat (first | (with_reducible first | exact HB.out | apply below_alloc | apply pw_below_drewN | apply below_drew1 | refine below_set ?_ GE284.out) | exact HB.out)⟩
                      · replace c40 := Bool.eq_false_iff.mpr c40
                        subst c40
                        have H1 : ((prio_Best.f kj29 a0 l1).bind fun bt290 => (if x6_1 = true then ((prio_Own.f a0).bind fun bt296 => (if (bt290.1 == bt296.1 && (bt290.2.1 == bt296.2.1 && (bt290.2.2.1 == bt296.2.2.1 && (bt290.2.2.2.1 == bt296.2.2.2)))) = true then (some (bt290.2.2.2.2 == (-1))) else (some false))) else (some true))) = some r := by rw [if_neg (show ¬ (false = true) by decide)] at H; exact H
                        clear H
                        have H := H1
                        clear H1
                        replace H := Option.bind_eq_some_iff.mp H
                        obtain ⟨⟨t290, t291, t292, t293, t294⟩, A410, H⟩ := H
                        replace H : (if x6_1 = true then ((prio_Own.f a0).bind fun bt296 => (if (t290 == bt296.1 && (t291 == bt296.2.1 && (t292 == bt296.2.2.1 && (t293 == bt296.2.2.2)))) = true then (some (t294 == (-1))) else (some false))) else (some true)) = some r := H
                        have A41 := Aside0.mk A410
                        clear A410
                        by_cases c42 : x6_1 = true
                        · subst c42
                          have H1 : ((prio_Own.f a0).bind fun bt296 => (if (t290 == bt296.1 && (t291 == bt296.2.1 && (t292 == bt296.2.2.1 && (t293 == bt296.2.2.2)))) = true then (some (t294 == (-1))) else (some false))) = some r := by rw [if_pos rfl] at H; exact H
                          clear H
                          have H := H1
                          clear H1
                          replace H := Option.bind_eq_some_iff.mp H
                          obtain ⟨⟨t296, t297, t298, t299⟩, A430, H⟩ := H
                          replace H : (if (t290 == t296 && (t291 == t297 && (t292 == t298 && (t293 == t299)))) = true then (some (t294 == (-1))) else (some false)) = some r := H
                          have A43 := Aside0.mk A430
                          clear A430
                          by_cases c44 : (t290 == t296 && (t291 == t297 && (t292 == t298 && (t293 == t299)))) = true
                          · rw [if_pos c44] at H
                            have c44b0 : (t290 == t296 && (t291 == t297 && (t292 == t298 && (t293 == t299)))) = true := c44
                            (try (have c44b1 : decide (t290 = t296 && (t291 == t297 && (t292 == t298 && (t293 == t299)))) = true := by simpa using c44))
                            (try (have c44b2 : (t290 == t296 && (t291 == t297 && (t292 == t298 && (t293 == t299)))) = true := by simpa using c44))
                            clear c44
                            obtain rfl := Option.some.inj H
                            try go_wp2_with (first | ((with_reducible refine gate_callee (f := 16) rfl ?_); refine goesL_ (some 75) rfl rfl Try.func16 (by kernel_rfl) rfl #[.int .i64 a0, .slice A1 l1.length c1] rfl (by (try simp only [List.map_toArray, List.map_cons, List.map_nil]); first | done | rfl | (simp only [List.length_drop, List.length_take]; rfl)) ?_; (with_reducible refine (prio_Best.calls kj29 a0 _ _ l1 t290 t291 t292 t293 t294 _ ?side1 ?side2 A41.out).mono ?_); (case side1 => repeat (first | exact (Kd.C_below HR1.out HB.out) | (with_reducible refine Kd.C_alloc ?_ _) | (with_reducible refine Kd.C_drewN ?_ _) | (with_reducible refine Kd.C_drew ?_))); (case side2 => exact HC1.out); rintro e w45 ⟨rfl, hb⟩; refine ⟨_, rfl, ?_⟩; have n0_ := Aside0.mk (blk_below (g := gb284) (o := .cells #[.int .i64 t279, .int .i64 t280, .int .i64 t281, .int .i64 t282] 23 (0, 0)) (by (with_reducible repeat (first | refine blk_drewN ?_ _ | refine blk_drew ?_ | refine blk_alloc ?_ _)); exact BK284.out) hb); have n1_ := Aside0.mk (below_step (by repeat (first | (with_reducible first | exact HB.out | apply below_alloc | apply pw_below_drewN | apply below_drew1 | refine below_set ?_ GE284.out) | exact HB.out)) hb); clear BK284; clear HB; have BK284 := n0_; have HB := n1_; clear n0_ n1_; (try clear hb); (try clear hb2); (try clear hk); (try clear hi)) | ((with_reducible refine gate_dst (N := 14) rfl ?_); (try (refine gate_guard (by rfl) ?_; dsimp only)); refine box_event ?hg (N := 14) ?hd (cs := #[.int .i64 0, .int .i64 0, .int .i64 0, .int .i64 0]) (t := 23) ?hr ?_; (case hd => rfl); (case hg => rfl); (case hr => first | (go_simp; done) | (go_simp; rfl)); intro gb295 hg w46 hbox hb; have n0_ := Aside0.mk (blk_below (g := gb284) (o := .cells #[.int .i64 t279, .int .i64 t280, .int .i64 t281, .int .i64 t282] 23 (0, 0)) (by (with_reducible repeat (first | refine blk_drewN ?_ _ | refine blk_drew ?_ | refine blk_alloc ?_ _)); exact BK284.out) hb); have n1_ := Aside0.mk (below_step (by repeat (first | (with_reducible first | exact HB.out | apply below_alloc | apply pw_below_drewN | apply below_drew1 | refine below_set ?_ GE284.out) | exact HB.out)) hb); have n2_ := Aside0.mk (hbox); have n3_ := Aside0.mk ((by rw [hg]; exact (below_size (by repeat (first | (with_reducible first | exact HB.out | apply below_alloc | apply pw_below_drewN | apply below_drew1 | refine below_set ?_ GE284.out) | exact HB.out))) : w.heap.size ≤ gb295)); have n4_ := Aside0.mk ((by rw [hg]; exact (below_size (by repeat (first | (with_reducible first | exact HB.out | apply below_alloc | apply pw_below_drewN | apply below_drew1 | refine below_set ?_ GE284.out) | exact HB.out))) : w.heap.size ≤ gb295)); have n5_ := Aside0.mk ((by rw [hg]; exact Nat.ne_of_lt (blk_lt (g := gb284) (o := .cells #[.int .i64 t279, .int .i64 t280, .int .i64 t281, .int .i64 t282] 23 (0, 0)) (by (with_reducible repeat (first | refine blk_drewN ?_ _ | refine blk_drew ?_ | refine blk_alloc ?_ _)); exact BK284.out)) : gb284 ≠ gb295)); have n6_ := Aside0.mk ((by rw [hg]; exact Nat.ne_of_gt (blk_lt (g := gb284) (o := .cells #[.int .i64 t279, .int .i64 t280, .int .i64 t281, .int .i64 t282] 23 (0, 0)) (by (with_reducible repeat (first | refine blk_drewN ?_ _ | refine blk_drew ?_ | refine blk_alloc ?_ _)); exact BK284.out)) : gb295 ≠ gb284)); clear BK284; clear HB; have BK284 := n0_; have HB := n1_; have BK295 := n2_; have GW295 := n3_; have GE295 := n4_; have NB284_295 := n5_; have NB295_284 := n6_; clear n0_ n1_ n2_ n3_ n4_ n5_ n6_; clear hb hbox hg; have hnb47 := NB295_284.out; have hnc47 := NB284_295.out; have hcz48_0 : w46.cell? ⟨gb295, 0, none⟩ = some (.int .i64 0) := (blk_cell BK295.out 0).trans rfl; have hcz48_1 : w46.cell? ⟨gb295, 1, none⟩ = some (.int .i64 0) := (blk_cell BK295.out 1).trans rfl; have hcz48_2 : w46.cell? ⟨gb295, 2, none⟩ = some (.int .i64 0) := (blk_cell BK295.out 2).trans rfl; have hcz48_3 : w46.cell? ⟨gb295, 3, none⟩ = some (.int .i64 0) := (blk_cell BK295.out 3).trans rfl; have hfz48_0 := blk_frozen BK295.out 0; have hfz48_1 := blk_frozen BK295.out 1; have hfz48_2 := blk_frozen BK295.out 2; have hfz48_3 := blk_frozen BK295.out 3))
                            have n0_ : Aside0 (((((w46.setCell ⟨gb295, 0, none⟩ (.int .i64 t290)).setCell ⟨gb295, 1, none⟩ (.int .i64 t291)).setCell ⟨gb295, 2, none⟩ (.int .i64 t292)).setCell ⟨gb295, 3, none⟩ (.int .i64 t293)).heap[gb284]? = some (.cells #[.int .i64 t279, .int .i64 t280, .int .i64 t281, .int .i64 t282] 23 (0, 0))) := ⟨by (with_reducible repeat (first | refine blk_drewN ?_ _ | refine blk_drew ?_ | refine blk_alloc ?_ _)); refine blk_far ?_ NB284_295.out _; (with_reducible repeat (first | refine blk_drewN ?_ _ | refine blk_drew ?_ | refine blk_alloc ?_ _)); refine blk_far ?_ NB284_295.out _; (with_reducible repeat (first | refine blk_drewN ?_ _ | refine blk_drew ?_ | refine blk_alloc ?_ _)); refine blk_far ?_ NB284_295.out _; (with_reducible repeat (first | refine blk_drewN ?_ _ | refine blk_drew ?_ | refine blk_alloc ?_ _)); refine blk_far ?_ NB284_295.out _; (with_reducible repeat (first | refine blk_drewN ?_ _ | refine blk_drew ?_ | refine blk_alloc ?_ _)); exact BK284.out⟩
                            have n1_ : Aside0 (((((w46.setCell ⟨gb295, 0, none⟩ (.int .i64 t290)).setCell ⟨gb295, 1, none⟩ (.int .i64 t291)).setCell ⟨gb295, 2, none⟩ (.int .i64 t292)).setCell ⟨gb295, 3, none⟩ (.int .i64 t293)).heap[gb295]? = some (.cells #[.int .i64 t290, .int .i64 t291, .int .i64 t292, .int .i64 t293] 23 (0, 0))) := ⟨by (with_reducible repeat (first | refine blk_drewN ?_ _ | refine blk_drew ?_ | refine blk_alloc ?_ _)); refine blk_put (cs := #[.int .i64 t290, .int .i64 t291, .int .i64 t292, .int .i64 0]) ?_ 3 _ rfl; (with_reducible repeat (first | refine blk_drewN ?_ _ | refine blk_drew ?_ | refine blk_alloc ?_ _)); refine blk_put (cs := #[.int .i64 t290, .int .i64 t291, .int .i64 0, .int .i64 0]) ?_ 2 _ rfl; (with_reducible repeat (first | refine blk_drewN ?_ _ | refine blk_drew ?_ | refine blk_alloc ?_ _)); refine blk_put (cs := #[.int .i64 t290, .int .i64 0, .int .i64 0, .int .i64 0]) ?_ 1 _ rfl; (with_reducible repeat (first | refine blk_drewN ?_ _ | refine blk_drew ?_ | refine blk_alloc ?_ _)); refine blk_put (cs := #[.int .i64 0, .int .i64 0, .int .i64 0, .int .i64 0]) ?_ 0 _ rfl; (with_reducible repeat (first | refine blk_drewN ?_ _ | refine blk_drew ?_ | refine blk_alloc ?_ _)); exact BK295.out⟩
                            have n2_ : Aside0 (Below w.heap.size w ((((w46.setCell ⟨gb295, 0, none⟩ (.int .i64 t290)).setCell ⟨gb295, 1, none⟩ (.int .i64 t291)).setCell ⟨gb295, 2, none⟩ (.int .i64 t292)).setCell ⟨gb295, 3, none⟩ (.int .i64 t293))) := ⟨by repeat (first | (with_reducible first | exact HB.out | apply below_alloc | apply pw_below_drewN | apply below_drew1 | refine below_set ?_ GE284.out | refine below_set ?_ GE295.out) | exact HB.out)⟩
                            (try clear BK284)
                            (try clear BK295)
                            (try clear HB)
                            generalize ((((w46.setCell ⟨gb295, 0, none⟩ (.int .i64 t290)).setCell ⟨gb295, 1, none⟩ (.int .i64 t291)).setCell ⟨gb295, 2, none⟩ (.int .i64 t292)).setCell ⟨gb295, 3, none⟩ (.int .i64 t293)) = w49 at n0_ n1_ n2_ ⊢
                            have BK284 := n0_
                            have BK295 := n1_
                            have HB := n2_
                            clear n0_ n1_ n2_
                            have n0_ := Aside0.mk (blk_drew BK284.out)
                            have n1_ := Aside0.mk (blk_drew BK295.out)
                            have n2_ := Aside0.mk (below_drew1 HB.out)
                            clear BK284
                            clear BK295
                            clear HB
                            have BK284 := n0_
                            have BK295 := n1_
                            have HB := n2_
                            clear n0_ n1_ n2_
                            refine start_ (n := 13) (S := fun w' => w'.cell? ⟨gb295, 0, none⟩ = some (.int .i64 t290) ∧ w'.cell? ⟨gb295, 1, none⟩ = some (.int .i64 t291) ∧ w'.cell? ⟨gb295, 2, none⟩ = some (.int .i64 t292) ∧ w'.cell? ⟨gb295, 3, none⟩ = some (.int .i64 t293)) (ds := []) #[false, false, false, false, false, false, false, false, false, false, false, false, false] (by kernel_rfl) rfl rfl ⟨(blk_cell BK295.out 0).trans rfl, (blk_cell BK295.out 1).trans rfl, (blk_cell BK295.out 2).trans rfl, (blk_cell BK295.out 3).trans rfl⟩ (fun hHeld => ?_); refine with_tabW kissgatelaw10_PrioAlone.tab24 kissgatelaw10_PrioAlone.bits24 (fun HT_ HW_ => ?_)
                            generalize w49.drew = w50 at BK284 BK295 HB hHeld ⊢
                            refine pure_ (i := 0) (N := some 78) (v := ?_) (a' := ?_) #[true, false, false, false, false, false, false, false, false, false, false, false, false] rfl rfl (any_of HT_.out (by kernel_rfl)) (fun _ _ _ h => h) (Or.inl ⟨by rfl, ?_⟩) ?_ ?_
                            rotate_left
                            · intro w'
                              go_simp
                              with_reducible rfl
                            rotate_left
                            · simp only [Act.put, List.setIfInBounds_toArray, List.set_cons_zero, List.set_cons_succ, i64_w, i32_w]
                              rfl
                            refine pure_ (i := 1) (N := some 79) (v := ?_) (a' := ?_) #[true, true, false, false, false, false, false, false, false, false, false, false, false] rfl rfl (any_of HT_.out (by kernel_rfl)) (fun _ _ _ h => h) (Or.inl ⟨by rfl, ?_⟩) ?_ ?_
                            rotate_left
                            · intro w'
                              go_simp
                              with_reducible rfl
                            rotate_left
                            · simp only [Act.put, List.setIfInBounds_toArray, List.set_cons_zero, List.set_cons_succ, i64_w, i32_w]
                              rfl
                            refine pure_ (i := 2) (N := some 80) (v := ?_) (a' := ?_) #[true, true, true, false, false, false, false, false, false, false, false, false, false] rfl rfl (any_of HT_.out (by kernel_rfl)) (fun _ _ _ h => h) (Or.inl ⟨by rfl, ?_⟩) ?_ ?_
                            rotate_left
                            · intro w'
                              go_simp
                              with_reducible rfl
                            rotate_left
                            · simp only [Act.put, List.setIfInBounds_toArray, List.set_cons_zero, List.set_cons_succ, i64_w, i32_w]
                              rfl
                            refine pure_ (i := 4) (N := some 82) (v := ?_) (a' := ?_) #[true, true, true, false, true, false, false, false, false, false, false, false, false] rfl rfl (any_of HT_.out (by kernel_rfl)) (fun _ _ _ h => h) (Or.inl ⟨by rfl, ?_⟩) ?_ ?_
                            rotate_left
                            · intro w'
                              go_simp
                              with_reducible rfl
                            rotate_left
                            · simp only [Act.put, List.setIfInBounds_toArray, List.set_cons_zero, List.set_cons_succ, i64_w, i32_w]
                              rfl
                            refine take_ (i := 3) (N := some 81) (v := ?_) (a' := ?_) #[true, true, true, true, true, false, false, false, false, false, false, false, false] rfl rfl (take_ofW HT_.out HW_.out (by kernel_rfl)) (fun _ _ _ h => h) (Or.inl ⟨by rfl, ?_⟩) hHeld ?_ ?_
                            rotate_left
                            · rintro w' ⟨s0, s1, s2, s3⟩
                              go_simp
                              with_reducible rfl
                            rotate_left
                            · simp only [Act.put, List.setIfInBounds_toArray, List.set_cons_zero, List.set_cons_succ, i64_w, i32_w]
                              rfl
                            refine one_ (i := 5) (N := some 83) #[true, true, true, true, true, true, false, false, false, false, false, false, false] rfl rfl (one_of HT_.out (by kernel_rfl)) (by decide) (fun K hK => ?_)
                            refine goes_ Try.func20 (by kernel_rfl) rfl #[.int .i64 a0] (by rfl) rfl rfl (by (try simp only [List.map_toArray, List.map_cons, List.map_nil]); first | done | rfl | (simp only [List.length_drop, List.length_take]; rfl)) ?_
                            with_reducible refine (prio_Own.calls a0 t296 t297 t298 t299 _ A43.out).mono ?_
                            rintro e w51 ⟨rfl, hb⟩
                            refine ⟨_, rfl, ?_⟩
                            have n0_ := Aside0.mk (blk_below (g := gb284) (o := .cells #[.int .i64 t279, .int .i64 t280, .int .i64 t281, .int .i64 t282] 23 (0, 0)) (by (with_reducible repeat (first | refine blk_drewN ?_ _ | refine blk_drew ?_ | refine blk_alloc ?_ _)); exact BK284.out) hb)
                            have n1_ := Aside0.mk (blk_below (g := gb295) (o := .cells #[.int .i64 t290, .int .i64 t291, .int .i64 t292, .int .i64 t293] 23 (0, 0)) (by (with_reducible repeat (first | refine blk_drewN ?_ _ | refine blk_drew ?_ | refine blk_alloc ?_ _)); exact BK295.out) hb)
                            have n2_ := Aside0.mk (below_step (by repeat (first | (with_reducible first | exact HB.out | apply below_alloc | apply pw_below_drewN | apply below_drew1 | refine below_set ?_ GE284.out | refine below_set ?_ GE295.out) | exact HB.out)) hb)
                            clear BK284
                            clear BK295
                            clear HB
                            have BK284 := n0_
                            have BK295 := n1_
                            have HB := n2_
                            clear n0_ n1_ n2_
                            (try clear hb)
                            (try clear hb2)
                            (try clear hk)
                            (try clear hi)
                            refine hK.out _ _ ⟨(blk_cell BK295.out 0).trans rfl, (blk_cell BK295.out 1).trans rfl, (blk_cell BK295.out 2).trans rfl, (blk_cell BK295.out 3).trans rfl⟩ (fun hHeld => ?_)
                            clear hK K
                            refine norm_ (a' := ?_) ?_ ?_
                            rotate_left
                            · show Act.put _ (some 83) _ = _
                              simp only [Act.put, List.setIfInBounds_toArray, List.set_cons_zero, List.set_cons_succ, i64_w, i32_w]
                              rfl
                            refine pure_ (i := 6) (N := some 84) (v := ?_) (a' := ?_) #[true, true, true, true, true, true, true, false, false, false, false, false, false] rfl rfl (any_of HT_.out (by kernel_rfl)) (fun _ _ _ h => h) (Or.inl ⟨by rfl, ?_⟩) ?_ ?_
                            rotate_left
                            · intro w'
                              go_simp
                              with_reducible rfl
                            rotate_left
                            · simp only [Act.put, List.setIfInBounds_toArray, List.set_cons_zero, List.set_cons_succ, i64_w, i32_w]
                              rfl
                            refine pure_ (i := 7) (N := some 85) (v := ?_) (a' := ?_) #[true, true, true, true, true, true, true, true, false, false, false, false, false] rfl rfl (any_of HT_.out (by kernel_rfl)) (fun _ _ _ h => h) (Or.inl ⟨by rfl, ?_⟩) ?_ ?_
                            rotate_left
                            · intro w'
                              go_simp
                              with_reducible rfl
                            rotate_left
                            · simp only [Act.put, List.setIfInBounds_toArray, List.set_cons_zero, List.set_cons_succ, i64_w, i32_w]
                              rfl
                            refine pure_ (i := 8) (N := some 86) (v := ?_) (a' := ?_) #[true, true, true, true, true, true, true, true, true, false, false, false, false] rfl rfl (any_of HT_.out (by kernel_rfl)) (fun _ _ _ h => h) (Or.inl ⟨by rfl, ?_⟩) ?_ ?_
                            rotate_left
                            · intro w'
                              go_simp
                              with_reducible rfl
                            rotate_left
                            · simp only [Act.put, List.setIfInBounds_toArray, List.set_cons_zero, List.set_cons_succ, i64_w, i32_w]
                              rfl
                            refine pure_ (i := 9) (N := some 87) (v := ?_) (a' := ?_) #[true, true, true, true, true, true, true, true, true, true, false, false, false] rfl rfl (any_of HT_.out (by kernel_rfl)) (fun _ _ _ h => h) (Or.inl ⟨by rfl, ?_⟩) ?_ ?_
                            rotate_left
                            · intro w'
                              go_simp
                              with_reducible rfl
                            rotate_left
                            · simp only [Act.put, List.setIfInBounds_toArray, List.set_cons_zero, List.set_cons_succ, i64_w, i32_w]
                              rfl
                            refine pure_ (i := 10) (N := some 88) (v := ?_) (a' := ?_) #[true, true, true, true, true, true, true, true, true, true, true, false, false] rfl rfl (any_of HT_.out (by kernel_rfl)) (fun _ _ _ h => h) (Or.inl ⟨by rfl, ?_⟩) ?_ ?_
                            rotate_left
                            · intro w'
                              go_simp
                              with_reducible rfl
                            rotate_left
                            · simp only [Act.put, List.setIfInBounds_toArray, List.set_cons_zero, List.set_cons_succ, i64_w, i32_w]
                              rfl
                            refine pure_ (i := 11) (N := some 89) (v := ?_) (a' := ?_) #[true, true, true, true, true, true, true, true, true, true, true, true, false] rfl rfl (any_of HT_.out (by kernel_rfl)) (fun _ _ _ h => h) (Or.inl ⟨by rfl, ?_⟩) ?_ ?_
                            rotate_left
                            · intro w'
                              go_simp
                              with_reducible rfl
                            rotate_left
                            · simp only [Act.put, List.setIfInBounds_toArray, List.set_cons_zero, List.set_cons_succ, i64_w, i32_w]
                              rfl
                            refine pure_ (i := 12) (N := some 4) (v := ?_) (a' := ?_) #[true, true, true, true, true, true, true, true, true, true, true, true, true] rfl rfl (any_of HT_.out (by kernel_rfl)) (fun _ _ _ h => h) (Or.inl ⟨by rfl, ?_⟩) ?_ ?_
                            rotate_left
                            · intro w'
                              go_simp
                              with_reducible rfl
                            rotate_left
                            · simp only [Act.put, List.setIfInBounds_toArray, List.set_cons_zero, List.set_cons_succ, i64_w, i32_w]
                              rfl
                            refine done_ (done_of HT_.out (by kernel_rfl)) ?_
                            try go_wp2
                            go_ret
                            exact ⟨by first | rfl | (simp [errW_none, errW_some] <;> rfl) | (simp [*, errW_none, errW_some] <;> rfl), by repeat (first | (with_reducible first | exact HB.out | apply below_alloc | apply pw_below_drewN | apply below_drew1 | refine below_set ?_ GE284.out | refine below_set ?_ GE295.out) | exact HB.out)⟩
                          · rw [if_neg c44] at H
                            have c44b0 : (t290 == t296 && (t291 == t297 && (t292 == t298 && (t293 == t299)))) = false := by simpa using c44
                            (try (have c44b1 : decide (t290 = t296 && (t291 == t297 && (t292 == t298 && (t293 == t299)))) = false := by simpa using c44))
                            (try (have c44b2 : (t290 == t296 && (t291 == t297 && (t292 == t298 && (t293 == t299)))) = false := by simpa using c44))
                            (try (have c44b3 : ¬ (t290 = t296 && (t291 == t297 && (t292 == t298 && (t293 == t299)))) := by simpa using c44))
                            clear c44
                            obtain rfl := Option.some.inj H
                            try go_wp2_with (first | ((with_reducible refine gate_callee (f := 16) rfl ?_); refine goesL_ (some 75) rfl rfl Try.func16 (by kernel_rfl) rfl #[.int .i64 a0, .slice A1 l1.length c1] rfl (by (try simp only [List.map_toArray, List.map_cons, List.map_nil]); first | done | rfl | (simp only [List.length_drop, List.length_take]; rfl)) ?_; (with_reducible refine (prio_Best.calls kj29 a0 _ _ l1 t290 t291 t292 t293 t294 _ ?side1 ?side2 A41.out).mono ?_); (case side1 => repeat (first | exact (Kd.C_below HR1.out HB.out) | (with_reducible refine Kd.C_alloc ?_ _) | (with_reducible refine Kd.C_drewN ?_ _) | (with_reducible refine Kd.C_drew ?_))); (case side2 => exact HC1.out); rintro e w52 ⟨rfl, hb⟩; refine ⟨_, rfl, ?_⟩; have n0_ := Aside0.mk (blk_below (g := gb284) (o := .cells #[.int .i64 t279, .int .i64 t280, .int .i64 t281, .int .i64 t282] 23 (0, 0)) (by (with_reducible repeat (first | refine blk_drewN ?_ _ | refine blk_drew ?_ | refine blk_alloc ?_ _)); exact BK284.out) hb); have n1_ := Aside0.mk (below_step (by repeat (first | (with_reducible first | exact HB.out | apply below_alloc | apply pw_below_drewN | apply below_drew1 | refine below_set ?_ GE284.out) | exact HB.out)) hb); clear BK284; clear HB; have BK284 := n0_; have HB := n1_; clear n0_ n1_; (try clear hb); (try clear hb2); (try clear hk); (try clear hi)) | ((with_reducible refine gate_dst (N := 14) rfl ?_); (try (refine gate_guard (by rfl) ?_; dsimp only)); refine box_event ?hg (N := 14) ?hd (cs := #[.int .i64 0, .int .i64 0, .int .i64 0, .int .i64 0]) (t := 23) ?hr ?_; (case hd => rfl); (case hg => rfl); (case hr => first | (go_simp; done) | (go_simp; rfl)); intro gb295 hg w53 hbox hb; have n0_ := Aside0.mk (blk_below (g := gb284) (o := .cells #[.int .i64 t279, .int .i64 t280, .int .i64 t281, .int .i64 t282] 23 (0, 0)) (by (with_reducible repeat (first | refine blk_drewN ?_ _ | refine blk_drew ?_ | refine blk_alloc ?_ _)); exact BK284.out) hb); have n1_ := Aside0.mk (below_step (by repeat (first | (with_reducible first | exact HB.out | apply below_alloc | apply pw_below_drewN | apply below_drew1 | refine below_set ?_ GE284.out) | exact HB.out)) hb); have n2_ := Aside0.mk (hbox); have n3_ := Aside0.mk ((by rw [hg]; exact (below_size (by repeat (first | (with_reducible first | exact HB.out | apply below_alloc | apply pw_below_drewN | apply below_drew1 | refine below_set ?_ GE284.out) | exact HB.out))) : w.heap.size ≤ gb295)); have n4_ := Aside0.mk ((by rw [hg]; exact (below_size (by repeat (first | (with_reducible first | exact HB.out | apply below_alloc | apply pw_below_drewN | apply below_drew1 | refine below_set ?_ GE284.out) | exact HB.out))) : w.heap.size ≤ gb295)); have n5_ := Aside0.mk ((by rw [hg]; exact Nat.ne_of_lt (blk_lt (g := gb284) (o := .cells #[.int .i64 t279, .int .i64 t280, .int .i64 t281, .int .i64 t282] 23 (0, 0)) (by (with_reducible repeat (first | refine blk_drewN ?_ _ | refine blk_drew ?_ | refine blk_alloc ?_ _)); exact BK284.out)) : gb284 ≠ gb295)); have n6_ := Aside0.mk ((by rw [hg]; exact Nat.ne_of_gt (blk_lt (g := gb284) (o := .cells #[.int .i64 t279, .int .i64 t280, .int .i64 t281, .int .i64 t282] 23 (0, 0)) (by (with_reducible repeat (first | refine blk_drewN ?_ _ | refine blk_drew ?_ | refine blk_alloc ?_ _)); exact BK284.out)) : gb295 ≠ gb284)); clear BK284; clear HB; have BK284 := n0_; have HB := n1_; have BK295 := n2_; have GW295 := n3_; have GE295 := n4_; have NB284_295 := n5_; have NB295_284 := n6_; clear n0_ n1_ n2_ n3_ n4_ n5_ n6_; clear hb hbox hg; have hnb54 := NB295_284.out; have hnc54 := NB284_295.out; have hcz55_0 : w53.cell? ⟨gb295, 0, none⟩ = some (.int .i64 0) := (blk_cell BK295.out 0).trans rfl; have hcz55_1 : w53.cell? ⟨gb295, 1, none⟩ = some (.int .i64 0) := (blk_cell BK295.out 1).trans rfl; have hcz55_2 : w53.cell? ⟨gb295, 2, none⟩ = some (.int .i64 0) := (blk_cell BK295.out 2).trans rfl; have hcz55_3 : w53.cell? ⟨gb295, 3, none⟩ = some (.int .i64 0) := (blk_cell BK295.out 3).trans rfl; have hfz55_0 := blk_frozen BK295.out 0; have hfz55_1 := blk_frozen BK295.out 1; have hfz55_2 := blk_frozen BK295.out 2; have hfz55_3 := blk_frozen BK295.out 3))
                            have n0_ : Aside0 (((((w53.setCell ⟨gb295, 0, none⟩ (.int .i64 t290)).setCell ⟨gb295, 1, none⟩ (.int .i64 t291)).setCell ⟨gb295, 2, none⟩ (.int .i64 t292)).setCell ⟨gb295, 3, none⟩ (.int .i64 t293)).heap[gb284]? = some (.cells #[.int .i64 t279, .int .i64 t280, .int .i64 t281, .int .i64 t282] 23 (0, 0))) := ⟨by (with_reducible repeat (first | refine blk_drewN ?_ _ | refine blk_drew ?_ | refine blk_alloc ?_ _)); refine blk_far ?_ NB284_295.out _; (with_reducible repeat (first | refine blk_drewN ?_ _ | refine blk_drew ?_ | refine blk_alloc ?_ _)); refine blk_far ?_ NB284_295.out _; (with_reducible repeat (first | refine blk_drewN ?_ _ | refine blk_drew ?_ | refine blk_alloc ?_ _)); refine blk_far ?_ NB284_295.out _; (with_reducible repeat (first | refine blk_drewN ?_ _ | refine blk_drew ?_ | refine blk_alloc ?_ _)); refine blk_far ?_ NB284_295.out _; (with_reducible repeat (first | refine blk_drewN ?_ _ | refine blk_drew ?_ | refine blk_alloc ?_ _)); exact BK284.out⟩
                            have n1_ : Aside0 (((((w53.setCell ⟨gb295, 0, none⟩ (.int .i64 t290)).setCell ⟨gb295, 1, none⟩ (.int .i64 t291)).setCell ⟨gb295, 2, none⟩ (.int .i64 t292)).setCell ⟨gb295, 3, none⟩ (.int .i64 t293)).heap[gb295]? = some (.cells #[.int .i64 t290, .int .i64 t291, .int .i64 t292, .int .i64 t293] 23 (0, 0))) := ⟨by (with_reducible repeat (first | refine blk_drewN ?_ _ | refine blk_drew ?_ | refine blk_alloc ?_ _)); refine blk_put (cs := #[.int .i64 t290, .int .i64 t291, .int .i64 t292, .int .i64 0]) ?_ 3 _ rfl; (with_reducible repeat (first | refine blk_drewN ?_ _ | refine blk_drew ?_ | refine blk_alloc ?_ _)); refine blk_put (cs := #[.int .i64 t290, .int .i64 t291, .int .i64 0, .int .i64 0]) ?_ 2 _ rfl; (with_reducible repeat (first | refine blk_drewN ?_ _ | refine blk_drew ?_ | refine blk_alloc ?_ _)); refine blk_put (cs := #[.int .i64 t290, .int .i64 0, .int .i64 0, .int .i64 0]) ?_ 1 _ rfl; (with_reducible repeat (first | refine blk_drewN ?_ _ | refine blk_drew ?_ | refine blk_alloc ?_ _)); refine blk_put (cs := #[.int .i64 0, .int .i64 0, .int .i64 0, .int .i64 0]) ?_ 0 _ rfl; (with_reducible repeat (first | refine blk_drewN ?_ _ | refine blk_drew ?_ | refine blk_alloc ?_ _)); exact BK295.out⟩
                            have n2_ : Aside0 (Below w.heap.size w ((((w53.setCell ⟨gb295, 0, none⟩ (.int .i64 t290)).setCell ⟨gb295, 1, none⟩ (.int .i64 t291)).setCell ⟨gb295, 2, none⟩ (.int .i64 t292)).setCell ⟨gb295, 3, none⟩ (.int .i64 t293))) := ⟨by repeat (first | (with_reducible first | exact HB.out | apply below_alloc | apply pw_below_drewN | apply below_drew1 | refine below_set ?_ GE284.out | refine below_set ?_ GE295.out) | exact HB.out)⟩
                            (try clear BK284)
                            (try clear BK295)
                            (try clear HB)
                            generalize ((((w53.setCell ⟨gb295, 0, none⟩ (.int .i64 t290)).setCell ⟨gb295, 1, none⟩ (.int .i64 t291)).setCell ⟨gb295, 2, none⟩ (.int .i64 t292)).setCell ⟨gb295, 3, none⟩ (.int .i64 t293)) = w56 at n0_ n1_ n2_ ⊢
                            have BK284 := n0_
                            have BK295 := n1_
                            have HB := n2_
                            clear n0_ n1_ n2_
                            have n0_ := Aside0.mk (blk_drew BK284.out)
                            have n1_ := Aside0.mk (blk_drew BK295.out)
                            have n2_ := Aside0.mk (below_drew1 HB.out)
                            clear BK284
                            clear BK295
                            clear HB
                            have BK284 := n0_
                            have BK295 := n1_
                            have HB := n2_
                            clear n0_ n1_ n2_
                            refine start_ (n := 13) (S := fun w' => w'.cell? ⟨gb295, 0, none⟩ = some (.int .i64 t290) ∧ w'.cell? ⟨gb295, 1, none⟩ = some (.int .i64 t291) ∧ w'.cell? ⟨gb295, 2, none⟩ = some (.int .i64 t292) ∧ w'.cell? ⟨gb295, 3, none⟩ = some (.int .i64 t293)) (ds := []) #[false, false, false, false, false, false, false, false, false, false, false, false, false] (by kernel_rfl) rfl rfl ⟨(blk_cell BK295.out 0).trans rfl, (blk_cell BK295.out 1).trans rfl, (blk_cell BK295.out 2).trans rfl, (blk_cell BK295.out 3).trans rfl⟩ (fun hHeld => ?_); refine with_tabW kissgatelaw10_PrioAlone.tab24 kissgatelaw10_PrioAlone.bits24 (fun HT_ HW_ => ?_)
                            generalize w56.drew = w57 at BK284 BK295 HB hHeld ⊢
                            refine pure_ (i := 0) (N := some 78) (v := ?_) (a' := ?_) #[true, false, false, false, false, false, false, false, false, false, false, false, false] rfl rfl (any_of HT_.out (by kernel_rfl)) (fun _ _ _ h => h) (Or.inl ⟨by rfl, ?_⟩) ?_ ?_
                            rotate_left
                            · intro w'
                              go_simp
                              with_reducible rfl
                            rotate_left
                            · simp only [Act.put, List.setIfInBounds_toArray, List.set_cons_zero, List.set_cons_succ, i64_w, i32_w]
                              rfl
                            refine pure_ (i := 1) (N := some 79) (v := ?_) (a' := ?_) #[true, true, false, false, false, false, false, false, false, false, false, false, false] rfl rfl (any_of HT_.out (by kernel_rfl)) (fun _ _ _ h => h) (Or.inl ⟨by rfl, ?_⟩) ?_ ?_
                            rotate_left
                            · intro w'
                              go_simp
                              with_reducible rfl
                            rotate_left
                            · simp only [Act.put, List.setIfInBounds_toArray, List.set_cons_zero, List.set_cons_succ, i64_w, i32_w]
                              rfl
                            refine pure_ (i := 2) (N := some 80) (v := ?_) (a' := ?_) #[true, true, true, false, false, false, false, false, false, false, false, false, false] rfl rfl (any_of HT_.out (by kernel_rfl)) (fun _ _ _ h => h) (Or.inl ⟨by rfl, ?_⟩) ?_ ?_
                            rotate_left
                            · intro w'
                              go_simp
                              with_reducible rfl
                            rotate_left
                            · simp only [Act.put, List.setIfInBounds_toArray, List.set_cons_zero, List.set_cons_succ, i64_w, i32_w]
                              rfl
                            refine pure_ (i := 4) (N := some 82) (v := ?_) (a' := ?_) #[true, true, true, false, true, false, false, false, false, false, false, false, false] rfl rfl (any_of HT_.out (by kernel_rfl)) (fun _ _ _ h => h) (Or.inl ⟨by rfl, ?_⟩) ?_ ?_
                            rotate_left
                            · intro w'
                              go_simp
                              with_reducible rfl
                            rotate_left
                            · simp only [Act.put, List.setIfInBounds_toArray, List.set_cons_zero, List.set_cons_succ, i64_w, i32_w]
                              rfl
                            refine take_ (i := 3) (N := some 81) (v := ?_) (a' := ?_) #[true, true, true, true, true, false, false, false, false, false, false, false, false] rfl rfl (take_ofW HT_.out HW_.out (by kernel_rfl)) (fun _ _ _ h => h) (Or.inl ⟨by rfl, ?_⟩) hHeld ?_ ?_
                            rotate_left
                            · rintro w' ⟨s0, s1, s2, s3⟩
                              go_simp
                              with_reducible rfl
                            rotate_left
                            · simp only [Act.put, List.setIfInBounds_toArray, List.set_cons_zero, List.set_cons_succ, i64_w, i32_w]
                              rfl
                            refine one_ (i := 5) (N := some 83) #[true, true, true, true, true, true, false, false, false, false, false, false, false] rfl rfl (one_of HT_.out (by kernel_rfl)) (by decide) (fun K hK => ?_)
                            refine goes_ Try.func20 (by kernel_rfl) rfl #[.int .i64 a0] (by rfl) rfl rfl (by (try simp only [List.map_toArray, List.map_cons, List.map_nil]); first | done | rfl | (simp only [List.length_drop, List.length_take]; rfl)) ?_
                            with_reducible refine (prio_Own.calls a0 t296 t297 t298 t299 _ A43.out).mono ?_
                            rintro e w58 ⟨rfl, hb⟩
                            refine ⟨_, rfl, ?_⟩
                            have n0_ := Aside0.mk (blk_below (g := gb284) (o := .cells #[.int .i64 t279, .int .i64 t280, .int .i64 t281, .int .i64 t282] 23 (0, 0)) (by (with_reducible repeat (first | refine blk_drewN ?_ _ | refine blk_drew ?_ | refine blk_alloc ?_ _)); exact BK284.out) hb)
                            have n1_ := Aside0.mk (blk_below (g := gb295) (o := .cells #[.int .i64 t290, .int .i64 t291, .int .i64 t292, .int .i64 t293] 23 (0, 0)) (by (with_reducible repeat (first | refine blk_drewN ?_ _ | refine blk_drew ?_ | refine blk_alloc ?_ _)); exact BK295.out) hb)
                            have n2_ := Aside0.mk (below_step (by repeat (first | (with_reducible first | exact HB.out | apply below_alloc | apply pw_below_drewN | apply below_drew1 | refine below_set ?_ GE284.out | refine below_set ?_ GE295.out) | exact HB.out)) hb)
                            clear BK284
                            clear BK295
                            clear HB
                            have BK284 := n0_
                            have BK295 := n1_
                            have HB := n2_
                            clear n0_ n1_ n2_
                            (try clear hb)
                            (try clear hb2)
                            (try clear hk)
                            (try clear hi)
                            refine hK.out _ _ ⟨(blk_cell BK295.out 0).trans rfl, (blk_cell BK295.out 1).trans rfl, (blk_cell BK295.out 2).trans rfl, (blk_cell BK295.out 3).trans rfl⟩ (fun hHeld => ?_)
                            clear hK K
                            refine norm_ (a' := ?_) ?_ ?_
                            rotate_left
                            · show Act.put _ (some 83) _ = _
                              simp only [Act.put, List.setIfInBounds_toArray, List.set_cons_zero, List.set_cons_succ, i64_w, i32_w]
                              rfl
                            refine pure_ (i := 6) (N := some 84) (v := ?_) (a' := ?_) #[true, true, true, true, true, true, true, false, false, false, false, false, false] rfl rfl (any_of HT_.out (by kernel_rfl)) (fun _ _ _ h => h) (Or.inl ⟨by rfl, ?_⟩) ?_ ?_
                            rotate_left
                            · intro w'
                              go_simp
                              with_reducible rfl
                            rotate_left
                            · simp only [Act.put, List.setIfInBounds_toArray, List.set_cons_zero, List.set_cons_succ, i64_w, i32_w]
                              rfl
                            refine pure_ (i := 7) (N := some 85) (v := ?_) (a' := ?_) #[true, true, true, true, true, true, true, true, false, false, false, false, false] rfl rfl (any_of HT_.out (by kernel_rfl)) (fun _ _ _ h => h) (Or.inl ⟨by rfl, ?_⟩) ?_ ?_
                            rotate_left
                            · intro w'
                              go_simp
                              with_reducible rfl
                            rotate_left
                            · simp only [Act.put, List.setIfInBounds_toArray, List.set_cons_zero, List.set_cons_succ, i64_w, i32_w]
                              rfl
                            refine pure_ (i := 8) (N := some 86) (v := undef) (a' := ?_) #[true, true, true, true, true, true, true, true, true, false, false, false, false] rfl rfl (any_of HT_.out (by kernel_rfl)) (fun _ _ _ h => h) (Or.inr ⟨by rfl, rfl⟩) ?_ ?_
                            rotate_left
                            · simp only [Act.put, List.setIfInBounds_toArray, List.set_cons_zero, List.set_cons_succ, i64_w, i32_w]
                              rfl
                            refine pure_ (i := 9) (N := some 87) (v := undef) (a' := ?_) #[true, true, true, true, true, true, true, true, true, true, false, false, false] rfl rfl (any_of HT_.out (by kernel_rfl)) (fun _ _ _ h => h) (Or.inr ⟨by rfl, rfl⟩) ?_ ?_
                            rotate_left
                            · simp only [Act.put, List.setIfInBounds_toArray, List.set_cons_zero, List.set_cons_succ, i64_w, i32_w]
                              rfl
                            refine pure_ (i := 10) (N := some 88) (v := ?_) (a' := ?_) #[true, true, true, true, true, true, true, true, true, true, true, false, false] rfl rfl (any_of HT_.out (by kernel_rfl)) (fun _ _ _ h => h) (Or.inl ⟨by rfl, ?_⟩) ?_ ?_
                            rotate_left
                            · intro w'
                              go_simp
                              with_reducible rfl
                            rotate_left
                            · simp only [Act.put, List.setIfInBounds_toArray, List.set_cons_zero, List.set_cons_succ, i64_w, i32_w]
                              rfl
                            refine pure_ (i := 11) (N := some 89) (v := ?_) (a' := ?_) #[true, true, true, true, true, true, true, true, true, true, true, true, false] rfl rfl (any_of HT_.out (by kernel_rfl)) (fun _ _ _ h => h) (Or.inl ⟨by rfl, ?_⟩) ?_ ?_
                            rotate_left
                            · intro w'
                              go_simp
                              with_reducible rfl
                            rotate_left
                            · simp only [Act.put, List.setIfInBounds_toArray, List.set_cons_zero, List.set_cons_succ, i64_w, i32_w]
                              rfl
                            refine pure_ (i := 12) (N := some 4) (v := ?_) (a' := ?_) #[true, true, true, true, true, true, true, true, true, true, true, true, true] rfl rfl (any_of HT_.out (by kernel_rfl)) (fun _ _ _ h => h) (Or.inl ⟨by rfl, ?_⟩) ?_ ?_
                            rotate_left
                            · intro w'
                              go_simp
                              with_reducible rfl
                            rotate_left
                            · simp only [Act.put, List.setIfInBounds_toArray, List.set_cons_zero, List.set_cons_succ, i64_w, i32_w]
                              rfl
                            refine done_ (done_of HT_.out (by kernel_rfl)) ?_
                            try go_wp2
                            go_ret
                            exact ⟨by first | rfl | (simp [errW_none, errW_some] <;> rfl) | (simp [*, errW_none, errW_some] <;> rfl), by repeat (first | (with_reducible first | exact HB.out | apply below_alloc | apply pw_below_drewN | apply below_drew1 | refine below_set ?_ GE284.out | refine below_set ?_ GE295.out) | exact HB.out)⟩
                        · replace c42 := Bool.eq_false_iff.mpr c42
                          subst c42
                          have H1 : (some true) = some r := by rw [if_neg (show ¬ (false = true) by decide)] at H; exact H
                          clear H
                          have H := H1
                          clear H1
                          obtain rfl := Option.some.inj H
                          try go_wp2_with (first | ((with_reducible refine gate_callee (f := 16) rfl ?_); refine goesL_ (some 75) rfl rfl Try.func16 (by kernel_rfl) rfl #[.int .i64 a0, .slice A1 l1.length c1] rfl (by (try simp only [List.map_toArray, List.map_cons, List.map_nil]); first | done | rfl | (simp only [List.length_drop, List.length_take]; rfl)) ?_; (with_reducible refine (prio_Best.calls kj29 a0 _ _ l1 t290 t291 t292 t293 t294 _ ?side1 ?side2 A41.out).mono ?_); (case side1 => repeat (first | exact (Kd.C_below HR1.out HB.out) | (with_reducible refine Kd.C_alloc ?_ _) | (with_reducible refine Kd.C_drewN ?_ _) | (with_reducible refine Kd.C_drew ?_))); (case side2 => exact HC1.out); rintro e w59 ⟨rfl, hb⟩; refine ⟨_, rfl, ?_⟩; have n0_ := Aside0.mk (blk_below (g := gb284) (o := .cells #[.int .i64 t279, .int .i64 t280, .int .i64 t281, .int .i64 t282] 23 (0, 0)) (by (with_reducible repeat (first | refine blk_drewN ?_ _ | refine blk_drew ?_ | refine blk_alloc ?_ _)); exact BK284.out) hb); have n1_ := Aside0.mk (below_step (by repeat (first | (with_reducible first | exact HB.out | apply below_alloc | apply pw_below_drewN | apply below_drew1 | refine below_set ?_ GE284.out) | exact HB.out)) hb); clear BK284; clear HB; have BK284 := n0_; have HB := n1_; clear n0_ n1_; (try clear hb); (try clear hb2); (try clear hk); (try clear hi)) | ((with_reducible refine gate_dst (N := 14) rfl ?_); (try (refine gate_guard (by rfl) ?_; dsimp only)); refine box_event ?hg (N := 14) ?hd (cs := #[.int .i64 0, .int .i64 0, .int .i64 0, .int .i64 0]) (t := 23) ?hr ?_; (case hd => rfl); (case hg => rfl); (case hr => first | (go_simp; done) | (go_simp; rfl)); intro gb295 hg w60 hbox hb; have n0_ := Aside0.mk (blk_below (g := gb284) (o := .cells #[.int .i64 t279, .int .i64 t280, .int .i64 t281, .int .i64 t282] 23 (0, 0)) (by (with_reducible repeat (first | refine blk_drewN ?_ _ | refine blk_drew ?_ | refine blk_alloc ?_ _)); exact BK284.out) hb); have n1_ := Aside0.mk (below_step (by repeat (first | (with_reducible first | exact HB.out | apply below_alloc | apply pw_below_drewN | apply below_drew1 | refine below_set ?_ GE284.out) | exact HB.out)) hb); have n2_ := Aside0.mk (hbox); have n3_ := Aside0.mk ((by rw [hg]; exact (below_size (by repeat (first | (with_reducible first | exact HB.out | apply below_alloc | apply pw_below_drewN | apply below_drew1 | refine below_set ?_ GE284.out) | exact HB.out))) : w.heap.size ≤ gb295)); have n4_ := Aside0.mk ((by rw [hg]; exact (below_size (by repeat (first | (with_reducible first | exact HB.out | apply below_alloc | apply pw_below_drewN | apply below_drew1 | refine below_set ?_ GE284.out) | exact HB.out))) : w.heap.size ≤ gb295)); have n5_ := Aside0.mk ((by rw [hg]; exact Nat.ne_of_lt (blk_lt (g := gb284) (o := .cells #[.int .i64 t279, .int .i64 t280, .int .i64 t281, .int .i64 t282] 23 (0, 0)) (by (with_reducible repeat (first | refine blk_drewN ?_ _ | refine blk_drew ?_ | refine blk_alloc ?_ _)); exact BK284.out)) : gb284 ≠ gb295)); have n6_ := Aside0.mk ((by rw [hg]; exact Nat.ne_of_gt (blk_lt (g := gb284) (o := .cells #[.int .i64 t279, .int .i64 t280, .int .i64 t281, .int .i64 t282] 23 (0, 0)) (by (with_reducible repeat (first | refine blk_drewN ?_ _ | refine blk_drew ?_ | refine blk_alloc ?_ _)); exact BK284.out)) : gb295 ≠ gb284)); clear BK284; clear HB; have BK284 := n0_; have HB := n1_; have BK295 := n2_; have GW295 := n3_; have GE295 := n4_; have NB284_295 := n5_; have NB295_284 := n6_; clear n0_ n1_ n2_ n3_ n4_ n5_ n6_; clear hb hbox hg; have hnb61 := NB295_284.out; have hnc61 := NB284_295.out; have hcz62_0 : w60.cell? ⟨gb295, 0, none⟩ = some (.int .i64 0) := (blk_cell BK295.out 0).trans rfl; have hcz62_1 : w60.cell? ⟨gb295, 1, none⟩ = some (.int .i64 0) := (blk_cell BK295.out 1).trans rfl; have hcz62_2 : w60.cell? ⟨gb295, 2, none⟩ = some (.int .i64 0) := (blk_cell BK295.out 2).trans rfl; have hcz62_3 : w60.cell? ⟨gb295, 3, none⟩ = some (.int .i64 0) := (blk_cell BK295.out 3).trans rfl; have hfz62_0 := blk_frozen BK295.out 0; have hfz62_1 := blk_frozen BK295.out 1; have hfz62_2 := blk_frozen BK295.out 2; have hfz62_3 := blk_frozen BK295.out 3))
                          have n0_ : Aside0 (((((w60.setCell ⟨gb295, 0, none⟩ (.int .i64 t290)).setCell ⟨gb295, 1, none⟩ (.int .i64 t291)).setCell ⟨gb295, 2, none⟩ (.int .i64 t292)).setCell ⟨gb295, 3, none⟩ (.int .i64 t293)).heap[gb284]? = some (.cells #[.int .i64 t279, .int .i64 t280, .int .i64 t281, .int .i64 t282] 23 (0, 0))) := ⟨by (with_reducible repeat (first | refine blk_drewN ?_ _ | refine blk_drew ?_ | refine blk_alloc ?_ _)); refine blk_far ?_ NB284_295.out _; (with_reducible repeat (first | refine blk_drewN ?_ _ | refine blk_drew ?_ | refine blk_alloc ?_ _)); refine blk_far ?_ NB284_295.out _; (with_reducible repeat (first | refine blk_drewN ?_ _ | refine blk_drew ?_ | refine blk_alloc ?_ _)); refine blk_far ?_ NB284_295.out _; (with_reducible repeat (first | refine blk_drewN ?_ _ | refine blk_drew ?_ | refine blk_alloc ?_ _)); refine blk_far ?_ NB284_295.out _; (with_reducible repeat (first | refine blk_drewN ?_ _ | refine blk_drew ?_ | refine blk_alloc ?_ _)); exact BK284.out⟩
                          have n1_ : Aside0 (((((w60.setCell ⟨gb295, 0, none⟩ (.int .i64 t290)).setCell ⟨gb295, 1, none⟩ (.int .i64 t291)).setCell ⟨gb295, 2, none⟩ (.int .i64 t292)).setCell ⟨gb295, 3, none⟩ (.int .i64 t293)).heap[gb295]? = some (.cells #[.int .i64 t290, .int .i64 t291, .int .i64 t292, .int .i64 t293] 23 (0, 0))) := ⟨by (with_reducible repeat (first | refine blk_drewN ?_ _ | refine blk_drew ?_ | refine blk_alloc ?_ _)); refine blk_put (cs := #[.int .i64 t290, .int .i64 t291, .int .i64 t292, .int .i64 0]) ?_ 3 _ rfl; (with_reducible repeat (first | refine blk_drewN ?_ _ | refine blk_drew ?_ | refine blk_alloc ?_ _)); refine blk_put (cs := #[.int .i64 t290, .int .i64 t291, .int .i64 0, .int .i64 0]) ?_ 2 _ rfl; (with_reducible repeat (first | refine blk_drewN ?_ _ | refine blk_drew ?_ | refine blk_alloc ?_ _)); refine blk_put (cs := #[.int .i64 t290, .int .i64 0, .int .i64 0, .int .i64 0]) ?_ 1 _ rfl; (with_reducible repeat (first | refine blk_drewN ?_ _ | refine blk_drew ?_ | refine blk_alloc ?_ _)); refine blk_put (cs := #[.int .i64 0, .int .i64 0, .int .i64 0, .int .i64 0]) ?_ 0 _ rfl; (with_reducible repeat (first | refine blk_drewN ?_ _ | refine blk_drew ?_ | refine blk_alloc ?_ _)); exact BK295.out⟩
                          have n2_ : Aside0 (Below w.heap.size w ((((w60.setCell ⟨gb295, 0, none⟩ (.int .i64 t290)).setCell ⟨gb295, 1, none⟩ (.int .i64 t291)).setCell ⟨gb295, 2, none⟩ (.int .i64 t292)).setCell ⟨gb295, 3, none⟩ (.int .i64 t293))) := ⟨by repeat (first | (with_reducible first | exact HB.out | apply below_alloc | apply pw_below_drewN | apply below_drew1 | refine below_set ?_ GE284.out | refine below_set ?_ GE295.out) | exact HB.out)⟩
                          (try clear BK284)
                          (try clear BK295)
                          (try clear HB)
                          generalize ((((w60.setCell ⟨gb295, 0, none⟩ (.int .i64 t290)).setCell ⟨gb295, 1, none⟩ (.int .i64 t291)).setCell ⟨gb295, 2, none⟩ (.int .i64 t292)).setCell ⟨gb295, 3, none⟩ (.int .i64 t293)) = w63 at n0_ n1_ n2_ ⊢
                          have BK284 := n0_
                          have BK295 := n1_
                          have HB := n2_
                          clear n0_ n1_ n2_
                          have n0_ := Aside0.mk (blk_drew BK284.out)
                          have n1_ := Aside0.mk (blk_drew BK295.out)
                          have n2_ := Aside0.mk (below_drew1 HB.out)
                          clear BK284
                          clear BK295
                          clear HB
                          have BK284 := n0_
                          have BK295 := n1_
                          have HB := n2_
                          clear n0_ n1_ n2_
                          refine start_ (n := 13) (S := fun w' => True) (ds := []) #[false, false, false, false, false, false, false, false, false, false, false, false, false] (by kernel_rfl) rfl rfl trivial (fun hHeld => ?_); refine with_tabW kissgatelaw10_PrioAlone.tab24 kissgatelaw10_PrioAlone.bits24 (fun HT_ HW_ => ?_)
                          generalize w63.drew = w64 at BK284 BK295 HB hHeld ⊢
                          refine pure_ (i := 0) (N := some 78) (v := ?_) (a' := ?_) #[true, false, false, false, false, false, false, false, false, false, false, false, false] rfl rfl (any_of HT_.out (by kernel_rfl)) (fun _ _ _ h => h) (Or.inl ⟨by rfl, ?_⟩) ?_ ?_
                          rotate_left
                          · intro w'
                            go_simp
                            with_reducible rfl
                          rotate_left
                          · simp only [Act.put, List.setIfInBounds_toArray, List.set_cons_zero, List.set_cons_succ, i64_w, i32_w]
                            rfl
                          refine pure_ (i := 1) (N := some 79) (v := ?_) (a' := ?_) #[true, true, false, false, false, false, false, false, false, false, false, false, false] rfl rfl (any_of HT_.out (by kernel_rfl)) (fun _ _ _ h => h) (Or.inl ⟨by rfl, ?_⟩) ?_ ?_
                          rotate_left
                          · intro w'
                            go_simp
                            with_reducible rfl
                          rotate_left
                          · simp only [Act.put, List.setIfInBounds_toArray, List.set_cons_zero, List.set_cons_succ, i64_w, i32_w]
                            rfl
                          refine pure_ (i := 2) (N := some 80) (v := ?_) (a' := ?_) #[true, true, true, false, false, false, false, false, false, false, false, false, false] rfl rfl (any_of HT_.out (by kernel_rfl)) (fun _ _ _ h => h) (Or.inl ⟨by rfl, ?_⟩) ?_ ?_
                          rotate_left
                          · intro w'
                            go_simp
                            with_reducible rfl
                          rotate_left
                          · simp only [Act.put, List.setIfInBounds_toArray, List.set_cons_zero, List.set_cons_succ, i64_w, i32_w]
                            rfl
                          refine pure_ (i := 3) (N := some 81) (v := undef) (a' := ?_) #[true, true, true, true, false, false, false, false, false, false, false, false, false] rfl rfl (any_of HT_.out (by kernel_rfl)) (fun _ _ _ h => h) (Or.inr ⟨by rfl, rfl⟩) ?_ ?_
                          rotate_left
                          · simp only [Act.put, List.setIfInBounds_toArray, List.set_cons_zero, List.set_cons_succ, i64_w, i32_w]
                            rfl
                          refine pure_ (i := 4) (N := some 82) (v := undef) (a' := ?_) #[true, true, true, true, true, false, false, false, false, false, false, false, false] rfl rfl (any_of HT_.out (by kernel_rfl)) (fun _ _ _ h => h) (Or.inr ⟨by rfl, rfl⟩) ?_ ?_
                          rotate_left
                          · simp only [Act.put, List.setIfInBounds_toArray, List.set_cons_zero, List.set_cons_succ, i64_w, i32_w]
                            rfl
                          refine pure_ (i := 5) (N := some 83) (v := undef) (a' := ?_) #[true, true, true, true, true, true, false, false, false, false, false, false, false] rfl rfl (any_of HT_.out (by kernel_rfl)) (fun _ _ _ h => h) (Or.inr ⟨by rfl, rfl⟩) ?_ ?_
                          rotate_left
                          · simp only [Act.put, List.setIfInBounds_toArray, List.set_cons_zero, List.set_cons_succ, i64_w, i32_w]
                            rfl
                          refine pure_ (i := 6) (N := some 84) (v := undef) (a' := ?_) #[true, true, true, true, true, true, true, false, false, false, false, false, false] rfl rfl (any_of HT_.out (by kernel_rfl)) (fun _ _ _ h => h) (Or.inr ⟨by rfl, rfl⟩) ?_ ?_
                          rotate_left
                          · simp only [Act.put, List.setIfInBounds_toArray, List.set_cons_zero, List.set_cons_succ, i64_w, i32_w]
                            rfl
                          refine pure_ (i := 7) (N := some 85) (v := undef) (a' := ?_) #[true, true, true, true, true, true, true, true, false, false, false, false, false] rfl rfl (any_of HT_.out (by kernel_rfl)) (fun _ _ _ h => h) (Or.inr ⟨by rfl, rfl⟩) ?_ ?_
                          rotate_left
                          · simp only [Act.put, List.setIfInBounds_toArray, List.set_cons_zero, List.set_cons_succ, i64_w, i32_w]
                            rfl
                          refine pure_ (i := 8) (N := some 86) (v := undef) (a' := ?_) #[true, true, true, true, true, true, true, true, true, false, false, false, false] rfl rfl (any_of HT_.out (by kernel_rfl)) (fun _ _ _ h => h) (Or.inr ⟨by rfl, rfl⟩) ?_ ?_
                          rotate_left
                          · simp only [Act.put, List.setIfInBounds_toArray, List.set_cons_zero, List.set_cons_succ, i64_w, i32_w]
                            rfl
                          refine pure_ (i := 9) (N := some 87) (v := undef) (a' := ?_) #[true, true, true, true, true, true, true, true, true, true, false, false, false] rfl rfl (any_of HT_.out (by kernel_rfl)) (fun _ _ _ h => h) (Or.inr ⟨by rfl, rfl⟩) ?_ ?_
                          rotate_left
                          · simp only [Act.put, List.setIfInBounds_toArray, List.set_cons_zero, List.set_cons_succ, i64_w, i32_w]
                            rfl
                          refine pure_ (i := 10) (N := some 88) (v := undef) (a' := ?_) #[true, true, true, true, true, true, true, true, true, true, true, false, false] rfl rfl (any_of HT_.out (by kernel_rfl)) (fun _ _ _ h => h) (Or.inr ⟨by rfl, rfl⟩) ?_ ?_
                          rotate_left
                          · simp only [Act.put, List.setIfInBounds_toArray, List.set_cons_zero, List.set_cons_succ, i64_w, i32_w]
                            rfl
                          refine pure_ (i := 11) (N := some 89) (v := ?_) (a' := ?_) #[true, true, true, true, true, true, true, true, true, true, true, true, false] rfl rfl (any_of HT_.out (by kernel_rfl)) (fun _ _ _ h => h) (Or.inl ⟨by rfl, ?_⟩) ?_ ?_
                          rotate_left
                          · intro w'
                            go_simp
                            with_reducible rfl
                          rotate_left
                          · simp only [Act.put, List.setIfInBounds_toArray, List.set_cons_zero, List.set_cons_succ, i64_w, i32_w]
                            rfl
                          refine pure_ (i := 12) (N := some 4) (v := ?_) (a' := ?_) #[true, true, true, true, true, true, true, true, true, true, true, true, true] rfl rfl (any_of HT_.out (by kernel_rfl)) (fun _ _ _ h => h) (Or.inl ⟨by rfl, ?_⟩) ?_ ?_
                          rotate_left
                          · intro w'
                            go_simp
                            with_reducible rfl
                          rotate_left
                          · simp only [Act.put, List.setIfInBounds_toArray, List.set_cons_zero, List.set_cons_succ, i64_w, i32_w]
                            rfl
                          refine done_ (done_of HT_.out (by kernel_rfl)) ?_
                          try go_wp2
                          go_ret
                          exact ⟨by first | rfl | (simp [errW_none, errW_some] <;> rfl) | (simp [*, errW_none, errW_some] <;> rfl), by repeat (first | (with_reducible first | exact HB.out | apply below_alloc | apply pw_below_drewN | apply below_drew1 | refine below_set ?_ GE284.out | refine below_set ?_ GE295.out) | exact HB.out)⟩
  · replace c4 := Bool.eq_false_iff.mpr c4
    subst c4
    have H1 : (some false) = some r := by rw [if_neg (show ¬ (false = true) by decide)] at H; exact H
    clear H
    have H := H1
    clear H1
    obtain rfl := Option.some.inj H
    go_enter Try.func7, Try.ntmps7
    go_wp2_with (first | ((with_reducible refine gate_callee (f := 12) rfl ?_); refine goesL_ (some 16) rfl rfl Try.func12 (by kernel_rfl) rfl #[] rfl (by (try simp only [List.map_toArray, List.map_cons, List.map_nil]); first | done | rfl | (simp only [List.length_drop, List.length_take]; rfl)) ?_; (with_reducible refine (kissgatelaw10_alive.calls k  false _ A3.out).mono ?_); rintro e w65 ⟨rfl, hb⟩; refine ⟨_, rfl, ?_⟩; have n0_ := Aside0.mk (below_step (by repeat (first | (with_reducible first | exact HB.out | apply below_alloc | apply pw_below_drewN | apply below_drew1) | exact HB.out)) hb); clear HB; have HB := n0_; clear n0_; (try clear hb); (try clear hb2); (try clear hk); (try clear hi)))
    go_ret
    exact ⟨by first | rfl | (simp [errW_none, errW_some] <;> rfl) | (simp [*, errW_none, errW_some] <;> rfl), by repeat (first | (with_reducible first | exact HB.out | apply below_alloc | apply pw_below_drewN | apply below_drew1) | exact HB.out)⟩
end Go.Proofs.Ytjhkbmdblfdlnaa.QPrio
namespace Go.Proofs.Ytjhkbmdblfdlnaa.Opn
open Go.ChangeShapes Go.WideShapes Go.Proofs.YtjhkbmdblfdlnaaW.PrintWords
variable {P : Program}
def Opens {α : Type} (P : Program) (t : TypeId) (d : Kd α) (good : α → Prop) : Prop :=
  ∀ (H : Type) (enc : TypeId × Value → H) (w : World) (fuel : Nat) (cs : List Value) (x : DataW H × List MemPlace),
    DataW.trod enc P w 0 (fun _ => true) true fuel t cs = some x → (∀ n ∈ x.1.weights P t, n ≤ reachBytes) → ∃ a : α, d.K w a cs ∧ good a
theorem opens_int {t : TypeId} {k : IntKind} (hu : P.underlying t = some (.int k)) : Opens P t (Kd.int k) (fun n => (Lit.int k n).wf = true) := by
  intro H enc w fuel cs x h _
  obtain ⟨n, rfl, _, hw⟩ := DataW.trod_int hu h
  exact ⟨n, rfl, hw⟩
theorem opens_bool {t : TypeId} (hu : P.underlying t = some .bool) : Opens P t Kd.bool (fun _ => True) := by
  intro H enc w fuel cs x h _
  obtain ⟨b, rfl, _⟩ := DataW.trod_bool hu h
  exact ⟨b, rfl, trivial⟩
theorem weightsAll_mem {H : Type} {e : TypeId} : ∀ {l : List (DataW H)} {d : DataW H}, d ∈ l → ∀ n ∈ d.weights P e, n ∈ DataW.weightsAll P e l
  | [], d, h, _, _ => by simp at h
  | d0 :: l, d, h, n, hn => by
    simp only [DataW.weightsAll, List.mem_append]
    rcases List.mem_cons.1 h with rfl | h
    · exact Or.inl hn
    · exact Or.inr (weightsAll_mem h n hn)
theorem add_at_ (a : Addr) (i j : Nat) : (a.add i).add j = a.add (i + j) := by
  unfold Addr.add
  by_cases hi : i = 0
  · subst hi; simp
  · by_cases hj : j = 0
    · subst hj; simp
    · simp [hi, hj, Nat.add_assoc]
theorem choose_list {α : Type} {Q : Nat → α → Prop} : ∀ (n : Nat), (∀ i, i < n → ∃ a, Q i a) → ∃ l : List α, l.length = n ∧ ∀ i a, l[i]? = some a → Q i a
  | 0, _ => ⟨[], rfl, fun i a h => by simp at h⟩
  | n + 1, h => by
    obtain ⟨l, hl, hq⟩ := choose_list n (fun i hi => h i (by omega))
    obtain ⟨a, ha⟩ := h n (by omega)
    refine ⟨l ++ [a], by simp [hl], fun i b hb => ?_⟩
    rcases Nat.lt_or_ge i l.length with hi | hi
    · rw [List.getElem?_append_left hi] at hb
      exact hq i b hb
    · rw [List.getElem?_append_right hi] at hb
      have hlt := (List.getElem?_eq_some_iff.1 hb).1
      simp at hlt
      have e : i = n := by omega
      subst e
      rw [show i - l.length = 0 from by omega] at hb
      have hb' : a = b := by simpa using hb
      subst hb'
      exact ha
theorem opens_slice_row {α : Type} {t e : TypeId} {d : Kd α} {good : α → Prop} (hu : P.underlying t = some (.slice e)) (hC : P.cellsOf e = d.sz) {B : Nat} (hB : P.bytesOf e = B) (ho : Opens P e d good)
    (H : Type) (enc : TypeId × Value → H) (w : World) (fuel : Nat) (A : Option Addr) (len cap : Nat) (x : DataW H × List MemPlace)
    (h : DataW.trod enc P w 0 (fun _ => true) true fuel t [.slice A len cap] = some x) (hz : ∀ n ∈ x.1.weights P t, n ≤ reachBytes) :
    ∃ l : List α, l.length = len ∧ len ≤ cap ∧ d.C w A len l ∧ len ≤ maxLen ∧ len * B ≤ 140737488351232 ∧ ∀ a ∈ l, good a := by
  rcases DataW.trod_slice hu h with ⟨h0, _⟩ | ⟨a, len', cap', elems, rest, n, _, hcs, hx, _, hl, hm, hlen, hel, _, _⟩
  · simp only [List.cons.injEq, Value.slice.injEq, and_true] at h0
    obtain ⟨rfl, rfl, rfl⟩ := h0
    exact ⟨[], rfl, Nat.le_refl _, ⟨rfl, Nat.zero_le _, fun h => absurd h (by omega)⟩, Nat.zero_le _, by simp, fun a ha => by simp at ha⟩
  · simp only [List.cons.injEq, Value.slice.injEq, and_true] at hcs
    obtain ⟨rfl, rfl, rfl⟩ := hcs
    have each : ∀ i, i < len → ∃ b : α, (∃ c, c.length = d.sz ∧ d.K w b c ∧ ∀ j u, c[j]? = some u → w.cell? (a.add (i * d.sz + j)) = some u) ∧ good b := by
      intro i hi
      have h1 := hel i hi
      have hie : i < elems.length := by omega
      rw [List.getElem?_eq_getElem hie, Option.bind_eq_some_iff] at h1
      obtain ⟨cs', hc, ht'⟩ := h1
      have hw' : ∀ n ∈ (elems[i]).1.weights P e, n ≤ reachBytes := by
        intro m hm'
        refine hz m ?_
        rw [hx]
        simp only [DataW.weights, hu]
        refine List.mem_cons_of_mem _ (List.mem_append_left _ ?_)
        exact weightsAll_mem (List.mem_map.2 ⟨elems[i], List.getElem_mem hie, rfl⟩) m hm'
      obtain ⟨b, hb, hg⟩ := ho H enc w _ cs' _ ht' hw'
      obtain ⟨_, hcl, hat⟩ := World.cells?_some hc
      refine ⟨b, ⟨cs', by rw [hcl, hC], hb, fun j u hu' => ?_⟩, hg⟩
      have hj : j < P.cellsOf e := by
        have := (List.getElem?_eq_some_iff.1 hu').1
        omega
      have := hat j hj
      rw [hC] at this
      rw [← add_at_, this, hu']
    obtain ⟨l, hll, hq⟩ := choose_list len each
    refine ⟨l, hll, hl, ⟨hll, by simp only [maxLen] at hm; omega, fun _ => ⟨a, rfl, fun j p hj => (hq j p hj).1⟩⟩, by omega, ?_, fun b hb => ?_⟩
    · have h1 := hz ((elems.length + rest.length) * P.bytesOf e) (by rw [hx]; simp [DataW.weights, hu])
      rw [hB] at h1
      simp only [reachBytes] at h1
      refine Nat.le_trans (Nat.mul_le_mul_right _ ?_) h1
      omega
    · obtain ⟨i, hi⟩ := List.getElem?_of_mem hb
      exact (hq i b hi).2
def OpensFs {α : Type} (P : Program) (off : Nat) (fs : List Field) (d : Kd α) (good : α → Prop) : Prop :=
  ∀ (H : Type) (enc : TypeId × Value → H) (w : World) (fuel : Nat) (cs : List Value) (ys : List (DataW H × List MemPlace)),
    cs.length = off + d.sz → ys.length = fs.length → (∀ (i : Nat) (f : Field), fs[i]? = some f → DataW.trod enc P w 0 (fun _ => true) true fuel f.type ((cs.drop f.offset).take (P.cellsOf f.type)) = ys[i]?) →
    (∀ n ∈ DataW.weightsEach P (fs.map (·.type)) (ys.map (·.1)), n ≤ reachBytes) → ∃ a : α, d.K w a (cs.drop off) ∧ good a
theorem opensFs_one {α : Type} {off : Nat} {f : Field} {d : Kd α} {good : α → Prop} (ho : f.offset = off) (hC : P.cellsOf f.type = d.sz) (h : Opens P f.type d good) : OpensFs P off [f] d good := by
  intro H enc w fuel cs ys hcs hy hf hz
  match ys, hy with
  | [y], _ =>
    have h1 := hf 0 f rfl
    rw [ho, hC, List.take_of_length_le (by simp [List.length_drop]; omega)] at h1
    exact h H enc w fuel _ y h1 (fun n hn => hz n (by simp only [List.map_cons, DataW.weightsEach, List.mem_append]; exact Or.inl hn))
theorem opensFs_cons {α β : Type} {off : Nat} {f : Field} {fs : List Field} {d : Kd α} {e : Kd β} {g1 : α → Prop} {g2 : β → Prop} (ho : f.offset = off) (hC : P.cellsOf f.type = d.sz) (h : Opens P f.type d g1) (hs : OpensFs P (off + d.sz) fs e g2) :
    OpensFs P off (f :: fs) (Kd.pair d e) (fun p => g1 p.1 ∧ g2 p.2) := by
  intro H enc w fuel cs ys hcs hy hf hz
  match ys, hy with
  | y :: ys, hy =>
    have hsz : (Kd.pair d e).sz = d.sz + e.sz := rfl
    rw [hsz] at hcs
    have h1 := hf 0 f rfl
    rw [ho, hC] at h1
    obtain ⟨a, ha, hga⟩ := h H enc w fuel _ y h1 (fun n hn => hz n (by simp only [List.map_cons, DataW.weightsEach, List.mem_append]; exact Or.inl hn))
    obtain ⟨b, hb, hgb⟩ := hs H enc w fuel cs ys (by omega) (by simpa using hy) (fun i f' hi => by simpa using hf (i + 1) f' (by simpa using hi)) (fun n hn => hz n (by simp only [List.map_cons, DataW.weightsEach, List.mem_append]; exact Or.inr hn))
    refine ⟨(a, b), ⟨(cs.drop off).take d.sz, cs.drop (off + d.sz), ?_, ha, hb⟩, hga, hgb⟩
    rw [← List.drop_drop, List.take_append_drop]
theorem opens_struct {α : Type} {t : TypeId} {fs : Array Field} {d : Kd α} {good : α → Prop} (hu : P.underlying t = some (.struct fs)) (hC : P.cellsOf t = d.sz) (h : OpensFs P 0 fs.toList d good) : Opens P t d good := by
  intro H enc w fuel cs x hx hz
  obtain ⟨ys, n, _, hxe, hlen, hyl, hf⟩ := DataW.trod_struct hu hx
  obtain ⟨a, ha, hg⟩ := h H enc w n cs ys (by omega) (by simpa using hyl) (fun i f hi => hf i f (by simpa using hi)) (fun m hm => hz m (by rw [hxe]; simp only [DataW.weights, hu]; exact hm))
  exact ⟨a, by simpa using ha, hg⟩
theorem opens_iso {α β : Type} {t : TypeId} {d : Kd α} {good : α → Prop} (f : β → α) (g : α → β) (hfg : ∀ a, f (g a) = a) (h : Opens P t d good) : Opens P t (Kd.iso d f) (fun b => good (f b)) := by
  intro H enc w fuel cs x hx hz
  obtain ⟨a, ha, hga⟩ := h H enc w fuel cs x hx hz
  refine ⟨g a, ?_, by show good (f (g a)); rw [hfg]; exact hga⟩
  show d.K w (f (g a)) cs
  rw [hfg]
  exact ha
theorem opens_imp {α : Type} {t : TypeId} {d : Kd α} {g1 g2 : α → Prop} (h : Opens P t d g1) (hg : ∀ a, g1 a → g2 a) : Opens P t d g2 := by
  intro H enc w fuel cs x hx hz
  obtain ⟨a, ha, hga⟩ := h H enc w fuel cs x hx hz
  exact ⟨a, ha, hg a hga⟩
theorem weights_of {H : Type} {ts : List TypeId} {ds : List (DataW H)} (h : (DataW.weightsEach P ts ds).all (· ≤ reachBytes) = true) {j : Nat} {t : TypeId} {d : DataW H} (ht : ts[j]? = some t) (hd : ds[j]? = some d) : ∀ n ∈ d.weights P t, n ≤ reachBytes := by
  intro n hn
  have := List.all_eq_true.1 h _ (DataW.weights_mem_each ht hd n hn)
  simpa using this
theorem arg_slice {α : Type} {t e : TypeId} {d : Kd α} {good : α → Prop} (hu : P.underlying t = some (.slice e)) (hC : P.cellsOf e = d.sz) {B : Nat} (hB : P.bytesOf e = B) (ho : Opens P e d good)
    {H : Type} {enc : TypeId × Value → H} {w : World} {r : Reach} {b0 : Nat} {v : Value} {x : DataW H} {ps : List MemPlace} (hv : Value.okWide P w r b0 t v)
    (h : DataW.Trod enc P w 0 (fun _ => true) true t v x ps) (hz : ∀ n ∈ x.weights P t, n ≤ reachBytes) :
    ∃ (A : Option Addr) (c : Nat) (l : List α), v = .slice A l.length c ∧ l.length ≤ c ∧ d.C w A l.length l ∧ l.length ≤ maxLen ∧ l.length * B ≤ 140737488351232 ∧ ∀ a ∈ l, good a := by
  obtain ⟨A, len, c, rfl⟩ := okWide_slice hu hv
  obtain ⟨fuel, hf⟩ := h
  have hf' : DataW.trod enc P w 0 (fun _ => true) true fuel t [.slice A len c] = some (x, ps) := by simpa [Value.cells] using hf
  obtain ⟨l, rfl, hlc, hC', hm, hb, hg⟩ := opens_slice_row hu hC hB ho H enc w fuel A len c _ hf' hz
  exact ⟨A, c, l, rfl, hlc, hC', hm, hb, hg⟩
theorem arg_int {t : TypeId} {k : IntKind} (hu : P.underlying t = some (.int k))
    {H : Type} {enc : TypeId × Value → H} {w : World} {r : Reach} {b0 : Nat} {v : Value} {x : DataW H} {ps : List MemPlace} (hv : Value.okWide P w r b0 t v)
    (h : DataW.Trod enc P w 0 (fun _ => true) true t v x ps) : ∃ n, v = .int k n ∧ (Lit.int k n).wf = true := by
  obtain ⟨n, rfl⟩ := okWide_int hu hv
  obtain ⟨fuel, hf⟩ := h
  obtain ⟨m, hcs, _, hw⟩ := DataW.trod_int hu hf
  simp only [Value.cells] at hcs
  have e : n = m := by simpa using hcs
  subst e
  exact ⟨n, rfl, hw⟩
end Go.Proofs.Ytjhkbmdblfdlnaa.Opn
namespace Go.Proofs.Ytjhkbmdblfdlnaa.prioAlone
open Go.RowKit Go.Proofs.YtjhkbmdblfdlnaaW.PrintWords Go.Proofs.YtjhkbmdblfdlnaaW.PrintLast Go.Proofs.YtjhkbmdblfdlnaaW.PrintMore Go.Proofs.Ytjhkbmdblfdlnaa.QPrio
set_option linter.unusedVariables false
def G23 (x : S23) : Prop := (Lit.int .i64 x.f0).wf = true ∧ (Lit.int .i64 x.f1).wf = true ∧ (Lit.int .i64 x.f2).wf = true ∧ (Lit.int .i64 x.f3).wf = true
def G45 (x : S45) : Prop := G23 x.f0 ∧ (Lit.int .i64 x.f1).wf = true ∧ (Lit.int .i64 x.f2).wf = true ∧ True
def Pure : Prop := ∀ (x0 : Int) (x1 : (List S45)), (Lit.int .i64 x0).wf = true → (x1.length ≤ maxLen ∧ x1.length * 56 ≤ 140737488351232 ∧ ∀ a ∈ x1, G45 a) → ∃ k, kissgatelaw10_PrioAlone.f k x0 x1 = some true
end Go.Proofs.Ytjhkbmdblfdlnaa.prioAlone
namespace Go.Proofs.Ytjhkbmdblfdlnaa.Pri
open Go.RowKit Go.Proofs.YtjhkbmdblfdlnaaW.PrintWords Go.Proofs.YtjhkbmdblfdlnaaW.PrintLast Go.Proofs.YtjhkbmdblfdlnaaW.PrintMore Go.Proofs.Ytjhkbmdblfdlnaa.QPrio
def Fit (a : Int) : Prop := -9223372036854775808 ≤ a ∧ a ≤ 9223372036854775807
theorem fit_of {a : Int} (h : (Lit.int .i64 a).wf = true) : Fit a := by
  simp only [Lit.wf, Bool.and_eq_true, decide_eq_true_eq] at h
  unfold Fit
  have e1 : IntKind.i64.min = -9223372036854775808 := by decide
  have e2 : IntKind.i64.max = 9223372036854775807 := by decide
  rw [e1, e2] at h
  exact h
def sgn (a b : Int) : Int := if a < b then -1 else if a > b then 1 else 0
theorem cmp_sgn (a b : Int) : cmp_Compare_int.f a b = some (sgn a b) := by
  unfold cmp_Compare_int.f cmp_isNaN_int.f sgn
  simp only [bne_self_eq_false, Option.bind_some, Bool.false_eq_true, if_false]
  split
  · rfl
  · split <;> rfl
def or4 (a b c d : Int) : Int := if a ≠ 0 then a else if b ≠ 0 then b else if c ≠ 0 then c else d
theorem or_four (a b c d : Int) (k : Nat) : cmp_Or_int.f (k + 5) [a, b, c, d] = some (or4 a b c d) := by
  have r0 : rd [a, b, c, d] 0 = a := rfl
  have r1 : rd [a, b, c, d] 1 = b := rfl
  have r2 : rd [a, b, c, d] 2 = c := rfl
  have r3 : rd [a, b, c, d] 3 = d := rfl
  have w0 : wrap64 (0 + 1) = 1 := by unfold wrap64; decide
  have w1 : wrap64 (1 + 1) = 2 := by unfold wrap64; decide
  have w2 : wrap64 (2 + 1) = 3 := by unfold wrap64; decide
  have w3 : wrap64 (3 + 1) = 4 := by unfold wrap64; decide
  unfold cmp_Or_int.f
  have hl : (([a, b, c, d] : List Int).length : Int) = 4 := rfl
  rw [hl, cmp_Or_int.l0, if_pos (by decide), if_pos (by decide), hl, if_pos (by decide), r0]
  by_cases ha : a = 0
  · rw [if_pos ha, w0, cmp_Or_int.l0, if_pos (by decide), if_pos (by decide), hl, if_pos (by decide), r1]
    by_cases hb : b = 0
    · rw [if_pos hb, w1, cmp_Or_int.l0, if_pos (by decide), if_pos (by decide), hl, if_pos (by decide), r2]
      by_cases hc : c = 0
      · rw [if_pos hc, w2, cmp_Or_int.l0, if_pos (by decide), if_pos (by decide), hl, if_pos (by decide), r3]
        by_cases hd : d = 0
        · rw [if_pos hd, w3, cmp_Or_int.l0, if_neg (by decide)]
          simp [or4, ha, hb, hc, hd]
        · rw [if_neg hd]
          simp [or4, ha, hb, hc]
      · rw [if_neg hc]
        simp [or4, ha, hb, hc]
    · rw [if_neg hb]
      simp [or4, ha, hb]
  · rw [if_neg ha]
    simp [or4, ha]
def cmpV (a b : S23) : Int := or4 (sgn a.f0 b.f0) (sgn a.f1 b.f1) (sgn a.f2 b.f2) (sgn a.f3 b.f3)
theorem compare_ev (a b : S23) : Ev (fun k => prio_Compare.f k a.f0 a.f1 a.f2 a.f3 b.f0 b.f1 b.f2 b.f3) (cmpV a b) := by
  refine Ev.of (fun k => prio_Compare.mono _ _ _ _ _ _ _ _ k) (k := 5) ?_
  unfold prio_Compare.f
  simp only [cmp_sgn, Option.bind_some]
  rw [or_four _ _ _ _ 0]
  rfl
def bet (a b : S23) : Bool := decide (a.f0 < b.f0 ∨ a.f0 = b.f0 ∧ (a.f1 < b.f1 ∨ a.f1 = b.f1 ∧ (a.f2 < b.f2 ∨ a.f2 = b.f2 ∧ a.f3 < b.f3)))
theorem cmpV_neg (a b : S23) : decide (cmpV a b < 0) = bet a b := by
  unfold cmpV or4 sgn bet
  rw [decide_eq_decide]
  repeat' split
  all_goals omega
theorem better_ev (a b : S23) : Ev (fun k => prio_Better.f k a.f0 a.f1 a.f2 a.f3 b.f0 b.f1 b.f2 b.f3) (bet a b) := by
  unfold prio_Better.f
  refine Ev.bind (compare_ev a b) ?_
  rw [cmpV_neg]
  exact Ev.now _
def sumc (a b : Int) : Int := if mx a 0 + mx b 0 > 9223372036854775807 then 9223372036854775807 else mx a 0 + mx b 0
theorem sum_prog {a b : Int} (ha : Fit a) (hb : Fit b) : cost_Sum.f a b = some (sumc a b) := by
  unfold cost_Sum.f sumc
  unfold Fit at ha hb
  unfold mx wrap64
  repeat' split
  all_goals first | rfl | omega | (congr 1; omega)
def brid (a : Int) : Bool := decide (0 < a ∧ a / 281474976710656 ≤ 15 ∧ a % 281474976710656 / 1099511627776 % 2 ≠ 1)
theorem wraps_i64 (n : Int) (h₀ : 0 ≤ n) (h₁ : n < 2 ^ 63) : IntKind.i64.wrap n = n := by
  rw [IntKind.wrap_i64]
  have : (2 : Int) ^ 63 = 9223372036854775808 := by decide
  omega
theorem bridge_prog {a : Int} (ha : Fit a) : bpdu_Bridge.f a = some (brid a) := by
  unfold Fit at ha
  unfold bpdu_Bridge.f brid
  have e63 : (2 : Int) ^ 63 = 9223372036854775808 := by decide
  by_cases h0 : a > 0
  · rw [if_pos h0]
    by_cases h1 : a / 281474976710656 ≤ 15
    · rw [if_pos h1]
      have hm : Go.bits .and .i64 a 281474976710655 = a % 281474976710656 := by
        have := bits_mask .i64 63 (by decide) wraps_i64 48 (by decide) a (by omega) (by omega)
        have e1 : ((2 : Int) ^ 48 - 1) = 281474976710655 := by decide
        have e2 : ((2 : Int) ^ 48) = 281474976710656 := by decide
        rw [e1, e2] at this
        exact this
      rw [hm]
      unfold addr_Many.f addr_Good.f
      have g1 : a % 281474976710656 ≥ 0 := by omega
      have g2 : decide (a % 281474976710656 ≤ 281474976710655) = true := decide_eq_true (by omega)
      rw [if_pos g1, g2]
      simp only [Option.bind_some, if_true]
      have hb : Go.bits .and .i64 (a % 281474976710656 / 1099511627776) 1 = a % 281474976710656 / 1099511627776 % 2 := by
        have := bits_mask .i64 63 (by decide) wraps_i64 1 (by decide) (a % 281474976710656 / 1099511627776) (by omega) (by omega)
        exact this
      rw [hb]
      congr 1
      rw [Bool.eq_iff_iff]
      simp
      omega
    · rw [if_neg h1]
      congr 1
      symm
      exact decide_eq_false (by omega)
  · rw [if_neg h0]
    congr 1
    symm
    exact decide_eq_false (by omega)
def takes (h : S45) (id : Int) : Bool := decide (h.f3 = false ∧ 0 ≤ h.f1 ∧ h.f1 < 10 ∧ brid h.f0.f0 = true ∧ h.f0.f2 ≠ id)
theorem takes_prog (h : S45) (id : Int) (hr : Fit h.f0.f0) : prio_takes.f h.f0.f0 h.f0.f1 h.f0.f2 h.f0.f3 h.f1 h.f2 h.f3 id = some (takes h id) := by
  unfold prio_takes.f takes
  rw [bridge_prog hr]
  cases h.f3 with
  | true => simp
  | false =>
    simp only [Bool.false_eq_true, if_false, Option.bind_some]
    by_cases h1 : h.f1 ≥ 0
    · rw [if_pos h1]
      by_cases h2 : h.f1 < 10
      · rw [if_pos h2]
        cases brid h.f0.f0 with
        | false => simp
        | true => simp only [if_true]; congr 1; rw [Bool.eq_iff_iff]; simp; omega
      · rw [if_neg h2]; congr 1; symm; exact decide_eq_false (by omega)
    · rw [if_neg h1]; congr 1; symm; exact decide_eq_false (by omega)
def conv (h : S45) : S73 := ⟨⟨h.f0.f0, h.f0.f1, h.f0.f2, h.f0.f3⟩, h.f1, h.f2, h.f3⟩
def thr (h : S45) : S23 := ⟨h.f0.f0, sumc h.f0.f1 h.f2, h.f0.f2, h.f0.f3⟩
def FitH (h : S45) : Prop := Fit h.f0.f0 ∧ Fit h.f0.f1 ∧ Fit h.f2
def step (id : Int) (j : Nat) (h : S45) (acc : S23 × Int) : S23 × Int := if takes h id = true ∧ h.f0.f0 < id ∧ bet (thr h) acc.1 = true then (thr h, (j : Int)) else acc
def best (id : Int) : Nat → List S45 → S23 × Int → S23 × Int
  | _, [], acc => acc
  | j, h :: t, acc => best id (j + 1) t (step id j h acc)
def own (id : Int) : S23 := ⟨id, 0, id, 0⟩
def bestOf (id : Int) (l : List S45) : S23 × Int := best id 0 l (own id, -1)
def tup (a : S23 × Int) : Int × Int × Int × Int × Int := (a.1.f0, a.1.f1, a.1.f2, a.1.f3, a.2)
theorem wrap_up {i : Int} {n : Nat} (h0 : 0 ≤ i) (h : i < (n : Int)) (hn : n ≤ 9223372036854775000) : wrap64 (i + 1) = i + 1 := by
  unfold wrap64
  omega
theorem rd45 {l : List S45} {i : Nat} (h : i < l.length) : rd_T45 l i = l[i] := by
  unfold rd_T45
  rw [Int.toNat_natCast, List.getD_eq_getElem?_getD, List.getElem?_eq_getElem h]; rfl
theorem best_loop (id : Int) (l : List S45) (hn : l.length ≤ 9223372036854775000) (hf : ∀ h ∈ l, FitH h) (d : Nat) : ∀ (i : Nat) (acc : S23 × Int), i + d = l.length →
    Ev (fun k => prio_Best.l0 k id acc.2 l l.length i acc.1.f0 acc.1.f1 acc.1.f2 acc.1.f3) (tup (best id i (l.drop i) acc)) := by
  induction d with
  | zero =>
    intro i acc hi
    rw [List.drop_of_length_le (by omega)]
    exact Ev.step (fun k => by rw [prio_Best.l0, if_neg (by omega)]; rfl) (Ev.now (tup acc))
  | succ d ih =>
    intro i acc hi
    have hlt : i < l.length := by omega
    obtain ⟨f0, f1, f2⟩ := hf l[i] (List.getElem_mem hlt)
    rw [List.drop_eq_getElem_cons hlt]
    simp only [best]
    have hs : ∀ k, prio_Best.l0 (k + 1) id acc.2 l l.length i acc.1.f0 acc.1.f1 acc.1.f2 acc.1.f3 =
        (if takes l[i] id = true then (if l[i].f0.f0 < id then ((prio_Better.f k (thr l[i]).f0 (thr l[i]).f1 (thr l[i]).f2 (thr l[i]).f3 acc.1.f0 acc.1.f1 acc.1.f2 acc.1.f3).bind fun t => if t = true then prio_Best.l0 k id i l l.length ((i + 1 : Nat) : Int) (thr l[i]).f0 (thr l[i]).f1 (thr l[i]).f2 (thr l[i]).f3 else prio_Best.l0 k id acc.2 l l.length ((i + 1 : Nat) : Int) acc.1.f0 acc.1.f1 acc.1.f2 acc.1.f3) else prio_Best.l0 k id acc.2 l l.length ((i + 1 : Nat) : Int) acc.1.f0 acc.1.f1 acc.1.f2 acc.1.f3) else prio_Best.l0 k id acc.2 l l.length ((i + 1 : Nat) : Int) acc.1.f0 acc.1.f1 acc.1.f2 acc.1.f3) := by
      intro k
      rw [prio_Best.l0, if_pos (by omega), if_pos (by omega), if_pos (by omega), rd45 hlt, wrap_up (n := l.length) (by omega) (by omega) hn, takes_prog _ _ f0]
      unfold prio_Through.f
      rw [sum_prog f1 f2]
      rfl
    refine Ev.step hs ?_
    unfold step
    by_cases h1 : takes l[i] id = true
    · rw [h1]
      simp only [if_true, true_and]
      by_cases h2 : l[i].f0.f0 < id
      · simp only [if_pos h2]
        refine Ev.bind (better_ev (thr l[i]) acc.1) ?_
        by_cases h3 : bet (thr l[i]) acc.1 = true
        · rw [h3]
          simp only [if_true]
          rw [if_pos ⟨h2, trivial⟩]
          exact ih (i + 1) (thr l[i], (i : Int)) (by omega)
        · rw [if_neg (by simp [h3])]
          simp only [h3, Bool.false_eq_true, if_false]
          exact ih (i + 1) acc (by omega)
      · simp only [if_neg h2]
        rw [if_neg (by simp [h2])]
        exact ih (i + 1) acc (by omega)
    · rw [if_neg (by simp [h1])]
      simp only [h1, Bool.false_eq_true, if_false]
      exact ih (i + 1) acc (by omega)
theorem best_prog (id : Int) (l : List S45) (hn : l.length ≤ 9223372036854775000) (hf : ∀ h ∈ l, FitH h) : Ev (fun k => prio_Best.f k id l) (tup (bestOf id l)) := by
  have := best_loop id l hn hf l.length 0 (own id, -1) (by omega)
  rw [List.drop_zero] at this
  exact this
theorem plain_loop (l : List S45) (hl : l.length * 56 ≤ 140737488351232) (d : Nat) : ∀ (i : Nat), i + d = l.length →
    Ev (fun k => kissgatelaw10_plain.l0 k ((l.take i).map conv) l l.length i) (l.map conv) := by
  induction d with
  | zero =>
    intro i hi
    rw [List.take_of_length_le (by omega)]
    exact Ev.step (fun k => by rw [kissgatelaw10_plain.l0, if_neg (by omega)]) (Ev.now _)
  | succ d ih =>
    intro i hi
    have hlt : i < l.length := by omega
    refine Ev.step (fun k => ?_) (ih (i + 1) (by omega))
    rw [kissgatelaw10_plain.l0, if_pos (by omega), if_pos (by omega), if_pos (by omega), rd45 hlt, if_pos (by simp; omega), wrap_up (n := l.length) (by omega) (by omega) (by omega), List.take_succ_eq_append_getElem hlt, List.map_append]
    rfl
theorem plain (l : List S45) (hl : l.length * 56 ≤ 140737488351232) : Ev (fun k => kissgatelaw10_plain.f k l) (l.map conv) := plain_loop l hl l.length 0 (by omega)
theorem alive : Ev (fun k => kissgatelaw10_alive.f k) true := Ev.of kissgatelaw10_alive.mono (k := 20) (by decide +kernel)
def offer (v : S23) (id port : Int) : S23 := ⟨v.f0, v.f1, id, port⟩
def role (id : Int) (b : S23 × Int) (i : Nat) (h : S45) : Int := if (i : Int) = b.2 then 1 else if takes h id = true ∧ bet (offer b.1 id i) h.f0 = false then 3 else 2
def rolesFrom (id : Int) (b : S23 × Int) : Nat → List S45 → List Int
  | _, [] => []
  | i, h :: t => role id b i h :: rolesFrom id b (i + 1) t
theorem roles_loop (id : Int) (l : List S45) (b : S23 × Int) (hn : l.length * 56 ≤ 140737488351232) (hf : ∀ h ∈ l, FitH h) (d : Nat) : ∀ (i : Nat) (out : List Int), i + d = l.length → out.length = i →
    Ev (fun k => prio_Roles.l0 k id b.2 out l l.length i b.1.f0 b.1.f1 b.1.f2 b.1.f3) (out ++ rolesFrom id b i (l.drop i), b.1.f0, b.1.f1, b.1.f2, b.1.f3, b.2) := by
  induction d with
  | zero =>
    intro i out hi ho
    rw [List.drop_of_length_le (by omega)]
    simp only [rolesFrom, List.append_nil]
    exact Ev.step (fun k => by rw [prio_Roles.l0, if_neg (by omega)]) (Ev.now _)
  | succ d ih =>
    intro i out hi ho
    have hlt : i < l.length := by omega
    obtain ⟨f0, f1, f2⟩ := hf l[i] (List.getElem_mem hlt)
    rw [List.drop_eq_getElem_cons hlt]
    simp only [rolesFrom]
    have hi1 := ih (i + 1) (out ++ [role id b i l[i]]) (by omega) (by simp [ho])
    rw [List.append_assoc, List.singleton_append] at hi1
    have hcast : ((i + 1 : Nat) : Int) = (i : Int) + 1 := by omega
    by_cases h0 : (i : Int) = b.2
    · have hr : role id b i l[i] = 1 := by unfold role; rw [if_pos h0]
      rw [hr] at hi1 ⊢
      exact Ev.step (fun k => by rw [prio_Roles.l0, if_pos (by omega), if_pos (by omega), if_pos (by omega), if_pos h0, if_pos (by omega), wrap_up (i := (i : Int)) (n := l.length) (by omega) (by omega) (by omega), ← hcast]) hi1
    · by_cases h1 : takes l[i] id = true
      · have hs : ∀ k, prio_Roles.l0 (k + 1) id b.2 out l l.length i b.1.f0 b.1.f1 b.1.f2 b.1.f3 = (prio_Better.f k (offer b.1 id i).f0 (offer b.1 id i).f1 (offer b.1 id i).f2 (offer b.1 id i).f3 l[i].f0.f0 l[i].f0.f1 l[i].f0.f2 l[i].f0.f3).bind fun t => if t = true then prio_Roles.l0 k id b.2 (out ++ [2]) l l.length ((i + 1 : Nat) : Int) b.1.f0 b.1.f1 b.1.f2 b.1.f3 else prio_Roles.l0 k id b.2 (out ++ [3]) l l.length ((i + 1 : Nat) : Int) b.1.f0 b.1.f1 b.1.f2 b.1.f3 := by
          intro k
          rw [prio_Roles.l0, if_pos (by omega), if_pos (by omega), if_pos (by omega), if_neg h0, rd45 hlt, takes_prog _ _ f0, h1, Option.bind_some, if_pos rfl, wrap_up (i := (i : Int)) (n := l.length) (by omega) (by omega) (by omega), if_pos (show out.length < 17592186044416 by omega), if_pos (show out.length < 17592186044416 by omega)]
          rfl
        refine Ev.step hs ?_
        refine Ev.bind (better_ev (offer b.1 id i) l[i].f0) ?_
        cases h2 : bet (offer b.1 id i) l[i].f0 with
        | true =>
          have hr : role id b i l[i] = 2 := by unfold role; rw [if_neg h0, if_neg (by simp [h2])]
          rw [hr] at hi1 ⊢
          simp only [if_true]
          exact hi1
        | false =>
          have hr : role id b i l[i] = 3 := by unfold role; rw [if_neg h0, if_pos ⟨h1, h2⟩]
          rw [hr] at hi1 ⊢
          simp only [Bool.false_eq_true, if_false]
          exact hi1
      · have hr : role id b i l[i] = 2 := by unfold role; rw [if_neg h0, if_neg (by simp [h1])]
        rw [hr] at hi1 ⊢
        have h1' : takes l[i] id = false := by simpa using h1
        exact Ev.step (fun k => by rw [prio_Roles.l0, if_pos (by omega), if_pos (by omega), if_pos (by omega), if_neg h0, rd45 hlt, takes_prog _ _ f0, h1', Option.bind_some, if_neg (by decide), if_pos (by omega), wrap_up (i := (i : Int)) (n := l.length) (by omega) (by omega) (by omega), ← hcast]) hi1
def roles (id : Int) (l : List S45) : List Int := rolesFrom id (bestOf id l) 0 l
theorem roles_prog (id : Int) (l : List S45) (hn : l.length * 56 ≤ 140737488351232) (hf : ∀ h ∈ l, FitH h) :
    Ev (fun k => prio_Roles.f k id l) (roles id l, (bestOf id l).1.f0, (bestOf id l).1.f1, (bestOf id l).1.f2, (bestOf id l).1.f3, (bestOf id l).2) := by
  unfold prio_Roles.f
  refine Ev.bind (best_prog id l (by omega) hf) ?_
  exact roles_loop id l (bestOf id l) hn hf l.length 0 [] (by omega) rfl
end Go.Proofs.Ytjhkbmdblfdlnaa.Pri
namespace Go.Proofs.Ytjhkbmdblfdlnaa.prioAlone
open Go.RowKit Go.Proofs.YtjhkbmdblfdlnaaW.PrintWords Go.Proofs.YtjhkbmdblfdlnaaW.PrintLast Go.Proofs.YtjhkbmdblfdlnaaW.PrintMore Go.Proofs.Ytjhkbmdblfdlnaa.QPrio Go.Proofs.Ytjhkbmdblfdlnaa.Pri
theorem fits {l : List S45} (h : ∀ a ∈ l, G45 a) : ∀ a ∈ l, FitH a := fun a ha => ⟨fit_of (h a ha).1.1, fit_of (h a ha).1.2.1, fit_of (h a ha).2.2.1⟩
def mute (h : S45) : S45 := ⟨⟨h.f0.f0, h.f0.f1, h.f0.f2, h.f0.f3⟩, h.f1, h.f2, true⟩
theorem mute_fit {l : List S45} (hf : ∀ h ∈ l, FitH h) : ∀ h ∈ l.map mute, FitH h := by
  intro h hh
  obtain ⟨q, hq, rfl⟩ := List.mem_map.1 hh
  exact hf q hq
theorem mute_takes (h : S45) (id : Int) : takes (mute h) id = false := by
  unfold takes mute
  exact decide_eq_false (by simp)
theorem best_own (id : Int) (l : List S45) : ∀ (j : Nat) (acc : S23 × Int), (∀ h ∈ l, takes h id = true → ¬ h.f0.f0 < id) → best id j l acc = acc := by
  induction l with
  | nil => intro j acc _; rfl
  | cons h t ih =>
    intro j acc hh
    simp only [best]
    have hs : Pri.step id j h acc = acc := by
      unfold Pri.step
      rw [if_neg]
      rintro ⟨h1, h2, _⟩
      exact hh h List.mem_cons_self h1 h2
    rw [hs]
    exact ih (j + 1) acc (fun q hq => hh q (List.mem_cons_of_mem _ hq))
theorem mute_best (id : Int) (l : List S45) : bestOf id (l.map mute) = (own id, -1) := by
  refine best_own id _ 0 _ (fun h hh ht => ?_)
  obtain ⟨q, _, rfl⟩ := List.mem_map.1 hh
  rw [mute_takes] at ht
  cases ht
theorem mute_roles (id : Int) (l : List S45) (b : S23 × Int) (hb : b.2 = -1) : ∀ i, rolesFrom id b i (l.map mute) = List.replicate l.length 2 := by
  induction l with
  | nil => intro i; rfl
  | cons h t ih =>
    intro i
    simp only [List.map_cons, rolesFrom, List.length_cons, List.replicate_succ]
    rw [ih (i + 1)]
    have : role id b i (mute h) = 2 := by
      unfold role
      rw [if_neg (by omega), if_neg (by simp [mute_takes])]
    rw [this]
theorem roles_mute (id : Int) (l : List S45) : roles id (l.map mute) = List.replicate l.length 2 := by
  unfold roles
  rw [mute_best]
  exact mute_roles id l _ rfl 0
def least (id : Int) (l : List S45) : Bool := l.all fun h => decide (h.f0.f0 ≥ id)
theorem fin (id : Int) (l : List S45) (hn : l.length ≤ 20) (hf : ∀ h ∈ l, FitH h) : Ev (fun k => kissgatelaw10_PrioAlone.j2 k id l (least id l) false) true := by
  refine Ev.step (fun k => by rw [kissgatelaw10_PrioAlone.j2, if_neg (by decide)]) ?_
  refine Ev.bind (best_prog id l (by omega) hf) ?_
  cases hl : least id l with
  | false => simp only [Bool.false_eq_true, if_false]; exact Ev.now _
  | true =>
    have hb : bestOf id l = (own id, -1) := by
      refine best_own id l 0 _ (fun h hh _ => ?_)
      have := List.all_eq_true.1 hl h hh
      have := of_decide_eq_true this
      omega
    rw [hb]
    simp only [if_true, prio_Own.f, Option.bind_some, tup, own, beq_self_eq_true, Bool.and_self]
    exact Ev.now _
theorem loop1 (id : Int) (l : List S45) (hn : l.length ≤ 20) (hf : ∀ h ∈ l, FitH h) (d : Nat) : ∀ i : Nat, i + d = l.length →
    Ev (fun k => kissgatelaw10_PrioAlone.l1 k id l (least id l) (List.replicate l.length 2) (-1) (List.replicate l.length 2) l.length i id 0 id 0) true := by
  have hr : (List.replicate l.length (2 : Int)).length = l.length := List.length_replicate
  induction d with
  | zero =>
    intro i hi
    refine Ev.step (fun k => by rw [kissgatelaw10_PrioAlone.l1, if_neg (by omega), prio_Own.f, Option.bind_some, beq_self_eq_true, beq_self_eq_true, hr, bne_self_eq_false]) ?_
    exact fin id l hn hf
  | succ d ih =>
    intro i hi
    have hw : wrap64 ((i : Int) + 1) = ((i + 1 : Nat) : Int) := by unfold wrap64; omega
    have h2 : rd (List.replicate l.length (2 : Int)) i = 2 := by
      unfold rd
      rw [Int.toNat_natCast, List.getD_eq_getElem?_getD, List.getElem?_eq_getElem (by omega), List.getElem_replicate]; rfl
    refine Ev.step (fun k => ?_) (ih (i + 1) (by omega))
    rw [kissgatelaw10_PrioAlone.l1, if_pos (by omega), if_pos (by omega), if_pos (by omega), if_pos h2, hw]
theorem loop0 (id : Int) (l : List S45) (hb : l.length * 56 ≤ 140737488351232) (hn : l.length ≤ 20) (hf : ∀ h ∈ l, FitH h) (d : Nat) : ∀ (i : Nat) (g : Bool), i + d = l.length → (g && (l.drop i).all fun h => decide (h.f0.f0 ≥ id)) = least id l →
    Ev (fun k => kissgatelaw10_PrioAlone.l0 k id l ((l.take i).map mute) g l l.length i) true := by
  induction d with
  | zero =>
    intro i g hi hg
    rw [List.drop_of_length_le (by omega), List.all_nil, Bool.and_true] at hg
    rw [List.take_of_length_le (by omega)]
    have hrp := roles_prog id (l.map mute) (by rw [List.length_map]; exact hb) (mute_fit hf)
    rw [roles_mute, mute_best] at hrp
    refine Ev.step (fun k => by rw [kissgatelaw10_PrioAlone.l0, if_neg (by omega)]) ?_
    refine Ev.bind hrp ?_
    have := loop1 id l hn hf l.length 0 (by omega)
    rw [hg]
    simp only [List.length_replicate]
    exact this
  | succ d ih =>
    intro i g hi hg
    have hlt : i < l.length := by omega
    have hw : wrap64 ((i : Int) + 1) = ((i + 1 : Nat) : Int) := by unfold wrap64; omega
    rw [List.drop_eq_getElem_cons hlt, List.all_cons, ← Bool.and_assoc] at hg
    have hi1 := ih (i + 1) _ (by omega) hg
    rw [List.take_succ_eq_append_getElem hlt, List.map_append] at hi1
    have hs : ∀ k, kissgatelaw10_PrioAlone.l0 (k + 1) id l ((l.take i).map mute) g l l.length i = if g = true then kissgatelaw10_PrioAlone.l0 k id l ((l.take i).map mute ++ [mute l[i]]) (decide (l[i].f0.f0 ≥ id)) l l.length ((i + 1 : Nat) : Int) else kissgatelaw10_PrioAlone.l0 k id l ((l.take i).map mute ++ [mute l[i]]) false l l.length ((i + 1 : Nat) : Int) := by
      intro k
      rw [kissgatelaw10_PrioAlone.l0, if_pos (by omega), if_pos (by omega), if_pos (by omega), rd45 hlt, if_pos (by simp; omega), Option.bind_some, hw]
      rfl
    refine Ev.step hs ?_
    cases g with
    | false => simp only [Bool.false_eq_true, if_false]; rw [Bool.false_and] at hi1; exact hi1
    | true => simp only [if_true]; rw [Bool.true_and] at hi1; exact hi1
theorem pure : Pure := by
  intro id l hid hl
  obtain ⟨hm, hb, hg⟩ := hl
  refine Ev.rounds ?_
  unfold kissgatelaw10_PrioAlone.f
  refine Ev.bind alive ?_
  simp only [if_true]
  by_cases h20 : (l.length : Int) > 20
  · simp only [if_pos h20]
    exact Ev.now _
  · simp only [if_neg h20]
    exact loop0 id l hb (by omega) (fits hg) l.length 0 true (by omega) rfl
end Go.Proofs.Ytjhkbmdblfdlnaa.prioAlone
