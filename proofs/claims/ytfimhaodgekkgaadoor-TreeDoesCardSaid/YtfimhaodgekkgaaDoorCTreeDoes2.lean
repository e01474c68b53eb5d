/- Functions of the program as plain Lean functions, what their calls do, and what follows of it. Conditions: each theorem's own. -/
import Derived.Test.YtfimhaodgekkgaaDoorCTreeDoes1
namespace Go.Proofs.YtfimhaodgekkgaaDoor.QTre
open Go.RowKit Go.Proofs.YtfimhaodgekkgaaDoorW.PrintWords Go.Proofs.YtfimhaodgekkgaaDoorW.PrintLast Go.Proofs.YtfimhaodgekkgaaDoorW.PrintMore
attribute [local go_sem] max2_int min2_int max_two min_two max_three min_three max_four min_four
set_option linter.unusedVariables false
set_option linter.unusedSimpArgs false
def kissgatelaw12_great.l0 : Nat → List (S40) → List (S40) → Int → Int → Option (Bool)
  | 0, _, _, _, _ => none
  | k + 1, x0, x5, x6, x7 => if x7 < x6 then (if 0 ≤ x7 then (if x7 < (x5.length : Int) then (if ((rd_T40 x5 x7).f5) < 0 then (some true) else (if ((rd_T40 x5 x7).f5) > 1000 then (some true) else (kissgatelaw12_great.l0 k x0 x5 x6 (wrap64 (x7 + 1))))) else (none)) else (none)) else (some (decide ((x0.length : Int) > 100)))
def kissgatelaw12_great.f (k : Nat) (l0 : List (S40)) : Option (Bool) := kissgatelaw12_great.l0 k l0 l0 (l0.length : Int) 0
set_option maxHeartbeats 8000000 in
set_option maxRecDepth 100000 in
theorem kissgatelaw12_great.calls (k : Nat) (A0 : Option Addr) (c0 : Nat) (l0 : List (S40)) (r : Bool) (w : World) (hr0 : Kd.C k40 w A0 l0.length l0) (hc0 : l0.length ≤ c0) (h : kissgatelaw12_great.f k l0 = some r) :
    Calls Tryd.prog 12 #[.slice A0 l0.length c0] w fun e w' => e = .returned (.bool r) ∧ Below w.heap.size w w' := by
  have hu40 := Tryd.underlying40
  have HR0 := Aside0.mk hr0
  have HC0 := Aside0.mk hc0
  clear hr0 hc0
  have HB := Aside0.mk (Below.refl w.heap.size w)
  have H : (kissgatelaw12_great.l0 k l0 l0 (l0.length : Int) 0) = some r := h
  clear h
  have H' := Aside0.mk H
  clear H
  go_enter Tryd.func12, Tryd.ntmps12
  go_wp2
  go_loopg [7] k (fun kq v7 w' => ∃ (x7_1 : Int), v7 = .int .i64 x7_1 ∧ Aside0 (kissgatelaw12_great.l0 kq l0 l0 (l0.length : Int) x7_1 = some r) ∧ Aside0 (kq ≤ k) ∧ Aside0 (Below w.heap.size w w'))
  case atStart => exact ⟨(0), (by first | rfl | (simp; done) | (simp [*]; done)), H', ⟨Nat.le_refl _⟩, ⟨by repeat (first | (with_reducible first | exact HB.out | apply below_alloc | apply pw_below_drewN | apply below_drew1) | exact HB.out)⟩⟩
  case round =>
    clear H'
    try clear c1
    obtain ⟨x7_1, rfl, HA, HK1, HB⟩ := hrel
    cases gk with
    | zero => exact absurd HA.out (by simp [kissgatelaw12_great.l0])
    | succ k1 =>
      have H := HA.out
      clear HA
      simp only [kissgatelaw12_great.l0] at H
      by_cases c2 : x7_1 < (l0.length : Int)
      · rw [if_pos c2] at H
        have c2b0 : decide (x7_1 < (l0.length : Int)) = true := decide_eq_true c2
        clear c2
        by_cases c3 : 0 ≤ x7_1
        · rw [if_pos c3] at H
          have c3b0 : decide (0 ≤ x7_1) = true := decide_eq_true c3
          clear c3
          by_cases c4 : x7_1 < (l0.length : Int)
          · rw [if_pos c4] at H
            have c4b0 : decide (x7_1 < (l0.length : Int)) = true := decide_eq_true c4
            clear c4
            by_cases c5 : ((rd_T40 l0 x7_1).f5) < 0
            · rw [if_pos c5] at H
              have c5b0 : decide (((rd_T40 l0 x7_1).f5) < 0) = true := decide_eq_true c5
              clear c5
              obtain rfl := Option.some.inj H
              have p253 : 0 ≤ (x7_1 : Int) := of_decide_eq_true (by first | (with_reducible assumption) | assumption)
              have q253 : x7_1 < (l0.length : Int) := of_decide_eq_true (by first | (with_reducible assumption) | assumption)
              obtain ⟨ad253, e253, hx253_0, hx253_1, hx253_2, hx253_3, hx253_4, hx253_5, hx253_6, hx253_7, hx253_8, hx253_9, hx253_10, hx253_11⟩ := at_T40 HR0.out x7_1 p253 q253
              cases e253
              replace hx253_0 := (HB.out.cell (World.block_lt_of_cell? w _ hx253_0)).trans hx253_0
              replace hx253_1 := (HB.out.cell (World.block_lt_of_cell? w _ hx253_1)).trans hx253_1
              replace hx253_2 := (HB.out.cell (World.block_lt_of_cell? w _ hx253_2)).trans hx253_2
              replace hx253_3 := (HB.out.cell (World.block_lt_of_cell? w _ hx253_3)).trans hx253_3
              replace hx253_4 := (HB.out.cell (World.block_lt_of_cell? w _ hx253_4)).trans hx253_4
              replace hx253_5 := (HB.out.cell (World.block_lt_of_cell? w _ hx253_5)).trans hx253_5
              replace hx253_6 := (HB.out.cell (World.block_lt_of_cell? w _ hx253_6)).trans hx253_6
              replace hx253_7 := (HB.out.cell (World.block_lt_of_cell? w _ hx253_7)).trans hx253_7
              replace hx253_8 := (HB.out.cell (World.block_lt_of_cell? w _ hx253_8)).trans hx253_8
              replace hx253_9 := (HB.out.cell (World.block_lt_of_cell? w _ hx253_9)).trans hx253_9
              replace hx253_10 := (HB.out.cell (World.block_lt_of_cell? w _ hx253_10)).trans hx253_10
              replace hx253_11 := (HB.out.cell (World.block_lt_of_cell? w _ hx253_11)).trans hx253_11
              replace p253 := eq_true p253
              replace q253 := eq_true q253
              go_wp2_with (first | ((with_reducible refine gate_dst (N := 4) rfl ?_); refine box_event ?hg (N := 4) ?hd (cs := #[.int .i64 0, .int .i64 0, .bool false, .int .i64 0, .int .i64 0, .int .i64 0, .int .i64 0, .int .i64 0, .int .i64 0, .int .i64 0, .bool false, .int .i64 0]) (t := 40) ?hr ?_; (case hd => rfl); (case hg => rfl); (case hr => first | (go_simp; done) | (go_simp; rfl)); intro gb254 hg w6 hbox hb; have n0_ := Aside0.mk (below_step (by repeat (first | (with_reducible first | exact HB.out | apply below_alloc | apply pw_below_drewN | apply below_drew1) | exact HB.out)) hb); have n1_ := Aside0.mk (hbox); have n2_ := Aside0.mk ((by rw [hg]; exact (below_size (by repeat (first | (with_reducible first | exact HB.out | apply below_alloc | apply pw_below_drewN | apply below_drew1) | exact HB.out))) : w.heap.size ≤ gb254)); have n3_ := Aside0.mk ((by rw [hg]; exact (below_size (by repeat (first | (with_reducible first | exact HB.out | apply below_alloc | apply pw_below_drewN | apply below_drew1) | exact HB.out))) : w.heap.size ≤ gb254)); clear HB; have HB := n0_; have BK254 := n1_; have GW254 := n2_; have GE254 := n3_; clear n0_ n1_ n2_ n3_; clear hb hbox hg; have hcz7_0 : w6.cell? ⟨gb254, 0, none⟩ = some (.int .i64 0) := (blk_cell BK254.out 0).trans rfl; have hcz7_1 : w6.cell? ⟨gb254, 1, none⟩ = some (.int .i64 0) := (blk_cell BK254.out 1).trans rfl; have hcz7_2 : w6.cell? ⟨gb254, 2, none⟩ = some (.bool false) := (blk_cell BK254.out 2).trans rfl; have hcz7_3 : w6.cell? ⟨gb254, 3, none⟩ = some (.int .i64 0) := (blk_cell BK254.out 3).trans rfl; have hcz7_4 : w6.cell? ⟨gb254, 4, none⟩ = some (.int .i64 0) := (blk_cell BK254.out 4).trans rfl; have hcz7_5 : w6.cell? ⟨gb254, 5, none⟩ = some (.int .i64 0) := (blk_cell BK254.out 5).trans rfl; have hcz7_6 : w6.cell? ⟨gb254, 6, none⟩ = some (.int .i64 0) := (blk_cell BK254.out 6).trans rfl; have hcz7_7 : w6.cell? ⟨gb254, 7, none⟩ = some (.int .i64 0) := (blk_cell BK254.out 7).trans rfl; have hcz7_8 : w6.cell? ⟨gb254, 8, none⟩ = some (.int .i64 0) := (blk_cell BK254.out 8).trans rfl; have hcz7_9 : w6.cell? ⟨gb254, 9, none⟩ = some (.int .i64 0) := (blk_cell BK254.out 9).trans rfl; have hcz7_10 : w6.cell? ⟨gb254, 10, none⟩ = some (.bool false) := (blk_cell BK254.out 10).trans rfl; have hcz7_11 : w6.cell? ⟨gb254, 11, none⟩ = some (.int .i64 0) := (blk_cell BK254.out 11).trans rfl; have hfz7_0 := blk_frozen BK254.out 0; have hfz7_1 := blk_frozen BK254.out 1; have hfz7_2 := blk_frozen BK254.out 2; have hfz7_3 := blk_frozen BK254.out 3; have hfz7_4 := blk_frozen BK254.out 4; have hfz7_5 := blk_frozen BK254.out 5; have hfz7_6 := blk_frozen BK254.out 6; have hfz7_7 := blk_frozen BK254.out 7; have hfz7_8 := blk_frozen BK254.out 8; have hfz7_9 := blk_frozen BK254.out 9; have hfz7_10 := blk_frozen BK254.out 10; have hfz7_11 := blk_frozen BK254.out 11))
              go_ret
              exact ⟨by first | rfl | (simp [errW_none, errW_some] <;> rfl) | (simp [*, errW_none, errW_some] <;> rfl), by repeat (first | (with_reducible first | exact HB.out | apply below_alloc | apply pw_below_drewN | apply below_drew1 | refine below_set ?_ GE254.out) | exact HB.out)⟩
            · rw [if_neg c5] at H
              have c5b0 : decide (((rd_T40 l0 x7_1).f5) < 0) = false := decide_eq_false c5
              clear c5
              by_cases c8 : ((rd_T40 l0 x7_1).f5) > 1000
              · rw [if_pos c8] at H
                have c8b0 : decide (1000 < ((rd_T40 l0 x7_1).f5)) = true := decide_eq_true c8
                clear c8
                obtain rfl := Option.some.inj H
                have p253 : 0 ≤ (x7_1 : Int) := of_decide_eq_true (by first | (with_reducible assumption) | assumption)
                have q253 : x7_1 < (l0.length : Int) := of_decide_eq_true (by first | (with_reducible assumption) | assumption)
                obtain ⟨ad253, e253, hx253_0, hx253_1, hx253_2, hx253_3, hx253_4, hx253_5, hx253_6, hx253_7, hx253_8, hx253_9, hx253_10, hx253_11⟩ := at_T40 HR0.out x7_1 p253 q253
                cases e253
                replace hx253_0 := (HB.out.cell (World.block_lt_of_cell? w _ hx253_0)).trans hx253_0
                replace hx253_1 := (HB.out.cell (World.block_lt_of_cell? w _ hx253_1)).trans hx253_1
                replace hx253_2 := (HB.out.cell (World.block_lt_of_cell? w _ hx253_2)).trans hx253_2
                replace hx253_3 := (HB.out.cell (World.block_lt_of_cell? w _ hx253_3)).trans hx253_3
                replace hx253_4 := (HB.out.cell (World.block_lt_of_cell? w _ hx253_4)).trans hx253_4
                replace hx253_5 := (HB.out.cell (World.block_lt_of_cell? w _ hx253_5)).trans hx253_5
                replace hx253_6 := (HB.out.cell (World.block_lt_of_cell? w _ hx253_6)).trans hx253_6
                replace hx253_7 := (HB.out.cell (World.block_lt_of_cell? w _ hx253_7)).trans hx253_7
                replace hx253_8 := (HB.out.cell (World.block_lt_of_cell? w _ hx253_8)).trans hx253_8
                replace hx253_9 := (HB.out.cell (World.block_lt_of_cell? w _ hx253_9)).trans hx253_9
                replace hx253_10 := (HB.out.cell (World.block_lt_of_cell? w _ hx253_10)).trans hx253_10
                replace hx253_11 := (HB.out.cell (World.block_lt_of_cell? w _ hx253_11)).trans hx253_11
                replace p253 := eq_true p253
                replace q253 := eq_true q253
                go_wp2_with (first | ((with_reducible refine gate_dst (N := 4) rfl ?_); refine box_event ?hg (N := 4) ?hd (cs := #[.int .i64 0, .int .i64 0, .bool false, .int .i64 0, .int .i64 0, .int .i64 0, .int .i64 0, .int .i64 0, .int .i64 0, .int .i64 0, .bool false, .int .i64 0]) (t := 40) ?hr ?_; (case hd => rfl); (case hg => rfl); (case hr => first | (go_simp; done) | (go_simp; rfl)); intro gb254 hg w9 hbox hb; have n0_ := Aside0.mk (below_step (by repeat (first | (with_reducible first | exact HB.out | apply below_alloc | apply pw_below_drewN | apply below_drew1) | exact HB.out)) hb); have n1_ := Aside0.mk (hbox); have n2_ := Aside0.mk ((by rw [hg]; exact (below_size (by repeat (first | (with_reducible first | exact HB.out | apply below_alloc | apply pw_below_drewN | apply below_drew1) | exact HB.out))) : w.heap.size ≤ gb254)); have n3_ := Aside0.mk ((by rw [hg]; exact (below_size (by repeat (first | (with_reducible first | exact HB.out | apply below_alloc | apply pw_below_drewN | apply below_drew1) | exact HB.out))) : w.heap.size ≤ gb254)); clear HB; have HB := n0_; have BK254 := n1_; have GW254 := n2_; have GE254 := n3_; clear n0_ n1_ n2_ n3_; clear hb hbox hg; have hcz10_0 : w9.cell? ⟨gb254, 0, none⟩ = some (.int .i64 0) := (blk_cell BK254.out 0).trans rfl; have hcz10_1 : w9.cell? ⟨gb254, 1, none⟩ = some (.int .i64 0) := (blk_cell BK254.out 1).trans rfl; have hcz10_2 : w9.cell? ⟨gb254, 2, none⟩ = some (.bool false) := (blk_cell BK254.out 2).trans rfl; have hcz10_3 : w9.cell? ⟨gb254, 3, none⟩ = some (.int .i64 0) := (blk_cell BK254.out 3).trans rfl; have hcz10_4 : w9.cell? ⟨gb254, 4, none⟩ = some (.int .i64 0) := (blk_cell BK254.out 4).trans rfl; have hcz10_5 : w9.cell? ⟨gb254, 5, none⟩ = some (.int .i64 0) := (blk_cell BK254.out 5).trans rfl; have hcz10_6 : w9.cell? ⟨gb254, 6, none⟩ = some (.int .i64 0) := (blk_cell BK254.out 6).trans rfl; have hcz10_7 : w9.cell? ⟨gb254, 7, none⟩ = some (.int .i64 0) := (blk_cell BK254.out 7).trans rfl; have hcz10_8 : w9.cell? ⟨gb254, 8, none⟩ = some (.int .i64 0) := (blk_cell BK254.out 8).trans rfl; have hcz10_9 : w9.cell? ⟨gb254, 9, none⟩ = some (.int .i64 0) := (blk_cell BK254.out 9).trans rfl; have hcz10_10 : w9.cell? ⟨gb254, 10, none⟩ = some (.bool false) := (blk_cell BK254.out 10).trans rfl; have hcz10_11 : w9.cell? ⟨gb254, 11, none⟩ = some (.int .i64 0) := (blk_cell BK254.out 11).trans rfl; have hfz10_0 := blk_frozen BK254.out 0; have hfz10_1 := blk_frozen BK254.out 1; have hfz10_2 := blk_frozen BK254.out 2; have hfz10_3 := blk_frozen BK254.out 3; have hfz10_4 := blk_frozen BK254.out 4; have hfz10_5 := blk_frozen BK254.out 5; have hfz10_6 := blk_frozen BK254.out 6; have hfz10_7 := blk_frozen BK254.out 7; have hfz10_8 := blk_frozen BK254.out 8; have hfz10_9 := blk_frozen BK254.out 9; have hfz10_10 := blk_frozen BK254.out 10; have hfz10_11 := blk_frozen BK254.out 11))
                go_ret
                exact ⟨by first | rfl | (simp [errW_none, errW_some] <;> rfl) | (simp [*, errW_none, errW_some] <;> rfl), by repeat (first | (with_reducible first | exact HB.out | apply below_alloc | apply pw_below_drewN | apply below_drew1 | refine below_set ?_ GE254.out) | exact HB.out)⟩
              · rw [if_neg c8] at H
                have c8b0 : decide (1000 < ((rd_T40 l0 x7_1).f5)) = false := decide_eq_false c8
                clear c8
                have H' := Aside0.mk H
                clear H
                have p253 : 0 ≤ (x7_1 : Int) := of_decide_eq_true (by first | (with_reducible assumption) | assumption)
                have q253 : x7_1 < (l0.length : Int) := of_decide_eq_true (by first | (with_reducible assumption) | assumption)
                obtain ⟨ad253, e253, hx253_0, hx253_1, hx253_2, hx253_3, hx253_4, hx253_5, hx253_6, hx253_7, hx253_8, hx253_9, hx253_10, hx253_11⟩ := at_T40 HR0.out x7_1 p253 q253
                cases e253
                replace hx253_0 := (HB.out.cell (World.block_lt_of_cell? w _ hx253_0)).trans hx253_0
                replace hx253_1 := (HB.out.cell (World.block_lt_of_cell? w _ hx253_1)).trans hx253_1
                replace hx253_2 := (HB.out.cell (World.block_lt_of_cell? w _ hx253_2)).trans hx253_2
                replace hx253_3 := (HB.out.cell (World.block_lt_of_cell? w _ hx253_3)).trans hx253_3
                replace hx253_4 := (HB.out.cell (World.block_lt_of_cell? w _ hx253_4)).trans hx253_4
                replace hx253_5 := (HB.out.cell (World.block_lt_of_cell? w _ hx253_5)).trans hx253_5
                replace hx253_6 := (HB.out.cell (World.block_lt_of_cell? w _ hx253_6)).trans hx253_6
                replace hx253_7 := (HB.out.cell (World.block_lt_of_cell? w _ hx253_7)).trans hx253_7
                replace hx253_8 := (HB.out.cell (World.block_lt_of_cell? w _ hx253_8)).trans hx253_8
                replace hx253_9 := (HB.out.cell (World.block_lt_of_cell? w _ hx253_9)).trans hx253_9
                replace hx253_10 := (HB.out.cell (World.block_lt_of_cell? w _ hx253_10)).trans hx253_10
                replace hx253_11 := (HB.out.cell (World.block_lt_of_cell? w _ hx253_11)).trans hx253_11
                replace p253 := eq_true p253
                replace q253 := eq_true q253
                go_wp2_with (first | ((with_reducible refine gate_dst (N := 4) rfl ?_); refine box_event ?hg (N := 4) ?hd (cs := #[.int .i64 0, .int .i64 0, .bool false, .int .i64 0, .int .i64 0, .int .i64 0, .int .i64 0, .int .i64 0, .int .i64 0, .int .i64 0, .bool false, .int .i64 0]) (t := 40) ?hr ?_; (case hd => rfl); (case hg => rfl); (case hr => first | (go_simp; done) | (go_simp; rfl)); intro gb254 hg w11 hbox hb; have n0_ := Aside0.mk (below_step (by repeat (first | (with_reducible first | exact HB.out | apply below_alloc | apply pw_below_drewN | apply below_drew1) | exact HB.out)) hb); have n1_ := Aside0.mk (hbox); have n2_ := Aside0.mk ((by rw [hg]; exact (below_size (by repeat (first | (with_reducible first | exact HB.out | apply below_alloc | apply pw_below_drewN | apply below_drew1) | exact HB.out))) : w.heap.size ≤ gb254)); have n3_ := Aside0.mk ((by rw [hg]; exact (below_size (by repeat (first | (with_reducible first | exact HB.out | apply below_alloc | apply pw_below_drewN | apply below_drew1) | exact HB.out))) : w.heap.size ≤ gb254)); clear HB; have HB := n0_; have BK254 := n1_; have GW254 := n2_; have GE254 := n3_; clear n0_ n1_ n2_ n3_; clear hb hbox hg; have hcz12_0 : w11.cell? ⟨gb254, 0, none⟩ = some (.int .i64 0) := (blk_cell BK254.out 0).trans rfl; have hcz12_1 : w11.cell? ⟨gb254, 1, none⟩ = some (.int .i64 0) := (blk_cell BK254.out 1).trans rfl; have hcz12_2 : w11.cell? ⟨gb254, 2, none⟩ = some (.bool false) := (blk_cell BK254.out 2).trans rfl; have hcz12_3 : w11.cell? ⟨gb254, 3, none⟩ = some (.int .i64 0) := (blk_cell BK254.out 3).trans rfl; have hcz12_4 : w11.cell? ⟨gb254, 4, none⟩ = some (.int .i64 0) := (blk_cell BK254.out 4).trans rfl; have hcz12_5 : w11.cell? ⟨gb254, 5, none⟩ = some (.int .i64 0) := (blk_cell BK254.out 5).trans rfl; have hcz12_6 : w11.cell? ⟨gb254, 6, none⟩ = some (.int .i64 0) := (blk_cell BK254.out 6).trans rfl; have hcz12_7 : w11.cell? ⟨gb254, 7, none⟩ = some (.int .i64 0) := (blk_cell BK254.out 7).trans rfl; have hcz12_8 : w11.cell? ⟨gb254, 8, none⟩ = some (.int .i64 0) := (blk_cell BK254.out 8).trans rfl; have hcz12_9 : w11.cell? ⟨gb254, 9, none⟩ = some (.int .i64 0) := (blk_cell BK254.out 9).trans rfl; have hcz12_10 : w11.cell? ⟨gb254, 10, none⟩ = some (.bool false) := (blk_cell BK254.out 10).trans rfl; have hcz12_11 : w11.cell? ⟨gb254, 11, none⟩ = some (.int .i64 0) := (blk_cell BK254.out 11).trans rfl; have hfz12_0 := blk_frozen BK254.out 0; have hfz12_1 := blk_frozen BK254.out 1; have hfz12_2 := blk_frozen BK254.out 2; have hfz12_3 := blk_frozen BK254.out 3; have hfz12_4 := blk_frozen BK254.out 4; have hfz12_5 := blk_frozen BK254.out 5; have hfz12_6 := blk_frozen BK254.out 6; have hfz12_7 := blk_frozen BK254.out 7; have hfz12_8 := blk_frozen BK254.out 8; have hfz12_9 := blk_frozen BK254.out 9; have hfz12_10 := blk_frozen BK254.out 10; have hfz12_11 := blk_frozen BK254.out 11))
                go_roundg k1
                case measure => have := HK1.out; omega
                case rel => exact ⟨(wrap64 (x7_1 + 1)), (by first | rfl | (simp; done) | (simp [*]; done)), H', ⟨by have := HK1.out; omega⟩, ⟨by repeat (first | (with_reducible first | exact HB.out | apply below_alloc | apply pw_below_drewN | apply below_drew1 | refine below_set ?_ GE254.out) | exact HB.out)⟩⟩
          · rw [if_neg c4] at H
            exact absurd H (by simp)
        · rw [if_neg c3] at H
          exact absurd H (by simp)
      · rw [if_neg c2] at H
        have c2b0 : decide (x7_1 < (l0.length : Int)) = false := decide_eq_false c2
        clear c2
        obtain rfl := Option.some.inj H
        go_wp2
        go_ret
        exact ⟨by first | rfl | (simp [errW_none, errW_some] <;> rfl) | (simp [*, errW_none, errW_some] <;> rfl), by repeat (first | (with_reducible first | exact HB.out | apply below_alloc | apply pw_below_drewN | apply below_drew1) | exact HB.out)⟩
def bpdu_Good.f (a0_0 : Int) (a0_1 : Int) (a0_2 : Int) (a0_3 : Int) (a0_4 : Int) (a0_5 : Int) (a0_6 : Bool) : Option (Bool) := (bpdu_Bridge.f a0_0).bind fun t257 => (if t257 = true then ((bpdu_Bridge.f a0_2).bind fun t258 => (if t258 = true then (if a0_1 ≥ 0 then (if a0_1 ≤ 2147483647 then (if a0_3 ≥ 0 then (if a0_3 < 6 then (if a0_4 ≥ 0 then (if a0_4 ≤ 10 then (if a0_5 ≥ 0 then (some (decide (a0_5 ≤ 3))) else (some false)) else (some false)) else (some false)) else (some false)) else (some false)) else (some false)) else (some false)) else (some false))) else (some false))
set_option maxHeartbeats 8000000 in
set_option maxRecDepth 100000 in
theorem bpdu_Good.calls (a0_0 : Int) (a0_1 : Int) (a0_2 : Int) (a0_3 : Int) (a0_4 : Int) (a0_5 : Int) (a0_6 : Bool) (r : Bool) (w : World) (h : bpdu_Good.f a0_0 a0_1 a0_2 a0_3 a0_4 a0_5 a0_6 = some r) :
    Calls Tryd.prog 37 #[.agg #[.int .i64 a0_0, .int .i64 a0_1, .int .i64 a0_2, .int .i64 a0_3, .int .i64 a0_4, .int .i64 a0_5, .bool a0_6]] w fun e w' => e = .returned (.bool r) ∧ Below w.heap.size w w' := by
  have hu38 := Tryd.underlying38
  have hu36 := Tryd.underlying36
  have HB := Aside0.mk (Below.refl w.heap.size w)
  have H : ((bpdu_Bridge.f a0_0).bind fun t257 => (if t257 = true then ((bpdu_Bridge.f a0_2).bind fun t258 => (if t258 = true then (if a0_1 ≥ 0 then (if a0_1 ≤ 2147483647 then (if a0_3 ≥ 0 then (if a0_3 < 6 then (if a0_4 ≥ 0 then (if a0_4 ≤ 10 then (if a0_5 ≥ 0 then (some (decide (a0_5 ≤ 3))) else (some false)) else (some false)) else (some false)) else (some false)) else (some false)) else (some false)) else (some false)) else (some false))) else (some false))) = some r := h
  clear h
  replace H := Option.bind_eq_some_iff.mp H
  obtain ⟨t257, A20, H⟩ := H
  replace H : (if t257 = true then ((bpdu_Bridge.f a0_2).bind fun t258 => (if t258 = true then (if a0_1 ≥ 0 then (if a0_1 ≤ 2147483647 then (if a0_3 ≥ 0 then (if a0_3 < 6 then (if a0_4 ≥ 0 then (if a0_4 ≤ 10 then (if a0_5 ≥ 0 then (some (decide (a0_5 ≤ 3))) else (some false)) else (some false)) else (some false)) else (some false)) else (some false)) else (some false)) else (some false)) else (some false))) else (some false)) = some r := H
  have A2 := Aside0.mk A20
  clear A20
  by_cases c3 : t257 = true
  · subst c3
    have H1 : ((bpdu_Bridge.f a0_2).bind fun t258 => (if t258 = true then (if a0_1 ≥ 0 then (if a0_1 ≤ 2147483647 then (if a0_3 ≥ 0 then (if a0_3 < 6 then (if a0_4 ≥ 0 then (if a0_4 ≤ 10 then (if a0_5 ≥ 0 then (some (decide (a0_5 ≤ 3))) else (some false)) else (some false)) else (some false)) else (some false)) else (some false)) else (some false)) else (some false)) else (some false))) = some r := by rw [if_pos rfl] at H; exact H
    clear H
    have H := H1
    clear H1
    replace H := Option.bind_eq_some_iff.mp H
    obtain ⟨t258, A40, H⟩ := H
    replace H : (if t258 = true then (if a0_1 ≥ 0 then (if a0_1 ≤ 2147483647 then (if a0_3 ≥ 0 then (if a0_3 < 6 then (if a0_4 ≥ 0 then (if a0_4 ≤ 10 then (if a0_5 ≥ 0 then (some (decide (a0_5 ≤ 3))) else (some false)) else (some false)) else (some false)) else (some false)) else (some false)) else (some false)) else (some false)) else (some false)) = some r := H
    have A4 := Aside0.mk A40
    clear A40
    by_cases c5 : t258 = true
    · subst c5
      have H1 : (if a0_1 ≥ 0 then (if a0_1 ≤ 2147483647 then (if a0_3 ≥ 0 then (if a0_3 < 6 then (if a0_4 ≥ 0 then (if a0_4 ≤ 10 then (if a0_5 ≥ 0 then (some (decide (a0_5 ≤ 3))) else (some false)) else (some false)) else (some false)) else (some false)) else (some false)) else (some false)) else (some false)) = some r := by rw [if_pos rfl] at H; exact H
      clear H
      have H := H1
      clear H1
      by_cases c6 : a0_1 ≥ 0
      · rw [if_pos c6] at H
        have c6b0 : decide (0 ≤ a0_1) = true := decide_eq_true c6
        clear c6
        by_cases c7 : a0_1 ≤ 2147483647
        · rw [if_pos c7] at H
          have c7b0 : decide (a0_1 ≤ 2147483647) = true := decide_eq_true c7
          clear c7
          by_cases c8 : a0_3 ≥ 0
          · rw [if_pos c8] at H
            have c8b0 : decide (0 ≤ a0_3) = true := decide_eq_true c8
            clear c8
            by_cases c9 : a0_3 < 6
            · rw [if_pos c9] at H
              have c9b0 : decide (a0_3 < 6) = true := decide_eq_true c9
              clear c9
              by_cases c10 : a0_4 ≥ 0
              · rw [if_pos c10] at H
                have c10b0 : decide (0 ≤ a0_4) = true := decide_eq_true c10
                clear c10
                by_cases c11 : a0_4 ≤ 10
                · rw [if_pos c11] at H
                  have c11b0 : decide (a0_4 ≤ 10) = true := decide_eq_true c11
                  clear c11
                  by_cases c12 : a0_5 ≥ 0
                  · rw [if_pos c12] at H
                    have c12b0 : decide (0 ≤ a0_5) = true := decide_eq_true c12
                    clear c12
                    obtain rfl := Option.some.inj H
                    go_enter Tryd.func37, Tryd.ntmps37
                    go_wp2_with (first | ((with_reducible refine gate_dst (N := 1) rfl ?_); refine box_event ?hg (N := 1) ?hd (cs := #[.int .i64 a0_0, .int .i64 a0_1, .int .i64 a0_2, .int .i64 a0_3, .int .i64 a0_4, .int .i64 a0_5, .bool a0_6]) (t := 38) ?hr ?_; (case hd => rfl); (case hg => rfl); (case hr => first | (go_simp; done) | (go_simp; rfl)); intro gb255 hg w13 hbox hb; have n0_ := Aside0.mk (below_step (by repeat (first | (with_reducible first | exact HB.out | apply below_alloc | apply pw_below_drewN | apply below_drew1) | exact HB.out)) hb); have n1_ := Aside0.mk (hbox); have n2_ := Aside0.mk ((by rw [hg]; exact (below_size (by repeat (first | (with_reducible first | exact HB.out | apply below_alloc | apply pw_below_drewN | apply below_drew1) | exact HB.out))) : w.heap.size ≤ gb255)); have n3_ := Aside0.mk ((by rw [hg]; exact (below_size (by repeat (first | (with_reducible first | exact HB.out | apply below_alloc | apply pw_below_drewN | apply below_drew1) | exact HB.out))) : w.heap.size ≤ gb255)); clear HB; have HB := n0_; have BK255 := n1_; have GW255 := n2_; have GE255 := n3_; clear n0_ n1_ n2_ n3_; clear hb hbox hg; have hcz14_0 : w13.cell? ⟨gb255, 0, none⟩ = some (.int .i64 a0_0) := (blk_cell BK255.out 0).trans rfl; have hcz14_1 : w13.cell? ⟨gb255, 1, none⟩ = some (.int .i64 a0_1) := (blk_cell BK255.out 1).trans rfl; have hcz14_2 : w13.cell? ⟨gb255, 2, none⟩ = some (.int .i64 a0_2) := (blk_cell BK255.out 2).trans rfl; have hcz14_3 : w13.cell? ⟨gb255, 3, none⟩ = some (.int .i64 a0_3) := (blk_cell BK255.out 3).trans rfl; have hcz14_4 : w13.cell? ⟨gb255, 4, none⟩ = some (.int .i64 a0_4) := (blk_cell BK255.out 4).trans rfl; have hcz14_5 : w13.cell? ⟨gb255, 5, none⟩ = some (.int .i64 a0_5) := (blk_cell BK255.out 5).trans rfl; have hcz14_6 : w13.cell? ⟨gb255, 6, none⟩ = some (.bool a0_6) := (blk_cell BK255.out 6).trans rfl; have hfz14_0 := blk_frozen BK255.out 0; have hfz14_1 := blk_frozen BK255.out 1; have hfz14_2 := blk_frozen BK255.out 2; have hfz14_3 := blk_frozen BK255.out 3; have hfz14_4 := blk_frozen BK255.out 4; have hfz14_5 := blk_frozen BK255.out 5; have hfz14_6 := blk_frozen BK255.out 6) | ((with_reducible refine gate_dst (N := 3) rfl ?_); refine box_event ?hg (N := 3) ?hd (cs := #[.int .i64 0, .int .i64 0, .int .i64 0, .int .i64 0]) (t := 36) ?hr ?_; (case hd => rfl); (case hg => rfl); (case hr => first | (go_simp; done) | (go_simp; rfl)); intro gb256 hg w15 hbox hb; have n0_ := Aside0.mk (blk_below (g := gb255) (o := .cells #[.int .i64 a0_0, .int .i64 a0_1, .int .i64 a0_2, .int .i64 a0_3, .int .i64 a0_4, .int .i64 a0_5, .bool a0_6] 38 (0, 0)) (by (with_reducible repeat (first | refine blk_drewN ?_ _ | refine blk_drew ?_ | refine blk_alloc ?_ _)); exact BK255.out) hb); have n1_ := Aside0.mk (below_step (by repeat (first | (with_reducible first | exact HB.out | apply below_alloc | apply pw_below_drewN | apply below_drew1 | refine below_set ?_ GE255.out) | exact HB.out)) hb); have n2_ := Aside0.mk (hbox); have n3_ := Aside0.mk ((by rw [hg]; exact (below_size (by repeat (first | (with_reducible first | exact HB.out | apply below_alloc | apply pw_below_drewN | apply below_drew1 | refine below_set ?_ GE255.out) | exact HB.out))) : w.heap.size ≤ gb256)); have n4_ := Aside0.mk ((by rw [hg]; exact (below_size (by repeat (first | (with_reducible first | exact HB.out | apply below_alloc | apply pw_below_drewN | apply below_drew1 | refine below_set ?_ GE255.out) | exact HB.out))) : w.heap.size ≤ gb256)); have n5_ := Aside0.mk ((by rw [hg]; exact Nat.ne_of_lt (blk_lt (g := gb255) (o := .cells #[.int .i64 a0_0, .int .i64 a0_1, .int .i64 a0_2, .int .i64 a0_3, .int .i64 a0_4, .int .i64 a0_5, .bool a0_6] 38 (0, 0)) (by (with_reducible repeat (first | refine blk_drewN ?_ _ | refine blk_drew ?_ | refine blk_alloc ?_ _)); exact BK255.out)) : gb255 ≠ gb256)); have n6_ := Aside0.mk ((by rw [hg]; exact Nat.ne_of_gt (blk_lt (g := gb255) (o := .cells #[.int .i64 a0_0, .int .i64 a0_1, .int .i64 a0_2, .int .i64 a0_3, .int .i64 a0_4, .int .i64 a0_5, .bool a0_6] 38 (0, 0)) (by (with_reducible repeat (first | refine blk_drewN ?_ _ | refine blk_drew ?_ | refine blk_alloc ?_ _)); exact BK255.out)) : gb256 ≠ gb255)); clear BK255; clear HB; have BK255 := n0_; have HB := n1_; have BK256 := n2_; have GW256 := n3_; have GE256 := n4_; have NB255_256 := n5_; have NB256_255 := n6_; clear n0_ n1_ n2_ n3_ n4_ n5_ n6_; clear hb hbox hg; have hnb16 := NB256_255.out; have hnc16 := NB255_256.out; have hcz17_0 : w15.cell? ⟨gb256, 0, none⟩ = some (.int .i64 0) := (blk_cell BK256.out 0).trans rfl; have hcz17_1 : w15.cell? ⟨gb256, 1, none⟩ = some (.int .i64 0) := (blk_cell BK256.out 1).trans rfl; have hcz17_2 : w15.cell? ⟨gb256, 2, none⟩ = some (.int .i64 0) := (blk_cell BK256.out 2).trans rfl; have hcz17_3 : w15.cell? ⟨gb256, 3, none⟩ = some (.int .i64 0) := (blk_cell BK256.out 3).trans rfl; have hfz17_0 := blk_frozen BK256.out 0; have hfz17_1 := blk_frozen BK256.out 1; have hfz17_2 := blk_frozen BK256.out 2; have hfz17_3 := blk_frozen BK256.out 3) | ((with_reducible refine gate_callee (f := 33) rfl ?_); refine goesL_ (some 8) rfl rfl Tryd.func33 (by kernel_rfl) rfl #[.int .i64 a0_0] rfl (by (try simp only [List.map_toArray, List.map_cons, List.map_nil]); first | done | rfl | (simp only [List.length_drop, List.length_take]; rfl)) ?_; (with_reducible refine (bpdu_Bridge.calls a0_0 true _ A2.out).mono ?_); rintro e w' ⟨rfl, ⟨nd, rfl⟩⟩; refine ⟨_, rfl, ?_⟩) | (go_at_call 33; (with_reducible refine (bpdu_Bridge.calls a0_2 true _ A4.out).mono ?_); rintro e w' ⟨rfl, ⟨nd, rfl⟩⟩; have hcz18_0 : w15.cell? ⟨gb255, 0, none⟩ = some (.int .i64 a0_0) := (blk_cell BK255.out 0).trans rfl; have hcz18_1 : w15.cell? ⟨gb255, 1, none⟩ = some (.int .i64 a0_1) := (blk_cell BK255.out 1).trans rfl; have hcz18_2 : w15.cell? ⟨gb255, 2, none⟩ = some (.int .i64 a0_2) := (blk_cell BK255.out 2).trans rfl; have hcz18_3 : w15.cell? ⟨gb255, 3, none⟩ = some (.int .i64 a0_3) := (blk_cell BK255.out 3).trans rfl; have hcz18_4 : w15.cell? ⟨gb255, 4, none⟩ = some (.int .i64 a0_4) := (blk_cell BK255.out 4).trans rfl; have hcz18_5 : w15.cell? ⟨gb255, 5, none⟩ = some (.int .i64 a0_5) := (blk_cell BK255.out 5).trans rfl; have hcz18_6 : w15.cell? ⟨gb255, 6, none⟩ = some (.bool a0_6) := (blk_cell BK255.out 6).trans rfl; have hfz18_0 := blk_frozen BK255.out 0; have hfz18_1 := blk_frozen BK255.out 1; have hfz18_2 := blk_frozen BK255.out 2; have hfz18_3 := blk_frozen BK255.out 3; have hfz18_4 := blk_frozen BK255.out 4; have hfz18_5 := blk_frozen BK255.out 5; have hfz18_6 := blk_frozen BK255.out 6))
                    go_ret
                    exact ⟨by first | rfl | (simp [errW_none, errW_some] <;> rfl) | (simp [*, errW_none, errW_some] <;> rfl), by repeat (first | (with_reducible first | exact HB.out | apply below_alloc | apply pw_below_drewN | apply below_drew1 | refine below_set ?_ GE255.out | refine below_set ?_ GE256.out) | exact HB.out)⟩
                  · rw [if_neg c12] at H
                    have c12b0 : decide (0 ≤ a0_5) = false := decide_eq_false c12
                    clear c12
                    obtain rfl := Option.some.inj H
                    go_enter Tryd.func37, Tryd.ntmps37
                    go_wp2_with (first | ((with_reducible refine gate_dst (N := 1) rfl ?_); refine box_event ?hg (N := 1) ?hd (cs := #[.int .i64 a0_0, .int .i64 a0_1, .int .i64 a0_2, .int .i64 a0_3, .int .i64 a0_4, .int .i64 a0_5, .bool a0_6]) (t := 38) ?hr ?_; (case hd => rfl); (case hg => rfl); (case hr => first | (go_simp; done) | (go_simp; rfl)); intro gb255 hg w19 hbox hb; have n0_ := Aside0.mk (below_step (by repeat (first | (with_reducible first | exact HB.out | apply below_alloc | apply pw_below_drewN | apply below_drew1) | exact HB.out)) hb); have n1_ := Aside0.mk (hbox); have n2_ := Aside0.mk ((by rw [hg]; exact (below_size (by repeat (first | (with_reducible first | exact HB.out | apply below_alloc | apply pw_below_drewN | apply below_drew1) | exact HB.out))) : w.heap.size ≤ gb255)); have n3_ := Aside0.mk ((by rw [hg]; exact (below_size (by repeat (first | (with_reducible first | exact HB.out | apply below_alloc | apply pw_below_drewN | apply below_drew1) | exact HB.out))) : w.heap.size ≤ gb255)); clear HB; have HB := n0_; have BK255 := n1_; have GW255 := n2_; have GE255 := n3_; clear n0_ n1_ n2_ n3_; clear hb hbox hg; have hcz20_0 : w19.cell? ⟨gb255, 0, none⟩ = some (.int .i64 a0_0) := (blk_cell BK255.out 0).trans rfl; have hcz20_1 : w19.cell? ⟨gb255, 1, none⟩ = some (.int .i64 a0_1) := (blk_cell BK255.out 1).trans rfl; have hcz20_2 : w19.cell? ⟨gb255, 2, none⟩ = some (.int .i64 a0_2) := (blk_cell BK255.out 2).trans rfl; have hcz20_3 : w19.cell? ⟨gb255, 3, none⟩ = some (.int .i64 a0_3) := (blk_cell BK255.out 3).trans rfl; have hcz20_4 : w19.cell? ⟨gb255, 4, none⟩ = some (.int .i64 a0_4) := (blk_cell BK255.out 4).trans rfl; have hcz20_5 : w19.cell? ⟨gb255, 5, none⟩ = some (.int .i64 a0_5) := (blk_cell BK255.out 5).trans rfl; have hcz20_6 : w19.cell? ⟨gb255, 6, none⟩ = some (.bool a0_6) := (blk_cell BK255.out 6).trans rfl; have hfz20_0 := blk_frozen BK255.out 0; have hfz20_1 := blk_frozen BK255.out 1; have hfz20_2 := blk_frozen BK255.out 2; have hfz20_3 := blk_frozen BK255.out 3; have hfz20_4 := blk_frozen BK255.out 4; have hfz20_5 := blk_frozen BK255.out 5; have hfz20_6 := blk_frozen BK255.out 6) | ((with_reducible refine gate_dst (N := 3) rfl ?_); refine box_event ?hg (N := 3) ?hd (cs := #[.int .i64 0, .int .i64 0, .int .i64 0, .int .i64 0]) (t := 36) ?hr ?_; (case hd => rfl); (case hg => rfl); (case hr => first | (go_simp; done) | (go_simp; rfl)); intro gb256 hg w21 hbox hb; have n0_ := Aside0.mk (blk_below (g := gb255) (o := .cells #[.int .i64 a0_0, .int .i64 a0_1, .int .i64 a0_2, .int .i64 a0_3, .int .i64 a0_4, .int .i64 a0_5, .bool a0_6] 38 (0, 0)) (by (with_reducible repeat (first | refine blk_drewN ?_ _ | refine blk_drew ?_ | refine blk_alloc ?_ _)); exact BK255.out) hb); have n1_ := Aside0.mk (below_step (by repeat (first | (with_reducible first | exact HB.out | apply below_alloc | apply pw_below_drewN | apply below_drew1 | refine below_set ?_ GE255.out) | exact HB.out)) hb); have n2_ := Aside0.mk (hbox); have n3_ := Aside0.mk ((by rw [hg]; exact (below_size (by repeat (first | (with_reducible first | exact HB.out | apply below_alloc | apply pw_below_drewN | apply below_drew1 | refine below_set ?_ GE255.out) | exact HB.out))) : w.heap.size ≤ gb256)); have n4_ := Aside0.mk ((by rw [hg]; exact (below_size (by repeat (first | (with_reducible first | exact HB.out | apply below_alloc | apply pw_below_drewN | apply below_drew1 | refine below_set ?_ GE255.out) | exact HB.out))) : w.heap.size ≤ gb256)); have n5_ := Aside0.mk ((by rw [hg]; exact Nat.ne_of_lt (blk_lt (g := gb255) (o := .cells #[.int .i64 a0_0, .int .i64 a0_1, .int .i64 a0_2, .int .i64 a0_3, .int .i64 a0_4, .int .i64 a0_5, .bool a0_6] 38 (0, 0)) (by (with_reducible repeat (first | refine blk_drewN ?_ _ | refine blk_drew ?_ | refine blk_alloc ?_ _)); exact BK255.out)) : gb255 ≠ gb256)); have n6_ := Aside0.mk ((by rw [hg]; exact Nat.ne_of_gt (blk_lt (g := gb255) (o := .cells #[.int .i64 a0_0, .int .i64 a0_1, .int .i64 a0_2, .int .i64 a0_3, .int .i64 a0_4, .int .i64 a0_5, .bool a0_6] 38 (0, 0)) (by (with_reducible repeat (first | refine blk_drewN ?_ _ | refine blk_drew ?_ | refine blk_alloc ?_ _)); exact BK255.out)) : gb256 ≠ gb255)); clear BK255; clear HB; have BK255 := n0_; have HB := n1_; have BK256 := n2_; have GW256 := n3_; have GE256 := n4_; have NB255_256 := n5_; have NB256_255 := n6_; clear n0_ n1_ n2_ n3_ n4_ n5_ n6_; clear hb hbox hg; have hnb22 := NB256_255.out; have hnc22 := NB255_256.out; have hcz23_0 : w21.cell? ⟨gb256, 0, none⟩ = some (.int .i64 0) := (blk_cell BK256.out 0).trans rfl; have hcz23_1 : w21.cell? ⟨gb256, 1, none⟩ = some (.int .i64 0) := (blk_cell BK256.out 1).trans rfl; have hcz23_2 : w21.cell? ⟨gb256, 2, none⟩ = some (.int .i64 0) := (blk_cell BK256.out 2).trans rfl; have hcz23_3 : w21.cell? ⟨gb256, 3, none⟩ = some (.int .i64 0) := (blk_cell BK256.out 3).trans rfl; have hfz23_0 := blk_frozen BK256.out 0; have hfz23_1 := blk_frozen BK256.out 1; have hfz23_2 := blk_frozen BK256.out 2; have hfz23_3 := blk_frozen BK256.out 3) | ((with_reducible refine gate_callee (f := 33) rfl ?_); refine goesL_ (some 8) rfl rfl Tryd.func33 (by kernel_rfl) rfl #[.int .i64 a0_0] rfl (by (try simp only [List.map_toArray, List.map_cons, List.map_nil]); first | done | rfl | (simp only [List.length_drop, List.length_take]; rfl)) ?_; (with_reducible refine (bpdu_Bridge.calls a0_0 true _ A2.out).mono ?_); rintro e w' ⟨rfl, ⟨nd, rfl⟩⟩; refine ⟨_, rfl, ?_⟩) | (go_at_call 33; (with_reducible refine (bpdu_Bridge.calls a0_2 true _ A4.out).mono ?_); rintro e w' ⟨rfl, ⟨nd, rfl⟩⟩; have hcz24_0 : w21.cell? ⟨gb255, 0, none⟩ = some (.int .i64 a0_0) := (blk_cell BK255.out 0).trans rfl; have hcz24_1 : w21.cell? ⟨gb255, 1, none⟩ = some (.int .i64 a0_1) := (blk_cell BK255.out 1).trans rfl; have hcz24_2 : w21.cell? ⟨gb255, 2, none⟩ = some (.int .i64 a0_2) := (blk_cell BK255.out 2).trans rfl; have hcz24_3 : w21.cell? ⟨gb255, 3, none⟩ = some (.int .i64 a0_3) := (blk_cell BK255.out 3).trans rfl; have hcz24_4 : w21.cell? ⟨gb255, 4, none⟩ = some (.int .i64 a0_4) := (blk_cell BK255.out 4).trans rfl; have hcz24_5 : w21.cell? ⟨gb255, 5, none⟩ = some (.int .i64 a0_5) := (blk_cell BK255.out 5).trans rfl; have hcz24_6 : w21.cell? ⟨gb255, 6, none⟩ = some (.bool a0_6) := (blk_cell BK255.out 6).trans rfl; have hfz24_0 := blk_frozen BK255.out 0; have hfz24_1 := blk_frozen BK255.out 1; have hfz24_2 := blk_frozen BK255.out 2; have hfz24_3 := blk_frozen BK255.out 3; have hfz24_4 := blk_frozen BK255.out 4; have hfz24_5 := blk_frozen BK255.out 5; have hfz24_6 := blk_frozen BK255.out 6))
                    go_ret
                    exact ⟨by first | rfl | (simp [errW_none, errW_some] <;> rfl) | (simp [*, errW_none, errW_some] <;> rfl), by repeat (first | (with_reducible first | exact HB.out | apply below_alloc | apply pw_below_drewN | apply below_drew1 | refine below_set ?_ GE255.out | refine below_set ?_ GE256.out) | exact HB.out)⟩
                · rw [if_neg c11] at H
                  have c11b0 : decide (a0_4 ≤ 10) = false := decide_eq_false c11
                  clear c11
                  obtain rfl := Option.some.inj H
                  go_enter Tryd.func37, Tryd.ntmps37
                  go_wp2_with (first | ((with_reducible refine gate_dst (N := 1) rfl ?_); refine box_event ?hg (N := 1) ?hd (cs := #[.int .i64 a0_0, .int .i64 a0_1, .int .i64 a0_2, .int .i64 a0_3, .int .i64 a0_4, .int .i64 a0_5, .bool a0_6]) (t := 38) ?hr ?_; (case hd => rfl); (case hg => rfl); (case hr => first | (go_simp; done) | (go_simp; rfl)); intro gb255 hg w25 hbox hb; have n0_ := Aside0.mk (below_step (by repeat (first | (with_reducible first | exact HB.out | apply below_alloc | apply pw_below_drewN | apply below_drew1) | exact HB.out)) hb); have n1_ := Aside0.mk (hbox); have n2_ := Aside0.mk ((by rw [hg]; exact (below_size (by repeat (first | (with_reducible first | exact HB.out | apply below_alloc | apply pw_below_drewN | apply below_drew1) | exact HB.out))) : w.heap.size ≤ gb255)); have n3_ := Aside0.mk ((by rw [hg]; exact (below_size (by repeat (first | (with_reducible first | exact HB.out | apply below_alloc | apply pw_below_drewN | apply below_drew1) | exact HB.out))) : w.heap.size ≤ gb255)); clear HB; have HB := n0_; have BK255 := n1_; have GW255 := n2_; have GE255 := n3_; clear n0_ n1_ n2_ n3_; clear hb hbox hg; have hcz26_0 : w25.cell? ⟨gb255, 0, none⟩ = some (.int .i64 a0_0) := (blk_cell BK255.out 0).trans rfl; have hcz26_1 : w25.cell? ⟨gb255, 1, none⟩ = some (.int .i64 a0_1) := (blk_cell BK255.out 1).trans rfl; have hcz26_2 : w25.cell? ⟨gb255, 2, none⟩ = some (.int .i64 a0_2) := (blk_cell BK255.out 2).trans rfl; have hcz26_3 : w25.cell? ⟨gb255, 3, none⟩ = some (.int .i64 a0_3) := (blk_cell BK255.out 3).trans rfl; have hcz26_4 : w25.cell? ⟨gb255, 4, none⟩ = some (.int .i64 a0_4) := (blk_cell BK255.out 4).trans rfl; have hcz26_5 : w25.cell? ⟨gb255, 5, none⟩ = some (.int .i64 a0_5) := (blk_cell BK255.out 5).trans rfl; have hcz26_6 : w25.cell? ⟨gb255, 6, none⟩ = some (.bool a0_6) := (blk_cell BK255.out 6).trans rfl; have hfz26_0 := blk_frozen BK255.out 0; have hfz26_1 := blk_frozen BK255.out 1; have hfz26_2 := blk_frozen BK255.out 2; have hfz26_3 := blk_frozen BK255.out 3; have hfz26_4 := blk_frozen BK255.out 4; have hfz26_5 := blk_frozen BK255.out 5; have hfz26_6 := blk_frozen BK255.out 6) | ((with_reducible refine gate_dst (N := 3) rfl ?_); refine box_event ?hg (N := 3) ?hd (cs := #[.int .i64 0, .int .i64 0, .int .i64 0, .int .i64 0]) (t := 36) ?hr ?_; (case hd => rfl); (case hg => rfl); (case hr => first | (go_simp; done) | (go_simp; rfl)); intro gb256 hg w27 hbox hb; have n0_ := Aside0.mk (blk_below (g := gb255) (o := .cells #[.int .i64 a0_0, .int .i64 a0_1, .int .i64 a0_2, .int .i64 a0_3, .int .i64 a0_4, .int .i64 a0_5, .bool a0_6] 38 (0, 0)) (by (with_reducible repeat (first | refine blk_drewN ?_ _ | refine blk_drew ?_ | refine blk_alloc ?_ _)); exact BK255.out) hb); have n1_ := Aside0.mk (below_step (by repeat (first | (with_reducible first | exact HB.out | apply below_alloc | apply pw_below_drewN | apply below_drew1 | refine below_set ?_ GE255.out) | exact HB.out)) hb); have n2_ := Aside0.mk (hbox); have n3_ := Aside0.mk ((by rw [hg]; exact (below_size (by repeat (first | (with_reducible first | exact HB.out | apply below_alloc | apply pw_below_drewN | apply below_drew1 | refine below_set ?_ GE255.out) | exact HB.out))) : w.heap.size ≤ gb256)); have n4_ := Aside0.mk ((by rw [hg]; exact (below_size (by repeat (first | (with_reducible first | exact HB.out | apply below_alloc | apply pw_below_drewN | apply below_drew1 | refine below_set ?_ GE255.out) | exact HB.out))) : w.heap.size ≤ gb256)); have n5_ := Aside0.mk ((by rw [hg]; exact Nat.ne_of_lt (blk_lt (g := gb255) (o := .cells #[.int .i64 a0_0, .int .i64 a0_1, .int .i64 a0_2, .int .i64 a0_3, .int .i64 a0_4, .int .i64 a0_5, .bool a0_6] 38 (0, 0)) (by (with_reducible repeat (first | refine blk_drewN ?_ _ | refine blk_drew ?_ | refine blk_alloc ?_ _)); exact BK255.out)) : gb255 ≠ gb256)); have n6_ := Aside0.mk ((by rw [hg]; exact Nat.ne_of_gt (blk_lt (g := gb255) (o := .cells #[.int .i64 a0_0, .int .i64 a0_1, .int .i64 a0_2, .int .i64 a0_3, .int .i64 a0_4, .int .i64 a0_5, .bool a0_6] 38 (0, 0)) (by (with_reducible repeat (first | refine blk_drewN ?_ _ | refine blk_drew ?_ | refine blk_alloc ?_ _)); exact BK255.out)) : gb256 ≠ gb255)); clear BK255; clear HB; have BK255 := n0_; have HB := n1_; have BK256 := n2_; have GW256 := n3_; have GE256 := n4_; have NB255_256 := n5_; have NB256_255 := n6_; clear n0_ n1_ n2_ n3_ n4_ n5_ n6_; clear hb hbox hg; have hnb28 := NB256_255.out; have hnc28 := NB255_256.out; have hcz29_0 : w27.cell? ⟨gb256, 0, none⟩ = some (.int .i64 0) := (blk_cell BK256.out 0).trans rfl; have hcz29_1 : w27.cell? ⟨gb256, 1, none⟩ = some (.int .i64 0) := (blk_cell BK256.out 1).trans rfl; have hcz29_2 : w27.cell? ⟨gb256, 2, none⟩ = some (.int .i64 0) := (blk_cell BK256.out 2).trans rfl; have hcz29_3 : w27.cell? ⟨gb256, 3, none⟩ = some (.int .i64 0) := (blk_cell BK256.out 3).trans rfl; have hfz29_0 := blk_frozen BK256.out 0; have hfz29_1 := blk_frozen BK256.out 1; have hfz29_2 := blk_frozen BK256.out 2; have hfz29_3 := blk_frozen BK256.out 3) | ((with_reducible refine gate_callee (f := 33) rfl ?_); refine goesL_ (some 8) rfl rfl Tryd.func33 (by kernel_rfl) rfl #[.int .i64 a0_0] rfl (by (try simp only [List.map_toArray, List.map_cons, List.map_nil]); first | done | rfl | (simp only [List.length_drop, List.length_take]; rfl)) ?_; (with_reducible refine (bpdu_Bridge.calls a0_0 true _ A2.out).mono ?_); rintro e w' ⟨rfl, ⟨nd, rfl⟩⟩; refine ⟨_, rfl, ?_⟩) | (go_at_call 33; (with_reducible refine (bpdu_Bridge.calls a0_2 true _ A4.out).mono ?_); rintro e w' ⟨rfl, ⟨nd, rfl⟩⟩; have hcz30_0 : w27.cell? ⟨gb255, 0, none⟩ = some (.int .i64 a0_0) := (blk_cell BK255.out 0).trans rfl; have hcz30_1 : w27.cell? ⟨gb255, 1, none⟩ = some (.int .i64 a0_1) := (blk_cell BK255.out 1).trans rfl; have hcz30_2 : w27.cell? ⟨gb255, 2, none⟩ = some (.int .i64 a0_2) := (blk_cell BK255.out 2).trans rfl; have hcz30_3 : w27.cell? ⟨gb255, 3, none⟩ = some (.int .i64 a0_3) := (blk_cell BK255.out 3).trans rfl; have hcz30_4 : w27.cell? ⟨gb255, 4, none⟩ = some (.int .i64 a0_4) := (blk_cell BK255.out 4).trans rfl; have hcz30_5 : w27.cell? ⟨gb255, 5, none⟩ = some (.int .i64 a0_5) := (blk_cell BK255.out 5).trans rfl; have hcz30_6 : w27.cell? ⟨gb255, 6, none⟩ = some (.bool a0_6) := (blk_cell BK255.out 6).trans rfl; have hfz30_0 := blk_frozen BK255.out 0; have hfz30_1 := blk_frozen BK255.out 1; have hfz30_2 := blk_frozen BK255.out 2; have hfz30_3 := blk_frozen BK255.out 3; have hfz30_4 := blk_frozen BK255.out 4; have hfz30_5 := blk_frozen BK255.out 5; have hfz30_6 := blk_frozen BK255.out 6))
                  go_ret
                  exact ⟨by first | rfl | (simp [errW_none, errW_some] <;> rfl) | (simp [*, errW_none, errW_some] <;> rfl), by repeat (first | (with_reducible first | exact HB.out | apply below_alloc | apply pw_below_drewN | apply below_drew1 | refine below_set ?_ GE255.out | refine below_set ?_ GE256.out) | exact HB.out)⟩
              · rw [if_neg c10] at H
                have c10b0 : decide (0 ≤ a0_4) = false := decide_eq_false c10
                clear c10
                obtain rfl := Option.some.inj H
                go_enter Tryd.func37, Tryd.ntmps37
                go_wp2_with (first | ((with_reducible refine gate_dst (N := 1) rfl ?_); refine box_event ?hg (N := 1) ?hd (cs := #[.int .i64 a0_0, .int .i64 a0_1, .int .i64 a0_2, .int .i64 a0_3, .int .i64 a0_4, .int .i64 a0_5, .bool a0_6]) (t := 38) ?hr ?_; (case hd => rfl); (case hg => rfl); (case hr => first | (go_simp; done) | (go_simp; rfl)); intro gb255 hg w31 hbox hb; have n0_ := Aside0.mk (below_step (by repeat (first | (with_reducible first | exact HB.out | apply below_alloc | apply pw_below_drewN | apply below_drew1) | exact HB.out)) hb); have n1_ := Aside0.mk (hbox); have n2_ := Aside0.mk ((by rw [hg]; exact (below_size (by repeat (first | (with_reducible first | exact HB.out | apply below_alloc | apply pw_below_drewN | apply below_drew1) | exact HB.out))) : w.heap.size ≤ gb255)); have n3_ := Aside0.mk ((by rw [hg]; exact (below_size (by repeat (first | (with_reducible first | exact HB.out | apply below_alloc | apply pw_below_drewN | apply below_drew1) | exact HB.out))) : w.heap.size ≤ gb255)); clear HB; have HB := n0_; have BK255 := n1_; have GW255 := n2_; have GE255 := n3_; clear n0_ n1_ n2_ n3_; clear hb hbox hg; have hcz32_0 : w31.cell? ⟨gb255, 0, none⟩ = some (.int .i64 a0_0) := (blk_cell BK255.out 0).trans rfl; have hcz32_1 : w31.cell? ⟨gb255, 1, none⟩ = some (.int .i64 a0_1) := (blk_cell BK255.out 1).trans rfl; have hcz32_2 : w31.cell? ⟨gb255, 2, none⟩ = some (.int .i64 a0_2) := (blk_cell BK255.out 2).trans rfl; have hcz32_3 : w31.cell? ⟨gb255, 3, none⟩ = some (.int .i64 a0_3) := (blk_cell BK255.out 3).trans rfl; have hcz32_4 : w31.cell? ⟨gb255, 4, none⟩ = some (.int .i64 a0_4) := (blk_cell BK255.out 4).trans rfl; have hcz32_5 : w31.cell? ⟨gb255, 5, none⟩ = some (.int .i64 a0_5) := (blk_cell BK255.out 5).trans rfl; have hcz32_6 : w31.cell? ⟨gb255, 6, none⟩ = some (.bool a0_6) := (blk_cell BK255.out 6).trans rfl; have hfz32_0 := blk_frozen BK255.out 0; have hfz32_1 := blk_frozen BK255.out 1; have hfz32_2 := blk_frozen BK255.out 2; have hfz32_3 := blk_frozen BK255.out 3; have hfz32_4 := blk_frozen BK255.out 4; have hfz32_5 := blk_frozen BK255.out 5; have hfz32_6 := blk_frozen BK255.out 6) | ((with_reducible refine gate_dst (N := 3) rfl ?_); refine box_event ?hg (N := 3) ?hd (cs := #[.int .i64 0, .int .i64 0, .int .i64 0, .int .i64 0]) (t := 36) ?hr ?_; (case hd => rfl); (case hg => rfl); (case hr => first | (go_simp; done) | (go_simp; rfl)); intro gb256 hg w33 hbox hb; have n0_ := Aside0.mk (blk_below (g := gb255) (o := .cells #[.int .i64 a0_0, .int .i64 a0_1, .int .i64 a0_2, .int .i64 a0_3, .int .i64 a0_4, .int .i64 a0_5, .bool a0_6] 38 (0, 0)) (by (with_reducible repeat (first | refine blk_drewN ?_ _ | refine blk_drew ?_ | refine blk_alloc ?_ _)); exact BK255.out) hb); have n1_ := Aside0.mk (below_step (by repeat (first | (with_reducible first | exact HB.out | apply below_alloc | apply pw_below_drewN | apply below_drew1 | refine below_set ?_ GE255.out) | exact HB.out)) hb); have n2_ := Aside0.mk (hbox); have n3_ := Aside0.mk ((by rw [hg]; exact (below_size (by repeat (first | (with_reducible first | exact HB.out | apply below_alloc | apply pw_below_drewN | apply below_drew1 | refine below_set ?_ GE255.out) | exact HB.out))) : w.heap.size ≤ gb256)); have n4_ := Aside0.mk ((by rw [hg]; exact (below_size (by repeat (first | (with_reducible first | exact HB.out | apply below_alloc | apply pw_below_drewN | apply below_drew1 | refine below_set ?_ GE255.out) | exact HB.out))) : w.heap.size ≤ gb256)); have n5_ := Aside0.mk ((by rw [hg]; exact Nat.ne_of_lt (blk_lt (g := gb255) (o := .cells #[.int .i64 a0_0, .int .i64 a0_1, .int .i64 a0_2, .int .i64 a0_3, .int .i64 a0_4, .int .i64 a0_5, .bool a0_6] 38 (0, 0)) (by (with_reducible repeat (first | refine blk_drewN ?_ _ | refine blk_drew ?_ | refine blk_alloc ?_ _)); exact BK255.out)) : gb255 ≠ gb256)); have n6_ := Aside0.mk ((by rw [hg]; exact Nat.ne_of_gt (blk_lt (g := gb255) (o := .cells #[.int .i64 a0_0, .int .i64 a0_1, .int .i64 a0_2, .int .i64 a0_3, .int .i64 a0_4, .int .i64 a0_5, .bool a0_6] 38 (0, 0)) (by (with_reducible repeat (first | refine blk_drewN ?_ _ | refine blk_drew ?_ | refine blk_alloc ?_ _)); exact BK255.out)) : gb256 ≠ gb255)); clear BK255; clear HB; have BK255 := n0_; have HB := n1_; have BK256 := n2_; have GW256 := n3_; have GE256 := n4_; have NB255_256 := n5_; have NB256_255 := n6_; clear n0_ n1_ n2_ n3_ n4_ n5_ n6_; clear hb hbox hg; have hnb34 := NB256_255.out; have hnc34 := NB255_256.out; have hcz35_0 : w33.cell? ⟨gb256, 0, none⟩ = some (.int .i64 0) := (blk_cell BK256.out 0).trans rfl; have hcz35_1 : w33.cell? ⟨gb256, 1, none⟩ = some (.int .i64 0) := (blk_cell BK256.out 1).trans rfl; have hcz35_2 : w33.cell? ⟨gb256, 2, none⟩ = some (.int .i64 0) := (blk_cell BK256.out 2).trans rfl; have hcz35_3 : w33.cell? ⟨gb256, 3, none⟩ = some (.int .i64 0) := (blk_cell BK256.out 3).trans rfl; have hfz35_0 := blk_frozen BK256.out 0; have hfz35_1 := blk_frozen BK256.out 1; have hfz35_2 := blk_frozen BK256.out 2; have hfz35_3 := blk_frozen BK256.out 3) | ((with_reducible refine gate_callee (f := 33) rfl ?_); refine goesL_ (some 8) rfl rfl Tryd.func33 (by kernel_rfl) rfl #[.int .i64 a0_0] rfl (by (try simp only [List.map_toArray, List.map_cons, List.map_nil]); first | done | rfl | (simp only [List.length_drop, List.length_take]; rfl)) ?_; (with_reducible refine (bpdu_Bridge.calls a0_0 true _ A2.out).mono ?_); rintro e w' ⟨rfl, ⟨nd, rfl⟩⟩; refine ⟨_, rfl, ?_⟩) | (go_at_call 33; (with_reducible refine (bpdu_Bridge.calls a0_2 true _ A4.out).mono ?_); rintro e w' ⟨rfl, ⟨nd, rfl⟩⟩; have hcz36_0 : w33.cell? ⟨gb255, 0, none⟩ = some (.int .i64 a0_0) := (blk_cell BK255.out 0).trans rfl; have hcz36_1 : w33.cell? ⟨gb255, 1, none⟩ = some (.int .i64 a0_1) := (blk_cell BK255.out 1).trans rfl; have hcz36_2 : w33.cell? ⟨gb255, 2, none⟩ = some (.int .i64 a0_2) := (blk_cell BK255.out 2).trans rfl; have hcz36_3 : w33.cell? ⟨gb255, 3, none⟩ = some (.int .i64 a0_3) := (blk_cell BK255.out 3).trans rfl; have hcz36_4 : w33.cell? ⟨gb255, 4, none⟩ = some (.int .i64 a0_4) := (blk_cell BK255.out 4).trans rfl; have hcz36_5 : w33.cell? ⟨gb255, 5, none⟩ = some (.int .i64 a0_5) := (blk_cell BK255.out 5).trans rfl; have hcz36_6 : w33.cell? ⟨gb255, 6, none⟩ = some (.bool a0_6) := (blk_cell BK255.out 6).trans rfl; have hfz36_0 := blk_frozen BK255.out 0; have hfz36_1 := blk_frozen BK255.out 1; have hfz36_2 := blk_frozen BK255.out 2; have hfz36_3 := blk_frozen BK255.out 3; have hfz36_4 := blk_frozen BK255.out 4; have hfz36_5 := blk_frozen BK255.out 5; have hfz36_6 := blk_frozen BK255.out 6))
                go_ret
                exact ⟨by first | rfl | (simp [errW_none, errW_some] <;> rfl) | (simp [*, errW_none, errW_some] <;> rfl), by repeat (first | (with_reducible first | exact HB.out | apply below_alloc | apply pw_below_drewN | apply below_drew1 | refine below_set ?_ GE255.out | refine below_set ?_ GE256.out) | exact HB.out)⟩
            · rw [if_neg c9] at H
              have c9b0 : decide (a0_3 < 6) = false := decide_eq_false c9
              clear c9
              obtain rfl := Option.some.inj H
              go_enter Tryd.func37, Tryd.ntmps37
              go_wp2_with (first | ((with_reducible refine gate_dst (N := 1) rfl ?_); refine box_event ?hg (N := 1) ?hd (cs := #[.int .i64 a0_0, .int .i64 a0_1, .int .i64 a0_2, .int .i64 a0_3, .int .i64 a0_4, .int .i64 a0_5, .bool a0_6]) (t := 38) ?hr ?_; (case hd => rfl); (case hg => rfl); (case hr => first | (go_simp; done) | (go_simp; rfl)); intro gb255 hg w37 hbox hb; have n0_ := Aside0.mk (below_step (by repeat (first | (with_reducible first | exact HB.out | apply below_alloc | apply pw_below_drewN | apply below_drew1) | exact HB.out)) hb); have n1_ := Aside0.mk (hbox); have n2_ := Aside0.mk ((by rw [hg]; exact (below_size (by repeat (first | (with_reducible first | exact HB.out | apply below_alloc | apply pw_below_drewN | apply below_drew1) | exact HB.out))) : w.heap.size ≤ gb255)); have n3_ := Aside0.mk ((by rw [hg]; exact (below_size (by repeat (first | (with_reducible first | exact HB.out | apply below_alloc | apply pw_below_drewN | apply below_drew1) | exact HB.out))) : w.heap.size ≤ gb255)); clear HB; have HB := n0_; have BK255 := n1_; have GW255 := n2_; have GE255 := n3_; clear n0_ n1_ n2_ n3_; clear hb hbox hg; have hcz38_0 : w37.cell? ⟨gb255, 0, none⟩ = some (.int .i64 a0_0) := (blk_cell BK255.out 0).trans rfl; have hcz38_1 : w37.cell? ⟨gb255, 1, none⟩ = some (.int .i64 a0_1) := (blk_cell BK255.out 1).trans rfl; have hcz38_2 : w37.cell? ⟨gb255, 2, none⟩ = some (.int .i64 a0_2) := (blk_cell BK255.out 2).trans rfl; have hcz38_3 : w37.cell? ⟨gb255, 3, none⟩ = some (.int .i64 a0_3) := (blk_cell BK255.out 3).trans rfl; have hcz38_4 : w37.cell? ⟨gb255, 4, none⟩ = some (.int .i64 a0_4) := (blk_cell BK255.out 4).trans rfl; have hcz38_5 : w37.cell? ⟨gb255, 5, none⟩ = some (.int .i64 a0_5) := (blk_cell BK255.out 5).trans rfl; have hcz38_6 : w37.cell? ⟨gb255, 6, none⟩ = some (.bool a0_6) := (blk_cell BK255.out 6).trans rfl; have hfz38_0 := blk_frozen BK255.out 0; have hfz38_1 := blk_frozen BK255.out 1; have hfz38_2 := blk_frozen BK255.out 2; have hfz38_3 := blk_frozen BK255.out 3; have hfz38_4 := blk_frozen BK255.out 4; have hfz38_5 := blk_frozen BK255.out 5; have hfz38_6 := blk_frozen BK255.out 6) | ((with_reducible refine gate_dst (N := 3) rfl ?_); refine box_event ?hg (N := 3) ?hd (cs := #[.int .i64 0, .int .i64 0, .int .i64 0, .int .i64 0]) (t := 36) ?hr ?_; (case hd => rfl); (case hg => rfl); (case hr => first | (go_simp; done) | (go_simp; rfl)); intro gb256 hg w39 hbox hb; have n0_ := Aside0.mk (blk_below (g := gb255) (o := .cells #[.int .i64 a0_0, .int .i64 a0_1, .int .i64 a0_2, .int .i64 a0_3, .int .i64 a0_4, .int .i64 a0_5, .bool a0_6] 38 (0, 0)) (by (with_reducible repeat (first | refine blk_drewN ?_ _ | refine blk_drew ?_ | refine blk_alloc ?_ _)); exact BK255.out) hb); have n1_ := Aside0.mk (below_step (by repeat (first | (with_reducible first | exact HB.out | apply below_alloc | apply pw_below_drewN | apply below_drew1 | refine below_set ?_ GE255.out) | exact HB.out)) hb); have n2_ := Aside0.mk (hbox); have n3_ := Aside0.mk ((by rw [hg]; exact (below_size (by repeat (first | (with_reducible first | exact HB.out | apply below_alloc | apply pw_below_drewN | apply below_drew1 | refine below_set ?_ GE255.out) | exact HB.out))) : w.heap.size ≤ gb256)); have n4_ := Aside0.mk ((by rw [hg]; exact (below_size (by repeat (first | (with_reducible first | exact HB.out | apply below_alloc | apply pw_below_drewN | apply below_drew1 | refine below_set ?_ GE255.out) | exact HB.out))) : w.heap.size ≤ gb256)); have n5_ := Aside0.mk ((by rw [hg]; exact Nat.ne_of_lt (blk_lt (g := gb255) (o := .cells #[.int .i64 a0_0, .int .i64 a0_1, .int .i64 a0_2, .int .i64 a0_3, .int .i64 a0_4, .int .i64 a0_5, .bool a0_6] 38 (0, 0)) (by (with_reducible repeat (first | refine blk_drewN ?_ _ | refine blk_drew ?_ | refine blk_alloc ?_ _)); exact BK255.out)) : gb255 ≠ gb256)); have n6_ := Aside0.mk ((by rw [hg]; exact Nat.ne_of_gt (blk_lt (g := gb255) (o := .cells #[.int .i64 a0_0, .int .i64 a0_1, .int .i64 a0_2, .int .i64 a0_3, .int .i64 a0_4, .int .i64 a0_5, .bool a0_6] 38 (0, 0)) (by (with_reducible repeat (first | refine blk_drewN ?_ _ | refine blk_drew ?_ | refine blk_alloc ?_ _)); exact BK255.out)) : gb256 ≠ gb255)); clear BK255; clear HB; have BK255 := n0_; have HB := n1_; have BK256 := n2_; have GW256 := n3_; have GE256 := n4_; have NB255_256 := n5_; have NB256_255 := n6_; clear n0_ n1_ n2_ n3_ n4_ n5_ n6_; clear hb hbox hg; have hnb40 := NB256_255.out; have hnc40 := NB255_256.out; have hcz41_0 : w39.cell? ⟨gb256, 0, none⟩ = some (.int .i64 0) := (blk_cell BK256.out 0).trans rfl; have hcz41_1 : w39.cell? ⟨gb256, 1, none⟩ = some (.int .i64 0) := (blk_cell BK256.out 1).trans rfl; have hcz41_2 : w39.cell? ⟨gb256, 2, none⟩ = some (.int .i64 0) := (blk_cell BK256.out 2).trans rfl; have hcz41_3 : w39.cell? ⟨gb256, 3, none⟩ = some (.int .i64 0) := (blk_cell BK256.out 3).trans rfl; have hfz41_0 := blk_frozen BK256.out 0; have hfz41_1 := blk_frozen BK256.out 1; have hfz41_2 := blk_frozen BK256.out 2; have hfz41_3 := blk_frozen BK256.out 3) | ((with_reducible refine gate_callee (f := 33) rfl ?_); refine goesL_ (some 8) rfl rfl Tryd.func33 (by kernel_rfl) rfl #[.int .i64 a0_0] rfl (by (try simp only [List.map_toArray, List.map_cons, List.map_nil]); first | done | rfl | (simp only [List.length_drop, List.length_take]; rfl)) ?_; (with_reducible refine (bpdu_Bridge.calls a0_0 true _ A2.out).mono ?_); rintro e w' ⟨rfl, ⟨nd, rfl⟩⟩; refine ⟨_, rfl, ?_⟩) | (go_at_call 33; (with_reducible refine (bpdu_Bridge.calls a0_2 true _ A4.out).mono ?_); rintro e w' ⟨rfl, ⟨nd, rfl⟩⟩))
              go_ret
              exact ⟨by first | rfl | (simp [errW_none, errW_some] <;> rfl) | (simp [*, errW_none, errW_some] <;> rfl), by repeat (first | (with_reducible first | exact HB.out | apply below_alloc | apply pw_below_drewN | apply below_drew1 | refine below_set ?_ GE255.out | refine below_set ?_ GE256.out) | exact HB.out)⟩
          · rw [if_neg c8] at H
            have c8b0 : decide (0 ≤ a0_3) = false := decide_eq_false c8
            clear c8
            obtain rfl := Option.some.inj H
            go_enter Tryd.func37, Tryd.ntmps37
            go_wp2_with (first | ((with_reducible refine gate_dst (N := 1) rfl ?_); refine box_event ?hg (N := 1) ?hd (cs := #[.int .i64 a0_0, .int .i64 a0_1, .int .i64 a0_2, .int .i64 a0_3, .int .i64 a0_4, .int .i64 a0_5, .bool a0_6]) (t := 38) ?hr ?_; (case hd => rfl); (case hg => rfl); (case hr => first | (go_simp; done) | (go_simp; rfl)); intro gb255 hg w42 hbox hb; have n0_ := Aside0.mk (below_step (by repeat (first | (with_reducible first | exact HB.out | apply below_alloc | apply pw_below_drewN | apply below_drew1) | exact HB.out)) hb); have n1_ := Aside0.mk (hbox); have n2_ := Aside0.mk ((by rw [hg]; exact (below_size (by repeat (first | (with_reducible first | exact HB.out | apply below_alloc | apply pw_below_drewN | apply below_drew1) | exact HB.out))) : w.heap.size ≤ gb255)); have n3_ := Aside0.mk ((by rw [hg]; exact (below_size (by repeat (first | (with_reducible first | exact HB.out | apply below_alloc | apply pw_below_drewN | apply below_drew1) | exact HB.out))) : w.heap.size ≤ gb255)); clear HB; have HB := n0_; have BK255 := n1_; have GW255 := n2_; have GE255 := n3_; clear n0_ n1_ n2_ n3_; clear hb hbox hg; have hcz43_0 : w42.cell? ⟨gb255, 0, none⟩ = some (.int .i64 a0_0) := (blk_cell BK255.out 0).trans rfl; have hcz43_1 : w42.cell? ⟨gb255, 1, none⟩ = some (.int .i64 a0_1) := (blk_cell BK255.out 1).trans rfl; have hcz43_2 : w42.cell? ⟨gb255, 2, none⟩ = some (.int .i64 a0_2) := (blk_cell BK255.out 2).trans rfl; have hcz43_3 : w42.cell? ⟨gb255, 3, none⟩ = some (.int .i64 a0_3) := (blk_cell BK255.out 3).trans rfl; have hcz43_4 : w42.cell? ⟨gb255, 4, none⟩ = some (.int .i64 a0_4) := (blk_cell BK255.out 4).trans rfl; have hcz43_5 : w42.cell? ⟨gb255, 5, none⟩ = some (.int .i64 a0_5) := (blk_cell BK255.out 5).trans rfl; have hcz43_6 : w42.cell? ⟨gb255, 6, none⟩ = some (.bool a0_6) := (blk_cell BK255.out 6).trans rfl; have hfz43_0 := blk_frozen BK255.out 0; have hfz43_1 := blk_frozen BK255.out 1; have hfz43_2 := blk_frozen BK255.out 2; have hfz43_3 := blk_frozen BK255.out 3; have hfz43_4 := blk_frozen BK255.out 4; have hfz43_5 := blk_frozen BK255.out 5; have hfz43_6 := blk_frozen BK255.out 6) | ((with_reducible refine gate_dst (N := 3) rfl ?_); refine box_event ?hg (N := 3) ?hd (cs := #[.int .i64 0, .int .i64 0, .int .i64 0, .int .i64 0]) (t := 36) ?hr ?_; (case hd => rfl); (case hg => rfl); (case hr => first | (go_simp; done) | (go_simp; rfl)); intro gb256 hg w44 hbox hb; have n0_ := Aside0.mk (blk_below (g := gb255) (o := .cells #[.int .i64 a0_0, .int .i64 a0_1, .int .i64 a0_2, .int .i64 a0_3, .int .i64 a0_4, .int .i64 a0_5, .bool a0_6] 38 (0, 0)) (by (with_reducible repeat (first | refine blk_drewN ?_ _ | refine blk_drew ?_ | refine blk_alloc ?_ _)); exact BK255.out) hb); have n1_ := Aside0.mk (below_step (by repeat (first | (with_reducible first | exact HB.out | apply below_alloc | apply pw_below_drewN | apply below_drew1 | refine below_set ?_ GE255.out) | exact HB.out)) hb); have n2_ := Aside0.mk (hbox); have n3_ := Aside0.mk ((by rw [hg]; exact (below_size (by repeat (first | (with_reducible first | exact HB.out | apply below_alloc | apply pw_below_drewN | apply below_drew1 | refine below_set ?_ GE255.out) | exact HB.out))) : w.heap.size ≤ gb256)); have n4_ := Aside0.mk ((by rw [hg]; exact (below_size (by repeat (first | (with_reducible first | exact HB.out | apply below_alloc | apply pw_below_drewN | apply below_drew1 | refine below_set ?_ GE255.out) | exact HB.out))) : w.heap.size ≤ gb256)); have n5_ := Aside0.mk ((by rw [hg]; exact Nat.ne_of_lt (blk_lt (g := gb255) (o := .cells #[.int .i64 a0_0, .int .i64 a0_1, .int .i64 a0_2, .int .i64 a0_3, .int .i64 a0_4, .int .i64 a0_5, .bool a0_6] 38 (0, 0)) (by (with_reducible repeat (first | refine blk_drewN ?_ _ | refine blk_drew ?_ | refine blk_alloc ?_ _)); exact BK255.out)) : gb255 ≠ gb256)); have n6_ := Aside0.mk ((by rw [hg]; exact Nat.ne_of_gt (blk_lt (g := gb255) (o := .cells #[.int .i64 a0_0, .int .i64 a0_1, .int .i64 a0_2, .int .i64 a0_3, .int .i64 a0_4, .int .i64 a0_5, .bool a0_6] 38 (0, 0)) (by (with_reducible repeat (first | refine blk_drewN ?_ _ | refine blk_drew ?_ | refine blk_alloc ?_ _)); exact BK255.out)) : gb256 ≠ gb255)); clear BK255; clear HB; have BK255 := n0_; have HB := n1_; have BK256 := n2_; have GW256 := n3_; have GE256 := n4_; have NB255_256 := n5_; have NB256_255 := n6_; clear n0_ n1_ n2_ n3_ n4_ n5_ n6_; clear hb hbox hg; have hnb45 := NB256_255.out; have hnc45 := NB255_256.out; have hcz46_0 : w44.cell? ⟨gb256, 0, none⟩ = some (.int .i64 0) := (blk_cell BK256.out 0).trans rfl; have hcz46_1 : w44.cell? ⟨gb256, 1, none⟩ = some (.int .i64 0) := (blk_cell BK256.out 1).trans rfl; have hcz46_2 : w44.cell? ⟨gb256, 2, none⟩ = some (.int .i64 0) := (blk_cell BK256.out 2).trans rfl; have hcz46_3 : w44.cell? ⟨gb256, 3, none⟩ = some (.int .i64 0) := (blk_cell BK256.out 3).trans rfl; have hfz46_0 := blk_frozen BK256.out 0; have hfz46_1 := blk_frozen BK256.out 1; have hfz46_2 := blk_frozen BK256.out 2; have hfz46_3 := blk_frozen BK256.out 3) | ((with_reducible refine gate_callee (f := 33) rfl ?_); refine goesL_ (some 8) rfl rfl Tryd.func33 (by kernel_rfl) rfl #[.int .i64 a0_0] rfl (by (try simp only [List.map_toArray, List.map_cons, List.map_nil]); first | done | rfl | (simp only [List.length_drop, List.length_take]; rfl)) ?_; (with_reducible refine (bpdu_Bridge.calls a0_0 true _ A2.out).mono ?_); rintro e w' ⟨rfl, ⟨nd, rfl⟩⟩; refine ⟨_, rfl, ?_⟩) | (go_at_call 33; (with_reducible refine (bpdu_Bridge.calls a0_2 true _ A4.out).mono ?_); rintro e w' ⟨rfl, ⟨nd, rfl⟩⟩))
            go_ret
            exact ⟨by first | rfl | (simp [errW_none, errW_some] <;> rfl) | (simp [*, errW_none, errW_some] <;> rfl), by repeat (first | (with_reducible first | exact HB.out | apply below_alloc | apply pw_below_drewN | apply below_drew1 | refine below_set ?_ GE255.out | refine below_set ?_ GE256.out) | exact HB.out)⟩
        · rw [if_neg c7] at H
          have c7b0 : decide (a0_1 ≤ 2147483647) = false := decide_eq_false c7
          clear c7
          obtain rfl := Option.some.inj H
          go_enter Tryd.func37, Tryd.ntmps37
          go_wp2_with (first | ((with_reducible refine gate_dst (N := 1) rfl ?_); refine box_event ?hg (N := 1) ?hd (cs := #[.int .i64 a0_0, .int .i64 a0_1, .int .i64 a0_2, .int .i64 a0_3, .int .i64 a0_4, .int .i64 a0_5, .bool a0_6]) (t := 38) ?hr ?_; (case hd => rfl); (case hg => rfl); (case hr => first | (go_simp; done) | (go_simp; rfl)); intro gb255 hg w47 hbox hb; have n0_ := Aside0.mk (below_step (by repeat (first | (with_reducible first | exact HB.out | apply below_alloc | apply pw_below_drewN | apply below_drew1) | exact HB.out)) hb); have n1_ := Aside0.mk (hbox); have n2_ := Aside0.mk ((by rw [hg]; exact (below_size (by repeat (first | (with_reducible first | exact HB.out | apply below_alloc | apply pw_below_drewN | apply below_drew1) | exact HB.out))) : w.heap.size ≤ gb255)); have n3_ := Aside0.mk ((by rw [hg]; exact (below_size (by repeat (first | (with_reducible first | exact HB.out | apply below_alloc | apply pw_below_drewN | apply below_drew1) | exact HB.out))) : w.heap.size ≤ gb255)); clear HB; have HB := n0_; have BK255 := n1_; have GW255 := n2_; have GE255 := n3_; clear n0_ n1_ n2_ n3_; clear hb hbox hg; have hcz48_0 : w47.cell? ⟨gb255, 0, none⟩ = some (.int .i64 a0_0) := (blk_cell BK255.out 0).trans rfl; have hcz48_1 : w47.cell? ⟨gb255, 1, none⟩ = some (.int .i64 a0_1) := (blk_cell BK255.out 1).trans rfl; have hcz48_2 : w47.cell? ⟨gb255, 2, none⟩ = some (.int .i64 a0_2) := (blk_cell BK255.out 2).trans rfl; have hcz48_3 : w47.cell? ⟨gb255, 3, none⟩ = some (.int .i64 a0_3) := (blk_cell BK255.out 3).trans rfl; have hcz48_4 : w47.cell? ⟨gb255, 4, none⟩ = some (.int .i64 a0_4) := (blk_cell BK255.out 4).trans rfl; have hcz48_5 : w47.cell? ⟨gb255, 5, none⟩ = some (.int .i64 a0_5) := (blk_cell BK255.out 5).trans rfl; have hcz48_6 : w47.cell? ⟨gb255, 6, none⟩ = some (.bool a0_6) := (blk_cell BK255.out 6).trans rfl; have hfz48_0 := blk_frozen BK255.out 0; have hfz48_1 := blk_frozen BK255.out 1; have hfz48_2 := blk_frozen BK255.out 2; have hfz48_3 := blk_frozen BK255.out 3; have hfz48_4 := blk_frozen BK255.out 4; have hfz48_5 := blk_frozen BK255.out 5; have hfz48_6 := blk_frozen BK255.out 6) | ((with_reducible refine gate_dst (N := 3) rfl ?_); refine box_event ?hg (N := 3) ?hd (cs := #[.int .i64 0, .int .i64 0, .int .i64 0, .int .i64 0]) (t := 36) ?hr ?_; (case hd => rfl); (case hg => rfl); (case hr => first | (go_simp; done) | (go_simp; rfl)); intro gb256 hg w49 hbox hb; have n0_ := Aside0.mk (blk_below (g := gb255) (o := .cells #[.int .i64 a0_0, .int .i64 a0_1, .int .i64 a0_2, .int .i64 a0_3, .int .i64 a0_4, .int .i64 a0_5, .bool a0_6] 38 (0, 0)) (by (with_reducible repeat (first | refine blk_drewN ?_ _ | refine blk_drew ?_ | refine blk_alloc ?_ _)); exact BK255.out) hb); have n1_ := Aside0.mk (below_step (by repeat (first | (with_reducible first | exact HB.out | apply below_alloc | apply pw_below_drewN | apply below_drew1 | refine below_set ?_ GE255.out) | exact HB.out)) hb); have n2_ := Aside0.mk (hbox); have n3_ := Aside0.mk ((by rw [hg]; exact (below_size (by repeat (first | (with_reducible first | exact HB.out | apply below_alloc | apply pw_below_drewN | apply below_drew1 | refine below_set ?_ GE255.out) | exact HB.out))) : w.heap.size ≤ gb256)); have n4_ := Aside0.mk ((by rw [hg]; exact (below_size (by repeat (first | (with_reducible first | exact HB.out | apply below_alloc | apply pw_below_drewN | apply below_drew1 | refine below_set ?_ GE255.out) | exact HB.out))) : w.heap.size ≤ gb256)); have n5_ := Aside0.mk ((by rw [hg]; exact Nat.ne_of_lt (blk_lt (g := gb255) (o := .cells #[.int .i64 a0_0, .int .i64 a0_1, .int .i64 a0_2, .int .i64 a0_3, .int .i64 a0_4, .int .i64 a0_5, .bool a0_6] 38 (0, 0)) (by (with_reducible repeat (first | refine blk_drewN ?_ _ | refine blk_drew ?_ | refine blk_alloc ?_ _)); exact BK255.out)) : gb255 ≠ gb256)); have n6_ := Aside0.mk ((by rw [hg]; exact Nat.ne_of_gt (blk_lt (g := gb255) (o := .cells #[.int .i64 a0_0, .int .i64 a0_1, .int .i64 a0_2, .int .i64 a0_3, .int .i64 a0_4, .int .i64 a0_5, .bool a0_6] 38 (0, 0)) (by (with_reducible repeat (first | refine blk_drewN ?_ _ | refine blk_drew ?_ | refine blk_alloc ?_ _)); exact BK255.out)) : gb256 ≠ gb255)); clear BK255; clear HB; have BK255 := n0_; have HB := n1_; have BK256 := n2_; have GW256 := n3_; have GE256 := n4_; have NB255_256 := n5_; have NB256_255 := n6_; clear n0_ n1_ n2_ n3_ n4_ n5_ n6_; clear hb hbox hg; have hnb50 := NB256_255.out; have hnc50 := NB255_256.out; have hcz51_0 : w49.cell? ⟨gb256, 0, none⟩ = some (.int .i64 0) := (blk_cell BK256.out 0).trans rfl; have hcz51_1 : w49.cell? ⟨gb256, 1, none⟩ = some (.int .i64 0) := (blk_cell BK256.out 1).trans rfl; have hcz51_2 : w49.cell? ⟨gb256, 2, none⟩ = some (.int .i64 0) := (blk_cell BK256.out 2).trans rfl; have hcz51_3 : w49.cell? ⟨gb256, 3, none⟩ = some (.int .i64 0) := (blk_cell BK256.out 3).trans rfl; have hfz51_0 := blk_frozen BK256.out 0; have hfz51_1 := blk_frozen BK256.out 1; have hfz51_2 := blk_frozen BK256.out 2; have hfz51_3 := blk_frozen BK256.out 3) | ((with_reducible refine gate_callee (f := 33) rfl ?_); refine goesL_ (some 8) rfl rfl Tryd.func33 (by kernel_rfl) rfl #[.int .i64 a0_0] rfl (by (try simp only [List.map_toArray, List.map_cons, List.map_nil]); first | done | rfl | (simp only [List.length_drop, List.length_take]; rfl)) ?_; (with_reducible refine (bpdu_Bridge.calls a0_0 true _ A2.out).mono ?_); rintro e w' ⟨rfl, ⟨nd, rfl⟩⟩; refine ⟨_, rfl, ?_⟩) | (go_at_call 33; (with_reducible refine (bpdu_Bridge.calls a0_2 true _ A4.out).mono ?_); rintro e w' ⟨rfl, ⟨nd, rfl⟩⟩))
          go_ret
          exact ⟨by first | rfl | (simp [errW_none, errW_some] <;> rfl) | (simp [*, errW_none, errW_some] <;> rfl), by repeat (first | (with_reducible first | exact HB.out | apply below_alloc | apply pw_below_drewN | apply below_drew1 | refine below_set ?_ GE255.out | refine below_set ?_ GE256.out) | exact HB.out)⟩
      · rw [if_neg c6] at H
        have c6b0 : decide (0 ≤ a0_1) = false := decide_eq_false c6
        clear c6
        obtain rfl := Option.some.inj H
        go_enter Tryd.func37, Tryd.ntmps37
        go_wp2_with (first | ((with_reducible refine gate_dst (N := 1) rfl ?_); refine box_event ?hg (N := 1) ?hd (cs := #[.int .i64 a0_0, .int .i64 a0_1, .int .i64 a0_2, .int .i64 a0_3, .int .i64 a0_4, .int .i64 a0_5, .bool a0_6]) (t := 38) ?hr ?_; (case hd => rfl); (case hg => rfl); (case hr => first | (go_simp; done) | (go_simp; rfl)); intro gb255 hg w52 hbox hb; have n0_ := Aside0.mk (below_step (by repeat (first | (with_reducible first | exact HB.out | apply below_alloc | apply pw_below_drewN | apply below_drew1) | exact HB.out)) hb); have n1_ := Aside0.mk (hbox); have n2_ := Aside0.mk ((by rw [hg]; exact (below_size (by repeat (first | (with_reducible first | exact HB.out | apply below_alloc | apply pw_below_drewN | apply below_drew1) | exact HB.out))) : w.heap.size ≤ gb255)); have n3_ := Aside0.mk ((by rw [hg]; exact (below_size (by repeat (first | (with_reducible first | exact HB.out | apply below_alloc | apply pw_below_drewN | apply below_drew1) | exact HB.out))) : w.heap.size ≤ gb255)); clear HB; have HB := n0_; have BK255 := n1_; have GW255 := n2_; have GE255 := n3_; clear n0_ n1_ n2_ n3_; clear hb hbox hg; have hcz53_0 : w52.cell? ⟨gb255, 0, none⟩ = some (.int .i64 a0_0) := (blk_cell BK255.out 0).trans rfl; have hcz53_1 : w52.cell? ⟨gb255, 1, none⟩ = some (.int .i64 a0_1) := (blk_cell BK255.out 1).trans rfl; have hcz53_2 : w52.cell? ⟨gb255, 2, none⟩ = some (.int .i64 a0_2) := (blk_cell BK255.out 2).trans rfl; have hcz53_3 : w52.cell? ⟨gb255, 3, none⟩ = some (.int .i64 a0_3) := (blk_cell BK255.out 3).trans rfl; have hcz53_4 : w52.cell? ⟨gb255, 4, none⟩ = some (.int .i64 a0_4) := (blk_cell BK255.out 4).trans rfl; have hcz53_5 : w52.cell? ⟨gb255, 5, none⟩ = some (.int .i64 a0_5) := (blk_cell BK255.out 5).trans rfl; have hcz53_6 : w52.cell? ⟨gb255, 6, none⟩ = some (.bool a0_6) := (blk_cell BK255.out 6).trans rfl; have hfz53_0 := blk_frozen BK255.out 0; have hfz53_1 := blk_frozen BK255.out 1; have hfz53_2 := blk_frozen BK255.out 2; have hfz53_3 := blk_frozen BK255.out 3; have hfz53_4 := blk_frozen BK255.out 4; have hfz53_5 := blk_frozen BK255.out 5; have hfz53_6 := blk_frozen BK255.out 6) | ((with_reducible refine gate_dst (N := 3) rfl ?_); refine box_event ?hg (N := 3) ?hd (cs := #[.int .i64 0, .int .i64 0, .int .i64 0, .int .i64 0]) (t := 36) ?hr ?_; (case hd => rfl); (case hg => rfl); (case hr => first | (go_simp; done) | (go_simp; rfl)); intro gb256 hg w54 hbox hb; have n0_ := Aside0.mk (blk_below (g := gb255) (o := .cells #[.int .i64 a0_0, .int .i64 a0_1, .int .i64 a0_2, .int .i64 a0_3, .int .i64 a0_4, .int .i64 a0_5, .bool a0_6] 38 (0, 0)) (by (with_reducible repeat (first | refine blk_drewN ?_ _ | refine blk_drew ?_ | refine blk_alloc ?_ _)); exact BK255.out) hb); have n1_ := Aside0.mk (below_step (by repeat (first | (with_reducible first | exact HB.out | apply below_alloc | apply pw_below_drewN | apply below_drew1 | refine below_set ?_ GE255.out) | exact HB.out)) hb); have n2_ := Aside0.mk (hbox); have n3_ := Aside0.mk ((by rw [hg]; exact (below_size (by repeat (first | (with_reducible first | exact HB.out | apply below_alloc | apply pw_below_drewN | apply below_drew1 | refine below_set ?_ GE255.out) | exact HB.out))) : w.heap.size ≤ gb256)); have n4_ := Aside0.mk ((by rw [hg]; exact (below_size (by repeat (first | (with_reducible first | exact HB.out | apply below_alloc | apply pw_below_drewN | apply below_drew1 | refine below_set ?_ GE255.out) | exact HB.out))) : w.heap.size ≤ gb256)); have n5_ := Aside0.mk ((by rw [hg]; exact Nat.ne_of_lt (blk_lt (g := gb255) (o := .cells #[.int .i64 a0_0, .int .i64 a0_1, .int .i64 a0_2, .int .i64 a0_3, .int .i64 a0_4, .int .i64 a0_5, .bool a0_6] 38 (0, 0)) (by (with_reducible repeat (first | refine blk_drewN ?_ _ | refine blk_drew ?_ | refine blk_alloc ?_ _)); exact BK255.out)) : gb255 ≠ gb256)); have n6_ := Aside0.mk ((by rw [hg]; exact Nat.ne_of_gt (blk_lt (g := gb255) (o := .cells #[.int .i64 a0_0, .int .i64 a0_1, .int .i64 a0_2, .int .i64 a0_3, .int .i64 a0_4, .int .i64 a0_5, .bool a0_6] 38 (0, 0)) (by (with_reducible repeat (first | refine blk_drewN ?_ _ | refine blk_drew ?_ | refine blk_alloc ?_ _)); exact BK255.out)) : gb256 ≠ gb255)); clear BK255; clear HB; have BK255 := n0_; have HB := n1_; have BK256 := n2_; have GW256 := n3_; have GE256 := n4_; have NB255_256 := n5_; have NB256_255 := n6_; clear n0_ n1_ n2_ n3_ n4_ n5_ n6_; clear hb hbox hg; have hnb55 := NB256_255.out; have hnc55 := NB255_256.out; have hcz56_0 : w54.cell? ⟨gb256, 0, none⟩ = some (.int .i64 0) := (blk_cell BK256.out 0).trans rfl; have hcz56_1 : w54.cell? ⟨gb256, 1, none⟩ = some (.int .i64 0) := (blk_cell BK256.out 1).trans rfl; have hcz56_2 : w54.cell? ⟨gb256, 2, none⟩ = some (.int .i64 0) := (blk_cell BK256.out 2).trans rfl; have hcz56_3 : w54.cell? ⟨gb256, 3, none⟩ = some (.int .i64 0) := (blk_cell BK256.out 3).trans rfl; have hfz56_0 := blk_frozen BK256.out 0; have hfz56_1 := blk_frozen BK256.out 1; have hfz56_2 := blk_frozen BK256.out 2; have hfz56_3 := blk_frozen BK256.out 3) | ((with_reducible refine gate_callee (f := 33) rfl ?_); refine goesL_ (some 8) rfl rfl Tryd.func33 (by kernel_rfl) rfl #[.int .i64 a0_0] rfl (by (try simp only [List.map_toArray, List.map_cons, List.map_nil]); first | done | rfl | (simp only [List.length_drop, List.length_take]; rfl)) ?_; (with_reducible refine (bpdu_Bridge.calls a0_0 true _ A2.out).mono ?_); rintro e w' ⟨rfl, ⟨nd, rfl⟩⟩; refine ⟨_, rfl, ?_⟩) | (go_at_call 33; (with_reducible refine (bpdu_Bridge.calls a0_2 true _ A4.out).mono ?_); rintro e w' ⟨rfl, ⟨nd, rfl⟩⟩))
        go_ret
        exact ⟨by first | rfl | (simp [errW_none, errW_some] <;> rfl) | (simp [*, errW_none, errW_some] <;> rfl), by repeat (first | (with_reducible first | exact HB.out | apply below_alloc | apply pw_below_drewN | apply below_drew1 | refine below_set ?_ GE255.out | refine below_set ?_ GE256.out) | exact HB.out)⟩
    · replace c5 := Bool.eq_false_iff.mpr c5
      subst c5
      have H1 : (some false) = some r := by rw [if_neg (show ¬ (false = true) by decide)] at H; exact H
      clear H
      have H := H1
      clear H1
      obtain rfl := Option.some.inj H
      go_enter Tryd.func37, Tryd.ntmps37
      go_wp2_with (first | ((with_reducible refine gate_dst (N := 1) rfl ?_); refine box_event ?hg (N := 1) ?hd (cs := #[.int .i64 a0_0, .int .i64 a0_1, .int .i64 a0_2, .int .i64 a0_3, .int .i64 a0_4, .int .i64 a0_5, .bool a0_6]) (t := 38) ?hr ?_; (case hd => rfl); (case hg => rfl); (case hr => first | (go_simp; done) | (go_simp; rfl)); intro gb255 hg w57 hbox hb; have n0_ := Aside0.mk (below_step (by repeat (first | (with_reducible first | exact HB.out | apply below_alloc | apply pw_below_drewN | apply below_drew1) | exact HB.out)) hb); have n1_ := Aside0.mk (hbox); have n2_ := Aside0.mk ((by rw [hg]; exact (below_size (by repeat (first | (with_reducible first | exact HB.out | apply below_alloc | apply pw_below_drewN | apply below_drew1) | exact HB.out))) : w.heap.size ≤ gb255)); have n3_ := Aside0.mk ((by rw [hg]; exact (below_size (by repeat (first | (with_reducible first | exact HB.out | apply below_alloc | apply pw_below_drewN | apply below_drew1) | exact HB.out))) : w.heap.size ≤ gb255)); clear HB; have HB := n0_; have BK255 := n1_; have GW255 := n2_; have GE255 := n3_; clear n0_ n1_ n2_ n3_; clear hb hbox hg; have hcz58_0 : w57.cell? ⟨gb255, 0, none⟩ = some (.int .i64 a0_0) := (blk_cell BK255.out 0).trans rfl; have hcz58_1 : w57.cell? ⟨gb255, 1, none⟩ = some (.int .i64 a0_1) := (blk_cell BK255.out 1).trans rfl; have hcz58_2 : w57.cell? ⟨gb255, 2, none⟩ = some (.int .i64 a0_2) := (blk_cell BK255.out 2).trans rfl; have hcz58_3 : w57.cell? ⟨gb255, 3, none⟩ = some (.int .i64 a0_3) := (blk_cell BK255.out 3).trans rfl; have hcz58_4 : w57.cell? ⟨gb255, 4, none⟩ = some (.int .i64 a0_4) := (blk_cell BK255.out 4).trans rfl; have hcz58_5 : w57.cell? ⟨gb255, 5, none⟩ = some (.int .i64 a0_5) := (blk_cell BK255.out 5).trans rfl; have hcz58_6 : w57.cell? ⟨gb255, 6, none⟩ = some (.bool a0_6) := (blk_cell BK255.out 6).trans rfl; have hfz58_0 := blk_frozen BK255.out 0; have hfz58_1 := blk_frozen BK255.out 1; have hfz58_2 := blk_frozen BK255.out 2; have hfz58_3 := blk_frozen BK255.out 3; have hfz58_4 := blk_frozen BK255.out 4; have hfz58_5 := blk_frozen BK255.out 5; have hfz58_6 := blk_frozen BK255.out 6) | ((with_reducible refine gate_dst (N := 3) rfl ?_); refine box_event ?hg (N := 3) ?hd (cs := #[.int .i64 0, .int .i64 0, .int .i64 0, .int .i64 0]) (t := 36) ?hr ?_; (case hd => rfl); (case hg => rfl); (case hr => first | (go_simp; done) | (go_simp; rfl)); intro gb256 hg w59 hbox hb; have n0_ := Aside0.mk (blk_below (g := gb255) (o := .cells #[.int .i64 a0_0, .int .i64 a0_1, .int .i64 a0_2, .int .i64 a0_3, .int .i64 a0_4, .int .i64 a0_5, .bool a0_6] 38 (0, 0)) (by (with_reducible repeat (first | refine blk_drewN ?_ _ | refine blk_drew ?_ | refine blk_alloc ?_ _)); exact BK255.out) hb); have n1_ := Aside0.mk (below_step (by repeat (first | (with_reducible first | exact HB.out | apply below_alloc | apply pw_below_drewN | apply below_drew1 | refine below_set ?_ GE255.out) | exact HB.out)) hb); have n2_ := Aside0.mk (hbox); have n3_ := Aside0.mk ((by rw [hg]; exact (below_size (by repeat (first | (with_reducible first | exact HB.out | apply below_alloc | apply pw_below_drewN | apply below_drew1 | refine below_set ?_ GE255.out) | exact HB.out))) : w.heap.size ≤ gb256)); have n4_ := Aside0.mk ((by rw [hg]; exact (below_size (by repeat (first | (with_reducible first | exact HB.out | apply below_alloc | apply pw_below_drewN | apply below_drew1 | refine below_set ?_ GE255.out) | exact HB.out))) : w.heap.size ≤ gb256)); have n5_ := Aside0.mk ((by rw [hg]; exact Nat.ne_of_lt (blk_lt (g := gb255) (o := .cells #[.int .i64 a0_0, .int .i64 a0_1, .int .i64 a0_2, .int .i64 a0_3, .int .i64 a0_4, .int .i64 a0_5, .bool a0_6] 38 (0, 0)) (by (with_reducible repeat (first | refine blk_drewN ?_ _ | refine blk_drew ?_ | refine blk_alloc ?_ _)); exact BK255.out)) : gb255 ≠ gb256)); have n6_ := Aside0.mk ((by rw [hg]; exact Nat.ne_of_gt (blk_lt (g := gb255) (o := .cells #[.int .i64 a0_0, .int .i64 a0_1, .int .i64 a0_2, .int .i64 a0_3, .int .i64 a0_4, .int .i64 a0_5, .bool a0_6] 38 (0, 0)) (by (with_reducible repeat (first | refine blk_drewN ?_ _ | refine blk_drew ?_ | refine blk_alloc ?_ _)); exact BK255.out)) : gb256 ≠ gb255)); clear BK255; clear HB; have BK255 := n0_; have HB := n1_; have BK256 := n2_; have GW256 := n3_; have GE256 := n4_; have NB255_256 := n5_; have NB256_255 := n6_; clear n0_ n1_ n2_ n3_ n4_ n5_ n6_; clear hb hbox hg; have hnb60 := NB256_255.out; have hnc60 := NB255_256.out; have hcz61_0 : w59.cell? ⟨gb256, 0, none⟩ = some (.int .i64 0) := (blk_cell BK256.out 0).trans rfl; have hcz61_1 : w59.cell? ⟨gb256, 1, none⟩ = some (.int .i64 0) := (blk_cell BK256.out 1).trans rfl; have hcz61_2 : w59.cell? ⟨gb256, 2, none⟩ = some (.int .i64 0) := (blk_cell BK256.out 2).trans rfl; have hcz61_3 : w59.cell? ⟨gb256, 3, none⟩ = some (.int .i64 0) := (blk_cell BK256.out 3).trans rfl; have hfz61_0 := blk_frozen BK256.out 0; have hfz61_1 := blk_frozen BK256.out 1; have hfz61_2 := blk_frozen BK256.out 2; have hfz61_3 := blk_frozen BK256.out 3) | ((with_reducible refine gate_callee (f := 33) rfl ?_); refine goesL_ (some 8) rfl rfl Tryd.func33 (by kernel_rfl) rfl #[.int .i64 a0_0] rfl (by (try simp only [List.map_toArray, List.map_cons, List.map_nil]); first | done | rfl | (simp only [List.length_drop, List.length_take]; rfl)) ?_; (with_reducible refine (bpdu_Bridge.calls a0_0 true _ A2.out).mono ?_); rintro e w' ⟨rfl, ⟨nd, rfl⟩⟩; refine ⟨_, rfl, ?_⟩) | (go_at_call 33; (with_reducible refine (bpdu_Bridge.calls a0_2 false _ A4.out).mono ?_); rintro e w' ⟨rfl, ⟨nd, rfl⟩⟩))
      go_ret
      exact ⟨by first | rfl | (simp [errW_none, errW_some] <;> rfl) | (simp [*, errW_none, errW_some] <;> rfl), by repeat (first | (with_reducible first | exact HB.out | apply below_alloc | apply pw_below_drewN | apply below_drew1 | refine below_set ?_ GE255.out | refine below_set ?_ GE256.out) | exact HB.out)⟩
  · replace c3 := Bool.eq_false_iff.mpr c3
    subst c3
    have H1 : (some false) = some r := by rw [if_neg (show ¬ (false = true) by decide)] at H; exact H
    clear H
    have H := H1
    clear H1
    obtain rfl := Option.some.inj H
    go_enter Tryd.func37, Tryd.ntmps37
    go_wp2_with (first | ((with_reducible refine gate_dst (N := 1) rfl ?_); refine box_event ?hg (N := 1) ?hd (cs := #[.int .i64 a0_0, .int .i64 a0_1, .int .i64 a0_2, .int .i64 a0_3, .int .i64 a0_4, .int .i64 a0_5, .bool a0_6]) (t := 38) ?hr ?_; (case hd => rfl); (case hg => rfl); (case hr => first | (go_simp; done) | (go_simp; rfl)); intro gb255 hg w62 hbox hb; have n0_ := Aside0.mk (below_step (by repeat (first | (with_reducible first | exact HB.out | apply below_alloc | apply pw_below_drewN | apply below_drew1) | exact HB.out)) hb); have n1_ := Aside0.mk (hbox); have n2_ := Aside0.mk ((by rw [hg]; exact (below_size (by repeat (first | (with_reducible first | exact HB.out | apply below_alloc | apply pw_below_drewN | apply below_drew1) | exact HB.out))) : w.heap.size ≤ gb255)); have n3_ := Aside0.mk ((by rw [hg]; exact (below_size (by repeat (first | (with_reducible first | exact HB.out | apply below_alloc | apply pw_below_drewN | apply below_drew1) | exact HB.out))) : w.heap.size ≤ gb255)); clear HB; have HB := n0_; have BK255 := n1_; have GW255 := n2_; have GE255 := n3_; clear n0_ n1_ n2_ n3_; clear hb hbox hg; have hcz63_0 : w62.cell? ⟨gb255, 0, none⟩ = some (.int .i64 a0_0) := (blk_cell BK255.out 0).trans rfl; have hcz63_1 : w62.cell? ⟨gb255, 1, none⟩ = some (.int .i64 a0_1) := (blk_cell BK255.out 1).trans rfl; have hcz63_2 : w62.cell? ⟨gb255, 2, none⟩ = some (.int .i64 a0_2) := (blk_cell BK255.out 2).trans rfl; have hcz63_3 : w62.cell? ⟨gb255, 3, none⟩ = some (.int .i64 a0_3) := (blk_cell BK255.out 3).trans rfl; have hcz63_4 : w62.cell? ⟨gb255, 4, none⟩ = some (.int .i64 a0_4) := (blk_cell BK255.out 4).trans rfl; have hcz63_5 : w62.cell? ⟨gb255, 5, none⟩ = some (.int .i64 a0_5) := (blk_cell BK255.out 5).trans rfl; have hcz63_6 : w62.cell? ⟨gb255, 6, none⟩ = some (.bool a0_6) := (blk_cell BK255.out 6).trans rfl; have hfz63_0 := blk_frozen BK255.out 0; have hfz63_1 := blk_frozen BK255.out 1; have hfz63_2 := blk_frozen BK255.out 2; have hfz63_3 := blk_frozen BK255.out 3; have hfz63_4 := blk_frozen BK255.out 4; have hfz63_5 := blk_frozen BK255.out 5; have hfz63_6 := blk_frozen BK255.out 6) | ((with_reducible refine gate_dst (N := 3) rfl ?_); refine box_event ?hg (N := 3) ?hd (cs := #[.int .i64 0, .int .i64 0, .int .i64 0, .int .i64 0]) (t := 36) ?hr ?_; (case hd => rfl); (case hg => rfl); (case hr => first | (go_simp; done) | (go_simp; rfl)); intro gb256 hg w64 hbox hb; have n0_ := Aside0.mk (blk_below (g := gb255) (o := .cells #[.int .i64 a0_0, .int .i64 a0_1, .int .i64 a0_2, .int .i64 a0_3, .int .i64 a0_4, .int .i64 a0_5, .bool a0_6] 38 (0, 0)) (by (with_reducible repeat (first | refine blk_drewN ?_ _ | refine blk_drew ?_ | refine blk_alloc ?_ _)); exact BK255.out) hb); have n1_ := Aside0.mk (below_step (by repeat (first | (with_reducible first | exact HB.out | apply below_alloc | apply pw_below_drewN | apply below_drew1 | refine below_set ?_ GE255.out) | exact HB.out)) hb); have n2_ := Aside0.mk (hbox); have n3_ := Aside0.mk ((by rw [hg]; exact (below_size (by repeat (first | (with_reducible first | exact HB.out | apply below_alloc | apply pw_below_drewN | apply below_drew1 | refine below_set ?_ GE255.out) | exact HB.out))) : w.heap.size ≤ gb256)); have n4_ := Aside0.mk ((by rw [hg]; exact (below_size (by repeat (first | (with_reducible first | exact HB.out | apply below_alloc | apply pw_below_drewN | apply below_drew1 | refine below_set ?_ GE255.out) | exact HB.out))) : w.heap.size ≤ gb256)); have n5_ := Aside0.mk ((by rw [hg]; exact Nat.ne_of_lt (blk_lt (g := gb255) (o := .cells #[.int .i64 a0_0, .int .i64 a0_1, .int .i64 a0_2, .int .i64 a0_3, .int .i64 a0_4, .int .i64 a0_5, .bool a0_6] 38 (0, 0)) (by (with_reducible repeat (first | refine blk_drewN ?_ _ | refine blk_drew ?_ | refine blk_alloc ?_ _)); exact BK255.out)) : gb255 ≠ gb256)); have n6_ := Aside0.mk ((by rw [hg]; exact Nat.ne_of_gt (blk_lt (g := gb255) (o := .cells #[.int .i64 a0_0, .int .i64 a0_1, .int .i64 a0_2, .int .i64 a0_3, .int .i64 a0_4, .int .i64 a0_5, .bool a0_6] 38 (0, 0)) (by (with_reducible repeat (first | refine blk_drewN ?_ _ | refine blk_drew ?_ | refine blk_alloc ?_ _)); exact BK255.out)) : gb256 ≠ gb255)); clear BK255; clear HB; have BK255 := n0_; have HB := n1_; have BK256 := n2_; have GW256 := n3_; have GE256 := n4_; have NB255_256 := n5_; have NB256_255 := n6_; clear n0_ n1_ n2_ n3_ n4_ n5_ n6_; clear hb hbox hg; have hnb65 := NB256_255.out; have hnc65 := NB255_256.out; have hcz66_0 : w64.cell? ⟨gb256, 0, none⟩ = some (.int .i64 0) := (blk_cell BK256.out 0).trans rfl; have hcz66_1 : w64.cell? ⟨gb256, 1, none⟩ = some (.int .i64 0) := (blk_cell BK256.out 1).trans rfl; have hcz66_2 : w64.cell? ⟨gb256, 2, none⟩ = some (.int .i64 0) := (blk_cell BK256.out 2).trans rfl; have hcz66_3 : w64.cell? ⟨gb256, 3, none⟩ = some (.int .i64 0) := (blk_cell BK256.out 3).trans rfl; have hfz66_0 := blk_frozen BK256.out 0; have hfz66_1 := blk_frozen BK256.out 1; have hfz66_2 := blk_frozen BK256.out 2; have hfz66_3 := blk_frozen BK256.out 3) | ((with_reducible refine gate_callee (f := 33) rfl ?_); refine goesL_ (some 8) rfl rfl Tryd.func33 (by kernel_rfl) rfl #[.int .i64 a0_0] rfl (by (try simp only [List.map_toArray, List.map_cons, List.map_nil]); first | done | rfl | (simp only [List.length_drop, List.length_take]; rfl)) ?_; (with_reducible refine (bpdu_Bridge.calls a0_0 false _ A2.out).mono ?_); rintro e w' ⟨rfl, ⟨nd, rfl⟩⟩; refine ⟨_, rfl, ?_⟩))
    go_ret
    exact ⟨by first | rfl | (simp [errW_none, errW_some] <;> rfl) | (simp [*, errW_none, errW_some] <;> rfl), by repeat (first | (with_reducible first | exact HB.out | apply below_alloc | apply pw_below_drewN | apply below_drew1 | refine below_set ?_ GE255.out | refine below_set ?_ GE256.out) | exact HB.out)⟩
def kissgateref08_Good.f (a0_0 : Int) (a0_1 : Int) (a0_2 : Int) (a0_3 : Int) (a0_4 : Int) (a0_5 : Int) (a0_6 : Bool) : Option (Bool) := (kissgateref08_Bridge.f a0_0).bind fun t261 => (if t261 = true then ((kissgateref08_Bridge.f a0_2).bind fun t262 => (if t262 = true then (if a0_1 ≥ 0 then (if a0_1 < 2147483648 then (if a0_3 ≥ 0 then (if a0_3 ≤ 5 then (if a0_4 ≥ 0 then (if a0_4 ≤ 10 then (if a0_5 ≥ 0 then (some (decide (a0_5 ≤ 3))) else (some false)) else (some false)) else (some false)) else (some false)) else (some false)) else (some false)) else (some false)) else (some false))) else (some false))
set_option maxHeartbeats 8000000 in
set_option maxRecDepth 100000 in
theorem kissgateref08_Good.calls (a0_0 : Int) (a0_1 : Int) (a0_2 : Int) (a0_3 : Int) (a0_4 : Int) (a0_5 : Int) (a0_6 : Bool) (r : Bool) (w : World) (h : kissgateref08_Good.f a0_0 a0_1 a0_2 a0_3 a0_4 a0_5 a0_6 = some r) :
    Calls Tryd.prog 18 #[.agg #[.int .i64 a0_0, .int .i64 a0_1, .int .i64 a0_2, .int .i64 a0_3, .int .i64 a0_4, .int .i64 a0_5, .bool a0_6]] w fun e w' => e = .returned (.bool r) ∧ Below w.heap.size w w' := by
  have hu38 := Tryd.underlying38
  have HB := Aside0.mk (Below.refl w.heap.size w)
  have H : ((kissgateref08_Bridge.f a0_0).bind fun t261 => (if t261 = true then ((kissgateref08_Bridge.f a0_2).bind fun t262 => (if t262 = true then (if a0_1 ≥ 0 then (if a0_1 < 2147483648 then (if a0_3 ≥ 0 then (if a0_3 ≤ 5 then (if a0_4 ≥ 0 then (if a0_4 ≤ 10 then (if a0_5 ≥ 0 then (some (decide (a0_5 ≤ 3))) else (some false)) else (some false)) else (some false)) else (some false)) else (some false)) else (some false)) else (some false)) else (some false))) else (some false))) = some r := h
  clear h
  replace H := Option.bind_eq_some_iff.mp H
  obtain ⟨t261, A20, H⟩ := H
  replace H : (if t261 = true then ((kissgateref08_Bridge.f a0_2).bind fun t262 => (if t262 = true then (if a0_1 ≥ 0 then (if a0_1 < 2147483648 then (if a0_3 ≥ 0 then (if a0_3 ≤ 5 then (if a0_4 ≥ 0 then (if a0_4 ≤ 10 then (if a0_5 ≥ 0 then (some (decide (a0_5 ≤ 3))) else (some false)) else (some false)) else (some false)) else (some false)) else (some false)) else (some false)) else (some false)) else (some false))) else (some false)) = some r := H
  have A2 := Aside0.mk A20
  clear A20
  by_cases c3 : t261 = true
  · subst c3
    have H1 : ((kissgateref08_Bridge.f a0_2).bind fun t262 => (if t262 = true then (if a0_1 ≥ 0 then (if a0_1 < 2147483648 then (if a0_3 ≥ 0 then (if a0_3 ≤ 5 then (if a0_4 ≥ 0 then (if a0_4 ≤ 10 then (if a0_5 ≥ 0 then (some (decide (a0_5 ≤ 3))) else (some false)) else (some false)) else (some false)) else (some false)) else (some false)) else (some false)) else (some false)) else (some false))) = some r := by rw [if_pos rfl] at H; exact H
    clear H
    have H := H1
    clear H1
    replace H := Option.bind_eq_some_iff.mp H
    obtain ⟨t262, A40, H⟩ := H
    replace H : (if t262 = true then (if a0_1 ≥ 0 then (if a0_1 < 2147483648 then (if a0_3 ≥ 0 then (if a0_3 ≤ 5 then (if a0_4 ≥ 0 then (if a0_4 ≤ 10 then (if a0_5 ≥ 0 then (some (decide (a0_5 ≤ 3))) else (some false)) else (some false)) else (some false)) else (some false)) else (some false)) else (some false)) else (some false)) else (some false)) = some r := H
    have A4 := Aside0.mk A40
    clear A40
    by_cases c5 : t262 = true
    · subst c5
      have H1 : (if a0_1 ≥ 0 then (if a0_1 < 2147483648 then (if a0_3 ≥ 0 then (if a0_3 ≤ 5 then (if a0_4 ≥ 0 then (if a0_4 ≤ 10 then (if a0_5 ≥ 0 then (some (decide (a0_5 ≤ 3))) else (some false)) else (some false)) else (some false)) else (some false)) else (some false)) else (some false)) else (some false)) = some r := by rw [if_pos rfl] at H; exact H
      clear H
      have H := H1
      clear H1
      by_cases c6 : a0_1 ≥ 0
      · rw [if_pos c6] at H
        have c6b0 : decide (0 ≤ a0_1) = true := decide_eq_true c6
        clear c6
        by_cases c7 : a0_1 < 2147483648
        · rw [if_pos c7] at H
          have c7b0 : decide (a0_1 < 2147483648) = true := decide_eq_true c7
          clear c7
          by_cases c8 : a0_3 ≥ 0
          · rw [if_pos c8] at H
            have c8b0 : decide (0 ≤ a0_3) = true := decide_eq_true c8
            clear c8
            by_cases c9 : a0_3 ≤ 5
            · rw [if_pos c9] at H
              have c9b0 : decide (a0_3 ≤ 5) = true := decide_eq_true c9
              clear c9
              by_cases c10 : a0_4 ≥ 0
              · rw [if_pos c10] at H
                have c10b0 : decide (0 ≤ a0_4) = true := decide_eq_true c10
                clear c10
                by_cases c11 : a0_4 ≤ 10
                · rw [if_pos c11] at H
                  have c11b0 : decide (a0_4 ≤ 10) = true := decide_eq_true c11
                  clear c11
                  by_cases c12 : a0_5 ≥ 0
                  · rw [if_pos c12] at H
                    have c12b0 : decide (0 ≤ a0_5) = true := decide_eq_true c12
                    clear c12
                    obtain rfl := Option.some.inj H
                    go_enter Tryd.func18, Tryd.ntmps18
                    go_wp2_with (first | ((with_reducible refine gate_dst (N := 1) rfl ?_); refine box_event ?hg (N := 1) ?hd (cs := #[.int .i64 a0_0, .int .i64 a0_1, .int .i64 a0_2, .int .i64 a0_3, .int .i64 a0_4, .int .i64 a0_5, .bool a0_6]) (t := 38) ?hr ?_; (case hd => rfl); (case hg => rfl); (case hr => first | (go_simp; done) | (go_simp; rfl)); intro gb260 hg w13 hbox hb; have n0_ := Aside0.mk (below_step (by repeat (first | (with_reducible first | exact HB.out | apply below_alloc | apply pw_below_drewN | apply below_drew1) | exact HB.out)) hb); have n1_ := Aside0.mk (hbox); have n2_ := Aside0.mk ((by rw [hg]; exact (below_size (by repeat (first | (with_reducible first | exact HB.out | apply below_alloc | apply pw_below_drewN | apply below_drew1) | exact HB.out))) : w.heap.size ≤ gb260)); have n3_ := Aside0.mk ((by rw [hg]; exact (below_size (by repeat (first | (with_reducible first | exact HB.out | apply below_alloc | apply pw_below_drewN | apply below_drew1) | exact HB.out))) : w.heap.size ≤ gb260)); clear HB; have HB := n0_; have BK260 := n1_; have GW260 := n2_; have GE260 := n3_; clear n0_ n1_ n2_ n3_; clear hb hbox hg; have hcz14_0 : w13.cell? ⟨gb260, 0, none⟩ = some (.int .i64 a0_0) := (blk_cell BK260.out 0).trans rfl; have hcz14_1 : w13.cell? ⟨gb260, 1, none⟩ = some (.int .i64 a0_1) := (blk_cell BK260.out 1).trans rfl; have hcz14_2 : w13.cell? ⟨gb260, 2, none⟩ = some (.int .i64 a0_2) := (blk_cell BK260.out 2).trans rfl; have hcz14_3 : w13.cell? ⟨gb260, 3, none⟩ = some (.int .i64 a0_3) := (blk_cell BK260.out 3).trans rfl; have hcz14_4 : w13.cell? ⟨gb260, 4, none⟩ = some (.int .i64 a0_4) := (blk_cell BK260.out 4).trans rfl; have hcz14_5 : w13.cell? ⟨gb260, 5, none⟩ = some (.int .i64 a0_5) := (blk_cell BK260.out 5).trans rfl; have hcz14_6 : w13.cell? ⟨gb260, 6, none⟩ = some (.bool a0_6) := (blk_cell BK260.out 6).trans rfl; have hfz14_0 := blk_frozen BK260.out 0; have hfz14_1 := blk_frozen BK260.out 1; have hfz14_2 := blk_frozen BK260.out 2; have hfz14_3 := blk_frozen BK260.out 3; have hfz14_4 := blk_frozen BK260.out 4; have hfz14_5 := blk_frozen BK260.out 5; have hfz14_6 := blk_frozen BK260.out 6) | ((with_reducible refine gate_callee (f := 13) rfl ?_); refine goesL_ (some 6) rfl rfl Tryd.func13 (by kernel_rfl) rfl #[.int .i64 a0_0] rfl (by (try simp only [List.map_toArray, List.map_cons, List.map_nil]); first | done | rfl | (simp only [List.length_drop, List.length_take]; rfl)) ?_; (with_reducible refine (kissgateref08_Bridge.calls a0_0 true _ A2.out).mono ?_); rintro e w' ⟨rfl, ⟨nd, rfl⟩⟩; refine ⟨_, rfl, ?_⟩) | (go_at_call 13; (with_reducible refine (kissgateref08_Bridge.calls a0_2 true _ A4.out).mono ?_); rintro e w' ⟨rfl, ⟨nd, rfl⟩⟩))
                    go_ret
                    exact ⟨by first | rfl | (simp [errW_none, errW_some] <;> rfl) | (simp [*, errW_none, errW_some] <;> rfl), by repeat (first | (with_reducible first | exact HB.out | apply below_alloc | apply pw_below_drewN | apply below_drew1 | refine below_set ?_ GE260.out) | exact HB.out)⟩
                  · rw [if_neg c12] at H
                    have c12b0 : decide (0 ≤ a0_5) = false := decide_eq_false c12
                    clear c12
                    obtain rfl := Option.some.inj H
                    go_enter Tryd.func18, Tryd.ntmps18
                    go_wp2_with (first | ((with_reducible refine gate_dst (N := 1) rfl ?_); refine box_event ?hg (N := 1) ?hd (cs := #[.int .i64 a0_0, .int .i64 a0_1, .int .i64 a0_2, .int .i64 a0_3, .int .i64 a0_4, .int .i64 a0_5, .bool a0_6]) (t := 38) ?hr ?_; (case hd => rfl); (case hg => rfl); (case hr => first | (go_simp; done) | (go_simp; rfl)); intro gb260 hg w15 hbox hb; have n0_ := Aside0.mk (below_step (by repeat (first | (with_reducible first | exact HB.out | apply below_alloc | apply pw_below_drewN | apply below_drew1) | exact HB.out)) hb); have n1_ := Aside0.mk (hbox); have n2_ := Aside0.mk ((by rw [hg]; exact (below_size (by repeat (first | (with_reducible first | exact HB.out | apply below_alloc | apply pw_below_drewN | apply below_drew1) | exact HB.out))) : w.heap.size ≤ gb260)); have n3_ := Aside0.mk ((by rw [hg]; exact (below_size (by repeat (first | (with_reducible first | exact HB.out | apply below_alloc | apply pw_below_drewN | apply below_drew1) | exact HB.out))) : w.heap.size ≤ gb260)); clear HB; have HB := n0_; have BK260 := n1_; have GW260 := n2_; have GE260 := n3_; clear n0_ n1_ n2_ n3_; clear hb hbox hg; have hcz16_0 : w15.cell? ⟨gb260, 0, none⟩ = some (.int .i64 a0_0) := (blk_cell BK260.out 0).trans rfl; have hcz16_1 : w15.cell? ⟨gb260, 1, none⟩ = some (.int .i64 a0_1) := (blk_cell BK260.out 1).trans rfl; have hcz16_2 : w15.cell? ⟨gb260, 2, none⟩ = some (.int .i64 a0_2) := (blk_cell BK260.out 2).trans rfl; have hcz16_3 : w15.cell? ⟨gb260, 3, none⟩ = some (.int .i64 a0_3) := (blk_cell BK260.out 3).trans rfl; have hcz16_4 : w15.cell? ⟨gb260, 4, none⟩ = some (.int .i64 a0_4) := (blk_cell BK260.out 4).trans rfl; have hcz16_5 : w15.cell? ⟨gb260, 5, none⟩ = some (.int .i64 a0_5) := (blk_cell BK260.out 5).trans rfl; have hcz16_6 : w15.cell? ⟨gb260, 6, none⟩ = some (.bool a0_6) := (blk_cell BK260.out 6).trans rfl; have hfz16_0 := blk_frozen BK260.out 0; have hfz16_1 := blk_frozen BK260.out 1; have hfz16_2 := blk_frozen BK260.out 2; have hfz16_3 := blk_frozen BK260.out 3; have hfz16_4 := blk_frozen BK260.out 4; have hfz16_5 := blk_frozen BK260.out 5; have hfz16_6 := blk_frozen BK260.out 6) | ((with_reducible refine gate_callee (f := 13) rfl ?_); refine goesL_ (some 6) rfl rfl Tryd.func13 (by kernel_rfl) rfl #[.int .i64 a0_0] rfl (by (try simp only [List.map_toArray, List.map_cons, List.map_nil]); first | done | rfl | (simp only [List.length_drop, List.length_take]; rfl)) ?_; (with_reducible refine (kissgateref08_Bridge.calls a0_0 true _ A2.out).mono ?_); rintro e w' ⟨rfl, ⟨nd, rfl⟩⟩; refine ⟨_, rfl, ?_⟩) | (go_at_call 13; (with_reducible refine (kissgateref08_Bridge.calls a0_2 true _ A4.out).mono ?_); rintro e w' ⟨rfl, ⟨nd, rfl⟩⟩))
                    go_ret
                    exact ⟨by first | rfl | (simp [errW_none, errW_some] <;> rfl) | (simp [*, errW_none, errW_some] <;> rfl), by repeat (first | (with_reducible first | exact HB.out | apply below_alloc | apply pw_below_drewN | apply below_drew1 | refine below_set ?_ GE260.out) | exact HB.out)⟩
                · rw [if_neg c11] at H
                  have c11b0 : decide (a0_4 ≤ 10) = false := decide_eq_false c11
                  clear c11
                  obtain rfl := Option.some.inj H
                  go_enter Tryd.func18, Tryd.ntmps18
                  go_wp2_with (first | ((with_reducible refine gate_dst (N := 1) rfl ?_); refine box_event ?hg (N := 1) ?hd (cs := #[.int .i64 a0_0, .int .i64 a0_1, .int .i64 a0_2, .int .i64 a0_3, .int .i64 a0_4, .int .i64 a0_5, .bool a0_6]) (t := 38) ?hr ?_; (case hd => rfl); (case hg => rfl); (case hr => first | (go_simp; done) | (go_simp; rfl)); intro gb260 hg w17 hbox hb; have n0_ := Aside0.mk (below_step (by repeat (first | (with_reducible first | exact HB.out | apply below_alloc | apply pw_below_drewN | apply below_drew1) | exact HB.out)) hb); have n1_ := Aside0.mk (hbox); have n2_ := Aside0.mk ((by rw [hg]; exact (below_size (by repeat (first | (with_reducible first | exact HB.out | apply below_alloc | apply pw_below_drewN | apply below_drew1) | exact HB.out))) : w.heap.size ≤ gb260)); have n3_ := Aside0.mk ((by rw [hg]; exact (below_size (by repeat (first | (with_reducible first | exact HB.out | apply below_alloc | apply pw_below_drewN | apply below_drew1) | exact HB.out))) : w.heap.size ≤ gb260)); clear HB; have HB := n0_; have BK260 := n1_; have GW260 := n2_; have GE260 := n3_; clear n0_ n1_ n2_ n3_; clear hb hbox hg; have hcz18_0 : w17.cell? ⟨gb260, 0, none⟩ = some (.int .i64 a0_0) := (blk_cell BK260.out 0).trans rfl; have hcz18_1 : w17.cell? ⟨gb260, 1, none⟩ = some (.int .i64 a0_1) := (blk_cell BK260.out 1).trans rfl; have hcz18_2 : w17.cell? ⟨gb260, 2, none⟩ = some (.int .i64 a0_2) := (blk_cell BK260.out 2).trans rfl; have hcz18_3 : w17.cell? ⟨gb260, 3, none⟩ = some (.int .i64 a0_3) := (blk_cell BK260.out 3).trans rfl; have hcz18_4 : w17.cell? ⟨gb260, 4, none⟩ = some (.int .i64 a0_4) := (blk_cell BK260.out 4).trans rfl; have hcz18_5 : w17.cell? ⟨gb260, 5, none⟩ = some (.int .i64 a0_5) := (blk_cell BK260.out 5).trans rfl; have hcz18_6 : w17.cell? ⟨gb260, 6, none⟩ = some (.bool a0_6) := (blk_cell BK260.out 6).trans rfl; have hfz18_0 := blk_frozen BK260.out 0; have hfz18_1 := blk_frozen BK260.out 1; have hfz18_2 := blk_frozen BK260.out 2; have hfz18_3 := blk_frozen BK260.out 3; have hfz18_4 := blk_frozen BK260.out 4; have hfz18_5 := blk_frozen BK260.out 5; have hfz18_6 := blk_frozen BK260.out 6) | ((with_reducible refine gate_callee (f := 13) rfl ?_); refine goesL_ (some 6) rfl rfl Tryd.func13 (by kernel_rfl) rfl #[.int .i64 a0_0] rfl (by (try simp only [List.map_toArray, List.map_cons, List.map_nil]); first | done | rfl | (simp only [List.length_drop, List.length_take]; rfl)) ?_; (with_reducible refine (kissgateref08_Bridge.calls a0_0 true _ A2.out).mono ?_); rintro e w' ⟨rfl, ⟨nd, rfl⟩⟩; refine ⟨_, rfl, ?_⟩) | (go_at_call 13; (with_reducible refine (kissgateref08_Bridge.calls a0_2 true _ A4.out).mono ?_); rintro e w' ⟨rfl, ⟨nd, rfl⟩⟩))
                  go_ret
                  exact ⟨by first | rfl | (simp [errW_none, errW_some] <;> rfl) | (simp [*, errW_none, errW_some] <;> rfl), by repeat (first | (with_reducible first | exact HB.out | apply below_alloc | apply pw_below_drewN | apply below_drew1 | refine below_set ?_ GE260.out) | exact HB.out)⟩
              · rw [if_neg c10] at H
                have c10b0 : decide (0 ≤ a0_4) = false := decide_eq_false c10
                clear c10
                obtain rfl := Option.some.inj H
                go_enter Tryd.func18, Tryd.ntmps18
                go_wp2_with (first | ((with_reducible refine gate_dst (N := 1) rfl ?_); refine box_event ?hg (N := 1) ?hd (cs := #[.int .i64 a0_0, .int .i64 a0_1, .int .i64 a0_2, .int .i64 a0_3, .int .i64 a0_4, .int .i64 a0_5, .bool a0_6]) (t := 38) ?hr ?_; (case hd => rfl); (case hg => rfl); (case hr => first | (go_simp; done) | (go_simp; rfl)); intro gb260 hg w19 hbox hb; have n0_ := Aside0.mk (below_step (by repeat (first | (with_reducible first | exact HB.out | apply below_alloc | apply pw_below_drewN | apply below_drew1) | exact HB.out)) hb); have n1_ := Aside0.mk (hbox); have n2_ := Aside0.mk ((by rw [hg]; exact (below_size (by repeat (first | (with_reducible first | exact HB.out | apply below_alloc | apply pw_below_drewN | apply below_drew1) | exact HB.out))) : w.heap.size ≤ gb260)); have n3_ := Aside0.mk ((by rw [hg]; exact (below_size (by repeat (first | (with_reducible first | exact HB.out | apply below_alloc | apply pw_below_drewN | apply below_drew1) | exact HB.out))) : w.heap.size ≤ gb260)); clear HB; have HB := n0_; have BK260 := n1_; have GW260 := n2_; have GE260 := n3_; clear n0_ n1_ n2_ n3_; clear hb hbox hg; have hcz20_0 : w19.cell? ⟨gb260, 0, none⟩ = some (.int .i64 a0_0) := (blk_cell BK260.out 0).trans rfl; have hcz20_1 : w19.cell? ⟨gb260, 1, none⟩ = some (.int .i64 a0_1) := (blk_cell BK260.out 1).trans rfl; have hcz20_2 : w19.cell? ⟨gb260, 2, none⟩ = some (.int .i64 a0_2) := (blk_cell BK260.out 2).trans rfl; have hcz20_3 : w19.cell? ⟨gb260, 3, none⟩ = some (.int .i64 a0_3) := (blk_cell BK260.out 3).trans rfl; have hcz20_4 : w19.cell? ⟨gb260, 4, none⟩ = some (.int .i64 a0_4) := (blk_cell BK260.out 4).trans rfl; have hcz20_5 : w19.cell? ⟨gb260, 5, none⟩ = some (.int .i64 a0_5) := (blk_cell BK260.out 5).trans rfl; have hcz20_6 : w19.cell? ⟨gb260, 6, none⟩ = some (.bool a0_6) := (blk_cell BK260.out 6).trans rfl; have hfz20_0 := blk_frozen BK260.out 0; have hfz20_1 := blk_frozen BK260.out 1; have hfz20_2 := blk_frozen BK260.out 2; have hfz20_3 := blk_frozen BK260.out 3; have hfz20_4 := blk_frozen BK260.out 4; have hfz20_5 := blk_frozen BK260.out 5; have hfz20_6 := blk_frozen BK260.out 6) | ((with_reducible refine gate_callee (f := 13) rfl ?_); refine goesL_ (some 6) rfl rfl Tryd.func13 (by kernel_rfl) rfl #[.int .i64 a0_0] rfl (by (try simp only [List.map_toArray, List.map_cons, List.map_nil]); first | done | rfl | (simp only [List.length_drop, List.length_take]; rfl)) ?_; (with_reducible refine (kissgateref08_Bridge.calls a0_0 true _ A2.out).mono ?_); rintro e w' ⟨rfl, ⟨nd, rfl⟩⟩; refine ⟨_, rfl, ?_⟩) | (go_at_call 13; (with_reducible refine (kissgateref08_Bridge.calls a0_2 true _ A4.out).mono ?_); rintro e w' ⟨rfl, ⟨nd, rfl⟩⟩))
                go_ret
                exact ⟨by first | rfl | (simp [errW_none, errW_some] <;> rfl) | (simp [*, errW_none, errW_some] <;> rfl), by repeat (first | (with_reducible first | exact HB.out | apply below_alloc | apply pw_below_drewN | apply below_drew1 | refine below_set ?_ GE260.out) | exact HB.out)⟩
            · rw [if_neg c9] at H
              have c9b0 : decide (a0_3 ≤ 5) = false := decide_eq_false c9
              clear c9
              obtain rfl := Option.some.inj H
              go_enter Tryd.func18, Tryd.ntmps18
              go_wp2_with (first | ((with_reducible refine gate_dst (N := 1) rfl ?_); refine box_event ?hg (N := 1) ?hd (cs := #[.int .i64 a0_0, .int .i64 a0_1, .int .i64 a0_2, .int .i64 a0_3, .int .i64 a0_4, .int .i64 a0_5, .bool a0_6]) (t := 38) ?hr ?_; (case hd => rfl); (case hg => rfl); (case hr => first | (go_simp; done) | (go_simp; rfl)); intro gb260 hg w21 hbox hb; have n0_ := Aside0.mk (below_step (by repeat (first | (with_reducible first | exact HB.out | apply below_alloc | apply pw_below_drewN | apply below_drew1) | exact HB.out)) hb); have n1_ := Aside0.mk (hbox); have n2_ := Aside0.mk ((by rw [hg]; exact (below_size (by repeat (first | (with_reducible first | exact HB.out | apply below_alloc | apply pw_below_drewN | apply below_drew1) | exact HB.out))) : w.heap.size ≤ gb260)); have n3_ := Aside0.mk ((by rw [hg]; exact (below_size (by repeat (first | (with_reducible first | exact HB.out | apply below_alloc | apply pw_below_drewN | apply below_drew1) | exact HB.out))) : w.heap.size ≤ gb260)); clear HB; have HB := n0_; have BK260 := n1_; have GW260 := n2_; have GE260 := n3_; clear n0_ n1_ n2_ n3_; clear hb hbox hg; have hcz22_0 : w21.cell? ⟨gb260, 0, none⟩ = some (.int .i64 a0_0) := (blk_cell BK260.out 0).trans rfl; have hcz22_1 : w21.cell? ⟨gb260, 1, none⟩ = some (.int .i64 a0_1) := (blk_cell BK260.out 1).trans rfl; have hcz22_2 : w21.cell? ⟨gb260, 2, none⟩ = some (.int .i64 a0_2) := (blk_cell BK260.out 2).trans rfl; have hcz22_3 : w21.cell? ⟨gb260, 3, none⟩ = some (.int .i64 a0_3) := (blk_cell BK260.out 3).trans rfl; have hcz22_4 : w21.cell? ⟨gb260, 4, none⟩ = some (.int .i64 a0_4) := (blk_cell BK260.out 4).trans rfl; have hcz22_5 : w21.cell? ⟨gb260, 5, none⟩ = some (.int .i64 a0_5) := (blk_cell BK260.out 5).trans rfl; have hcz22_6 : w21.cell? ⟨gb260, 6, none⟩ = some (.bool a0_6) := (blk_cell BK260.out 6).trans rfl; have hfz22_0 := blk_frozen BK260.out 0; have hfz22_1 := blk_frozen BK260.out 1; have hfz22_2 := blk_frozen BK260.out 2; have hfz22_3 := blk_frozen BK260.out 3; have hfz22_4 := blk_frozen BK260.out 4; have hfz22_5 := blk_frozen BK260.out 5; have hfz22_6 := blk_frozen BK260.out 6) | ((with_reducible refine gate_callee (f := 13) rfl ?_); refine goesL_ (some 6) rfl rfl Tryd.func13 (by kernel_rfl) rfl #[.int .i64 a0_0] rfl (by (try simp only [List.map_toArray, List.map_cons, List.map_nil]); first | done | rfl | (simp only [List.length_drop, List.length_take]; rfl)) ?_; (with_reducible refine (kissgateref08_Bridge.calls a0_0 true _ A2.out).mono ?_); rintro e w' ⟨rfl, ⟨nd, rfl⟩⟩; refine ⟨_, rfl, ?_⟩) | (go_at_call 13; (with_reducible refine (kissgateref08_Bridge.calls a0_2 true _ A4.out).mono ?_); rintro e w' ⟨rfl, ⟨nd, rfl⟩⟩))
              go_ret
              exact ⟨by first | rfl | (simp [errW_none, errW_some] <;> rfl) | (simp [*, errW_none, errW_some] <;> rfl), by repeat (first | (with_reducible first | exact HB.out | apply below_alloc | apply pw_below_drewN | apply below_drew1 | refine below_set ?_ GE260.out) | exact HB.out)⟩
          · rw [if_neg c8] at H
            have c8b0 : decide (0 ≤ a0_3) = false := decide_eq_false c8
            clear c8
            obtain rfl := Option.some.inj H
            go_enter Tryd.func18, Tryd.ntmps18
            go_wp2_with (first | ((with_reducible refine gate_dst (N := 1) rfl ?_); refine box_event ?hg (N := 1) ?hd (cs := #[.int .i64 a0_0, .int .i64 a0_1, .int .i64 a0_2, .int .i64 a0_3, .int .i64 a0_4, .int .i64 a0_5, .bool a0_6]) (t := 38) ?hr ?_; (case hd => rfl); (case hg => rfl); (case hr => first | (go_simp; done) | (go_simp; rfl)); intro gb260 hg w23 hbox hb; have n0_ := Aside0.mk (below_step (by repeat (first | (with_reducible first | exact HB.out | apply below_alloc | apply pw_below_drewN | apply below_drew1) | exact HB.out)) hb); have n1_ := Aside0.mk (hbox); have n2_ := Aside0.mk ((by rw [hg]; exact (below_size (by repeat (first | (with_reducible first | exact HB.out | apply below_alloc | apply pw_below_drewN | apply below_drew1) | exact HB.out))) : w.heap.size ≤ gb260)); have n3_ := Aside0.mk ((by rw [hg]; exact (below_size (by repeat (first | (with_reducible first | exact HB.out | apply below_alloc | apply pw_below_drewN | apply below_drew1) | exact HB.out))) : w.heap.size ≤ gb260)); clear HB; have HB := n0_; have BK260 := n1_; have GW260 := n2_; have GE260 := n3_; clear n0_ n1_ n2_ n3_; clear hb hbox hg; have hcz24_0 : w23.cell? ⟨gb260, 0, none⟩ = some (.int .i64 a0_0) := (blk_cell BK260.out 0).trans rfl; have hcz24_1 : w23.cell? ⟨gb260, 1, none⟩ = some (.int .i64 a0_1) := (blk_cell BK260.out 1).trans rfl; have hcz24_2 : w23.cell? ⟨gb260, 2, none⟩ = some (.int .i64 a0_2) := (blk_cell BK260.out 2).trans rfl; have hcz24_3 : w23.cell? ⟨gb260, 3, none⟩ = some (.int .i64 a0_3) := (blk_cell BK260.out 3).trans rfl; have hcz24_4 : w23.cell? ⟨gb260, 4, none⟩ = some (.int .i64 a0_4) := (blk_cell BK260.out 4).trans rfl; have hcz24_5 : w23.cell? ⟨gb260, 5, none⟩ = some (.int .i64 a0_5) := (blk_cell BK260.out 5).trans rfl; have hcz24_6 : w23.cell? ⟨gb260, 6, none⟩ = some (.bool a0_6) := (blk_cell BK260.out 6).trans rfl; have hfz24_0 := blk_frozen BK260.out 0; have hfz24_1 := blk_frozen BK260.out 1; have hfz24_2 := blk_frozen BK260.out 2; have hfz24_3 := blk_frozen BK260.out 3; have hfz24_4 := blk_frozen BK260.out 4; have hfz24_5 := blk_frozen BK260.out 5; have hfz24_6 := blk_frozen BK260.out 6) | ((with_reducible refine gate_callee (f := 13) rfl ?_); refine goesL_ (some 6) rfl rfl Tryd.func13 (by kernel_rfl) rfl #[.int .i64 a0_0] rfl (by (try simp only [List.map_toArray, List.map_cons, List.map_nil]); first | done | rfl | (simp only [List.length_drop, List.length_take]; rfl)) ?_; (with_reducible refine (kissgateref08_Bridge.calls a0_0 true _ A2.out).mono ?_); rintro e w' ⟨rfl, ⟨nd, rfl⟩⟩; refine ⟨_, rfl, ?_⟩) | (go_at_call 13; (with_reducible refine (kissgateref08_Bridge.calls a0_2 true _ A4.out).mono ?_); rintro e w' ⟨rfl, ⟨nd, rfl⟩⟩))
            go_ret
            exact ⟨by first | rfl | (simp [errW_none, errW_some] <;> rfl) | (simp [*, errW_none, errW_some] <;> rfl), by repeat (first | (with_reducible first | exact HB.out | apply below_alloc | apply pw_below_drewN | apply below_drew1 | refine below_set ?_ GE260.out) | exact HB.out)⟩
        · rw [if_neg c7] at H
          have c7b0 : decide (a0_1 < 2147483648) = false := decide_eq_false c7
          clear c7
          obtain rfl := Option.some.inj H
          go_enter Tryd.func18, Tryd.ntmps18
          go_wp2_with (first | ((with_reducible refine gate_dst (N := 1) rfl ?_); refine box_event ?hg (N := 1) ?hd (cs := #[.int .i64 a0_0, .int .i64 a0_1, .int .i64 a0_2, .int .i64 a0_3, .int .i64 a0_4, .int .i64 a0_5, .bool a0_6]) (t := 38) ?hr ?_; (case hd => rfl); (case hg => rfl); (case hr => first | (go_simp; done) | (go_simp; rfl)); intro gb260 hg w25 hbox hb; have n0_ := Aside0.mk (below_step (by repeat (first | (with_reducible first | exact HB.out | apply below_alloc | apply pw_below_drewN | apply below_drew1) | exact HB.out)) hb); have n1_ := Aside0.mk (hbox); have n2_ := Aside0.mk ((by rw [hg]; exact (below_size (by repeat (first | (with_reducible first | exact HB.out | apply below_alloc | apply pw_below_drewN | apply below_drew1) | exact HB.out))) : w.heap.size ≤ gb260)); have n3_ := Aside0.mk ((by rw [hg]; exact (below_size (by repeat (first | (with_reducible first | exact HB.out | apply below_alloc | apply pw_below_drewN | apply below_drew1) | exact HB.out))) : w.heap.size ≤ gb260)); clear HB; have HB := n0_; have BK260 := n1_; have GW260 := n2_; have GE260 := n3_; clear n0_ n1_ n2_ n3_; clear hb hbox hg; have hcz26_0 : w25.cell? ⟨gb260, 0, none⟩ = some (.int .i64 a0_0) := (blk_cell BK260.out 0).trans rfl; have hcz26_1 : w25.cell? ⟨gb260, 1, none⟩ = some (.int .i64 a0_1) := (blk_cell BK260.out 1).trans rfl; have hcz26_2 : w25.cell? ⟨gb260, 2, none⟩ = some (.int .i64 a0_2) := (blk_cell BK260.out 2).trans rfl; have hcz26_3 : w25.cell? ⟨gb260, 3, none⟩ = some (.int .i64 a0_3) := (blk_cell BK260.out 3).trans rfl; have hcz26_4 : w25.cell? ⟨gb260, 4, none⟩ = some (.int .i64 a0_4) := (blk_cell BK260.out 4).trans rfl; have hcz26_5 : w25.cell? ⟨gb260, 5, none⟩ = some (.int .i64 a0_5) := (blk_cell BK260.out 5).trans rfl; have hcz26_6 : w25.cell? ⟨gb260, 6, none⟩ = some (.bool a0_6) := (blk_cell BK260.out 6).trans rfl; have hfz26_0 := blk_frozen BK260.out 0; have hfz26_1 := blk_frozen BK260.out 1; have hfz26_2 := blk_frozen BK260.out 2; have hfz26_3 := blk_frozen BK260.out 3; have hfz26_4 := blk_frozen BK260.out 4; have hfz26_5 := blk_frozen BK260.out 5; have hfz26_6 := blk_frozen BK260.out 6) | ((with_reducible refine gate_callee (f := 13) rfl ?_); refine goesL_ (some 6) rfl rfl Tryd.func13 (by kernel_rfl) rfl #[.int .i64 a0_0] rfl (by (try simp only [List.map_toArray, List.map_cons, List.map_nil]); first | done | rfl | (simp only [List.length_drop, List.length_take]; rfl)) ?_; (with_reducible refine (kissgateref08_Bridge.calls a0_0 true _ A2.out).mono ?_); rintro e w' ⟨rfl, ⟨nd, rfl⟩⟩; refine ⟨_, rfl, ?_⟩) | (go_at_call 13; (with_reducible refine (kissgateref08_Bridge.calls a0_2 true _ A4.out).mono ?_); rintro e w' ⟨rfl, ⟨nd, rfl⟩⟩))
          go_ret
          exact ⟨by first | rfl | (simp [errW_none, errW_some] <;> rfl) | (simp [*, errW_none, errW_some] <;> rfl), by repeat (first | (with_reducible first | exact HB.out | apply below_alloc | apply pw_below_drewN | apply below_drew1 | refine below_set ?_ GE260.out) | exact HB.out)⟩
      · rw [if_neg c6] at H
        have c6b0 : decide (0 ≤ a0_1) = false := decide_eq_false c6
        clear c6
        obtain rfl := Option.some.inj H
        go_enter Tryd.func18, Tryd.ntmps18
        go_wp2_with (first | ((with_reducible refine gate_dst (N := 1) rfl ?_); refine box_event ?hg (N := 1) ?hd (cs := #[.int .i64 a0_0, .int .i64 a0_1, .int .i64 a0_2, .int .i64 a0_3, .int .i64 a0_4, .int .i64 a0_5, .bool a0_6]) (t := 38) ?hr ?_; (case hd => rfl); (case hg => rfl); (case hr => first | (go_simp; done) | (go_simp; rfl)); intro gb260 hg w27 hbox hb; have n0_ := Aside0.mk (below_step (by repeat (first | (with_reducible first | exact HB.out | apply below_alloc | apply pw_below_drewN | apply below_drew1) | exact HB.out)) hb); have n1_ := Aside0.mk (hbox); have n2_ := Aside0.mk ((by rw [hg]; exact (below_size (by repeat (first | (with_reducible first | exact HB.out | apply below_alloc | apply pw_below_drewN | apply below_drew1) | exact HB.out))) : w.heap.size ≤ gb260)); have n3_ := Aside0.mk ((by rw [hg]; exact (below_size (by repeat (first | (with_reducible first | exact HB.out | apply below_alloc | apply pw_below_drewN | apply below_drew1) | exact HB.out))) : w.heap.size ≤ gb260)); clear HB; have HB := n0_; have BK260 := n1_; have GW260 := n2_; have GE260 := n3_; clear n0_ n1_ n2_ n3_; clear hb hbox hg; have hcz28_0 : w27.cell? ⟨gb260, 0, none⟩ = some (.int .i64 a0_0) := (blk_cell BK260.out 0).trans rfl; have hcz28_1 : w27.cell? ⟨gb260, 1, none⟩ = some (.int .i64 a0_1) := (blk_cell BK260.out 1).trans rfl; have hcz28_2 : w27.cell? ⟨gb260, 2, none⟩ = some (.int .i64 a0_2) := (blk_cell BK260.out 2).trans rfl; have hcz28_3 : w27.cell? ⟨gb260, 3, none⟩ = some (.int .i64 a0_3) := (blk_cell BK260.out 3).trans rfl; have hcz28_4 : w27.cell? ⟨gb260, 4, none⟩ = some (.int .i64 a0_4) := (blk_cell BK260.out 4).trans rfl; have hcz28_5 : w27.cell? ⟨gb260, 5, none⟩ = some (.int .i64 a0_5) := (blk_cell BK260.out 5).trans rfl; have hcz28_6 : w27.cell? ⟨gb260, 6, none⟩ = some (.bool a0_6) := (blk_cell BK260.out 6).trans rfl; have hfz28_0 := blk_frozen BK260.out 0; have hfz28_1 := blk_frozen BK260.out 1; have hfz28_2 := blk_frozen BK260.out 2; have hfz28_3 := blk_frozen BK260.out 3; have hfz28_4 := blk_frozen BK260.out 4; have hfz28_5 := blk_frozen BK260.out 5; have hfz28_6 := blk_frozen BK260.out 6) | ((with_reducible refine gate_callee (f := 13) rfl ?_); refine goesL_ (some 6) rfl rfl Tryd.func13 (by kernel_rfl) rfl #[.int .i64 a0_0] rfl (by (try simp only [List.map_toArray, List.map_cons, List.map_nil]); first | done | rfl | (simp only [List.length_drop, List.length_take]; rfl)) ?_; (with_reducible refine (kissgateref08_Bridge.calls a0_0 true _ A2.out).mono ?_); rintro e w' ⟨rfl, ⟨nd, rfl⟩⟩; refine ⟨_, rfl, ?_⟩) | (go_at_call 13; (with_reducible refine (kissgateref08_Bridge.calls a0_2 true _ A4.out).mono ?_); rintro e w' ⟨rfl, ⟨nd, rfl⟩⟩))
        go_ret
        exact ⟨by first | rfl | (simp [errW_none, errW_some] <;> rfl) | (simp [*, errW_none, errW_some] <;> rfl), by repeat (first | (with_reducible first | exact HB.out | apply below_alloc | apply pw_below_drewN | apply below_drew1 | refine below_set ?_ GE260.out) | exact HB.out)⟩
    · replace c5 := Bool.eq_false_iff.mpr c5
      subst c5
      have H1 : (some false) = some r := by rw [if_neg (show ¬ (false = true) by decide)] at H; exact H
      clear H
      have H := H1
      clear H1
      obtain rfl := Option.some.inj H
      go_enter Tryd.func18, Tryd.ntmps18
      go_wp2_with (first | ((with_reducible refine gate_dst (N := 1) rfl ?_); refine box_event ?hg (N := 1) ?hd (cs := #[.int .i64 a0_0, .int .i64 a0_1, .int .i64 a0_2, .int .i64 a0_3, .int .i64 a0_4, .int .i64 a0_5, .bool a0_6]) (t := 38) ?hr ?_; (case hd => rfl); (case hg => rfl); (case hr => first | (go_simp; done) | (go_simp; rfl)); intro gb260 hg w29 hbox hb; have n0_ := Aside0.mk (below_step (by repeat (first | (with_reducible first | exact HB.out | apply below_alloc | apply pw_below_drewN | apply below_drew1) | exact HB.out)) hb); have n1_ := Aside0.mk (hbox); have n2_ := Aside0.mk ((by rw [hg]; exact (below_size (by repeat (first | (with_reducible first | exact HB.out | apply below_alloc | apply pw_below_drewN | apply below_drew1) | exact HB.out))) : w.heap.size ≤ gb260)); have n3_ := Aside0.mk ((by rw [hg]; exact (below_size (by repeat (first | (with_reducible first | exact HB.out | apply below_alloc | apply pw_below_drewN | apply below_drew1) | exact HB.out))) : w.heap.size ≤ gb260)); clear HB; have HB := n0_; have BK260 := n1_; have GW260 := n2_; have GE260 := n3_; clear n0_ n1_ n2_ n3_; clear hb hbox hg; have hcz30_0 : w29.cell? ⟨gb260, 0, none⟩ = some (.int .i64 a0_0) := (blk_cell BK260.out 0).trans rfl; have hcz30_1 : w29.cell? ⟨gb260, 1, none⟩ = some (.int .i64 a0_1) := (blk_cell BK260.out 1).trans rfl; have hcz30_2 : w29.cell? ⟨gb260, 2, none⟩ = some (.int .i64 a0_2) := (blk_cell BK260.out 2).trans rfl; have hcz30_3 : w29.cell? ⟨gb260, 3, none⟩ = some (.int .i64 a0_3) := (blk_cell BK260.out 3).trans rfl; have hcz30_4 : w29.cell? ⟨gb260, 4, none⟩ = some (.int .i64 a0_4) := (blk_cell BK260.out 4).trans rfl; have hcz30_5 : w29.cell? ⟨gb260, 5, none⟩ = some (.int .i64 a0_5) := (blk_cell BK260.out 5).trans rfl; have hcz30_6 : w29.cell? ⟨gb260, 6, none⟩ = some (.bool a0_6) := (blk_cell BK260.out 6).trans rfl; have hfz30_0 := blk_frozen BK260.out 0; have hfz30_1 := blk_frozen BK260.out 1; have hfz30_2 := blk_frozen BK260.out 2; have hfz30_3 := blk_frozen BK260.out 3; have hfz30_4 := blk_frozen BK260.out 4; have hfz30_5 := blk_frozen BK260.out 5; have hfz30_6 := blk_frozen BK260.out 6) | ((with_reducible refine gate_callee (f := 13) rfl ?_); refine goesL_ (some 6) rfl rfl Tryd.func13 (by kernel_rfl) rfl #[.int .i64 a0_0] rfl (by (try simp only [List.map_toArray, List.map_cons, List.map_nil]); first | done | rfl | (simp only [List.length_drop, List.length_take]; rfl)) ?_; (with_reducible refine (kissgateref08_Bridge.calls a0_0 true _ A2.out).mono ?_); rintro e w' ⟨rfl, ⟨nd, rfl⟩⟩; refine ⟨_, rfl, ?_⟩) | (go_at_call 13; (with_reducible refine (kissgateref08_Bridge.calls a0_2 false _ A4.out).mono ?_); rintro e w' ⟨rfl, ⟨nd, rfl⟩⟩))
      go_ret
      exact ⟨by first | rfl | (simp [errW_none, errW_some] <;> rfl) | (simp [*, errW_none, errW_some] <;> rfl), by repeat (first | (with_reducible first | exact HB.out | apply below_alloc | apply pw_below_drewN | apply below_drew1 | refine below_set ?_ GE260.out) | exact HB.out)⟩
  · replace c3 := Bool.eq_false_iff.mpr c3
    subst c3
    have H1 : (some false) = some r := by rw [if_neg (show ¬ (false = true) by decide)] at H; exact H
    clear H
    have H := H1
    clear H1
    obtain rfl := Option.some.inj H
    go_enter Tryd.func18, Tryd.ntmps18
    go_wp2_with (first | ((with_reducible refine gate_dst (N := 1) rfl ?_); refine box_event ?hg (N := 1) ?hd (cs := #[.int .i64 a0_0, .int .i64 a0_1, .int .i64 a0_2, .int .i64 a0_3, .int .i64 a0_4, .int .i64 a0_5, .bool a0_6]) (t := 38) ?hr ?_; (case hd => rfl); (case hg => rfl); (case hr => first | (go_simp; done) | (go_simp; rfl)); intro gb260 hg w31 hbox hb; have n0_ := Aside0.mk (below_step (by repeat (first | (with_reducible first | exact HB.out | apply below_alloc | apply pw_below_drewN | apply below_drew1) | exact HB.out)) hb); have n1_ := Aside0.mk (hbox); have n2_ := Aside0.mk ((by rw [hg]; exact (below_size (by repeat (first | (with_reducible first | exact HB.out | apply below_alloc | apply pw_below_drewN | apply below_drew1) | exact HB.out))) : w.heap.size ≤ gb260)); have n3_ := Aside0.mk ((by rw [hg]; exact (below_size (by repeat (first | (with_reducible first | exact HB.out | apply below_alloc | apply pw_below_drewN | apply below_drew1) | exact HB.out))) : w.heap.size ≤ gb260)); clear HB; have HB := n0_; have BK260 := n1_; have GW260 := n2_; have GE260 := n3_; clear n0_ n1_ n2_ n3_; clear hb hbox hg; have hcz32_0 : w31.cell? ⟨gb260, 0, none⟩ = some (.int .i64 a0_0) := (blk_cell BK260.out 0).trans rfl; have hcz32_1 : w31.cell? ⟨gb260, 1, none⟩ = some (.int .i64 a0_1) := (blk_cell BK260.out 1).trans rfl; have hcz32_2 : w31.cell? ⟨gb260, 2, none⟩ = some (.int .i64 a0_2) := (blk_cell BK260.out 2).trans rfl; have hcz32_3 : w31.cell? ⟨gb260, 3, none⟩ = some (.int .i64 a0_3) := (blk_cell BK260.out 3).trans rfl; have hcz32_4 : w31.cell? ⟨gb260, 4, none⟩ = some (.int .i64 a0_4) := (blk_cell BK260.out 4).trans rfl; have hcz32_5 : w31.cell? ⟨gb260, 5, none⟩ = some (.int .i64 a0_5) := (blk_cell BK260.out 5).trans rfl; have hcz32_6 : w31.cell? ⟨gb260, 6, none⟩ = some (.bool a0_6) := (blk_cell BK260.out 6).trans rfl; have hfz32_0 := blk_frozen BK260.out 0; have hfz32_1 := blk_frozen BK260.out 1; have hfz32_2 := blk_frozen BK260.out 2; have hfz32_3 := blk_frozen BK260.out 3; have hfz32_4 := blk_frozen BK260.out 4; have hfz32_5 := blk_frozen BK260.out 5; have hfz32_6 := blk_frozen BK260.out 6) | ((with_reducible refine gate_callee (f := 13) rfl ?_); refine goesL_ (some 6) rfl rfl Tryd.func13 (by kernel_rfl) rfl #[.int .i64 a0_0] rfl (by (try simp only [List.map_toArray, List.map_cons, List.map_nil]); first | done | rfl | (simp only [List.length_drop, List.length_take]; rfl)) ?_; (with_reducible refine (kissgateref08_Bridge.calls a0_0 false _ A2.out).mono ?_); rintro e w' ⟨rfl, ⟨nd, rfl⟩⟩; refine ⟨_, rfl, ?_⟩))
    go_ret
    exact ⟨by first | rfl | (simp [errW_none, errW_some] <;> rfl) | (simp [*, errW_none, errW_some] <;> rfl), by repeat (first | (with_reducible first | exact HB.out | apply below_alloc | apply pw_below_drewN | apply below_drew1 | refine below_set ?_ GE260.out) | exact HB.out)⟩
def kissgateref10_Use.f (a0_0 : Int) (a0_1 : Int) (a0_2 : Int) (a0_3 : Int) (a0_4 : Int) (a0_5 : Int) (a0_6 : Bool) (a1 : Int) : Option (Bool) := if a0_6 = true then (some false) else (if a0_4 ≥ 0 then (if a0_4 ≤ 9 then ((kissgateref08_Bridge.f a0_0).bind fun t281 => (if t281 = true then (some (a0_2 != a1)) else (some false))) else (some false)) else (some false))
set_option maxHeartbeats 8000000 in
set_option maxRecDepth 100000 in
theorem kissgateref10_Use.calls (a0_0 : Int) (a0_1 : Int) (a0_2 : Int) (a0_3 : Int) (a0_4 : Int) (a0_5 : Int) (a0_6 : Bool) (a1 : Int) (r : Bool) (w : World) (h : kissgateref10_Use.f a0_0 a0_1 a0_2 a0_3 a0_4 a0_5 a0_6 a1 = some r) :
    Calls Tryd.prog 62 #[.agg #[.int .i64 a0_0, .int .i64 a0_1, .int .i64 a0_2, .int .i64 a0_3, .int .i64 a0_4, .int .i64 a0_5, .bool a0_6], .int .i64 a1] w fun e w' => e = .returned (.bool r) ∧ Below w.heap.size w w' := by
  have hu59 := Tryd.underlying59
  have HB := Aside0.mk (Below.refl w.heap.size w)
  have H : (if a0_6 = true then (some false) else (if a0_4 ≥ 0 then (if a0_4 ≤ 9 then ((kissgateref08_Bridge.f a0_0).bind fun t281 => (if t281 = true then (some (a0_2 != a1)) else (some false))) else (some false)) else (some false))) = some r := h
  clear h
  by_cases c3 : a0_6 = true
  · subst c3
    have H1 : (some false) = some r := by rw [if_pos rfl] at H; exact H
    clear H
    have H := H1
    clear H1
    obtain rfl := Option.some.inj H
    go_enter Tryd.func62, Tryd.ntmps62
    go_wp2_with (first | ((with_reducible refine gate_dst (N := 2) rfl ?_); refine box_event ?hg (N := 2) ?hd (cs := #[.int .i64 a0_0, .int .i64 a0_1, .int .i64 a0_2, .int .i64 a0_3, .int .i64 a0_4, .int .i64 a0_5, .bool true]) (t := 59) ?hr ?_; (case hd => rfl); (case hg => rfl); (case hr => first | (go_simp; done) | (go_simp; rfl)); intro gb280 hg w4 hbox hb; have n0_ := Aside0.mk (below_step (by repeat (first | (with_reducible first | exact HB.out | apply below_alloc | apply pw_below_drewN | apply below_drew1) | exact HB.out)) hb); have n1_ := Aside0.mk (hbox); have n2_ := Aside0.mk ((by rw [hg]; exact (below_size (by repeat (first | (with_reducible first | exact HB.out | apply below_alloc | apply pw_below_drewN | apply below_drew1) | exact HB.out))) : w.heap.size ≤ gb280)); have n3_ := Aside0.mk ((by rw [hg]; exact (below_size (by repeat (first | (with_reducible first | exact HB.out | apply below_alloc | apply pw_below_drewN | apply below_drew1) | exact HB.out))) : w.heap.size ≤ gb280)); clear HB; have HB := n0_; have BK280 := n1_; have GW280 := n2_; have GE280 := n3_; clear n0_ n1_ n2_ n3_; clear hb hbox hg; have hcz5_0 : w4.cell? ⟨gb280, 0, none⟩ = some (.int .i64 a0_0) := (blk_cell BK280.out 0).trans rfl; have hcz5_1 : w4.cell? ⟨gb280, 1, none⟩ = some (.int .i64 a0_1) := (blk_cell BK280.out 1).trans rfl; have hcz5_2 : w4.cell? ⟨gb280, 2, none⟩ = some (.int .i64 a0_2) := (blk_cell BK280.out 2).trans rfl; have hcz5_3 : w4.cell? ⟨gb280, 3, none⟩ = some (.int .i64 a0_3) := (blk_cell BK280.out 3).trans rfl; have hcz5_4 : w4.cell? ⟨gb280, 4, none⟩ = some (.int .i64 a0_4) := (blk_cell BK280.out 4).trans rfl; have hcz5_5 : w4.cell? ⟨gb280, 5, none⟩ = some (.int .i64 a0_5) := (blk_cell BK280.out 5).trans rfl; have hcz5_6 : w4.cell? ⟨gb280, 6, none⟩ = some (.bool true) := (blk_cell BK280.out 6).trans rfl; have hfz5_0 := blk_frozen BK280.out 0; have hfz5_1 := blk_frozen BK280.out 1; have hfz5_2 := blk_frozen BK280.out 2; have hfz5_3 := blk_frozen BK280.out 3; have hfz5_4 := blk_frozen BK280.out 4; have hfz5_5 := blk_frozen BK280.out 5; have hfz5_6 := blk_frozen BK280.out 6))
    go_ret
    exact ⟨by first | rfl | (simp [errW_none, errW_some] <;> rfl) | (simp [*, errW_none, errW_some] <;> rfl), by repeat (first | (with_reducible first | exact HB.out | apply below_alloc | apply pw_below_drewN | apply below_drew1 | refine below_set ?_ GE280.out) | exact HB.out)⟩
  · replace c3 := Bool.eq_false_iff.mpr c3
    subst c3
    have H1 : (if a0_4 ≥ 0 then (if a0_4 ≤ 9 then ((kissgateref08_Bridge.f a0_0).bind fun t281 => (if t281 = true then (some (a0_2 != a1)) else (some false))) else (some false)) else (some false)) = some r := by rw [if_neg (show ¬ (false = true) by decide)] at H; exact H
    clear H
    have H := H1
    clear H1
    by_cases c6 : a0_4 ≥ 0
    · rw [if_pos c6] at H
      have c6b0 : decide (0 ≤ a0_4) = true := decide_eq_true c6
      clear c6
      by_cases c7 : a0_4 ≤ 9
      · rw [if_pos c7] at H
        have c7b0 : decide (a0_4 ≤ 9) = true := decide_eq_true c7
        clear c7
        replace H := Option.bind_eq_some_iff.mp H
        obtain ⟨t281, A80, H⟩ := H
        replace H : (if t281 = true then (some (a0_2 != a1)) else (some false)) = some r := H
        have A8 := Aside0.mk A80
        clear A80
        by_cases c9 : t281 = true
        · subst c9
          have H1 : (some (a0_2 != a1)) = some r := by rw [if_pos rfl] at H; exact H
          clear H
          have H := H1
          clear H1
          obtain rfl := Option.some.inj H
          go_enter Tryd.func62, Tryd.ntmps62
          go_wp2_with (first | ((with_reducible refine gate_dst (N := 2) rfl ?_); refine box_event ?hg (N := 2) ?hd (cs := #[.int .i64 a0_0, .int .i64 a0_1, .int .i64 a0_2, .int .i64 a0_3, .int .i64 a0_4, .int .i64 a0_5, .bool false]) (t := 59) ?hr ?_; (case hd => rfl); (case hg => rfl); (case hr => first | (go_simp; done) | (go_simp; rfl)); intro gb280 hg w10 hbox hb; have n0_ := Aside0.mk (below_step (by repeat (first | (with_reducible first | exact HB.out | apply below_alloc | apply pw_below_drewN | apply below_drew1) | exact HB.out)) hb); have n1_ := Aside0.mk (hbox); have n2_ := Aside0.mk ((by rw [hg]; exact (below_size (by repeat (first | (with_reducible first | exact HB.out | apply below_alloc | apply pw_below_drewN | apply below_drew1) | exact HB.out))) : w.heap.size ≤ gb280)); have n3_ := Aside0.mk ((by rw [hg]; exact (below_size (by repeat (first | (with_reducible first | exact HB.out | apply below_alloc | apply pw_below_drewN | apply below_drew1) | exact HB.out))) : w.heap.size ≤ gb280)); clear HB; have HB := n0_; have BK280 := n1_; have GW280 := n2_; have GE280 := n3_; clear n0_ n1_ n2_ n3_; clear hb hbox hg; have hcz11_0 : w10.cell? ⟨gb280, 0, none⟩ = some (.int .i64 a0_0) := (blk_cell BK280.out 0).trans rfl; have hcz11_1 : w10.cell? ⟨gb280, 1, none⟩ = some (.int .i64 a0_1) := (blk_cell BK280.out 1).trans rfl; have hcz11_2 : w10.cell? ⟨gb280, 2, none⟩ = some (.int .i64 a0_2) := (blk_cell BK280.out 2).trans rfl; have hcz11_3 : w10.cell? ⟨gb280, 3, none⟩ = some (.int .i64 a0_3) := (blk_cell BK280.out 3).trans rfl; have hcz11_4 : w10.cell? ⟨gb280, 4, none⟩ = some (.int .i64 a0_4) := (blk_cell BK280.out 4).trans rfl; have hcz11_5 : w10.cell? ⟨gb280, 5, none⟩ = some (.int .i64 a0_5) := (blk_cell BK280.out 5).trans rfl; have hcz11_6 : w10.cell? ⟨gb280, 6, none⟩ = some (.bool false) := (blk_cell BK280.out 6).trans rfl; have hfz11_0 := blk_frozen BK280.out 0; have hfz11_1 := blk_frozen BK280.out 1; have hfz11_2 := blk_frozen BK280.out 2; have hfz11_3 := blk_frozen BK280.out 3; have hfz11_4 := blk_frozen BK280.out 4; have hfz11_5 := blk_frozen BK280.out 5; have hfz11_6 := blk_frozen BK280.out 6) | (go_at_call 13; (with_reducible refine (kissgateref08_Bridge.calls a0_0 true _ A8.out).mono ?_); rintro e w' ⟨rfl, ⟨nd, rfl⟩⟩))
          go_ret
          exact ⟨by first | rfl | (simp [errW_none, errW_some] <;> rfl) | (simp [*, errW_none, errW_some] <;> rfl), by repeat (first | (with_reducible first | exact HB.out | apply below_alloc | apply pw_below_drewN | apply below_drew1 | refine below_set ?_ GE280.out) | exact HB.out)⟩
        · replace c9 := Bool.eq_false_iff.mpr c9
          subst c9
          have H1 : (some false) = some r := by rw [if_neg (show ¬ (false = true) by decide)] at H; exact H
          clear H
          have H := H1
          clear H1
          obtain rfl := Option.some.inj H
          go_enter Tryd.func62, Tryd.ntmps62
          go_wp2_with (first | ((with_reducible refine gate_dst (N := 2) rfl ?_); refine box_event ?hg (N := 2) ?hd (cs := #[.int .i64 a0_0, .int .i64 a0_1, .int .i64 a0_2, .int .i64 a0_3, .int .i64 a0_4, .int .i64 a0_5, .bool false]) (t := 59) ?hr ?_; (case hd => rfl); (case hg => rfl); (case hr => first | (go_simp; done) | (go_simp; rfl)); intro gb280 hg w12 hbox hb; have n0_ := Aside0.mk (below_step (by repeat (first | (with_reducible first | exact HB.out | apply below_alloc | apply pw_below_drewN | apply below_drew1) | exact HB.out)) hb); have n1_ := Aside0.mk (hbox); have n2_ := Aside0.mk ((by rw [hg]; exact (below_size (by repeat (first | (with_reducible first | exact HB.out | apply below_alloc | apply pw_below_drewN | apply below_drew1) | exact HB.out))) : w.heap.size ≤ gb280)); have n3_ := Aside0.mk ((by rw [hg]; exact (below_size (by repeat (first | (with_reducible first | exact HB.out | apply below_alloc | apply pw_below_drewN | apply below_drew1) | exact HB.out))) : w.heap.size ≤ gb280)); clear HB; have HB := n0_; have BK280 := n1_; have GW280 := n2_; have GE280 := n3_; clear n0_ n1_ n2_ n3_; clear hb hbox hg; have hcz13_0 : w12.cell? ⟨gb280, 0, none⟩ = some (.int .i64 a0_0) := (blk_cell BK280.out 0).trans rfl; have hcz13_1 : w12.cell? ⟨gb280, 1, none⟩ = some (.int .i64 a0_1) := (blk_cell BK280.out 1).trans rfl; have hcz13_2 : w12.cell? ⟨gb280, 2, none⟩ = some (.int .i64 a0_2) := (blk_cell BK280.out 2).trans rfl; have hcz13_3 : w12.cell? ⟨gb280, 3, none⟩ = some (.int .i64 a0_3) := (blk_cell BK280.out 3).trans rfl; have hcz13_4 : w12.cell? ⟨gb280, 4, none⟩ = some (.int .i64 a0_4) := (blk_cell BK280.out 4).trans rfl; have hcz13_5 : w12.cell? ⟨gb280, 5, none⟩ = some (.int .i64 a0_5) := (blk_cell BK280.out 5).trans rfl; have hcz13_6 : w12.cell? ⟨gb280, 6, none⟩ = some (.bool false) := (blk_cell BK280.out 6).trans rfl; have hfz13_0 := blk_frozen BK280.out 0; have hfz13_1 := blk_frozen BK280.out 1; have hfz13_2 := blk_frozen BK280.out 2; have hfz13_3 := blk_frozen BK280.out 3; have hfz13_4 := blk_frozen BK280.out 4; have hfz13_5 := blk_frozen BK280.out 5; have hfz13_6 := blk_frozen BK280.out 6) | (go_at_call 13; (with_reducible refine (kissgateref08_Bridge.calls a0_0 false _ A8.out).mono ?_); rintro e w' ⟨rfl, ⟨nd, rfl⟩⟩))
          go_ret
          exact ⟨by first | rfl | (simp [errW_none, errW_some] <;> rfl) | (simp [*, errW_none, errW_some] <;> rfl), by repeat (first | (with_reducible first | exact HB.out | apply below_alloc | apply pw_below_drewN | apply below_drew1 | refine below_set ?_ GE280.out) | exact HB.out)⟩
      · rw [if_neg c7] at H
        have c7b0 : decide (a0_4 ≤ 9) = false := decide_eq_false c7
        clear c7
        obtain rfl := Option.some.inj H
        go_enter Tryd.func62, Tryd.ntmps62
        go_wp2_with (first | ((with_reducible refine gate_dst (N := 2) rfl ?_); refine box_event ?hg (N := 2) ?hd (cs := #[.int .i64 a0_0, .int .i64 a0_1, .int .i64 a0_2, .int .i64 a0_3, .int .i64 a0_4, .int .i64 a0_5, .bool false]) (t := 59) ?hr ?_; (case hd => rfl); (case hg => rfl); (case hr => first | (go_simp; done) | (go_simp; rfl)); intro gb280 hg w14 hbox hb; have n0_ := Aside0.mk (below_step (by repeat (first | (with_reducible first | exact HB.out | apply below_alloc | apply pw_below_drewN | apply below_drew1) | exact HB.out)) hb); have n1_ := Aside0.mk (hbox); have n2_ := Aside0.mk ((by rw [hg]; exact (below_size (by repeat (first | (with_reducible first | exact HB.out | apply below_alloc | apply pw_below_drewN | apply below_drew1) | exact HB.out))) : w.heap.size ≤ gb280)); have n3_ := Aside0.mk ((by rw [hg]; exact (below_size (by repeat (first | (with_reducible first | exact HB.out | apply below_alloc | apply pw_below_drewN | apply below_drew1) | exact HB.out))) : w.heap.size ≤ gb280)); clear HB; have HB := n0_; have BK280 := n1_; have GW280 := n2_; have GE280 := n3_; clear n0_ n1_ n2_ n3_; clear hb hbox hg; have hcz15_0 : w14.cell? ⟨gb280, 0, none⟩ = some (.int .i64 a0_0) := (blk_cell BK280.out 0).trans rfl; have hcz15_1 : w14.cell? ⟨gb280, 1, none⟩ = some (.int .i64 a0_1) := (blk_cell BK280.out 1).trans rfl; have hcz15_2 : w14.cell? ⟨gb280, 2, none⟩ = some (.int .i64 a0_2) := (blk_cell BK280.out 2).trans rfl; have hcz15_3 : w14.cell? ⟨gb280, 3, none⟩ = some (.int .i64 a0_3) := (blk_cell BK280.out 3).trans rfl; have hcz15_4 : w14.cell? ⟨gb280, 4, none⟩ = some (.int .i64 a0_4) := (blk_cell BK280.out 4).trans rfl; have hcz15_5 : w14.cell? ⟨gb280, 5, none⟩ = some (.int .i64 a0_5) := (blk_cell BK280.out 5).trans rfl; have hcz15_6 : w14.cell? ⟨gb280, 6, none⟩ = some (.bool false) := (blk_cell BK280.out 6).trans rfl; have hfz15_0 := blk_frozen BK280.out 0; have hfz15_1 := blk_frozen BK280.out 1; have hfz15_2 := blk_frozen BK280.out 2; have hfz15_3 := blk_frozen BK280.out 3; have hfz15_4 := blk_frozen BK280.out 4; have hfz15_5 := blk_frozen BK280.out 5; have hfz15_6 := blk_frozen BK280.out 6))
        go_ret
        exact ⟨by first | rfl | (simp [errW_none, errW_some] <;> rfl) | (simp [*, errW_none, errW_some] <;> rfl), by repeat (first | (with_reducible first | exact HB.out | apply below_alloc | apply pw_below_drewN | apply below_drew1 | refine below_set ?_ GE280.out) | exact HB.out)⟩
    · rw [if_neg c6] at H
      have c6b0 : decide (0 ≤ a0_4) = false := decide_eq_false c6
      clear c6
      obtain rfl := Option.some.inj H
      go_enter Tryd.func62, Tryd.ntmps62
      go_wp2_with (first | ((with_reducible refine gate_dst (N := 2) rfl ?_); refine box_event ?hg (N := 2) ?hd (cs := #[.int .i64 a0_0, .int .i64 a0_1, .int .i64 a0_2, .int .i64 a0_3, .int .i64 a0_4, .int .i64 a0_5, .bool false]) (t := 59) ?hr ?_; (case hd => rfl); (case hg => rfl); (case hr => first | (go_simp; done) | (go_simp; rfl)); intro gb280 hg w16 hbox hb; have n0_ := Aside0.mk (below_step (by repeat (first | (with_reducible first | exact HB.out | apply below_alloc | apply pw_below_drewN | apply below_drew1) | exact HB.out)) hb); have n1_ := Aside0.mk (hbox); have n2_ := Aside0.mk ((by rw [hg]; exact (below_size (by repeat (first | (with_reducible first | exact HB.out | apply below_alloc | apply pw_below_drewN | apply below_drew1) | exact HB.out))) : w.heap.size ≤ gb280)); have n3_ := Aside0.mk ((by rw [hg]; exact (below_size (by repeat (first | (with_reducible first | exact HB.out | apply below_alloc | apply pw_below_drewN | apply below_drew1) | exact HB.out))) : w.heap.size ≤ gb280)); clear HB; have HB := n0_; have BK280 := n1_; have GW280 := n2_; have GE280 := n3_; clear n0_ n1_ n2_ n3_; clear hb hbox hg; have hcz17_0 : w16.cell? ⟨gb280, 0, none⟩ = some (.int .i64 a0_0) := (blk_cell BK280.out 0).trans rfl; have hcz17_1 : w16.cell? ⟨gb280, 1, none⟩ = some (.int .i64 a0_1) := (blk_cell BK280.out 1).trans rfl; have hcz17_2 : w16.cell? ⟨gb280, 2, none⟩ = some (.int .i64 a0_2) := (blk_cell BK280.out 2).trans rfl; have hcz17_3 : w16.cell? ⟨gb280, 3, none⟩ = some (.int .i64 a0_3) := (blk_cell BK280.out 3).trans rfl; have hcz17_4 : w16.cell? ⟨gb280, 4, none⟩ = some (.int .i64 a0_4) := (blk_cell BK280.out 4).trans rfl; have hcz17_5 : w16.cell? ⟨gb280, 5, none⟩ = some (.int .i64 a0_5) := (blk_cell BK280.out 5).trans rfl; have hcz17_6 : w16.cell? ⟨gb280, 6, none⟩ = some (.bool false) := (blk_cell BK280.out 6).trans rfl; have hfz17_0 := blk_frozen BK280.out 0; have hfz17_1 := blk_frozen BK280.out 1; have hfz17_2 := blk_frozen BK280.out 2; have hfz17_3 := blk_frozen BK280.out 3; have hfz17_4 := blk_frozen BK280.out 4; have hfz17_5 := blk_frozen BK280.out 5; have hfz17_6 := blk_frozen BK280.out 6))
      go_ret
      exact ⟨by first | rfl | (simp [errW_none, errW_some] <;> rfl) | (simp [*, errW_none, errW_some] <;> rfl), by repeat (first | (with_reducible first | exact HB.out | apply below_alloc | apply pw_below_drewN | apply below_drew1 | refine below_set ?_ GE280.out) | exact HB.out)⟩
def kissgateref10_Sum.f (a0 : Int) (a1 : Int) : Option (Int) := if (wrap64 ((mx a0 0) + (mx a1 0))) < 0 then (some 9223372036854775807) else (some (wrap64 ((mx a0 0) + (mx a1 0))))
set_option maxHeartbeats 8000000 in
set_option maxRecDepth 100000 in
theorem kissgateref10_Sum.calls (a0 : Int) (a1 : Int) (r : Int) (w : World) (h : kissgateref10_Sum.f a0 a1 = some r) :
    Calls Tryd.prog 63 #[.int .i64 a0, .int .i64 a1] w fun e w' => e = .returned (.int .i64 r) ∧ Below w.heap.size w w' := by
  have HB := Aside0.mk (Below.refl w.heap.size w)
  have H : (if (wrap64 ((mx a0 0) + (mx a1 0))) < 0 then (some 9223372036854775807) else (some (wrap64 ((mx a0 0) + (mx a1 0))))) = some r := h
  clear h
  obtain ⟨ji3, hji3⟩ : ∃ j_ : Int, (mx a0 0) = j_ := ⟨_, rfl⟩
  replace H : (if (wrap64 ((ji3) + (mx a1 0))) < 0 then (some 9223372036854775807) else (some (wrap64 ((ji3) + (mx a1 0))))) = some r := by first | (rw [hji3] at H; exact H) | (simp only [hji3] at H ⊢; exact H)
  (try (have hji3l : 0 ≤ ji3 := by (rw [← hji3]; unfold mx; (repeat' split) <;> omega)))
  (try (have hji3m : 0 ≤ ji3 := by omega))
  have hji3_ : (if a0 < 0 then 0 else a0) = ji3 := hji3
  obtain ⟨ji4, hji4⟩ : ∃ j_ : Int, (mx a1 0) = j_ := ⟨_, rfl⟩
  replace H : (if (wrap64 ((ji3) + (ji4))) < 0 then (some 9223372036854775807) else (some (wrap64 ((ji3) + (ji4))))) = some r := by first | (rw [hji4] at H; exact H) | (simp only [hji4] at H ⊢; exact H)
  (try (have hji4l : 0 ≤ ji4 := by (rw [← hji4]; unfold mx; (repeat' split) <;> omega)))
  (try (have hji4m : 0 ≤ ji4 := by omega))
  have hji4_ : (if a1 < 0 then 0 else a1) = ji4 := hji4
  by_cases c5 : (wrap64 ((ji3) + (ji4))) < 0
  · rw [if_pos c5] at H
    have c5b0 : decide ((wrap64 ((ji3) + (ji4))) < 0) = true := decide_eq_true c5
    clear c5
    obtain rfl := Option.some.inj H
    go_enter Tryd.func63, Tryd.ntmps63
    go_wp2
    go_ret
    exact ⟨by first | rfl | (simp [errW_none, errW_some] <;> rfl) | (simp only [← hji3, ← hji4]; first | rfl | (simp [errW_none, errW_some] <;> rfl)) | (simp [*, errW_none, errW_some] <;> rfl), by repeat (first | (with_reducible first | exact HB.out | apply below_alloc | apply pw_below_drewN | apply below_drew1) | exact HB.out)⟩
  · rw [if_neg c5] at H
    have c5b0 : decide ((wrap64 ((ji3) + (ji4))) < 0) = false := decide_eq_false c5
    clear c5
    obtain rfl := Option.some.inj H
    go_enter Tryd.func63, Tryd.ntmps63
    go_wp2
    go_ret
    exact ⟨by first | rfl | (simp [errW_none, errW_some] <;> rfl) | (simp only [← hji3, ← hji4]; first | rfl | (simp [errW_none, errW_some] <;> rfl)) | (simp [*, errW_none, errW_some] <;> rfl), by repeat (first | (with_reducible first | exact HB.out | apply below_alloc | apply pw_below_drewN | apply below_drew1) | exact HB.out)⟩
end Go.Proofs.YtfimhaodgekkgaaDoor.QTre
namespace Go.Proofs.YtfimhaodgekkgaaDoor.QTre
open Go.RowKit Go.Proofs.YtfimhaodgekkgaaDoorW.PrintWords Go.Proofs.YtfimhaodgekkgaaDoorW.PrintLast Go.Proofs.YtfimhaodgekkgaaDoorW.PrintMore
open Go.Proofs.YtfimhaodgekkgaaDoor.Gen (Own Trn)
open Go.Proofs.YtfimhaodgekkgaaDoor.Pri (FitH roles bestOf role brid)
set_option linter.unusedVariables false
set_option linter.unusedSimpArgs false
def goodB (b : S38) : Bool := decide (brid b.f0.f0 = true ∧ brid b.f0.f2 = true ∧ 0 ≤ b.f0.f1 ∧ b.f0.f1 ≤ 2147483647 ∧ 0 ≤ b.f0.f3 ∧ b.f0.f3 < 6 ∧ 0 ≤ b.f1 ∧ b.f1 ≤ 10 ∧ 0 ≤ b.f2 ∧ b.f2 ≤ 3)
def FitB (b : S38) : Prop := Pri.Fit b.f0.f0 ∧ Pri.Fit b.f0.f1 ∧ Pri.Fit b.f0.f2
theorem good_f (b : S38) (h : FitB b) : bpdu_Good.f b.f0.f0 b.f0.f1 b.f0.f2 b.f0.f3 b.f1 b.f2 b.f3 = some (goodB b) := by
  unfold bpdu_Good.f goodB
  rw [Pri.bridge_prog h.1, Pri.bridge_prog h.2.2]
  simp only [Option.bind_some]
  split
  · rename_i h1
    split
    · rename_i h2
      rw [h1, h2]
      simp only [true_and]
      repeat' split
      all_goals (simp only [Option.some.injEq]; symm)
      all_goals simp only [decide_eq_true_eq, decide_eq_false_iff_not, decide_eq_decide]
      all_goals omega
    · rename_i h2
      simp only [Option.some.injEq]; symm; simp only [decide_eq_false_iff_not]; intro h; exact h2 h.2.1
  · rename_i h2
    simp only [Option.some.injEq]; symm; simp only [decide_eq_false_iff_not]; intro h; exact h2 h.1
abbrev val38 (b : S38) : Value := .agg #[.int .i64 b.f0.f0, .int .i64 b.f0.f1, .int .i64 b.f0.f2, .int .i64 b.f0.f3, .int .i64 b.f1, .int .i64 b.f2, .bool b.f3]
theorem good_calls (b : S38) (h : FitB b) (w : World) : Calls Tryd.prog 37 #[val38 b] w fun e w' => e = .returned (.bool (goodB b)) ∧ Below w.heap.size w w' :=
  bpdu_Good.calls _ _ _ _ _ _ _ _ w (good_f b h)
set_option maxHeartbeats 4000000 in
set_option maxRecDepth 100000 in
theorem hear_nil (i : Int) (m : S38) (now : Int) (w : World) :
    Calls Tryd.prog 16 #[.pointer none, .int .i64 i, val38 m, .int .i64 now] w fun e w' => e = .returned (.int .i64 2) ∧ Below w.heap.size w w' := by
  have hu38 := Tryd.underlying38
  have hu36 := Tryd.underlying36
  have HB := Aside0.mk (Below.refl w.heap.size w)
  go_enter Tryd.func16, Tryd.ntmps16
  go_wp2_with ((with_reducible refine gate_dst (N := 6) rfl ?_); refine box_event ?hg (N := 6) ?hd (cs := #[.int .i64 m.f0.f0, .int .i64 m.f0.f1, .int .i64 m.f0.f2, .int .i64 m.f0.f3, .int .i64 m.f1, .int .i64 m.f2, .bool m.f3]) (t := 38) ?hr ?_; (case hd => rfl); (case hg => rfl); (case hr => first | (go_simp; done) | (go_simp; rfl)); intro gb hg w5 hbox hb; have HB5 := Aside0.mk hb; have BK := Aside0.mk hbox; clear hb hbox hg)
  go_ret
  exact ⟨rfl, HB5.out⟩
set_option maxHeartbeats 4000000 in
set_option maxRecDepth 100000 in
theorem hear_bad (base g b cap : Nat) (id : Int) (ports : List S84) (best : S36) (root change : Int) (w : World) (ht : Tre w base g b cap id ports best root change) (i : Int) (m : S38) (hm : FitB m) (now : Int) (hbad : ¬ (0 ≤ i ∧ i < (ports.length : Int)) ∨ goodB m = false ∨ m.f2 ≠ 2) :
    Calls Tryd.prog 16 #[.pointer (some ⟨g, 0, none⟩), .int .i64 i, val38 m, .int .i64 now] w fun e w' => e = .returned (.int .i64 1) ∧ Below w.heap.size w w' := by
  have hu38 := Tryd.underlying38
  have hu36 := Tryd.underlying36
  have e35 : ∀ args w, (callFunc 35 args).run Tryd.prog w = .ok (.enter 35 args) w := enters_of Tryd.func35 (by kernel_rfl) rfl
  have e37 : ∀ args w, (callFunc 37 args).run Tryd.prog w = .ok (.enter 37 args) w := enters_of Tryd.func37 (by kernel_rfl) rfl
  have HB := Aside0.mk (Below.refl w.heap.size w)
  have hg1 : w.cell? ⟨g, 1, none⟩ = some (.slice (some ⟨b, 0, none⟩) ports.length cap) := (blk_cell ht.cell 1).trans rfl
  have hgl := ht.lt
  have HI := Aside0.mk (fun (W : World) (hb : Below w.heap.size w W) => is_calls W g _ _ _ (pw_cell_below hb hg1) i)
  have HG := Aside0.mk (fun W => good_calls m hm W)
  clear ht hm
  have key : (decide (0 ≤ i ∧ i < (ports.length : Int)) = false) ∨ (decide (0 ≤ i ∧ i < (ports.length : Int)) = true ∧ goodB m = false) ∨ (decide (0 ≤ i ∧ i < (ports.length : Int)) = true ∧ goodB m = true ∧ (m.f2 != 2) = true) := by
    simp only [decide_eq_true_eq, decide_eq_false_iff_not, bne_iff_ne]
    by_cases h : 0 ≤ i ∧ i < (ports.length : Int)
    · rcases Bool.eq_false_or_eq_true (goodB m) with h2 | h2
      · rcases hbad with h3 | h3 | h3
        · exact absurd h h3
        · rw [h2] at h3; cases h3
        · exact .inr (.inr ⟨h, h2, h3⟩)
      · exact .inr (.inl ⟨h, h2⟩)
    · exact .inl h
  clear hbad
  rcases key with e | ⟨e, k⟩ | ⟨e, k, k2⟩
  · rw [e] at HI
    clear e
    go_enter Tryd.func16, Tryd.ntmps16
    go_wp2_with (first
      | ((with_reducible refine gate_dst (N := 6) rfl ?_); refine box_event ?hg (N := 6) ?hd (cs := #[.int .i64 m.f0.f0, .int .i64 m.f0.f1, .int .i64 m.f0.f2, .int .i64 m.f0.f3, .int .i64 m.f1, .int .i64 m.f2, .bool m.f3]) (t := 38) ?hr ?_; (case hd => rfl); (case hg => rfl); (case hr => first | (go_simp; done) | (go_simp; rfl)); intro gb hg w5 hbox hb; have HB5 := Aside0.mk hb; have BK := Aside0.mk hbox; clear hb hbox hg)
      | (go_at_fn 35; refine (HI.out _ HB5.out).mono ?_; rintro e w1 ⟨rfl, e1⟩; have e2 := e1.symm; subst e2))
    go_ret
    exact ⟨rfl, HB5.out⟩
  · rw [e] at HI
    rw [k] at HG
    clear e k
    go_enter Tryd.func16, Tryd.ntmps16
    go_wp2_with (first
      | ((with_reducible refine gate_dst (N := 6) rfl ?_); refine box_event ?hg (N := 6) ?hd (cs := #[.int .i64 m.f0.f0, .int .i64 m.f0.f1, .int .i64 m.f0.f2, .int .i64 m.f0.f3, .int .i64 m.f1, .int .i64 m.f2, .bool m.f3]) (t := 38) ?hr ?_; (case hd => rfl); (case hg => rfl); (case hr => first | (go_simp; done) | (go_simp; rfl)); intro gb hg w5 hbox hb; have HB5 := Aside0.mk hb; have BK := Aside0.mk hbox; have hz0 : w5.cell? ⟨gb, 0, none⟩ = some (.int .i64 m.f0.f0) := (blk_cell BK.out 0).trans rfl; have hz1 : w5.cell? ⟨gb, 1, none⟩ = some (.int .i64 m.f0.f1) := (blk_cell BK.out 1).trans rfl; have hz2 : w5.cell? ⟨gb, 2, none⟩ = some (.int .i64 m.f0.f2) := (blk_cell BK.out 2).trans rfl; have hz3 : w5.cell? ⟨gb, 3, none⟩ = some (.int .i64 m.f0.f3) := (blk_cell BK.out 3).trans rfl; have hz4 : w5.cell? ⟨gb, 4, none⟩ = some (.int .i64 m.f1) := (blk_cell BK.out 4).trans rfl; have hz5 : w5.cell? ⟨gb, 5, none⟩ = some (.int .i64 m.f2) := (blk_cell BK.out 5).trans rfl; have hz6 : w5.cell? ⟨gb, 6, none⟩ = some (.bool m.f3) := (blk_cell BK.out 6).trans rfl; clear hb hbox hg)
      | (go_at_fn 35; refine (HI.out _ HB5.out).mono ?_; rintro e w1 ⟨rfl, e1⟩; have e2 := e1.symm; subst e2)
      | (go_at_fn 37; refine (HG.out _).mono ?_; rintro e w6 ⟨rfl, h6⟩; have HB6 := Aside0.mk (below_step HB5.out h6); have hy5 : w6.cell? ⟨gb, 5, none⟩ = some (.int .i64 m.f2) := pw_cell_below h6 hz5; clear h6))
    go_ret
    exact ⟨rfl, HB6.out⟩
  · rw [e] at HI
    rw [k] at HG
    clear e k
    go_enter Tryd.func16, Tryd.ntmps16
    go_wp2_with (first
      | ((with_reducible refine gate_dst (N := 6) rfl ?_); refine box_event ?hg (N := 6) ?hd (cs := #[.int .i64 m.f0.f0, .int .i64 m.f0.f1, .int .i64 m.f0.f2, .int .i64 m.f0.f3, .int .i64 m.f1, .int .i64 m.f2, .bool m.f3]) (t := 38) ?hr ?_; (case hd => rfl); (case hg => rfl); (case hr => first | (go_simp; done) | (go_simp; rfl)); intro gb hg w5 hbox hb; have HB5 := Aside0.mk hb; have BK := Aside0.mk hbox; have hz0 : w5.cell? ⟨gb, 0, none⟩ = some (.int .i64 m.f0.f0) := (blk_cell BK.out 0).trans rfl; have hz1 : w5.cell? ⟨gb, 1, none⟩ = some (.int .i64 m.f0.f1) := (blk_cell BK.out 1).trans rfl; have hz2 : w5.cell? ⟨gb, 2, none⟩ = some (.int .i64 m.f0.f2) := (blk_cell BK.out 2).trans rfl; have hz3 : w5.cell? ⟨gb, 3, none⟩ = some (.int .i64 m.f0.f3) := (blk_cell BK.out 3).trans rfl; have hz4 : w5.cell? ⟨gb, 4, none⟩ = some (.int .i64 m.f1) := (blk_cell BK.out 4).trans rfl; have hz5 : w5.cell? ⟨gb, 5, none⟩ = some (.int .i64 m.f2) := (blk_cell BK.out 5).trans rfl; have hz6 : w5.cell? ⟨gb, 6, none⟩ = some (.bool m.f3) := (blk_cell BK.out 6).trans rfl; clear hb hbox hg)
      | (go_at_fn 35; refine (HI.out _ HB5.out).mono ?_; rintro e w1 ⟨rfl, e1⟩; have e2 := e1.symm; subst e2)
      | (go_at_fn 37; refine (HG.out _).mono ?_; rintro e w6 ⟨rfl, h6⟩; have HB6 := Aside0.mk (below_step HB5.out h6); have hy5 : w6.cell? ⟨gb, 5, none⟩ = some (.int .i64 m.f2) := pw_cell_below h6 hz5; clear h6))
    go_ret
    exact ⟨rfl, HB6.out⟩
set_option maxHeartbeats 4000000 in
set_option maxRecDepth 100000 in
theorem hear_down (base g b cap : Nat) (id : Int) (ports : List S84) (best : S36) (root change : Int) (w : World) (ht : Tre w base g b cap id ports best root change) (k : Nat) (hk : k < ports.length) (m : S38) (hm : FitB m) (now : Int) (hgd : goodB m = true) (hr : m.f2 = 2) (hdn : ports[k].f0 = false) :
    Calls Tryd.prog 16 #[.pointer (some ⟨g, 0, none⟩), .int .i64 k, val38 m, .int .i64 now] w fun e w' => e = .returned (.int .i64 7) ∧ Below w.heap.size w w' := by
  have hu38 := Tryd.underlying38
  have hu36 := Tryd.underlying36
  have e35 : ∀ args w, (callFunc 35 args).run Tryd.prog w = .ok (.enter 35 args) w := enters_of Tryd.func35 (by kernel_rfl) rfl
  have e37 : ∀ args w, (callFunc 37 args).run Tryd.prog w = .ok (.enter 37 args) w := enters_of Tryd.func37 (by kernel_rfl) rfl
  have e36 : ∀ args w, (callFunc 36 args).run Tryd.prog w = .ok (.enter 36 args) w := enters_of Tryd.func36 (by kernel_rfl) rfl
  have HB := Aside0.mk (Below.refl w.heap.size w)
  have hg1 : w.cell? ⟨g, 1, none⟩ = some (.slice (some ⟨b, 0, none⟩) ports.length cap) := (blk_cell ht.cell 1).trans rfl
  have hgl := ht.lt
  have hik : decide (0 ≤ (k : Int) ∧ (k : Int) < (ports.length : Int)) = true := by simp only [decide_eq_true_eq]; omega
  have HI := Aside0.mk (fun (W : World) (hb : Below w.heap.size w W) => is_calls W g _ _ _ (pw_cell_below hb hg1) k)
  rw [hik] at HI
  clear hik
  have HG := Aside0.mk (fun W => good_calls m hm W)
  rw [hgd] at HG
  have hlz : (k : Int) < (ports.length : Int) := by omega
  have hx0 := (pcells ht.row k hk).c0
  rw [hdn] at hx0
  have k2 : (m.f2 != 2) = false := by rw [hr]; rfl
  clear ht hm hgd hdn hr HB
  go_enter Tryd.func16, Tryd.ntmps16
  go_wp2_with (first
      | ((with_reducible refine gate_dst (N := 6) rfl ?_); refine box_event ?hg (N := 6) ?hd (cs := #[.int .i64 m.f0.f0, .int .i64 m.f0.f1, .int .i64 m.f0.f2, .int .i64 m.f0.f3, .int .i64 m.f1, .int .i64 m.f2, .bool m.f3]) (t := 38) ?hr ?_; (case hd => rfl); (case hg => rfl); (case hr => first | (go_simp; done) | (go_simp; rfl)); intro gb hg w5 hbox hb; have HB5 := Aside0.mk hb; have BK := Aside0.mk hbox; have hgb : w.heap.size ≤ gb := Nat.le_of_eq hg.symm; have hz0 : w5.cell? ⟨gb, 0, none⟩ = some (.int .i64 m.f0.f0) := (blk_cell BK.out 0).trans rfl; have hz1 : w5.cell? ⟨gb, 1, none⟩ = some (.int .i64 m.f0.f1) := (blk_cell BK.out 1).trans rfl; have hz2 : w5.cell? ⟨gb, 2, none⟩ = some (.int .i64 m.f0.f2) := (blk_cell BK.out 2).trans rfl; have hz3 : w5.cell? ⟨gb, 3, none⟩ = some (.int .i64 m.f0.f3) := (blk_cell BK.out 3).trans rfl; have hz4 : w5.cell? ⟨gb, 4, none⟩ = some (.int .i64 m.f1) := (blk_cell BK.out 4).trans rfl; have hz5 : w5.cell? ⟨gb, 5, none⟩ = some (.int .i64 m.f2) := (blk_cell BK.out 5).trans rfl; have hz6 : w5.cell? ⟨gb, 6, none⟩ = some (.bool m.f3) := (blk_cell BK.out 6).trans rfl; clear hb hbox hg)
      | (go_at_fn 35; refine (HI.out _ HB5.out).mono ?_; rintro e w1 ⟨rfl, e1⟩; have e2 := e1.symm; subst e2)
      | (go_at_fn 37; refine (HG.out _).mono ?_; rintro e w6 ⟨rfl, h6⟩; have HB6 := Aside0.mk (below_step HB5.out h6); have hg6 := pw_cell_below HB6.out hg1; have hx6 := pw_cell_below HB6.out hx0; have hy0 : w6.cell? ⟨gb, 0, none⟩ = some (.int .i64 m.f0.f0) := pw_cell_below h6 hz0; have hy1 : w6.cell? ⟨gb, 1, none⟩ = some (.int .i64 m.f0.f1) := pw_cell_below h6 hz1; have hy2 : w6.cell? ⟨gb, 2, none⟩ = some (.int .i64 m.f0.f2) := pw_cell_below h6 hz2; have hy3 : w6.cell? ⟨gb, 3, none⟩ = some (.int .i64 m.f0.f3) := pw_cell_below h6 hz3; have hy4 : w6.cell? ⟨gb, 4, none⟩ = some (.int .i64 m.f1) := pw_cell_below h6 hz4; have hy5 : w6.cell? ⟨gb, 5, none⟩ = some (.int .i64 m.f2) := pw_cell_below h6 hz5; have hy6 : w6.cell? ⟨gb, 6, none⟩ = some (.bool m.f3) := pw_cell_below h6 hz6; clear h6))
  go_ret
  exact ⟨rfl, HB6.out⟩
abbrev setHeard (w : World) (b k : Nat) (m : S38) (now : Int) : World := (((((((w.setCell ⟨b, k * 13 + 2, none⟩ (.int .i64 m.f0.f0)).setCell ⟨b, k * 13 + 2 + 1, none⟩ (.int .i64 m.f0.f1)).setCell ⟨b, k * 13 + 2 + 2, none⟩ (.int .i64 m.f0.f2)).setCell ⟨b, k * 13 + 2 + 3, none⟩ (.int .i64 m.f0.f3)).setCell ⟨b, k * 13 + 2 + 4, none⟩ (.int .i64 m.f1)).setCell ⟨b, k * 13 + 2 + 5, none⟩ (.int .i64 0)).setCell ⟨b, k * 13 + 2 + 6, none⟩ (.bool false)).setCell ⟨b, k * 13 + 9, none⟩ (.int .i64 now)
def hearP (p : S84) (m : S38) (now : Int) : S84 := ⟨p.f0, p.f1, ⟨m.f0, m.f1, 0, false⟩, now, p.f4⟩
theorem Tre.heard {W : World} {base g b cap : Nat} {id root change : Int} {P : List S84} {best : S36} {k : Nat} {x : S84} (h : Tre W base g b cap id (P.set k x) best root change) (hk : k < P.length) (m : S38) (now : Int) : Tre (setHeard W b k m now) base g b cap id (P.set k (hearP x m now)) best root change :=
  (((((((h.put hk 2 (by decide) ⟨x.f0, x.f1, ⟨⟨m.f0.f0, x.f2.f0.f1, x.f2.f0.f2, x.f2.f0.f3⟩, x.f2.f1, x.f2.f2, x.f2.f3⟩, x.f3, x.f4⟩ _ rfl).put hk 3 (by decide) ⟨x.f0, x.f1, ⟨⟨m.f0.f0, m.f0.f1, x.f2.f0.f2, x.f2.f0.f3⟩, x.f2.f1, x.f2.f2, x.f2.f3⟩, x.f3, x.f4⟩ _ rfl).put hk 4 (by decide) ⟨x.f0, x.f1, ⟨⟨m.f0.f0, m.f0.f1, m.f0.f2, x.f2.f0.f3⟩, x.f2.f1, x.f2.f2, x.f2.f3⟩, x.f3, x.f4⟩ _ rfl).put hk 5 (by decide) ⟨x.f0, x.f1, ⟨m.f0, x.f2.f1, x.f2.f2, x.f2.f3⟩, x.f3, x.f4⟩ _ rfl).put hk 6 (by decide) ⟨x.f0, x.f1, ⟨m.f0, m.f1, x.f2.f2, x.f2.f3⟩, x.f3, x.f4⟩ _ rfl).put hk 7 (by decide) ⟨x.f0, x.f1, ⟨m.f0, m.f1, 0, x.f2.f3⟩, x.f3, x.f4⟩ _ rfl).put hk 8 (by decide) ⟨x.f0, x.f1, ⟨m.f0, m.f1, 0, false⟩, x.f3, x.f4⟩ _ rfl).put hk 9 (by decide) (hearP x m now) _ rfl
theorem trn_heard {base : Nat} {w0 w W : World} {g b : Nat} (a : Trn base w0 w (TF g b) (TF g b) W) (hs : base ≤ w.heap.size) (hb : base ≤ b) (k : Nat) (m : S38) (now : Int) : Trn base w0 w (TF g b) (TF g b) (setHeard W b k m now) :=
  (((((((a.set hs (.inr rfl) hb _ _).set hs (.inr rfl) hb _ _).set hs (.inr rfl) hb _ _).set hs (.inr rfl) hb _ _).set hs (.inr rfl) hb _ _).set hs (.inr rfl) hb _ _).set hs (.inr rfl) hb _ _).set hs (.inr rfl) hb _ _
theorem cellFar {W : World} {g b i j : Nat} {x v : Value} (h : W.cell? ⟨g, j, none⟩ = some x) (ne : g ≠ b) : (W.setCell ⟨b, i, none⟩ v).cell? ⟨g, j, none⟩ = some x :=
  kept_cell (Gen.kept_set W b i v) ne h
theorem cell_drew {W : World} {p : Addr} {x : Value} (h : W.cell? p = some x) : W.drew.cell? p = some x := h
set_option maxHeartbeats 4000000 in
set_option maxRecDepth 100000 in
theorem hear_ok (base g b cap : Nat) (id : Int) (ports : List S84) (best : S36) (root change : Int) (w0 w : World) (hB : Below base w0 w) (hs : base ≤ w.heap.size) (ht : Tre w base g b cap id ports best root change) (hn : ports.length ≤ 100) (hf : ∀ p ∈ ports, FitP p) (k : Nat) (hk : k < ports.length) (m : S38) (hm : FitB m) (now : Int) (hgd : goodB m = true) (hr : m.f2 = 2) (hup : ports[k].f0 = true) :
    Calls Tryd.prog 16 #[.pointer (some ⟨g, 0, none⟩), .int .i64 k, val38 m, .int .i64 now] w fun e w' => e = .returned (.int .i64 0) ∧ Tre w' base g b cap id (upd id now (ports.set k (hearP ports[k] m now))) (bst id (ports.set k (hearP ports[k] m now))).1 (bst id (ports.set k (hearP ports[k] m now))).2 change ∧ Trn base w0 w (TF g b) (TF g b) w' := by
  have hfs : ∀ p ∈ ports.set k (hearP ports[k] m now), FitP p := fit_set hf k _ ⟨hm.1, hm.2.1, (hf _ (List.getElem_mem hk)).2.2⟩
  have hu38 := Tryd.underlying38
  have hu36 := Tryd.underlying36
  have e35 : ∀ args w, (callFunc 35 args).run Tryd.prog w = .ok (.enter 35 args) w := enters_of Tryd.func35 (by kernel_rfl) rfl
  have e37 : ∀ args w, (callFunc 37 args).run Tryd.prog w = .ok (.enter 37 args) w := enters_of Tryd.func37 (by kernel_rfl) rfl
  have e36 : ∀ args w, (callFunc 36 args).run Tryd.prog w = .ok (.enter 36 args) w := enters_of Tryd.func36 (by kernel_rfl) rfl
  have HB := Aside0.mk (Below.refl w.heap.size w)
  have hg1 : w.cell? ⟨g, 1, none⟩ = some (.slice (some ⟨b, 0, none⟩) ports.length cap) := (blk_cell ht.cell 1).trans rfl
  have hgl := ht.lt
  have hik : decide (0 ≤ (k : Int) ∧ (k : Int) < (ports.length : Int)) = true := by simp only [decide_eq_true_eq]; omega
  have HI := Aside0.mk (fun (W : World) (hb : Below w.heap.size w W) => is_calls W g _ _ _ (pw_cell_below hb hg1) k)
  rw [hik] at HI
  clear hik
  have HG := Aside0.mk (fun W => good_calls m hm W)
  rw [hgd] at HG
  have hlz : (k : Int) < (ports.length : Int) := by omega
  have hx0 := (pcells ht.row k hk).c0
  rw [hup] at hx0
  have hbl := ht.row.lt
  have hbz := ht.row.fz 0
  have HT := Aside0.mk ht
  have HSZ := Aside0.mk hs
  have HW := Aside0.mk hB
  have HTT := Aside0.mk (fun (W : World) (hb : Below w.heap.size w W) => (((ht.below hb).same k hk).heard hk m now).below (below_drew1 (Below.refl _ _)))
  have HTN := Aside0.mk (fun (W : World) (hb : Below w.heap.size w W) => Trn.below (trn_heard (Trn.of_below (F := TF g b) hB hs hb) hs ht.lowb k m now) hs (below_drew1 (Below.refl _ _)))
  have HU := Aside0.mk (fun (W : World) (hb : Below w.heap.size w W) => update_calls base g b cap id (ports.set k (hearP ports[k] m now)) best root change now w0 (setHeard W b k m now).drew (HTN.out W hb).bel (Nat.le_trans hs (HTN.out W hb).size) (HTT.out W hb) (by rw [List.length_set]; exact hn) (by rw [List.length_set]; omega) hfs)
  clear ht hm hgd hup hfs hf hB hs HB
  have k2 : (m.f2 != 2) = false := by rw [hr]; rfl
  clear hr
  generalize hearP ports[k] m now = P' at *
  go_enter Tryd.func16, Tryd.ntmps16
  go_wp2_with (first
      | ((with_reducible refine gate_dst (N := 6) rfl ?_); refine box_event ?hg (N := 6) ?hd (cs := #[.int .i64 m.f0.f0, .int .i64 m.f0.f1, .int .i64 m.f0.f2, .int .i64 m.f0.f3, .int .i64 m.f1, .int .i64 m.f2, .bool m.f3]) (t := 38) ?hr ?_; (case hd => rfl); (case hg => rfl); (case hr => first | (go_simp; done) | (go_simp; rfl)); intro gb hg w5 hbox hb; have HB5 := Aside0.mk hb; have BK := Aside0.mk hbox; have hgb : w.heap.size ≤ gb := Nat.le_of_eq hg.symm; have hz0 : w5.cell? ⟨gb, 0, none⟩ = some (.int .i64 m.f0.f0) := (blk_cell BK.out 0).trans rfl; have hz1 : w5.cell? ⟨gb, 1, none⟩ = some (.int .i64 m.f0.f1) := (blk_cell BK.out 1).trans rfl; have hz2 : w5.cell? ⟨gb, 2, none⟩ = some (.int .i64 m.f0.f2) := (blk_cell BK.out 2).trans rfl; have hz3 : w5.cell? ⟨gb, 3, none⟩ = some (.int .i64 m.f0.f3) := (blk_cell BK.out 3).trans rfl; have hz4 : w5.cell? ⟨gb, 4, none⟩ = some (.int .i64 m.f1) := (blk_cell BK.out 4).trans rfl; have hz5 : w5.cell? ⟨gb, 5, none⟩ = some (.int .i64 m.f2) := (blk_cell BK.out 5).trans rfl; have hz6 : w5.cell? ⟨gb, 6, none⟩ = some (.bool m.f3) := (blk_cell BK.out 6).trans rfl; clear hb hbox hg)
      | (go_at_fn 35; refine (HI.out _ HB5.out).mono ?_; rintro e w1 ⟨rfl, e1⟩; have e2 := e1.symm; subst e2)
      | (go_at_fn 37; refine (HG.out _).mono ?_; rintro e w6 ⟨rfl, h6⟩; have HB6 := Aside0.mk (below_step HB5.out h6); have hg6 := pw_cell_below HB6.out hg1; have hx6 := pw_cell_below HB6.out hx0; have hy0 : w6.cell? ⟨gb, 0, none⟩ = some (.int .i64 m.f0.f0) := pw_cell_below h6 hz0; have hy1 : w6.cell? ⟨gb, 1, none⟩ = some (.int .i64 m.f0.f1) := pw_cell_below h6 hz1; have hy2 : w6.cell? ⟨gb, 2, none⟩ = some (.int .i64 m.f0.f2) := pw_cell_below h6 hz2; have hy3 : w6.cell? ⟨gb, 3, none⟩ = some (.int .i64 m.f0.f3) := pw_cell_below h6 hz3; have hy4 : w6.cell? ⟨gb, 4, none⟩ = some (.int .i64 m.f1) := pw_cell_below h6 hz4; have hy5 : w6.cell? ⟨gb, 5, none⟩ = some (.int .i64 m.f2) := pw_cell_below h6 hz5; have hy6 : w6.cell? ⟨gb, 6, none⟩ = some (.bool m.f3) := pw_cell_below h6 hz6; clear h6))
  have hgbg : gb ≠ g := by omega
  have hgbb : gb ≠ b := by omega
  have hgne := HT.out.ne
  have hz6 := fun q => (HT.out.below HB6.out).row.fz q
  clear hx6 HG HI hx0
  obtain ⟨hx0, hx1, hx2, hx3, hx4, hx5, hx6, hx7, hx8, hx9, hx10, hx11, hx12⟩ := pcells (HT.out.below HB6.out).row k hk
  go_region_held3 (fun W => W.cell? ⟨g, 1, none⟩ = some (.slice (some ⟨b, 0, none⟩) ports.length cap) ∧ W.cell? ⟨gb, 0, none⟩ = some (.int .i64 m.f0.f0) ∧ W.cell? ⟨gb, 1, none⟩ = some (.int .i64 m.f0.f1) ∧ W.cell? ⟨gb, 2, none⟩ = some (.int .i64 m.f0.f2) ∧ W.cell? ⟨gb, 3, none⟩ = some (.int .i64 m.f0.f3) ∧ W.cell? ⟨gb, 4, none⟩ = some (.int .i64 m.f1)) (refine ⟨?_, ?_, ?_, ?_, ?_, ?_⟩ <;> (repeat (with_reducible first | assumption | refine cellFar ?_ (by assumption) | refine cell_drew ?_))) (fail)
  rename_i hS
  clear hS hx0 hx1 hx2 hx3 hx4 hx5 hx6 hx7 hx8 hx9 hx10 hx11 hx12
  go_wp2_with (go_at_fn 36; refine (HU.out _ HB6.out).mono ?_; rintro e w9 ⟨rfl, h9, t9⟩; have H9 := Aside0.mk h9; have T9 := Aside0.mk t9; clear h9 t9)
  go_ret
  exact ⟨rfl, H9.out, (HTN.out _ HB6.out).trans T9.out⟩
end Go.Proofs.YtfimhaodgekkgaaDoor.QTre
namespace Go.Proofs.YtfimhaodgekkgaaDoor.QTre
open Go.RowKit Go.Proofs.YtfimhaodgekkgaaDoorW.PrintWords Go.Proofs.YtfimhaodgekkgaaDoorW.PrintLast Go.Proofs.YtfimhaodgekkgaaDoorW.PrintMore
open Go.Proofs.YtfimhaodgekkgaaDoor.Gen (Own Trn)
open Go.Proofs.YtfimhaodgekkgaaDoor.Pri (FitH roles bestOf role brid)
set_option linter.unusedVariables false
set_option linter.unusedSimpArgs false
theorem bridge_calls (id : Int) (h : Pri.Fit id) (w : World) : Calls Tryd.prog 33 #[.int .i64 id] w fun e w' => e = .returned (.bool (brid id)) ∧ Below w.heap.size w w' := by
  refine (bpdu_Bridge.calls id (brid id) w (Pri.bridge_prog h)).mono ?_
  rintro e w' ⟨rfl, ⟨nd, rfl⟩⟩
  exact ⟨rfl, pw_below_drewN (Below.refl _ _) _⟩
theorem own_calls (id : Int) (w : World) : Calls Tryd.prog 34 #[.int .i64 id] w fun e w' => e = .returned (.agg #[.int .i64 id, .int .i64 0, .int .i64 id, .int .i64 0]) ∧ Below w.heap.size w w' :=
  prio_Own.calls id id 0 id 0 w (by unfold prio_Own.f; rfl)
set_option maxHeartbeats 4000000 in
set_option maxRecDepth 100000 in
theorem new_bad (id n : Int) (h : Pri.Fit id) (hbad : brid id = false ∨ n < 1 ∨ 6 < n) (w : World) :
    Calls Tryd.prog 14 #[.int .i64 id, .int .i64 n] w fun e w' => e = .returned (.pointer none) ∧ Below w.heap.size w w' := by
  have e33 : ∀ args w, (callFunc 33 args).run Tryd.prog w = .ok (.enter 33 args) w := enters_of Tryd.func33 (by kernel_rfl) rfl
  have HG := Aside0.mk (fun W => bridge_calls id h W)
  clear h
  have key : (brid id = false) ∨ (brid id = true ∧ n < 1) ∨ (brid id = true ∧ ¬ n < 1 ∧ 6 < n) := by
    rcases Bool.eq_false_or_eq_true (brid id) with h | h
    · rcases hbad with h2 | h2 | h2
      · rw [h] at h2; cases h2
      · exact .inr (.inl ⟨h, h2⟩)
      · exact .inr (.inr ⟨h, by omega, h2⟩)
    · exact .inl h
  clear hbad
  rcases key with e | ⟨e, k⟩ | ⟨e, k, k2⟩
  all_goals
    rw [e] at HG
    clear e
    go_enter Tryd.func14, Tryd.ntmps14
    go_wp2_with (go_at_fn 33; refine (HG.out _).mono ?_; rintro e w1 ⟨rfl, h1⟩; have HB1 := Aside0.mk h1; clear h1)
    go_ret
    exact ⟨rfl, HB1.out⟩
def port0 : S84 := ⟨false, 0, none80, 0, z82⟩
theorem info84 : (Tryd.prog.info? 84).map (fun i => (i.zero, i.size, i.bytes)) = some (some (.agg #[(.bool false), (.int .i64 0), (.int .i64 0), (.int .i64 0), (.int .i64 0), (.int .i64 0), (.int .i64 0), (.int .i64 0), (.bool false), (.int .i64 0), (.int .i64 0), (.int .i64 0), (.bool false)]), 13, 104) := by kernel_rfl
abbrev newCells (id : Int) (v : Value) : Array Value := #[.int .i64 id, v, .int .i64 id, .int .i64 0, .int .i64 id, .int .i64 0, .int .i64 (-1), .int .i64 (-1)]
theorem C_one84 (x : S84) {w : World} {b : Nat} (h : w.heap[b]? = some (.cells (enc84 x).toArray 84 (0, 0))) : Kd.C k84 w (some ⟨b, 0, none⟩) 1 [x] := by
  have o : Own enc84 13 84 w b 1 [x] := ⟨⟨_, h, rfl, by simp [Gen.flat]; rfl⟩, Nat.le_refl _⟩
  have r := o.toR (d := k84) (base := 0) (ok := fun _ => True) enc84_len rfl (fun w base ok x => k84_mkM w base ok x) (Nat.zero_le _) trivial (by decide)
  obtain ⟨A, c, e, _, hC⟩ := Gen.R_open r
  injection e with e1
  subst e1
  exact hC
set_option maxHeartbeats 4000000 in
set_option maxRecDepth 100000 in
theorem new_ok (id : Int) (n : Nat) (h : Pri.Fit id) (hg : brid id = true) (h1 : 1 ≤ n) (h6 : n ≤ 6) (w : World) (hng : NG w) (h0 : 0 < w.heap.size) :
    Calls Tryd.prog 14 #[.int .i64 id, .int .i64 n] w fun e w' => ∃ g b cap : Nat, e = .returned (.pointer (some ⟨g, 0, none⟩)) ∧ Tre w' w.heap.size g b cap id (List.replicate n port0) ⟨id, 0, id, 0⟩ (-1) (-1) ∧ Below w.heap.size w w' := by
  have e33 : ∀ args w, (callFunc 33 args).run Tryd.prog w = .ok (.enter 33 args) w := enters_of Tryd.func33 (by kernel_rfl) rfl
  have e34 : ∀ args w, (callFunc 34 args).run Tryd.prog w = .ok (.enter 34 args) w := enters_of Tryd.func34 (by kernel_rfl) rfl
  have mixed : Tryd.prog.follows .mixedOrders = true := by kernel_rfl
  have hu36 := Tryd.underlying36
  have hu79 := Tryd.underlying79
  have HG := Aside0.mk (fun W => bridge_calls id h W)
  rw [hg] at HG
  have HNG := Aside0.mk (fun (W : World) (hb : Below w.heap.size w W) => hng.below hb h0)
  have hz1 : ¬ (n : Int) < 1 := by omega
  have hz6 : ¬ 6 < (n : Int) := by omega
  have HH6 := Aside0.mk h6
  clear h hg hng h0 h1 h6
  go_enter Tryd.func14, Tryd.ntmps14
  go_wp2_with (first
    | (go_at_fn 33; refine (HG.out _).mono ?_; rintro e w1 ⟨rfl, h1⟩; have HB1 := Aside0.mk h1; clear h1)
    | (go_at_fn 34; refine (own_calls id _).mono ?_; rintro e w2 ⟨rfl, h2⟩; have HB2 := Aside0.mk (below_step HB1.out h2); clear h2)
    | ((with_reducible refine gate_dst (N := 21) rfl ?_); refine box_event ?hg (N := 21) ?hd (cs := newCells id (.slice none 0 0)) (t := 79) ?hr ?_; (case hd => rfl); (case hg => rfl); (case hr => first | (go_simp; done) | (go_simp; rfl)); intro gb hg w3 hbox hb; have HB3 := Aside0.mk (below_step HB2.out hb); have BK := Aside0.mk hbox; have hgb : w.heap.size ≤ gb := (by rw [hg]; exact HB2.out.size); clear hb hbox hg))
  go_wp2
  go_loopg [23] n (fun gk s23 wr => ∃ i : Nat, s23 = .int .i64 i ∧ i ≤ n ∧ n - i ≤ gk ∧ ∃ v : Value, Aside0 (wr.heap[gb]? = some (.cells (newCells id v) 79 (0, 0))) ∧ Aside0 (Kd.R k84 84 wr w.heap.size (fun q => q ≠ gb) v (List.replicate i port0)) ∧ Aside0 (Below w.heap.size w wr))
  case atStart => exact ⟨0, rfl, Nat.zero_le _, by omega, _, BK, ⟨Kd.R_nil _ _ _ _ _⟩, HB3⟩
  case round =>
    obtain ⟨i, rfl, hil, hgk, v, HC, HO, HB⟩ := hrel
    by_cases hlt : i < n
    · have hlz : (i : Int) < (n : Int) := by omega
      obtain ⟨n0, n1, n2, n3, n4, n5, n6⟩ := HNG.out _ HB.out
      have hcg : wr.cell? ⟨gb, 1, none⟩ = some v := (blk_cell HC.out 1).trans rfl
      have hfz := blk_frozen HC.out 1
      have hgl := blk_lt HC.out
      have HLL := Aside0.mk (show ((List.replicate i port0).length + 1) * 104 ≤ 140737488355328 by rw [List.length_replicate]; have := HH6.out; omega)
      have hbw := Below.refl wr.heap.size wr
      have hn1 : ¬ (gb = wr.heap.size) := by omega
      have hn2 : ¬ (wr.heap.size = gb) := by omega
      go_wp2_with fail
      go_region_law_o (refine Kd.R_append_rows_step k84 (w0 := w) w.heap.size (by rfl) (.tmp 29) (.tmp 32) 77 84 (.agg #[(.bool false), (.int .i64 0), (.int .i64 0), (.int .i64 0), (.int .i64 0), (.int .i64 0), (.int .i64 0), (.int .i64 0), (.bool false), (.int .i64 0), (.int .i64 0), (.int .i64 0), (.bool false)]) 104 rfl Tryd.underlying77 info84 rfl (by decide) (by decide) v (List.replicate i port0) [port0] _ 1 1 (fun q => q ≠ gb) (fun _ => False) rfl rfl ?aO ?aR (fun _ _ h => h) (fun _ h => h.elim) ?aF ?aB ?aS ?aL ?_; (case aR => exact C_one84 port0 (by first | exact blk_new _ _ | exact blk_drew (blk_new _ _))); (case aB => exact below_step HB.out (by repeat (with_reducible first | assumption | apply below_alloc | apply pw_below_drewN | apply below_drew1))); (case aF => exact fun q hq e => by (simp [World.size_alloc] at hq; omega)); (case aO => (with_reducible repeat (first | apply Kd.R_alloc | apply Kd.R_drewN | apply Kd.R_drew)); exact HO.out); (case aS => exact Nat.le_trans HB.out.size (by repeat (with_reducible first | assumption | apply below_alloc | apply pw_below_drewN | apply below_drew1) : Below wr.heap.size wr _).size); (case aL => exact HLL.out); intro u5 w4 ho4 hb4 hg4 hat4; have hc4 : w4.heap[gb]? = some (.cells (newCells id v) 79 (0, 0)) := blk_grown (by repeat (with_reducible first | exact HC.out | (refine blk_alloc ?_ _) | refine blk_drew ?_)) (show World.grownBy _ w4 _ from hg4) (fun e => HO.out.1 _ e.symm rfl); have hf4 := blk_frozen hc4 1; have hx4 : w4.cell? ⟨gb, 1, none⟩ = some v := (blk_cell hc4 1).trans rfl; have HC4 := Aside0.mk hc4; have HO4 := Aside0.mk ho4; have HB4 := Aside0.mk hb4; obtain ⟨A5, c5, rfl⟩ := Kd.R_slice ho4; clear hc4 ho4 hb4 hg4 hat4)
      all_goals
        go_wp2
        go_roundg (n - (i + 1))
        case measure => omega
        case rel =>
          have hO := Gen.R_kept rfl HO4.out (Gen.kept_set w4 gb 1 (.slice A5 (i + 1) c5)) (fun q hq e => HO4.out.1 q hq e)
          rw [← List.replicate_succ', List.length_replicate] at hO
          exact ⟨i + 1, by go_num, by omega, Nat.le_refl _, _, ⟨blk_put HC4.out 1 (.slice A5 (i + 1) c5) rfl⟩, ⟨hO⟩, ⟨below_set HB4.out hgb⟩⟩
    · have e : i = n := by omega
      subst e
      rcases Gen.Own.ofR (enc := enc84) (k := 13) enc84_len rfl (fun w base ok x cs h => k84_openM h) HO.out with ⟨_, e⟩ | ⟨b, cap, rfl, hbok, hbb, hcap, hown⟩
      · have : (List.replicate i port0).length = 0 := by rw [e]; rfl
        rw [List.length_replicate] at this
        omega
      · have HW := Aside0.mk hown
        clear hown
        go_wp2
        go_ret
        have hc := HC.out
        refine ⟨gb, b, cap, rfl, ⟨hc, HW.out, fun e => hbok e.symm, hgb, hbb, hcap⟩, HB.out⟩
end Go.Proofs.YtfimhaodgekkgaaDoor.QTre
namespace Go.Proofs.YtfimhaodgekkgaaDoor.QTre
open Go.RowKit Go.Proofs.YtfimhaodgekkgaaDoorW.PrintWords Go.Proofs.YtfimhaodgekkgaaDoorW.PrintLast Go.Proofs.YtfimhaodgekkgaaDoorW.PrintMore
open Go.Proofs.YtfimhaodgekkgaaDoor.Gen (Own Trn)
open Go.Proofs.YtfimhaodgekkgaaDoor.Pri (FitH roles bestOf role brid)
set_option linter.unusedVariables false
set_option linter.unusedSimpArgs false
def ageR (P : List S84) (root : Int) : Int := if root < 0 then 0 else IntKind.i64.wrap ((P.getD root.toNat port0).f2.f1 + 1)
def roleAt (P : List S84) (i : Int) : Int := if 0 ≤ i then (P.getD i.toNat port0).f4.f0 else 0
def stateAt (P : List S84) (i now : Int) : Int := if 0 ≤ i then stateR (P.getD i.toNat port0).f4 now else 0
theorem getD_lt {P : List S84} {k : Nat} (h : k < P.length) : P.getD k port0 = P[k] := by rw [List.getD_eq_getElem?_getD, List.getElem?_eq_getElem h]; rfl
theorem getD_ge {P : List S84} {k : Nat} (h : ¬ k < P.length) : P.getD k port0 = port0 := by rw [List.getD_eq_getElem?_getD, List.getElem?_eq_none (by omega)]; rfl
section
variable {base g b cap : Nat} {id : Int} {P : List S84} {best : S36} {root change : Int} {w : World}
set_option maxHeartbeats 4000000 in
set_option maxRecDepth 100000 in
theorem age_calls (ht : Tre w base g b cap id P best root change) (hr : root < P.length) :
    Calls Tryd.prog 41 #[.pointer (some ⟨g, 0, none⟩)] w fun e w' => e = .returned (.int .i64 (ageR P root)) ∧ Below w.heap.size w w' := by
  have hg1 : w.cell? ⟨g, 1, none⟩ = some (.slice (some ⟨b, 0, none⟩) P.length cap) := (blk_cell ht.cell 1).trans rfl
  have hg6 : w.cell? ⟨g, 6, none⟩ = some (.int .i64 root) := (blk_cell ht.cell 6).trans rfl
  have HB := Aside0.mk (Below.refl w.heap.size w)
  unfold ageR
  by_cases h : root < 0
  · rw [if_pos h]
    clear ht hr
    go_enter Tryd.func41, Tryd.ntmps41
    go_wp2
    go_ret
    exact ⟨rfl, by repeat (with_reducible first | exact HB.out | apply below_alloc | apply pw_below_drewN | apply below_drew1)⟩
  · rw [if_neg h]
    obtain ⟨k, rfl⟩ : ∃ k : Nat, root = k := ⟨root.toNat, by omega⟩
    have hk : k < P.length := by omega
    rw [Int.toNat_natCast, getD_lt hk]
    have hlz : (k : Int) < (P.length : Int) := hr
    have hx7 : w.cell? ⟨b, k * 13 + 2 + 4, none⟩ = some (.int .i64 P[k].f2.f1) := (pcells ht.row k hk).c6
    generalize P[k].f2.f1 = a at *
    clear ht
    go_enter Tryd.func41, Tryd.ntmps41
    go_wp2
    go_region_held3 (fun W => W.cell? ⟨g, 1, none⟩ = some (.slice (some ⟨b, 0, none⟩) P.length cap) ∧ W.cell? ⟨g, 6, none⟩ = some (.int .i64 k) ∧ W.cell? ⟨b, k * 13 + 2 + 4, none⟩ = some (.int .i64 a)) (refine ⟨?_, ?_, ?_⟩ <;> (repeat (with_reducible first | assumption | refine cell_drew ?_))) (fail)
    go_wp2
    go_ret
    exact ⟨by first | rfl | simp, by repeat (with_reducible first | exact HB.out | apply below_alloc | apply pw_below_drewN | apply below_drew1)⟩
set_option maxHeartbeats 4000000 in
set_option maxRecDepth 100000 in
theorem role_calls (ht : Tre w base g b cap id P best root change) (i : Int) :
    Calls Tryd.prog 20 #[.pointer (some ⟨g, 0, none⟩), .int .i64 i] w fun e w' => e = .returned (.int .i64 (roleAt P i)) ∧ Below w.heap.size w w' := by
  have e35 : ∀ args w, (callFunc 35 args).run Tryd.prog w = .ok (.enter 35 args) w := enters_of Tryd.func35 (by kernel_rfl) rfl
  have e39 : ∀ args w, (callFunc 39 args).run Tryd.prog w = .ok (.enter 39 args) w := enters_of Tryd.func39 (by kernel_rfl) rfl
  have hg1 : w.cell? ⟨g, 1, none⟩ = some (.slice (some ⟨b, 0, none⟩) P.length cap) := (blk_cell ht.cell 1).trans rfl
  have HB := Aside0.mk (Below.refl w.heap.size w)
  have HI := Aside0.mk (is_calls w g _ _ _ hg1 i)
  unfold roleAt
  by_cases h : 0 ≤ i ∧ i < (P.length : Int)
  · rw [decide_eq_true h] at HI
    rw [if_pos h.1]
    obtain ⟨k, rfl⟩ : ∃ k : Nat, i = k := ⟨i.toNat, by omega⟩
    have hk : k < P.length := by omega
    have hlz : (k : Int) < (P.length : Int) := h.2
    rw [Int.toNat_natCast, getD_lt hk]
    have hx := (pcells ht.row k hk).c10
    generalize P[k].f4.f0 = a at *
    have HR := Aside0.mk (rrole_calls b (k * 13 + 10) a w hx)
    clear ht h hx
    go_enter Tryd.func20, Tryd.ntmps20
    go_wp2_with (first | (go_at_fn 35; refine HI.out.mono ?_; rintro e w1 ⟨rfl, e1⟩; have e2 := e1.symm; subst e2) | (go_at_fn 39; refine HR.out.mono ?_; rintro e w1 ⟨rfl, e1⟩; have e2 := e1.symm; subst e2))
    go_ret
    exact ⟨rfl, HB.out⟩
  · rw [decide_eq_false h] at HI
    rw [show (if 0 ≤ i then (P.getD i.toNat port0).f4.f0 else 0) = 0 from by
      split
      · rw [getD_ge (by omega)]; rfl
      · rfl]
    clear ht h
    go_enter Tryd.func20, Tryd.ntmps20
    go_wp2_with (go_at_fn 35; refine HI.out.mono ?_; rintro e w1 ⟨rfl, e1⟩; have e2 := e1.symm; subst e2)
    go_ret
    exact ⟨rfl, HB.out⟩
set_option maxHeartbeats 4000000 in
set_option maxRecDepth 100000 in
theorem state_calls (ht : Tre w base g b cap id P best root change) (i now : Int) :
    Calls Tryd.prog 24 #[.pointer (some ⟨g, 0, none⟩), .int .i64 i, .int .i64 now] w fun e w' => e = .returned (.int .i64 (stateAt P i now)) ∧ Below w.heap.size w w' := by
  have e35 : ∀ args w, (callFunc 35 args).run Tryd.prog w = .ok (.enter 35 args) w := enters_of Tryd.func35 (by kernel_rfl) rfl
  have e43 : ∀ args w, (callFunc 43 args).run Tryd.prog w = .ok (.enter 43 args) w := enters_of Tryd.func43 (by kernel_rfl) rfl
  have hg1 : w.cell? ⟨g, 1, none⟩ = some (.slice (some ⟨b, 0, none⟩) P.length cap) := (blk_cell ht.cell 1).trans rfl
  have HB := Aside0.mk (Below.refl w.heap.size w)
  have HI := Aside0.mk (is_calls w g _ _ _ hg1 i)
  unfold stateAt
  by_cases h : 0 ≤ i ∧ i < (P.length : Int)
  · rw [decide_eq_true h] at HI
    rw [if_pos h.1]
    obtain ⟨k, rfl⟩ : ∃ k : Nat, i = k := ⟨i.toNat, by omega⟩
    have hk : k < P.length := by omega
    have hlz : (k : Int) < (P.length : Int) := h.2
    rw [Int.toNat_natCast, getD_lt hk]
    have HR := Aside0.mk (rstate_calls b (k * 13 + 10) P[k].f4 now w (pcells ht.row k hk).c10 (pcells ht.row k hk).c11)
    generalize stateR P[k].f4 now = a at *
    clear ht h
    go_enter Tryd.func24, Tryd.ntmps24
    go_wp2_with (first | (go_at_fn 35; refine HI.out.mono ?_; rintro e w1 ⟨rfl, e1⟩; have e2 := e1.symm; subst e2) | (go_at_fn 43; refine HR.out.mono ?_; rintro e w1 ⟨rfl, e1⟩; have e2 := e1.symm; subst e2))
    go_ret
    exact ⟨rfl, HB.out⟩
  · rw [decide_eq_false h] at HI
    rw [show (if 0 ≤ i then stateR (P.getD i.toNat port0).f4 now else 0) = 0 from by
      split
      · rw [getD_ge (by omega)]; rfl
      · rfl]
    clear ht h
    go_enter Tryd.func24, Tryd.ntmps24
    go_wp2_with (go_at_fn 35; refine HI.out.mono ?_; rintro e w1 ⟨rfl, e1⟩; have e2 := e1.symm; subst e2)
    go_ret
    exact ⟨rfl, HB.out⟩
set_option maxHeartbeats 4000000 in
theorem root_calls (ht : Tre w base g b cap id P best root change) :
    Calls Tryd.prog 21 #[.pointer (some ⟨g, 0, none⟩)] w fun e w' => e = .returned (.int .i64 root) ∧ w' = w := by
  have hg6 : w.cell? ⟨g, 6, none⟩ = some (.int .i64 root) := (blk_cell ht.cell 6).trans rfl
  clear ht
  go_enter Tryd.func21, Tryd.ntmps21
  go_wp2
  go_ret
  exact ⟨rfl, rfl⟩
set_option maxHeartbeats 4000000 in
theorem id_calls (ht : Tre w base g b cap id P best root change) :
    Calls Tryd.prog 25 #[.pointer (some ⟨g, 0, none⟩)] w fun e w' => e = .returned (.int .i64 id) ∧ w' = w := by
  have hg6 : w.cell? ⟨g, 0, none⟩ = some (.int .i64 id) := (blk_cell ht.cell 0).trans rfl
  clear ht
  go_enter Tryd.func25, Tryd.ntmps25
  go_wp2
  go_ret
  exact ⟨rfl, rfl⟩
set_option maxHeartbeats 4000000 in
theorem ports_calls (ht : Tre w base g b cap id P best root change) :
    Calls Tryd.prog 26 #[.pointer (some ⟨g, 0, none⟩)] w fun e w' => e = .returned (.int .i64 P.length) ∧ w' = w := by
  have hg6 : w.cell? ⟨g, 1, none⟩ = some (.slice (some ⟨b, 0, none⟩) P.length cap) := (blk_cell ht.cell 1).trans rfl
  clear ht
  go_enter Tryd.func26, Tryd.ntmps26
  go_wp2
  go_ret
  exact ⟨rfl, rfl⟩
set_option maxHeartbeats 4000000 in
set_option maxRecDepth 100000 in
theorem best_calls (ht : Tre w base g b cap id P best root change) :
    Calls Tryd.prog 19 #[.pointer (some ⟨g, 0, none⟩)] w fun e w' => e = .returned (.agg #[.int .i64 best.f0, .int .i64 best.f1, .int .i64 best.f2, .int .i64 best.f3]) ∧ Below w.heap.size w w' := by
  have hu36 := Tryd.underlying36
  have HT := Aside0.mk ht
  have hgl := ht.lt
  clear ht
  obtain ⟨v0, v1, v2, v3⟩ := best
  go_enter Tryd.func19, Tryd.ntmps19
  go_wp2_with ((with_reducible refine gate_dst (N := 2) rfl ?_); refine box_event ?hg (N := 2) ?hd (cs := #[.int .i64 0, .int .i64 0, .int .i64 0, .int .i64 0]) (t := 36) ?hr ?_; (case hd => rfl); (case hg => rfl); (case hr => first | (go_simp; done) | (go_simp; rfl)); intro gb hg w2 hbox hb; have HB := Aside0.mk hb; have BK := Aside0.mk hbox; have GE : Aside0 (w.heap.size ≤ gb) := ⟨Nat.le_of_eq hg.symm⟩; have hcz0 : w2.cell? ⟨gb, 0, none⟩ = some (.int .i64 0) := (blk_cell BK.out 0).trans rfl; have hcz1 : w2.cell? ⟨gb, 1, none⟩ = some (.int .i64 0) := (blk_cell BK.out 1).trans rfl; have hcz2 : w2.cell? ⟨gb, 2, none⟩ = some (.int .i64 0) := (blk_cell BK.out 2).trans rfl; have hcz3 : w2.cell? ⟨gb, 3, none⟩ = some (.int .i64 0) := (blk_cell BK.out 3).trans rfl; have hfz0 := blk_frozen BK.out 0; have hfz1 := blk_frozen BK.out 1; have hfz2 := blk_frozen BK.out 2; have hfz3 := blk_frozen BK.out 3; have HT2 := Aside0.mk (HT.out.below hb); have hg2 : w2.cell? ⟨g, 2, none⟩ = some (.int .i64 v0) := (blk_cell HT2.out.cell 2).trans rfl; have hg3 : w2.cell? ⟨g, 3, none⟩ = some (.int .i64 v1) := (blk_cell HT2.out.cell 3).trans rfl; have hg4 : w2.cell? ⟨g, 4, none⟩ = some (.int .i64 v2) := (blk_cell HT2.out.cell 4).trans rfl; have hg5 : w2.cell? ⟨g, 5, none⟩ = some (.int .i64 v3) := (blk_cell HT2.out.cell 5).trans rfl; clear hb hbox hg)
  refine bodyPost_ret (results_cell_row rfl _ _ gb 36 #[.int .i64 v0, .int .i64 v1, .int .i64 v2, .int .i64 v3] (0, 0) _ rfl (by refine blk_put (cs := #[.int .i64 v0, .int .i64 v1, .int .i64 v2, .int .i64 0]) ?_ 3 _ rfl; refine blk_put (cs := #[.int .i64 v0, .int .i64 v1, .int .i64 0, .int .i64 0]) ?_ 2 _ rfl; refine blk_put (cs := #[.int .i64 v0, .int .i64 0, .int .i64 0, .int .i64 0]) ?_ 1 _ rfl; refine blk_put (cs := #[.int .i64 0, .int .i64 0, .int .i64 0, .int .i64 0]) ?_ 0 _ rfl; exact BK.out) Tryd.underlying36 rfl (by kernel_rfl)) rfl ?_
  exact ⟨rfl, below_set (below_set (below_set (below_set HB.out GE.out) GE.out) GE.out) GE.out⟩
end
end Go.Proofs.YtfimhaodgekkgaaDoor.QTre
namespace Go.Proofs.YtfimhaodgekkgaaDoor.QTre
open Go.RowKit Go.Proofs.YtfimhaodgekkgaaDoorW.PrintWords Go.Proofs.YtfimhaodgekkgaaDoorW.PrintLast Go.Proofs.YtfimhaodgekkgaaDoorW.PrintMore
open Go.Proofs.YtfimhaodgekkgaaDoor.Gen (Own Trn)
open Go.Proofs.YtfimhaodgekkgaaDoor.Pri (FitH roles bestOf role brid)
set_option linter.unusedVariables false
set_option linter.unusedSimpArgs false
section
variable {α : Type}
def preN (f : α → α) (xs : List α) (j : Nat) : List α := xs.mapIdx fun k p => if k < j then f p else p
theorem preN_len (f : α → α) (xs : List α) (j : Nat) : (preN f xs j).length = xs.length := by unfold preN; simp
theorem preN_at (f : α → α) (xs : List α) (j k : Nat) (h : k < (preN f xs j).length) : (preN f xs j)[k] = if k < j then f (xs[k]'(by rw [preN_len] at h; exact h)) else xs[k]'(by rw [preN_len] at h; exact h) := by simp only [preN, List.getElem_mapIdx]
theorem preN_get (f : α → α) (xs : List α) (j : Nat) (hj : j < xs.length) : (preN f xs j)[j]'(by rw [preN_len]; exact hj) = xs[j] := by rw [preN_at, if_neg (by omega)]
theorem preN_zero (f : α → α) (xs : List α) : preN f xs 0 = xs := by
  apply List.ext_getElem
  · exact preN_len _ _ _
  · intro k h1 h2; rw [preN_at, if_neg (by omega)]
theorem preN_full (f : α → α) (xs : List α) : preN f xs xs.length = xs.map f := by
  apply List.ext_getElem
  · rw [preN_len, List.length_map]
  · intro k h1 h2
    rw [preN_at, if_pos (by rw [preN_len] at h1; exact h1), List.getElem_map]
theorem preN_step (f : α → α) (xs : List α) (j : Nat) (hj : j < xs.length) : (preN f xs j).set j (f xs[j]) = preN f xs (j + 1) := by
  apply List.ext_getElem
  · rw [List.length_set, preN_len, preN_len]
  · intro k h1 h2
    rw [List.getElem_set]
    by_cases e : j = k
    · subst e; rw [if_pos rfl, preN_at, if_pos (by omega)]
    · rw [if_neg e, preN_at, preN_at]
      by_cases h3 : k < j
      · rw [if_pos h3, if_pos (by omega)]
      · rw [if_neg h3, if_neg (by omega)]
theorem preN_skip (f : α → α) (xs : List α) (j : Nat) (hj : j < xs.length) (h : f xs[j] = xs[j]) : preN f xs j = preN f xs (j + 1) := by
  rw [← preN_step f xs j hj, h]
  rw [← preN_get f xs j hj, List.set_getElem_self]
theorem any_step (f : α → Bool) (xs : List α) (j : Nat) (hj : j < xs.length) : (xs.take (j + 1)).any f = ((xs.take j).any f || f xs[j]) := by
  rw [List.take_succ_eq_append_getElem hj, List.any_append]; simp
end
def fgtP (now : Int) (p : S84) : S84 := if 14 < wrap64 (now - p.f3) then ⟨p.f0, p.f1, none80, p.f3, p.f4⟩ else p
def opnP (now : Int) (p : S84) : S84 := ⟨p.f0, p.f1, p.f2, p.f3, ⟨p.f4.f0, p.f4.f1, stateR p.f4 now == 2⟩⟩
def opnB (now : Int) (p : S84) : Bool := (stateR p.f4 now == 2) != p.f4.f2
structure S47 where
  f0 : Int
  f1 : S38
def z47 : S47 := ⟨0, z38⟩
def k47 : Kd S47 := Kd.iso (Kd.pair (Kd.int .i64) k38) (fun x : S47 => (x.f0, x.f1))
def enc47 (x : S47) : List Value := [.int .i64 x.f0, .int .i64 x.f1.f0.f0, .int .i64 x.f1.f0.f1, .int .i64 x.f1.f0.f2, .int .i64 x.f1.f0.f3, .int .i64 x.f1.f1, .int .i64 x.f1.f2, .bool x.f1.f3]
theorem enc47_len (x : S47) : (enc47 x).length = 8 := rfl
theorem k47_open {w : World} {x : S47} {cs : List Value} (h : k47.K w x cs) : cs = enc47 x := by
  obtain ⟨_, _, rfl, rfl, s⟩ := h
  obtain rfl := k38_open s
  rfl
theorem k47_openM {w : World} {base : Nat} {ok : Nat → Prop} {x : S47} {cs : List Value} (h : k47.M w base ok x cs) : cs = enc47 x := by
  obtain ⟨_, _, rfl, rfl, s⟩ := h
  obtain rfl := k38_openM s
  rfl
theorem k47_mkM (w : World) (base : Nat) (ok : Nat → Prop) (x : S47) : k47.M w base ok x (enc47 x) := ⟨[.int .i64 x.f0], [.int .i64 x.f1.f0.f0, .int .i64 x.f1.f0.f1, .int .i64 x.f1.f0.f2, .int .i64 x.f1.f0.f3, .int .i64 x.f1.f1, .int .i64 x.f1.f2, .bool x.f1.f3], rfl, rfl, k38_mkM w base ok x.f1⟩
theorem info47 : (Tryd.prog.info? 47).map (fun i => (i.zero, i.size, i.bytes)) = some (some (.agg #[(.int .i64 0), (.int .i64 0), (.int .i64 0), (.int .i64 0), (.int .i64 0), (.int .i64 0), (.int .i64 0), (.bool false)]), 8, 64) := by kernel_rfl
theorem C_one47 (x : S47) {w : World} {b : Nat} (h : w.heap[b]? = some (.cells (enc47 x).toArray 47 (0, 0))) : Kd.C k47 w (some ⟨b, 0, none⟩) 1 [x] := by
  have o : Own enc47 8 47 w b 1 [x] := ⟨⟨_, h, rfl, by simp [Gen.flat]; rfl⟩, Nat.le_refl _⟩
  have r := o.toR (d := k47) (base := 0) (ok := fun _ => True) enc47_len rfl (fun w base ok x => k47_mkM w base ok x) (Nat.zero_le _) trivial (by decide)
  obtain ⟨A, c, e, _, hC⟩ := Gen.R_open r
  injection e with e1
  subst e1
  exact hC
def sayOf (v : S36) (id age : Int) (c : Bool) (j : Nat) : S47 := ⟨j, ⟨⟨v.f0, v.f1, id, j⟩, age, 2, c⟩⟩
def saidFrom (v : S36) (id age : Int) (c : Bool) : Nat → List S84 → List S47
  | _, [] => []
  | j, p :: t => if p.f4.f0 = 2 then sayOf v id age c j :: saidFrom v id age c (j + 1) t else saidFrom v id age c (j + 1) t
theorem saidFrom_cons (v : S36) (id age : Int) (c : Bool) (j : Nat) (p : S84) (t : List S84) : saidFrom v id age c j (p :: t) = if p.f4.f0 = 2 then sayOf v id age c j :: saidFrom v id age c (j + 1) t else saidFrom v id age c (j + 1) t := rfl
theorem saidFrom_append (v : S36) (id age : Int) (c : Bool) (b : List S84) : ∀ (a : List S84) (j : Nat), saidFrom v id age c j (a ++ b) = saidFrom v id age c j a ++ saidFrom v id age c (j + a.length) b
  | [], j => rfl
  | p :: t, j => by
    rw [List.cons_append, saidFrom_cons, saidFrom_cons, saidFrom_append v id age c b t (j + 1), List.length_cons, show j + 1 + t.length = j + (t.length + 1) by omega]
    split <;> rfl
theorem saidFrom_step (v : S36) (id age : Int) (c : Bool) (P : List S84) (j : Nat) (hj : j < P.length) : saidFrom v id age c 0 (P.take (j + 1)) = saidFrom v id age c 0 (P.take j) ++ (if P[j].f4.f0 = 2 then [sayOf v id age c j] else []) := by
  rw [List.take_succ_eq_append_getElem hj, saidFrom_append, List.length_take, Nat.min_eq_left (by omega), Nat.zero_add]
  rfl
theorem saidFrom_len (v : S36) (id age : Int) (c : Bool) : ∀ (P : List S84) (j : Nat), (saidFrom v id age c j P).length ≤ P.length
  | [], j => Nat.le_refl _
  | p :: t, j => by
    have := saidFrom_len v id age c t (j + 1)
    unfold saidFrom
    split
    · rw [List.length_cons, List.length_cons]; omega
    · rw [List.length_cons]; omega
theorem best_at (id : Int) : ∀ (l : List S80) (j : Nat) (acc : S36 × Int), acc.2 < (j : Int) → (Pri.best id j l acc).2 < ((j + l.length : Nat) : Int)
  | [], j, acc, h => by unfold Pri.best; simpa using h
  | x :: t, j, acc, h => by
    unfold Pri.best
    have : (Pri.step id j x acc).2 < ((j + 1 : Nat) : Int) := by
      unfold Pri.step
      split
      · show (j : Int) < ((j + 1 : Nat) : Int)
        omega
      · omega
    have := best_at id t (j + 1) _ this
    rw [List.length_cons]
    omega
theorem bst_at (id : Int) (P : List S84) : (bst id P).2 < (P.length : Int) := by
  have := best_at id (P.map heardOf) 0 (Pri.own id, -1) (by simp)
  rw [List.length_map, Nat.zero_add] at this
  exact this
abbrev tk1 (now : Int) (P : List S84) : List S84 := P.map (fgtP now)
abbrev tickP (id now : Int) (P : List S84) : List S84 := (upd id now (tk1 now P)).map (opnP now)
abbrev tickB (id now : Int) (P : List S84) : S36 × Int := bst id (tk1 now P)
abbrev tickC (id now : Int) (P : List S84) (change : Int) : Int := if (upd id now (tk1 now P)).any (opnB now) = true then now + 4 else change
abbrev tickL (id now : Int) (P : List S84) (change : Int) : List S47 :=
  if now % 2 = 0 then saidFrom (tickB id now P).1 id (ageR (tickP id now P) (tickB id now P).2) (decide (now ≤ tickC id now P change)) 0 (tickP id now P) else []
theorem Tre.chg {w : World} {base g b cap : Nat} {id root change : Int} {P : List S84} {best : S36} (h : Tre w base g b cap id P best root change) (c : Int) : Tre (w.setCell ⟨g, 7, none⟩ (.int .i64 c)) base g b cap id P best root c :=
  ⟨blk_put h.cell 7 _ rfl, h.row.kept (Gen.kept_set w g 7 _) (fun e => h.ne e.symm), h.ne, h.low, h.lowb, h.cap_le⟩
theorem fgt_fit {P : List S84} {now : Int} (h : ∀ p ∈ P, FitP p) : ∀ p ∈ tk1 now P, FitP p := by
  intro p hp
  obtain ⟨q, hq, rfl⟩ := List.mem_map.1 hp
  have := h q hq
  unfold fgtP
  split
  · exact ⟨fit0, fit0, this.2.2⟩
  · exact this
theorem Tre.far {W W2 : World} {base g b cap n : Nat} {id root change : Int} {P : List S84} {best : S36} (h : Tre W base g b cap id P best root change) (hb : Below n W W2) (h1 : g < n) (h2 : b < n) : Tre W2 base g b cap id P best root change :=
  h.kept (S := fun k => n ≤ k) ⟨hb.size, fun k hk hn => hb.block k (by omega)⟩ (by omega) (by omega)
theorem trn_far {base : Nat} {w0 w W W2 : World} {F : Nat → Prop} (a : Trn base w0 w F F W) (hs : base ≤ w.heap.size) (hb : Below w.heap.size W W2) : Trn base w0 w F F W2 :=
  ⟨a.bel.trans (hb.mono hs), ⟨Nat.le_trans a.kept.1 hb.size, fun k hk hn => (hb.block k hk).trans (a.kept.2 k hk hn)⟩, a.own⟩
theorem offer_calls (v : S36) (id j : Int) (w : World) : Calls Tryd.prog 40 #[.agg #[.int .i64 v.f0, .int .i64 v.f1, .int .i64 v.f2, .int .i64 v.f3], .int .i64 id, .int .i64 j] w fun e w' => e = .returned (.agg #[.int .i64 v.f0, .int .i64 v.f1, .int .i64 id, .int .i64 j]) ∧ Below w.heap.size w w' :=
  prio_Offer.calls _ _ _ _ _ _ _ _ _ _ w (by unfold prio_Offer.f; rfl)
set_option maxHeartbeats 8000000 in
set_option maxRecDepth 100000 in
theorem tick_calls (base g b cap : Nat) (id : Int) (P : List S84) (best : S36) (root change now : Int) (w0 w : World) (hB : Below base w0 w) (hs : base ≤ w.heap.size) (hb0 : 0 < base) (hng : NG w0) (ht : Tre w base g b cap id P best root change) (hn : P.length ≤ 100) (hn1 : 1 ≤ P.length) (hf : ∀ p ∈ P, FitP p) (h0 : 0 ≤ now) (h1 : now ≤ 1000000000) :
    Calls Tryd.prog 17 #[.pointer (some ⟨g, 0, none⟩), .int .i64 now] w fun e w' => ∃ v, e = .returned v ∧ Kd.R k47 47 w' w.heap.size (fun _ => True) v (tickL id now P change) ∧ Tre w' base g b cap id (tickP id now P) (tickB id now P).1 (tickB id now P).2 (tickC id now P change) ∧ Trn base w0 w (TF g b) (TF g b) w' := by
  have e36 : ∀ args w, (callFunc 36 args).run Tryd.prog w = .ok (.enter 36 args) w := enters_of Tryd.func36 (by kernel_rfl) rfl
  have e38 : ∀ args w, (callFunc 38 args).run Tryd.prog w = .ok (.enter 38 args) w := enters_of Tryd.func38 (by kernel_rfl) rfl
  have e39 : ∀ args w, (callFunc 39 args).run Tryd.prog w = .ok (.enter 39 args) w := enters_of Tryd.func39 (by kernel_rfl) rfl
  have e40 : ∀ args w, (callFunc 40 args).run Tryd.prog w = .ok (.enter 40 args) w := enters_of Tryd.func40 (by kernel_rfl) rfl
  have e41 : ∀ args w, (callFunc 41 args).run Tryd.prog w = .ok (.enter 41 args) w := enters_of Tryd.func41 (by kernel_rfl) rfl
  have hg1 : w.cell? ⟨g, 1, none⟩ = some (.slice (some ⟨b, 0, none⟩) P.length cap) := (blk_cell ht.cell 1).trans rfl
  have HT := Aside0.mk ht
  have HF := Aside0.mk hf
  have HW := Aside0.mk hB
  have HNG := Aside0.mk (fun (W : World) (h : Below base w0 W) => hng.below h hb0)
  have HSZ := Aside0.mk hs
  have HN1 := Aside0.mk hn1
  clear ht hf hB hs hng hb0 hn1
  go_enter Tryd.func17, Tryd.ntmps17
  go_wp2
  go_loopg [18] P.length (fun gk s18 wr => ∃ i : Nat, s18 = .int .i64 i ∧ i ≤ P.length ∧ P.length - i ≤ gk ∧ Aside0 (Tre wr base g b cap id (preN (fgtP now) P i) best root change) ∧ Aside0 (Trn base w0 w (TF g b) (TF g b) wr))
  case atStart => exact ⟨0, rfl, Nat.zero_le _, by omega, ⟨by rw [preN_zero]; exact HT.out⟩, ⟨Trn.refl HW.out⟩⟩
  case round =>
    obtain ⟨i, rfl, hil, hgk, HL, HR⟩ := hrel
    by_cases hlt : i < P.length
    · have hlz : (i : Int) < (P.length : Int) := by omega
      have hpl : i < (preN (fgtP now) P i).length := by rw [preN_len]; exact hlt
      have hgr : wr.cell? ⟨g, 1, none⟩ = some (.slice (some ⟨b, 0, none⟩) P.length cap) := by
        have := HL.out.cell
        rw [preN_len] at this
        exact (blk_cell this 1).trans rfl
      obtain ⟨hx0, hx1, hx2, hx3, hx4, hx5, hx6, hx7, hx8, hx9, hx10, hx11, hx12⟩ := pcells HL.out.row i hpl
      have hz := HL.out.row.fz
      obtain ⟨n0, n1, n2, n3, n4, n5, n6⟩ := HNG.out _ HR.out.bel
      rw [preN_get _ _ _ hlt] at hx0 hx1 hx2 hx3 hx4 hx5 hx6 hx7 hx8 hx9 hx10 hx11 hx12
      have key : (14 < wrap64 (now - P[i].f3) ∧ fgtP now P[i] = ⟨P[i].f0, P[i].f1, none80, P[i].f3, P[i].f4⟩) ∨ (¬ 14 < wrap64 (now - P[i].f3) ∧ fgtP now P[i] = P[i]) := by
        unfold fgtP
        by_cases h : 14 < wrap64 (now - P[i].f3)
        · rw [if_pos h]; exact .inl ⟨h, rfl⟩
        · rw [if_neg h]; exact .inr ⟨h, rfl⟩
      rcases key with ⟨k, e⟩ | ⟨k, e⟩
      · have HE := Aside0.mk e
        clear e
        go_wp2
        go_roundg (P.length - (i + 1))
        case measure => omega
        case rel =>
          have ht2 := (HL.out.same i hpl).forget hpl
          rw [preN_get _ _ _ hlt, ← HE.out, preN_step _ _ _ hlt] at ht2
          exact ⟨i + 1, by go_num, by omega, Nat.le_refl _, ⟨ht2⟩, ⟨trn_forget HR.out HSZ.out HT.out.lowb i⟩⟩
      · have HE := Aside0.mk e
        clear e
        go_wp2
        go_roundg (P.length - (i + 1))
        case measure => omega
        case rel =>
          have ht2 := HL.out
          rw [preN_skip _ _ _ hlt HE.out] at ht2
          exact ⟨i + 1, by go_num, by omega, Nat.le_refl _, ⟨ht2⟩, HR⟩
    · have e : i = P.length := by omega
      subst e
      have ht1 := HL.out
      rw [preN_full] at ht1
      have HU := Aside0.mk (update_calls base g b cap id (tk1 now P) best root change now w0 wr HR.out.bel (Nat.le_trans HSZ.out HR.out.size) ht1 (by rw [List.length_map]; exact hn) (by rw [List.length_map]; exact HN1.out) (fgt_fit HF.out))
      clear ht1 HL hgk
      have hul : (upd id now (tk1 now P)).length = P.length := by rw [updN_len, List.length_map]
      have hun : (upd id now (tk1 now P)).length ≤ 100 := by omega
      have HBA := Aside0.mk (bst_at id (tk1 now P))
      rw [List.length_map, ← hul] at HBA
      clear hul
      have HTP := Aside0.mk (show (upd id now (tk1 now P)).map (opnP now) = tickP id now P from rfl)
      have HTB := Aside0.mk (show bst id (tk1 now P) = tickB id now P from rfl)
      have HTC := Aside0.mk (show (if (upd id now (tk1 now P)).any (opnB now) = true then now + 4 else change) = tickC id now P change from rfl)
      have HTL := Aside0.mk (show (if now % 2 = 0 then saidFrom (tickB id now P).1 id (ageR (tickP id now P) (tickB id now P).2) (decide (now ≤ tickC id now P change)) 0 (tickP id now P) else []) = tickL id now P change from rfl)
      rw [← HTB.out, ← HTP.out, ← HTC.out] at HTL
      generalize upd id now (tk1 now P) = U at *
      generalize bst id (tk1 now P) = B at *
      obtain ⟨⟨b0, b1, b2, b3⟩, br⟩ := B
      dsimp only at HU HBA HTL ⊢
      go_wp2_with (go_at_fn 36; refine HU.out.mono ?_; rintro e w9 ⟨rfl, h9, t9⟩; have H9 := Aside0.mk h9; have T9 := Aside0.mk (HR.out.trans t9); have hg9 : w9.cell? ⟨g, 1, none⟩ = some (.slice (some ⟨b, 0, none⟩) U.length cap) := (blk_cell h9.cell 1).trans rfl; clear h9 t9)
      go_loopg [7, 47] U.length (fun gk s7 s47 wr => ∃ j : Nat, s47 = .int .i64 j ∧ s7 = .bool ((U.take j).any (opnB now)) ∧ j ≤ U.length ∧ U.length - j ≤ gk ∧ Aside0 (Tre wr base g b cap id (preN (opnP now) U j) ⟨b0, b1, b2, b3⟩ br change) ∧ Aside0 (Trn base w0 w (TF g b) (TF g b) wr))
      case atStart => exact ⟨0, rfl, rfl, Nat.zero_le _, by omega, ⟨by rw [preN_zero]; exact H9.out⟩, T9⟩
      case round =>
        obtain ⟨j, rfl, rfl, hjl, hgk2, HL, HR2⟩ := hrel
        by_cases hlt2 : j < U.length
        · have hlz2 : (j : Int) < (U.length : Int) := by omega
          have hpl : j < (preN (opnP now) U j).length := by rw [preN_len]; exact hlt2
          have hgr : wr.cell? ⟨g, 1, none⟩ = some (.slice (some ⟨b, 0, none⟩) U.length cap) := by
            have := HL.out.cell
            rw [preN_len] at this
            exact (blk_cell this 1).trans rfl
          have hpc := pcells HL.out.row j hpl
          rw [preN_get _ _ _ hlt2] at hpc
          have HO := Aside0.mk (ropens_calls b (j * 13 + 10) U[j].f4 now wr hpc.c10 hpc.c11 hpc.c12 (HL.out.row.fz _))
          have HAS := Aside0.mk (any_step (opnB now) U j hlt2)
          have hnx : Tre (wr.setCell ⟨b, j * 13 + 10 + 2, none⟩ (.bool (stateR U[j].f4 now == 2))) base g b cap id (preN (opnP now) U (j + 1)) ⟨b0, b1, b2, b3⟩ br change := by
            have h3 := (HL.out.same j hpl).put hpl 12 (by decide) (opnP now U[j]) (.bool (stateR U[j].f4 now == 2)) (by rw [preN_get _ _ _ hlt2]; rfl)
            rw [preN_step _ _ _ hlt2] at h3
            exact h3
          have HNX := Aside0.mk hnx
          have HNT : Aside0 (Trn base w0 w (TF g b) (TF g b) (wr.setCell ⟨b, j * 13 + 10 + 2, none⟩ (.bool (stateR U[j].f4 now == 2)))) := ⟨HR2.out.set HSZ.out (.inr rfl) HT.out.lowb _ _⟩
          clear hnx hpc
          have HOB := Aside0.mk (show ((stateR U[j].f4 now == 2) != U[j].f4.f2) = opnB now U[j] from rfl)
          rw [HOB.out] at HO
          generalize opnB now U[j] = o at HO HAS
          generalize stateR U[j].f4 now = sv at HO HNX HNT
          clear HOB
          cases o
          · rw [Bool.or_false] at HAS
            generalize (U.take j).any (opnB now) = a0 at HAS
            go_wp2_with (go_at_fn 38; refine HO.out.mono ?_; rintro e w10 ⟨rfl, e10⟩; have e11 := e10.symm; subst e11)
            go_roundg (U.length - (j + 1))
            case measure => omega
            case rel => exact ⟨j + 1, by go_num, by rw [HAS.out], by omega, Nat.le_refl _, HNX, HNT⟩
          · rw [Bool.or_true] at HAS
            generalize (U.take j).any (opnB now) = a0
            go_wp2_with (go_at_fn 38; refine HO.out.mono ?_; rintro e w10 ⟨rfl, e10⟩; have e11 := e10.symm; subst e11)
            go_roundg (U.length - (j + 1))
            case measure => omega
            case rel => exact ⟨j + 1, by go_num, by rw [HAS.out], by omega, Nat.le_refl _, HNX, HNT⟩
        · have e : j = U.length := by omega
          subst e
          rw [List.take_length]
          have HL3 := HL.out
          rw [preN_full] at HL3
          have HT3 := Aside0.mk HL3
          have hg73 : wr.cell? ⟨g, 7, none⟩ = some (.int .i64 change) := (blk_cell HL3.cell 7).trans rfl
          have hgf := blk_frozen HL3.cell 7
          have hg13 : wr.cell? ⟨g, 1, none⟩ = some (.slice (some ⟨b, 0, none⟩) U.length cap) := by
            have := HL3.cell
            rw [List.length_map] at this
            exact (blk_cell this 1).trans rfl
          clear HL3 HL
          rcases Bool.eq_false_or_eq_true (U.any (opnB now)) with ha | ha
          · rw [ha] at HTC HTL
            rw [if_pos rfl] at HTC HTL
            have HT4 : Aside0 (Tre (wr.setCell ⟨g, 7, none⟩ (.int .i64 (now + 4))) base g b cap id (U.map (opnP now)) ⟨b0, b1, b2, b3⟩ br (now + 4)) := ⟨(HT3.out.chg (now + 4))⟩
            have HR4 : Aside0 (Trn base w0 w (TF g b) (TF g b) (wr.setCell ⟨g, 7, none⟩ (.int .i64 (now + 4)))) := ⟨(HR2.out.set HSZ.out (.inl rfl) HT.out.low 7 _)⟩
            rw [ha]
            by_cases hr2 : now % 2 = 0
            · rw [if_pos hr2] at HTL
              have HU3 := Aside0.mk (show (U.map (opnP now)).length = U.length from List.length_map ..)
              generalize U.map (opnP now) = U3 at *
              clear HT3
              go_wp2
              generalize (wr.setCell ⟨g, 7, none⟩ (.int .i64 (now + 4))) = W3 at HT4 HR4 ⊢
              clear hr2
              go_loopg [9, 77] U.length (fun gk s9 s77 wr => ∃ j : Nat, s77 = .int .i64 j ∧ j ≤ U.length ∧ U.length - j ≤ gk ∧ Aside0 (Kd.R k47 47 wr w.heap.size (fun _ => True) s9 (saidFrom ⟨b0, b1, b2, b3⟩ id (ageR U3 br) (decide (now ≤ (now + 4))) 0 (U3.take j))) ∧ Aside0 (Below w.heap.size W3 wr))
              case atStart => exact ⟨0, rfl, Nat.zero_le _, by omega, ⟨Kd.R_nil _ _ _ _ _⟩, ⟨Below.refl _ _⟩⟩
              case round =>
                obtain ⟨j, rfl, hjl3, hgk3, HO, HB⟩ := hrel
                by_cases hlt3 : j < U.length
                · have hlz3 : (j : Int) < (U.length : Int) := by omega
                  have hj3 : j < U3.length := by (rw [HU3.out]; exact hlt3)
                  have HWS : Aside0 (w.heap.size ≤ wr.heap.size) := ⟨Nat.le_trans HR4.out.size HB.out.size⟩
                  have HTW := Aside0.mk (fun (W : World) (hb : Below wr.heap.size wr W) => HT4.out.far (HB.out.trans (hb.mono HWS.out)) HT.out.lt HT.out.row.lt)
                  have hbw := Below.refl wr.heap.size wr
                  have hgr : wr.cell? ⟨g, 1, none⟩ = some (.slice (some ⟨b, 0, none⟩) U.length cap) := by
                    have := (HTW.out wr hbw).cell
                    rw [HU3.out] at this
                    exact (blk_cell this 1).trans rfl
                  have hgc : wr.cell? ⟨g, 0, none⟩ = some (.int .i64 id) := (blk_cell (HTW.out wr hbw).cell 0).trans rfl
                  have hgc2 : wr.cell? ⟨g, 2, none⟩ = some (.int .i64 b0) := (blk_cell (HTW.out wr hbw).cell 2).trans rfl
                  have hgc3 : wr.cell? ⟨g, 3, none⟩ = some (.int .i64 b1) := (blk_cell (HTW.out wr hbw).cell 3).trans rfl
                  have hgc4 : wr.cell? ⟨g, 4, none⟩ = some (.int .i64 b2) := (blk_cell (HTW.out wr hbw).cell 4).trans rfl
                  have hgc5 : wr.cell? ⟨g, 5, none⟩ = some (.int .i64 b3) := (blk_cell (HTW.out wr hbw).cell 5).trans rfl
                  have hgc7 : wr.cell? ⟨g, 7, none⟩ = some (.int .i64 (now + 4)) := (blk_cell (HTW.out wr hbw).cell 7).trans rfl
                  have HS := Aside0.mk (fun (W : World) (hb : Below w.heap.size W3 W) => have hc := (HT4.out.far hb HT.out.lt HT.out.row.lt).cell; (⟨(blk_cell hc 0).trans rfl, (blk_cell hc 2).trans rfl, (blk_cell hc 3).trans rfl, (blk_cell hc 4).trans rfl, (blk_cell hc 5).trans rfl, (blk_cell hc 7).trans rfl⟩ : W.cell? ⟨g, 0, none⟩ = some (.int .i64 id) ∧ W.cell? ⟨g, 2, none⟩ = some (.int .i64 b0) ∧ W.cell? ⟨g, 3, none⟩ = some (.int .i64 b1) ∧ W.cell? ⟨g, 4, none⟩ = some (.int .i64 b2) ∧ W.cell? ⟨g, 5, none⟩ = some (.int .i64 b3) ∧ W.cell? ⟨g, 7, none⟩ = some (.int .i64 (now + 4))))
                  have HAG := Aside0.mk (fun (W : World) (hb : Below wr.heap.size wr W) => age_calls (HTW.out W hb) (by rw [HU3.out]; exact HBA.out))
                  have HOF := Aside0.mk (fun (W : World) => offer_calls ⟨b0, b1, b2, b3⟩ id j W)
                  have HST := Aside0.mk (saidFrom_step ⟨b0, b1, b2, b3⟩ id (ageR U3 br) (decide (now ≤ (now + 4))) U3 j hj3)
                  have HLL := Aside0.mk (show ((saidFrom ⟨b0, b1, b2, b3⟩ id (ageR U3 br) (decide (now ≤ (now + 4))) 0 (U3.take j)).length + 1) * 64 ≤ 140737488355328 by
                    have h1 := saidFrom_len ⟨b0, b1, b2, b3⟩ id (ageR U3 br) (decide (now ≤ (now + 4))) (U3.take j) 0
                    rw [List.length_take] at h1
                    omega)
                  have hrc := (pcells (HTW.out wr hbw).row j hj3).c10
                  have HRO := Aside0.mk (rrole_calls b (j * 13 + 10) _ wr hrc)
                  have HWW : Aside0 (Below w.heap.size W3 wr) := HB
                  have HRB := Aside0.mk (fun (W : World) (hb : Below wr.heap.size wr W) => Gen.R_kept rfl HO.out (Kept.of_below hb (fun _ => False)) (fun _ _ h => h))
                  generalize ageR U3 br = ag at *
                  generalize saidFrom ⟨b0, b1, b2, b3⟩ id ag (decide (now ≤ (now + 4))) 0 (U3.take j) = Q at *
                  generalize U3[j].f4.f0 = rl at *
                  clear HO HTW hrc HT4 HR4
                  by_cases h2 : rl = 2
                  · rw [if_pos h2] at HST
                    subst h2
                    go_wp2_with (go_at_fn 39; refine HRO.out.mono ?_; rintro e w1 ⟨rfl, e1⟩; have e2 := e1.symm; subst e2)
                    go_region_held3 (fun W => W.cell? ⟨g, 0, none⟩ = some (.int .i64 id) ∧ W.cell? ⟨g, 2, none⟩ = some (.int .i64 b0) ∧ W.cell? ⟨g, 3, none⟩ = some (.int .i64 b1) ∧ W.cell? ⟨g, 4, none⟩ = some (.int .i64 b2) ∧ W.cell? ⟨g, 5, none⟩ = some (.int .i64 b3) ∧ W.cell? ⟨g, 7, none⟩ = some (.int .i64 (now + 4))) (first | exact HS.out _ (by assumption) | exact HS.out _ (HWW.out.trans ((show Below wr.heap.size wr _ from (by repeat (with_reducible first | assumption | apply below_alloc | apply pw_below_drewN | apply below_drew1))).mono HWS.out))) (first
                      | (go_at_call 40; with_reducible refine (HOF.out _).mono ?_; rintro e w5 ⟨rfl, h5⟩; have hb5 := below_step (show Below wr.heap.size wr _ from (by repeat (with_reducible first | assumption | apply below_alloc | apply pw_below_drewN | apply below_drew1))) h5; clear h5)
                      | (go_at_call 41; with_reducible refine (HAG.out _ (by repeat (with_reducible first | assumption | apply below_alloc | apply pw_below_drewN | apply below_drew1))).mono ?_; rintro e w6 ⟨rfl, h6⟩; have hb6 := below_step (show Below wr.heap.size wr _ from (by repeat (with_reducible first | assumption | apply below_alloc | apply pw_below_drewN | apply below_drew1))) h6; clear h6)
                      | (refine Kd.R_append_rows_step k47 (w0 := W3) w.heap.size (by rfl) (.tmp 89) (.tmp 111) 44 47 (.agg #[(.int .i64 0), (.int .i64 0), (.int .i64 0), (.int .i64 0), (.int .i64 0), (.int .i64 0), (.int .i64 0), (.bool false)]) 64 rfl Tryd.underlying44 info47 rfl (by decide) (by decide) u9 Q [sayOf ⟨b0, b1, b2, b3⟩ id ag (decide (now ≤ (now + 4))) j] _ 1 1 (fun _ => True) (fun _ => False) rfl rfl ?aO ?aR (fun _ _ h => h) (fun _ h => h.elim) ?aF ?aB ?aS ?aL ?_; (case aR => exact C_one47 (sayOf ⟨b0, b1, b2, b3⟩ id ag (decide (now ≤ (now + 4))) j) (by first | exact blk_new _ _ | exact blk_drew (blk_new _ _))); (case aB => exact HWW.out.trans ((show Below wr.heap.size wr _ from (by repeat (with_reducible first | assumption | apply below_alloc | apply pw_below_drewN | apply below_drew1))).mono HWS.out)); (case aF => exact fun _ _ => trivial); (case aO => exact HRB.out _ (by repeat (with_reducible first | assumption | apply below_alloc | apply pw_below_drewN | apply below_drew1))); (case aS => exact Nat.le_trans HWS.out (show Below wr.heap.size wr _ from (by repeat (with_reducible first | assumption | apply below_alloc | apply pw_below_drewN | apply below_drew1))).size); (case aL => exact HLL.out); intro v9 w9 ho9 hb9 hg9 hat9; have HO9 := Aside0.mk ho9; have HB9 := Aside0.mk hb9; clear ho9 hg9 hat9))
                    rename_i hS9
                    clear hS9
                    go_wp2
                    go_roundg (U.length - (j + 1))
                    case measure => omega
                    case rel => exact ⟨j + 1, by go_num, by omega, Nat.le_refl _, ⟨by rw [HST.out]; exact HO9.out⟩, ⟨HB9.out⟩⟩
                  · rw [if_neg h2, List.append_nil] at HST
                    have d2 : (rl == 2) = false := by simpa using h2
                    clear h2
                    go_wp2_with (go_at_fn 39; refine HRO.out.mono ?_; rintro e w1 ⟨rfl, e1⟩; have e2 := e1.symm; subst e2)
                    go_roundg (U.length - (j + 1))
                    case measure => omega
                    case rel => exact ⟨j + 1, by go_num, by omega, Nat.le_refl _, ⟨by rw [HST.out]; exact HRB.out _ hbw⟩, HB⟩
                · have e : j = U.length := by omega
                  subst e
                  rw [← HU3.out, List.take_length] at HO
                  have ht5 := HT4.out.far HB.out HT.out.lt HT.out.row.lt
                  have htn := trn_far HR4.out HSZ.out HB.out
                  go_wp2
                  go_ret
                  rw [← HTL.out, ← HTP.out, ← HTB.out, ← HTC.out]
                  exact ⟨_, rfl, HO.out, ht5, htn⟩
            · rw [if_neg hr2] at HTL
              go_wp2
              go_ret
              rw [← HTL.out, ← HTP.out, ← HTB.out, ← HTC.out]
              exact ⟨_, rfl, Kd.R_nil _ _ _ _ _, HT4.out, HR4.out⟩
          · rw [ha] at HTC HTL
            rw [if_neg (show ¬ (false = true) by decide)] at HTC HTL
            have HT4 : Aside0 (Tre wr base g b cap id (U.map (opnP now)) ⟨b0, b1, b2, b3⟩ br change) := ⟨HT3.out⟩
            have HR4 : Aside0 (Trn base w0 w (TF g b) (TF g b) wr) := ⟨HR2.out⟩
            rw [ha]
            by_cases hr2 : now % 2 = 0
            · rw [if_pos hr2] at HTL
              have HU3 := Aside0.mk (show (U.map (opnP now)).length = U.length from List.length_map ..)
              generalize U.map (opnP now) = U3 at *
              clear HT3
              go_wp2
              generalize wr = W3 at HT4 HR4 ⊢
              clear hr2
              go_loopg [9, 77] U.length (fun gk s9 s77 wr => ∃ j : Nat, s77 = .int .i64 j ∧ j ≤ U.length ∧ U.length - j ≤ gk ∧ Aside0 (Kd.R k47 47 wr w.heap.size (fun _ => True) s9 (saidFrom ⟨b0, b1, b2, b3⟩ id (ageR U3 br) (decide (now ≤ change)) 0 (U3.take j))) ∧ Aside0 (Below w.heap.size W3 wr))
              case atStart => exact ⟨0, rfl, Nat.zero_le _, by omega, ⟨Kd.R_nil _ _ _ _ _⟩, ⟨Below.refl _ _⟩⟩
              case round =>
                obtain ⟨j, rfl, hjl3, hgk3, HO, HB⟩ := hrel
                by_cases hlt3 : j < U.length
                · have hlz3 : (j : Int) < (U.length : Int) := by omega
                  have hj3 : j < U3.length := by (rw [HU3.out]; exact hlt3)
                  have HWS : Aside0 (w.heap.size ≤ wr.heap.size) := ⟨Nat.le_trans HR4.out.size HB.out.size⟩
                  have HTW := Aside0.mk (fun (W : World) (hb : Below wr.heap.size wr W) => HT4.out.far (HB.out.trans (hb.mono HWS.out)) HT.out.lt HT.out.row.lt)
                  have hbw := Below.refl wr.heap.size wr
                  have hgr : wr.cell? ⟨g, 1, none⟩ = some (.slice (some ⟨b, 0, none⟩) U.length cap) := by
                    have := (HTW.out wr hbw).cell
                    rw [HU3.out] at this
                    exact (blk_cell this 1).trans rfl
                  have hgc : wr.cell? ⟨g, 0, none⟩ = some (.int .i64 id) := (blk_cell (HTW.out wr hbw).cell 0).trans rfl
                  have hgc2 : wr.cell? ⟨g, 2, none⟩ = some (.int .i64 b0) := (blk_cell (HTW.out wr hbw).cell 2).trans rfl
                  have hgc3 : wr.cell? ⟨g, 3, none⟩ = some (.int .i64 b1) := (blk_cell (HTW.out wr hbw).cell 3).trans rfl
                  have hgc4 : wr.cell? ⟨g, 4, none⟩ = some (.int .i64 b2) := (blk_cell (HTW.out wr hbw).cell 4).trans rfl
                  have hgc5 : wr.cell? ⟨g, 5, none⟩ = some (.int .i64 b3) := (blk_cell (HTW.out wr hbw).cell 5).trans rfl
                  have hgc7 : wr.cell? ⟨g, 7, none⟩ = some (.int .i64 change) := (blk_cell (HTW.out wr hbw).cell 7).trans rfl
                  have HS := Aside0.mk (fun (W : World) (hb : Below w.heap.size W3 W) => have hc := (HT4.out.far hb HT.out.lt HT.out.row.lt).cell; (⟨(blk_cell hc 0).trans rfl, (blk_cell hc 2).trans rfl, (blk_cell hc 3).trans rfl, (blk_cell hc 4).trans rfl, (blk_cell hc 5).trans rfl, (blk_cell hc 7).trans rfl⟩ : W.cell? ⟨g, 0, none⟩ = some (.int .i64 id) ∧ W.cell? ⟨g, 2, none⟩ = some (.int .i64 b0) ∧ W.cell? ⟨g, 3, none⟩ = some (.int .i64 b1) ∧ W.cell? ⟨g, 4, none⟩ = some (.int .i64 b2) ∧ W.cell? ⟨g, 5, none⟩ = some (.int .i64 b3) ∧ W.cell? ⟨g, 7, none⟩ = some (.int .i64 change)))
                  have HAG := Aside0.mk (fun (W : World) (hb : Below wr.heap.size wr W) => age_calls (HTW.out W hb) (by rw [HU3.out]; exact HBA.out))
                  have HOF := Aside0.mk (fun (W : World) => offer_calls ⟨b0, b1, b2, b3⟩ id j W)
                  have HST := Aside0.mk (saidFrom_step ⟨b0, b1, b2, b3⟩ id (ageR U3 br) (decide (now ≤ change)) U3 j hj3)
                  have HLL := Aside0.mk (show ((saidFrom ⟨b0, b1, b2, b3⟩ id (ageR U3 br) (decide (now ≤ change)) 0 (U3.take j)).length + 1) * 64 ≤ 140737488355328 by
                    have h1 := saidFrom_len ⟨b0, b1, b2, b3⟩ id (ageR U3 br) (decide (now ≤ change)) (U3.take j) 0
                    rw [List.length_take] at h1
                    omega)
                  have hrc := (pcells (HTW.out wr hbw).row j hj3).c10
                  have HRO := Aside0.mk (rrole_calls b (j * 13 + 10) _ wr hrc)
                  have HWW : Aside0 (Below w.heap.size W3 wr) := HB
                  have HRB := Aside0.mk (fun (W : World) (hb : Below wr.heap.size wr W) => Gen.R_kept rfl HO.out (Kept.of_below hb (fun _ => False)) (fun _ _ h => h))
                  generalize ageR U3 br = ag at *
                  generalize saidFrom ⟨b0, b1, b2, b3⟩ id ag (decide (now ≤ change)) 0 (U3.take j) = Q at *
                  generalize U3[j].f4.f0 = rl at *
                  clear HO HTW hrc HT4 HR4
                  by_cases h2 : rl = 2
                  · rw [if_pos h2] at HST
                    subst h2
                    go_wp2_with (go_at_fn 39; refine HRO.out.mono ?_; rintro e w1 ⟨rfl, e1⟩; have e2 := e1.symm; subst e2)
                    go_region_held3 (fun W => W.cell? ⟨g, 0, none⟩ = some (.int .i64 id) ∧ W.cell? ⟨g, 2, none⟩ = some (.int .i64 b0) ∧ W.cell? ⟨g, 3, none⟩ = some (.int .i64 b1) ∧ W.cell? ⟨g, 4, none⟩ = some (.int .i64 b2) ∧ W.cell? ⟨g, 5, none⟩ = some (.int .i64 b3) ∧ W.cell? ⟨g, 7, none⟩ = some (.int .i64 change)) (first | exact HS.out _ (by assumption) | exact HS.out _ (HWW.out.trans ((show Below wr.heap.size wr _ from (by repeat (with_reducible first | assumption | apply below_alloc | apply pw_below_drewN | apply below_drew1))).mono HWS.out))) (first
                      | (go_at_call 40; with_reducible refine (HOF.out _).mono ?_; rintro e w5 ⟨rfl, h5⟩; have hb5 := below_step (show Below wr.heap.size wr _ from (by repeat (with_reducible first | assumption | apply below_alloc | apply pw_below_drewN | apply below_drew1))) h5; clear h5)
                      | (go_at_call 41; with_reducible refine (HAG.out _ (by repeat (with_reducible first | assumption | apply below_alloc | apply pw_below_drewN | apply below_drew1))).mono ?_; rintro e w6 ⟨rfl, h6⟩; have hb6 := below_step (show Below wr.heap.size wr _ from (by repeat (with_reducible first | assumption | apply below_alloc | apply pw_below_drewN | apply below_drew1))) h6; clear h6)
                      | (refine Kd.R_append_rows_step k47 (w0 := W3) w.heap.size (by rfl) (.tmp 89) (.tmp 111) 44 47 (.agg #[(.int .i64 0), (.int .i64 0), (.int .i64 0), (.int .i64 0), (.int .i64 0), (.int .i64 0), (.int .i64 0), (.bool false)]) 64 rfl Tryd.underlying44 info47 rfl (by decide) (by decide) u9 Q [sayOf ⟨b0, b1, b2, b3⟩ id ag (decide (now ≤ change)) j] _ 1 1 (fun _ => True) (fun _ => False) rfl rfl ?aO ?aR (fun _ _ h => h) (fun _ h => h.elim) ?aF ?aB ?aS ?aL ?_; (case aR => exact C_one47 (sayOf ⟨b0, b1, b2, b3⟩ id ag (decide (now ≤ change)) j) (by first | exact blk_new _ _ | exact blk_drew (blk_new _ _))); (case aB => exact HWW.out.trans ((show Below wr.heap.size wr _ from (by repeat (with_reducible first | assumption | apply below_alloc | apply pw_below_drewN | apply below_drew1))).mono HWS.out)); (case aF => exact fun _ _ => trivial); (case aO => exact HRB.out _ (by repeat (with_reducible first | assumption | apply below_alloc | apply pw_below_drewN | apply below_drew1))); (case aS => exact Nat.le_trans HWS.out (show Below wr.heap.size wr _ from (by repeat (with_reducible first | assumption | apply below_alloc | apply pw_below_drewN | apply below_drew1))).size); (case aL => exact HLL.out); intro v9 w9 ho9 hb9 hg9 hat9; have HO9 := Aside0.mk ho9; have HB9 := Aside0.mk hb9; clear ho9 hg9 hat9))
                    rename_i hS9
                    clear hS9
                    go_wp2
                    go_roundg (U.length - (j + 1))
                    case measure => omega
                    case rel => exact ⟨j + 1, by go_num, by omega, Nat.le_refl _, ⟨by rw [HST.out]; exact HO9.out⟩, ⟨HB9.out⟩⟩
                  · rw [if_neg h2, List.append_nil] at HST
                    have d2 : (rl == 2) = false := by simpa using h2
                    clear h2
                    go_wp2_with (go_at_fn 39; refine HRO.out.mono ?_; rintro e w1 ⟨rfl, e1⟩; have e2 := e1.symm; subst e2)
                    go_roundg (U.length - (j + 1))
                    case measure => omega
                    case rel => exact ⟨j + 1, by go_num, by omega, Nat.le_refl _, ⟨by rw [HST.out]; exact HRB.out _ hbw⟩, HB⟩
                · have e : j = U.length := by omega
                  subst e
                  rw [← HU3.out, List.take_length] at HO
                  have ht5 := HT4.out.far HB.out HT.out.lt HT.out.row.lt
                  have htn := trn_far HR4.out HSZ.out HB.out
                  go_wp2
                  go_ret
                  rw [← HTL.out, ← HTP.out, ← HTB.out, ← HTC.out]
                  exact ⟨_, rfl, HO.out, ht5, htn⟩
            · rw [if_neg hr2] at HTL
              go_wp2
              go_ret
              rw [← HTL.out, ← HTP.out, ← HTB.out, ← HTC.out]
              exact ⟨_, rfl, Kd.R_nil _ _ _ _ _, HT4.out, HR4.out⟩
end Go.Proofs.YtfimhaodgekkgaaDoor.QTre
