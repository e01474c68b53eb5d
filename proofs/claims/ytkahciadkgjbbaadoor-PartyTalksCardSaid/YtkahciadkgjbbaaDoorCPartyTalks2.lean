/- Functions of the program as plain Lean functions, what their calls do, and what follows of it. Conditions: each theorem's own. -/
import Derived.Test.YtkahciadkgjbbaaDoorCPartyTalks1
namespace Go.Proofs.YtkahciadkgjbbaaDoor.QPty
open Go.RowKit Go.Proofs.YtkahciadkgjbbaaDoorW.PrintWords Go.Proofs.YtkahciadkgjbbaaDoorW.PrintLast Go.Proofs.YtkahciadkgjbbaaDoorW.PrintMore
attribute [local go_sem] max2_int min2_int max_two min_two max_three min_three max_four min_four
set_option linter.unusedVariables false
set_option linter.unusedSimpArgs false
mutual
def mrpdu_Good.l0 : Nat → List Int → Int → Int → List Int → List (S42) → Option (Bool)
  | 0, _, _, _, _, _ => none
  | k + 1, x8, x9, x10, x302000, x302001 => if x10 < x9 then (if 0 ≤ x10 then (if x10 < (x8.length : Int) then ((mrpdu_size.f (rd x8 x10)).bind fun t303 => (if t303 = 0 then (some false) else (if x10 > 0 then (if 0 ≤ (wrap64 (x10 - 1)) then (if (wrap64 (x10 - 1)) < (x302000.length : Int) then (if (rd x302000 (wrap64 (x10 - 1))) ≥ (rd x8 x10) then (some false) else (mrpdu_Good.l0 k x8 x9 (wrap64 (x10 + 1)) x302000 x302001)) else (none)) else (none)) else (mrpdu_Good.l0 k x8 x9 (wrap64 (x10 + 1)) x302000 x302001)))) else (none)) else (none)) else (mrpdu_Good.l1 k x302001 (x302001.length : Int) 0 x302000 x302001)
def mrpdu_Good.l1 : Nat → List (S42) → Int → Int → List Int → List (S42) → Option (Bool)
  | 0, _, _, _, _, _ => none
  | k + 1, x34, x35, x36, x302000, x302001 => if x36 < x35 then (if 0 ≤ x36 then (if x36 < (x34.length : Int) then ((mrpdu_word.f ((rd_T42 x34 x36).f0.f0) ((rd_T42 x34 x36).f0.f1) ((rd_T42 x34 x36).f1) ((rd_T42 x34 x36).f2)).bind fun t307 => (if t307 = true then (if x36 > 0 then (if 0 ≤ (wrap64 (x36 - 1)) then (if (wrap64 (x36 - 1)) < (x302001.length : Int) then ((mrpdu_Compare.f k ((rd_T42 x302001 (wrap64 (x36 - 1))).f0.f0) ((rd_T42 x302001 (wrap64 (x36 - 1))).f0.f1) ((rd_T42 x34 x36).f0.f0) ((rd_T42 x34 x36).f0.f1)).bind fun t309 => (if t309 ≥ 0 then (some false) else (mrpdu_Good.l1 k x34 x35 (wrap64 (x36 + 1)) x302000 x302001))) else (none)) else (none)) else (mrpdu_Good.l1 k x34 x35 (wrap64 (x36 + 1)) x302000 x302001)) else (some false))) else (none)) else (none)) else (some true)
end
def mrpdu_Good.f (k : Nat) (l0_0 : List Int) (l0_1 : List (S42)) : Option (Bool) := mrpdu_Good.l0 k l0_0 (l0_0.length : Int) 0 l0_0 l0_1
def mrpdu_Good.T10 : Bool × List (List Nat × List Nat) := (true, [([], []), ([0], [0]), ([1], [1]), ([2, 1], [2]), ([3], [3]), ([4, 3], [3, 4]), ([5, 3, 3], [3, 5]), ([6], [6]), ([7, 6], [6, 7]), ([6], [6]), ([9, 6], [6, 9]), ([8, 10, 6], [6, 8, 10]), ([11, 6], [6, 11]), ([12, 6], [6, 12]), ([6], [6]), ([14, 6], [6, 14]), ([13, 15, 6, 6], [6, 13, 15]), ([16, 6], [6, 16]), ([6, 17, 3], [3, 6, 17]), ([3, 18], [3, 18])])
def mrpdu_Good.B10 : List Nat := [0, 1, 3, 7, 15, 31, 63, 127, 255, 127, 639, 2047, 4095, 8191, 127, 16511, 65535, 131071, 262143, 524287]
theorem mrpdu_Good.tab10 : rtab .any (opsOf Tryd.f29 10) = mrpdu_Good.T10 := by kernel_rfl
theorem mrpdu_Good.bits10 : waitsOk mrpdu_Good.T10.2 mrpdu_Good.B10 = true := by kernel_rfl
set_option maxHeartbeats 8000000 in
set_option maxRecDepth 100000 in
theorem mrpdu_Good.calls (k : Nat) (A0_0 : Option Addr) (c0_0 : Nat) (l0_0 : List Int) (A0_1 : Option Addr) (c0_1 : Nat) (l0_1 : List (S42)) (r : Bool) (w : World) (hr0_0 : Kd.C (Kd.int .i64) w A0_0 l0_0.length l0_0) (hc0_0 : l0_0.length ≤ c0_0) (hr0_1 : Kd.C k42 w A0_1 l0_1.length l0_1) (hc0_1 : l0_1.length ≤ c0_1) (h : mrpdu_Good.f k l0_0 l0_1 = some r) :
    Calls Tryd.prog 29 #[.agg #[.slice A0_0 l0_0.length c0_0, .slice A0_1 l0_1.length c0_1]] w fun e w' => e = .returned (.bool r) ∧ Below w.heap.size w w' := by
  have hu37 := Tryd.underlying37
  have hu42 := Tryd.underlying42
  have hu28 := Tryd.underlying28
  have HR0_0 := Aside0.mk hr0_0
  have HC0_0 := Aside0.mk hc0_0
  clear hr0_0 hc0_0
  have HR0_1 := Aside0.mk hr0_1
  have HC0_1 := Aside0.mk hc0_1
  clear hr0_1 hc0_1
  have HB := Aside0.mk (Below.refl w.heap.size w)
  have H : (mrpdu_Good.l0 k l0_0 (l0_0.length : Int) 0 l0_0 l0_1) = some r := h
  clear h
  have H' := Aside0.mk H
  clear H
  go_enter Tryd.func29, Tryd.ntmps29
  go_wp2_with (first | ((with_reducible refine gate_dst (N := 1) rfl ?_); refine box_event ?hg (N := 1) ?hd (cs := #[.slice A0_0 l0_0.length c0_0, .slice A0_1 l0_1.length c0_1]) (t := 37) ?hr ?_; (case hd => rfl); (case hg => rfl); (case hr => first | (go_simp; done) | (go_simp; rfl)); intro gb301 hg w2 hbox hb; have n0_ := Aside0.mk (below_step (by repeat (first | (with_reducible first | exact HB.out | apply below_alloc | apply pw_below_drewN | apply below_drew1) | exact HB.out)) hb); have n1_ := Aside0.mk (hbox); have n2_ := Aside0.mk ((by rw [hg]; exact (below_size (by repeat (first | (with_reducible first | exact HB.out | apply below_alloc | apply pw_below_drewN | apply below_drew1) | exact HB.out))) : w.heap.size ≤ gb301)); have n3_ := Aside0.mk ((by rw [hg]; exact (below_size (by repeat (first | (with_reducible first | exact HB.out | apply below_alloc | apply pw_below_drewN | apply below_drew1) | exact HB.out))) : w.heap.size ≤ gb301)); clear HB; have HB := n0_; have BK301 := n1_; have GW301 := n2_; have GE301 := n3_; clear n0_ n1_ n2_ n3_; clear hb hbox hg; have hcz3_0 : w2.cell? ⟨gb301, 0, none⟩ = some (.slice A0_0 l0_0.length c0_0) := (blk_cell BK301.out 0).trans rfl; have hcz3_1 : w2.cell? ⟨gb301, 1, none⟩ = some (.slice A0_1 l0_1.length c0_1) := (blk_cell BK301.out 1).trans rfl; have hfz3_0 := blk_frozen BK301.out 0; have hfz3_1 := blk_frozen BK301.out 1))
  go_loopg [10] k (fun kq v10 w' => ∃ (x10_1 : Int), v10 = .int .i64 x10_1 ∧ Aside0 (mrpdu_Good.l0 kq l0_0 (l0_0.length : Int) x10_1 l0_0 l0_1 = some r) ∧ Aside0 (kq ≤ k) ∧ Aside0 (w'.heap[gb301]? = some (.cells #[(.slice A0_0 l0_0.length c0_0), (.slice A0_1 l0_1.length c0_1)] 37 (0, 0))) ∧ Aside0 (Below w.heap.size w w'))
  case atStart => exact ⟨(0), (by first | rfl | (simp; done) | (simp [*]; done)), H', ⟨Nat.le_refl _⟩, ⟨by (with_reducible repeat (first | refine blk_drewN ?_ _ | refine blk_drew ?_ | refine blk_alloc ?_ _)); exact BK301.out⟩, ⟨by repeat (first | (with_reducible first | exact HB.out | apply below_alloc | apply pw_below_drewN | apply below_drew1 | refine below_set ?_ GE301.out) | exact HB.out)⟩⟩
  case round =>
    clear H'
    try clear c2
    try clear p2
    try clear hcz3_0
    try clear hcz3_1
    try clear hfz3_0
    try clear hfz3_1
    obtain ⟨x10_1, rfl, HA, HK1, BK301, HB⟩ := hrel
    cases gk with
    | zero => exact absurd HA.out (by simp [mrpdu_Good.l0])
    | succ k1 =>
      have H := HA.out
      clear HA
      simp only [mrpdu_Good.l0] at H
      by_cases c4 : x10_1 < (l0_0.length : Int)
      · rw [if_pos c4] at H
        have c4b0 : decide (x10_1 < (l0_0.length : Int)) = true := decide_eq_true c4
        clear c4
        by_cases c5 : 0 ≤ x10_1
        · rw [if_pos c5] at H
          have c5b0 : decide (0 ≤ x10_1) = true := decide_eq_true c5
          clear c5
          by_cases c6 : x10_1 < (l0_0.length : Int)
          · rw [if_pos c6] at H
            have c6b0 : decide (x10_1 < (l0_0.length : Int)) = true := decide_eq_true c6
            clear c6
            replace H := Option.bind_eq_some_iff.mp H
            obtain ⟨t303, A70, H⟩ := H
            replace H : (if t303 = 0 then (some false) else (if x10_1 > 0 then (if 0 ≤ (wrap64 (x10_1 - 1)) then (if (wrap64 (x10_1 - 1)) < (l0_0.length : Int) then (if (rd l0_0 (wrap64 (x10_1 - 1))) ≥ (rd l0_0 x10_1) then (some false) else (mrpdu_Good.l0 k1 l0_0 (l0_0.length : Int) (wrap64 (x10_1 + 1)) l0_0 l0_1)) else (none)) else (none)) else (mrpdu_Good.l0 k1 l0_0 (l0_0.length : Int) (wrap64 (x10_1 + 1)) l0_0 l0_1))) = some r := H
            have A7 := Aside0.mk A70
            clear A70
            by_cases c8 : t303 = 0
            · rw [if_pos c8] at H
              have c8b0 : (t303 == 0) = true := beq_iff_eq.mpr c8
              have c8b1 : (t303 != 0) = false := bne_eq_false_iff_eq.mpr c8
              clear c8
              obtain rfl := Option.some.inj H
              have p302 : 0 ≤ (x10_1 : Int) := of_decide_eq_true (by first | (with_reducible assumption) | assumption)
              have q302 : x10_1 < (l0_0.length : Int) := of_decide_eq_true (by first | (with_reducible assumption) | assumption)
              obtain ⟨ad302, e302, hx302_0⟩ := Kd.at_int HR0_0.out x10_1 p302 q302
              cases e302
              replace hx302_0 := (HB.out.cell (World.block_lt_of_cell? w _ hx302_0)).trans hx302_0
              replace p302 := eq_true p302
              replace q302 := eq_true q302
              go_wp2_with (first | ((with_reducible refine gate_callee (f := 59) rfl ?_); refine goesL_ (some 16) rfl rfl Tryd.func59 (by kernel_rfl) rfl #[.int .i64 (rd l0_0 x10_1)] rfl (by (try simp only [List.map_toArray, List.map_cons, List.map_nil]); first | done | rfl | (simp only [List.length_drop, List.length_take]; rfl)) ?_; (with_reducible refine (mrpdu_size.calls (rd l0_0 x10_1) t303 _ A7.out).mono ?_); rintro e w' ⟨rfl, ⟨nd, rfl⟩⟩; refine ⟨_, rfl, ?_⟩))
              go_ret
              exact ⟨by first | rfl | (simp [errW_none, errW_some] <;> rfl) | (simp [*, errW_none, errW_some] <;> rfl), by repeat (first | (with_reducible first | exact HB.out | apply below_alloc | apply pw_below_drewN | apply below_drew1 | refine below_set ?_ GE301.out) | exact HB.out)⟩
            · rw [if_neg c8] at H
              have c8b0 : (t303 == 0) = false := beq_eq_false_iff_ne.mpr c8
              have c8b1 : (t303 != 0) = true := bne_iff_ne.mpr c8
              by_cases c9 : x10_1 > 0
              · rw [if_pos c9] at H
                have c9b0 : decide (0 < x10_1) = true := decide_eq_true c9
                clear c9
                obtain ⟨ji10, hji10⟩ : ∃ j_ : Int, (wrap64 (x10_1 - 1)) = j_ := ⟨_, rfl⟩
                replace H : (if 0 ≤ (ji10) then (if (ji10) < (l0_0.length : Int) then (if (rd l0_0 (ji10)) ≥ (rd l0_0 x10_1) then (some false) else (mrpdu_Good.l0 k1 l0_0 (l0_0.length : Int) (wrap64 (x10_1 + 1)) l0_0 l0_1)) else (none)) else (none)) = some r := by first | (rw [hji10] at H; exact H) | (simp only [hji10] at H ⊢; exact H)
                (try rw [hji10] at A7)
                have hji10w : (IntKind.i64.wrap (x10_1 - 1)) = ji10 := (i64_w _).trans hji10
                by_cases c11 : 0 ≤ (ji10)
                · rw [if_pos c11] at H
                  have c11b0 : decide (0 ≤ (ji10)) = true := decide_eq_true c11
                  clear c11
                  by_cases c12 : (ji10) < (l0_0.length : Int)
                  · rw [if_pos c12] at H
                    have c12b0 : decide ((ji10) < (l0_0.length : Int)) = true := decide_eq_true c12
                    clear c12
                    by_cases c13 : (rd l0_0 (ji10)) ≥ (rd l0_0 x10_1)
                    · rw [if_pos c13] at H
                      have c13b0 : decide ((rd l0_0 x10_1) ≤ (rd l0_0 (ji10))) = true := decide_eq_true c13
                      clear c13
                      obtain rfl := Option.some.inj H
                      have p302 : 0 ≤ (x10_1 : Int) := of_decide_eq_true (by first | (with_reducible assumption) | assumption)
                      have q302 : x10_1 < (l0_0.length : Int) := of_decide_eq_true (by first | (with_reducible assumption) | assumption)
                      obtain ⟨ad302, e302, hx302_0⟩ := Kd.at_int HR0_0.out x10_1 p302 q302
                      cases e302
                      replace hx302_0 := (HB.out.cell (World.block_lt_of_cell? w _ hx302_0)).trans hx302_0
                      replace p302 := eq_true p302
                      replace q302 := eq_true q302
                      go_wp2_with (first | ((with_reducible refine gate_callee (f := 59) rfl ?_); refine goesL_ (some 16) rfl rfl Tryd.func59 (by kernel_rfl) rfl #[.int .i64 (rd l0_0 x10_1)] rfl (by (try simp only [List.map_toArray, List.map_cons, List.map_nil]); first | done | rfl | (simp only [List.length_drop, List.length_take]; rfl)) ?_; (with_reducible refine (mrpdu_size.calls (rd l0_0 x10_1) t303 _ A7.out).mono ?_); rintro e w' ⟨rfl, ⟨nd, rfl⟩⟩; refine ⟨_, rfl, ?_⟩; have hcz14_0 : wr.cell? ⟨gb301, 0, none⟩ = some (.slice (some ad302) l0_0.length c0_0) := (blk_cell BK301.out 0).trans rfl; have hcz14_1 : wr.cell? ⟨gb301, 1, none⟩ = some (.slice A0_1 l0_1.length c0_1) := (blk_cell BK301.out 1).trans rfl; have hfz14_0 := blk_frozen BK301.out 0; have hfz14_1 := blk_frozen BK301.out 1; have p304 : 0 ≤ ((ji10) : Int) := of_decide_eq_true (by first | (with_reducible assumption) | assumption); have q304 : (ji10) < (l0_0.length : Int) := of_decide_eq_true (by first | (with_reducible assumption) | assumption); obtain ⟨ad304, e304, hx304_0⟩ := Kd.at_int HR0_0.out (ji10) p304 q304; obtain rfl : ad302 = ad304 := (by injection e304); replace hx304_0 := (HB.out.cell (World.block_lt_of_cell? w _ hx304_0)).trans hx304_0; replace p304 := eq_true p304; replace q304 := eq_true q304))
                      go_ret
                      exact ⟨by first | rfl | (simp [errW_none, errW_some] <;> rfl) | (simp only [← hji10]; first | rfl | (simp [errW_none, errW_some] <;> rfl)) | (simp [*, errW_none, errW_some] <;> rfl), by repeat (first | (with_reducible first | exact HB.out | apply below_alloc | apply pw_below_drewN | apply below_drew1 | refine below_set ?_ GE301.out) | exact HB.out)⟩
                    · rw [if_neg c13] at H
                      have c13b0 : decide ((rd l0_0 x10_1) ≤ (rd l0_0 (ji10))) = false := decide_eq_false c13
                      clear c13
                      have H' := Aside0.mk H
                      clear H
                      have p302 : 0 ≤ (x10_1 : Int) := of_decide_eq_true (by first | (with_reducible assumption) | assumption)
                      have q302 : x10_1 < (l0_0.length : Int) := of_decide_eq_true (by first | (with_reducible assumption) | assumption)
                      obtain ⟨ad302, e302, hx302_0⟩ := Kd.at_int HR0_0.out x10_1 p302 q302
                      cases e302
                      replace hx302_0 := (HB.out.cell (World.block_lt_of_cell? w _ hx302_0)).trans hx302_0
                      replace p302 := eq_true p302
                      replace q302 := eq_true q302
                      go_wp2_with (first | ((with_reducible refine gate_callee (f := 59) rfl ?_); refine goesL_ (some 16) rfl rfl Tryd.func59 (by kernel_rfl) rfl #[.int .i64 (rd l0_0 x10_1)] rfl (by (try simp only [List.map_toArray, List.map_cons, List.map_nil]); first | done | rfl | (simp only [List.length_drop, List.length_take]; rfl)) ?_; (with_reducible refine (mrpdu_size.calls (rd l0_0 x10_1) t303 _ A7.out).mono ?_); rintro e w' ⟨rfl, ⟨nd, rfl⟩⟩; refine ⟨_, rfl, ?_⟩; have hcz15_0 : wr.cell? ⟨gb301, 0, none⟩ = some (.slice (some ad302) l0_0.length c0_0) := (blk_cell BK301.out 0).trans rfl; have hcz15_1 : wr.cell? ⟨gb301, 1, none⟩ = some (.slice A0_1 l0_1.length c0_1) := (blk_cell BK301.out 1).trans rfl; have hfz15_0 := blk_frozen BK301.out 0; have hfz15_1 := blk_frozen BK301.out 1; have p304 : 0 ≤ ((ji10) : Int) := of_decide_eq_true (by first | (with_reducible assumption) | assumption); have q304 : (ji10) < (l0_0.length : Int) := of_decide_eq_true (by first | (with_reducible assumption) | assumption); obtain ⟨ad304, e304, hx304_0⟩ := Kd.at_int HR0_0.out (ji10) p304 q304; obtain rfl : ad302 = ad304 := (by injection e304); replace hx304_0 := (HB.out.cell (World.block_lt_of_cell? w _ hx304_0)).trans hx304_0; replace p304 := eq_true p304; replace q304 := eq_true q304))
                      go_roundg k1
                      case measure => have := HK1.out; omega
                      case rel => exact ⟨(wrap64 (x10_1 + 1)), (by first | rfl | (simp; done) | (simp [*]; done)), H', ⟨by have := HK1.out; omega⟩, ⟨by (with_reducible repeat (first | refine blk_drewN ?_ _ | refine blk_drew ?_ | refine blk_alloc ?_ _)); exact BK301.out⟩, ⟨by repeat (first | (with_reducible first | exact HB.out | apply below_alloc | apply pw_below_drewN | apply below_drew1 | refine below_set ?_ GE301.out) | exact HB.out)⟩⟩
                  · rw [if_neg c12] at H
                    exact absurd H (by simp)
                · rw [if_neg c11] at H
                  exact absurd H (by simp)
              · rw [if_neg c9] at H
                have c9b0 : decide (0 < x10_1) = false := decide_eq_false c9
                clear c9
                have H' := Aside0.mk H
                clear H
                have p302 : 0 ≤ (x10_1 : Int) := of_decide_eq_true (by first | (with_reducible assumption) | assumption)
                have q302 : x10_1 < (l0_0.length : Int) := of_decide_eq_true (by first | (with_reducible assumption) | assumption)
                obtain ⟨ad302, e302, hx302_0⟩ := Kd.at_int HR0_0.out x10_1 p302 q302
                cases e302
                replace hx302_0 := (HB.out.cell (World.block_lt_of_cell? w _ hx302_0)).trans hx302_0
                replace p302 := eq_true p302
                replace q302 := eq_true q302
                go_wp2_with (first | ((with_reducible refine gate_callee (f := 59) rfl ?_); refine goesL_ (some 16) rfl rfl Tryd.func59 (by kernel_rfl) rfl #[.int .i64 (rd l0_0 x10_1)] rfl (by (try simp only [List.map_toArray, List.map_cons, List.map_nil]); first | done | rfl | (simp only [List.length_drop, List.length_take]; rfl)) ?_; (with_reducible refine (mrpdu_size.calls (rd l0_0 x10_1) t303 _ A7.out).mono ?_); rintro e w' ⟨rfl, ⟨nd, rfl⟩⟩; refine ⟨_, rfl, ?_⟩))
                go_roundg k1
                case measure => have := HK1.out; omega
                case rel => exact ⟨(wrap64 (x10_1 + 1)), (by first | rfl | (simp; done) | (simp [*]; done)), H', ⟨by have := HK1.out; omega⟩, ⟨by (with_reducible repeat (first | refine blk_drewN ?_ _ | refine blk_drew ?_ | refine blk_alloc ?_ _)); exact BK301.out⟩, ⟨by repeat (first | (with_reducible first | exact HB.out | apply below_alloc | apply pw_below_drewN | apply below_drew1 | refine below_set ?_ GE301.out) | exact HB.out)⟩⟩
          · rw [if_neg c6] at H
            exact absurd H (by simp)
        · rw [if_neg c5] at H
          exact absurd H (by simp)
      · rw [if_neg c4] at H
        have c4b0 : decide (x10_1 < (l0_0.length : Int)) = false := decide_eq_false c4
        clear c4
        have H' := Aside0.mk H
        clear H
        have hcz16_0 : wr.cell? ⟨gb301, 0, none⟩ = some (.slice A0_0 l0_0.length c0_0) := (blk_cell BK301.out 0).trans rfl
        have hcz16_1 : wr.cell? ⟨gb301, 1, none⟩ = some (.slice A0_1 l0_1.length c0_1) := (blk_cell BK301.out 1).trans rfl
        have hfz16_0 := blk_frozen BK301.out 0
        have hfz16_1 := blk_frozen BK301.out 1
        go_wp2
        go_loopg [36] k1 (fun kq v36 w' => ∃ (x36_2 : Int), v36 = .int .i64 x36_2 ∧ Aside0 (mrpdu_Good.l1 kq l0_1 (l0_1.length : Int) x36_2 l0_0 l0_1 = some r) ∧ Aside0 (kq ≤ k1) ∧ Aside0 (w'.heap[gb301]? = some (.cells #[(.slice A0_0 l0_0.length c0_0), (.slice A0_1 l0_1.length c0_1)] 37 (0, 0))) ∧ Aside0 (Below w.heap.size w w'))
        case atStart => exact ⟨(0), (by first | rfl | (simp; done) | (simp [*]; done)), H', ⟨Nat.le_refl _⟩, ⟨by (with_reducible repeat (first | refine blk_drewN ?_ _ | refine blk_drew ?_ | refine blk_alloc ?_ _)); exact BK301.out⟩, ⟨by repeat (first | (with_reducible first | exact HB.out | apply below_alloc | apply pw_below_drewN | apply below_drew1 | refine below_set ?_ GE301.out) | exact HB.out)⟩⟩
        case round =>
          clear H'
          try clear c1
          try clear c2
          try clear p2
          try clear p3
          try clear q3
          try clear hx3
          try clear c4
          try clear c4b0
          try clear c5
          try clear c5b0
          try clear c6
          try clear c6b0
          try clear p6
          try clear c8
          try clear c8b0
          try clear c8b1
          try clear c9
          try clear c9b0
          try clear c11
          try clear c11b0
          try clear c12
          try clear c12b0
          try clear c13
          try clear c13b0
          try clear hcz14_0
          try clear hcz14_1
          try clear hcz15_0
          try clear hcz15_1
          try clear hcz16_0
          try clear hcz16_1
          try clear hcz3_0
          try clear hcz3_1
          try clear hfz14_0
          try clear hfz14_1
          try clear hfz15_0
          try clear hfz15_1
          try clear hfz16_0
          try clear hfz16_1
          try clear hfz3_0
          try clear hfz3_1
          try clear hx302_0
          try clear hx304_0
          try clear p2
          try clear p302
          try clear p304
          try clear q302
          try clear q304
          obtain ⟨x36_2, rfl, HA, HK2, BK301, HB⟩ := hrel
          cases gk with
          | zero => exact absurd HA.out (by simp [mrpdu_Good.l1])
          | succ k2 =>
            have H := HA.out
            clear HA
            simp only [mrpdu_Good.l1] at H
            by_cases c17 : x36_2 < (l0_1.length : Int)
            · rw [if_pos c17] at H
              have c17b0 : decide (x36_2 < (l0_1.length : Int)) = true := decide_eq_true c17
              clear c17
              by_cases c18 : 0 ≤ x36_2
              · rw [if_pos c18] at H
                have c18b0 : decide (0 ≤ x36_2) = true := decide_eq_true c18
                clear c18
                by_cases c19 : x36_2 < (l0_1.length : Int)
                · rw [if_pos c19] at H
                  have c19b0 : decide (x36_2 < (l0_1.length : Int)) = true := decide_eq_true c19
                  clear c19
                  replace H := Option.bind_eq_some_iff.mp H
                  obtain ⟨t307, A200, H⟩ := H
                  replace H : (if t307 = true then (if x36_2 > 0 then (if 0 ≤ (wrap64 (x36_2 - 1)) then (if (wrap64 (x36_2 - 1)) < (l0_1.length : Int) then ((mrpdu_Compare.f k2 ((rd_T42 l0_1 (wrap64 (x36_2 - 1))).f0.f0) ((rd_T42 l0_1 (wrap64 (x36_2 - 1))).f0.f1) ((rd_T42 l0_1 x36_2).f0.f0) ((rd_T42 l0_1 x36_2).f0.f1)).bind fun t309 => (if t309 ≥ 0 then (some false) else (mrpdu_Good.l1 k2 l0_1 (l0_1.length : Int) (wrap64 (x36_2 + 1)) l0_0 l0_1))) else (none)) else (none)) else (mrpdu_Good.l1 k2 l0_1 (l0_1.length : Int) (wrap64 (x36_2 + 1)) l0_0 l0_1)) else (some false)) = some r := H
                  have A20 := Aside0.mk A200
                  clear A200
                  by_cases c21 : t307 = true
                  · subst c21
                    have H1 : (if x36_2 > 0 then (if 0 ≤ (wrap64 (x36_2 - 1)) then (if (wrap64 (x36_2 - 1)) < (l0_1.length : Int) then ((mrpdu_Compare.f k2 ((rd_T42 l0_1 (wrap64 (x36_2 - 1))).f0.f0) ((rd_T42 l0_1 (wrap64 (x36_2 - 1))).f0.f1) ((rd_T42 l0_1 x36_2).f0.f0) ((rd_T42 l0_1 x36_2).f0.f1)).bind fun t309 => (if t309 ≥ 0 then (some false) else (mrpdu_Good.l1 k2 l0_1 (l0_1.length : Int) (wrap64 (x36_2 + 1)) l0_0 l0_1))) else (none)) else (none)) else (mrpdu_Good.l1 k2 l0_1 (l0_1.length : Int) (wrap64 (x36_2 + 1)) l0_0 l0_1)) = some r := by rw [if_pos rfl] at H; exact H
                    clear H
                    have H := H1
                    clear H1
                    by_cases c22 : x36_2 > 0
                    · rw [if_pos c22] at H
                      have c22b0 : decide (0 < x36_2) = true := decide_eq_true c22
                      clear c22
                      obtain ⟨ji23, hji23⟩ : ∃ j_ : Int, (wrap64 (x36_2 - 1)) = j_ := ⟨_, rfl⟩
                      replace H : (if 0 ≤ (ji23) then (if (ji23) < (l0_1.length : Int) then ((mrpdu_Compare.f k2 ((rd_T42 l0_1 (ji23)).f0.f0) ((rd_T42 l0_1 (ji23)).f0.f1) ((rd_T42 l0_1 x36_2).f0.f0) ((rd_T42 l0_1 x36_2).f0.f1)).bind fun t309 => (if t309 ≥ 0 then (some false) else (mrpdu_Good.l1 k2 l0_1 (l0_1.length : Int) (wrap64 (x36_2 + 1)) l0_0 l0_1))) else (none)) else (none)) = some r := by first | (rw [hji23] at H; exact H) | (simp only [hji23] at H ⊢; exact H)
                      (try rw [hji23] at A20)
                      have hji23w : (IntKind.i64.wrap (x36_2 - 1)) = ji23 := (i64_w _).trans hji23
                      by_cases c24 : 0 ≤ (ji23)
                      · rw [if_pos c24] at H
                        have c24b0 : decide (0 ≤ (ji23)) = true := decide_eq_true c24
                        clear c24
                        by_cases c25 : (ji23) < (l0_1.length : Int)
                        · rw [if_pos c25] at H
                          have c25b0 : decide ((ji23) < (l0_1.length : Int)) = true := decide_eq_true c25
                          clear c25
                          replace H := Option.bind_eq_some_iff.mp H
                          obtain ⟨t309, A260, H⟩ := H
                          replace H : (if t309 ≥ 0 then (some false) else (mrpdu_Good.l1 k2 l0_1 (l0_1.length : Int) (wrap64 (x36_2 + 1)) l0_0 l0_1)) = some r := H
                          have A26 := Aside0.mk A260
                          clear A260
                          by_cases c27 : t309 ≥ 0
                          · rw [if_pos c27] at H
                            have c27b0 : decide (0 ≤ t309) = true := decide_eq_true c27
                            clear c27
                            obtain rfl := Option.some.inj H
                            have p305 : 0 ≤ (x36_2 : Int) := of_decide_eq_true (by first | (with_reducible assumption) | assumption)
                            have q305 : x36_2 < (l0_1.length : Int) := of_decide_eq_true (by first | (with_reducible assumption) | assumption)
                            obtain ⟨ad305, e305, hx305_0, hx305_1, hx305_2, hx305_3⟩ := at_T42 HR0_1.out x36_2 p305 q305
                            cases e305
                            replace hx305_0 := (HB.out.cell (World.block_lt_of_cell? w _ hx305_0)).trans hx305_0
                            replace hx305_1 := (HB.out.cell (World.block_lt_of_cell? w _ hx305_1)).trans hx305_1
                            replace hx305_2 := (HB.out.cell (World.block_lt_of_cell? w _ hx305_2)).trans hx305_2
                            replace hx305_3 := (HB.out.cell (World.block_lt_of_cell? w _ hx305_3)).trans hx305_3
                            replace p305 := eq_true p305
                            replace q305 := eq_true q305
                            try go_wp2_with (first | ((with_reducible refine gate_dst (N := 6) rfl ?_); refine box_event ?hg (N := 6) ?hd (cs := #[.int .i64 0, .int .i64 0, .int .i64 0, .int .i64 0]) (t := 42) ?hr ?_; (case hd => rfl); (case hg => rfl); (case hr => first | (go_simp; done) | (go_simp; rfl)); intro gb306 hg w28 hbox hb; have n0_ := Aside0.mk (blk_below (g := gb301) (o := .cells #[.slice A0_0 l0_0.length c0_0, .slice (some ad305) l0_1.length c0_1] 37 (0, 0)) (by (with_reducible repeat (first | refine blk_drewN ?_ _ | refine blk_drew ?_ | refine blk_alloc ?_ _)); exact BK301.out) hb); have n1_ := Aside0.mk (below_step (by repeat (first | (with_reducible first | exact HB.out | apply below_alloc | apply pw_below_drewN | apply below_drew1 | refine below_set ?_ GE301.out) | exact HB.out)) hb); have n2_ := Aside0.mk (hbox); have n3_ := Aside0.mk ((by rw [hg]; exact (below_size (by repeat (first | (with_reducible first | exact HB.out | apply below_alloc | apply pw_below_drewN | apply below_drew1 | refine below_set ?_ GE301.out) | exact HB.out))) : w.heap.size ≤ gb306)); have n4_ := Aside0.mk ((by rw [hg]; exact (below_size (by repeat (first | (with_reducible first | exact HB.out | apply below_alloc | apply pw_below_drewN | apply below_drew1 | refine below_set ?_ GE301.out) | exact HB.out))) : w.heap.size ≤ gb306)); have n5_ := Aside0.mk ((by rw [hg]; exact Nat.ne_of_lt (blk_lt (g := gb301) (o := .cells #[.slice A0_0 l0_0.length c0_0, .slice (some ad305) l0_1.length c0_1] 37 (0, 0)) (by (with_reducible repeat (first | refine blk_drewN ?_ _ | refine blk_drew ?_ | refine blk_alloc ?_ _)); exact BK301.out)) : gb301 ≠ gb306)); have n6_ := Aside0.mk ((by rw [hg]; exact Nat.ne_of_gt (blk_lt (g := gb301) (o := .cells #[.slice A0_0 l0_0.length c0_0, .slice (some ad305) l0_1.length c0_1] 37 (0, 0)) (by (with_reducible repeat (first | refine blk_drewN ?_ _ | refine blk_drew ?_ | refine blk_alloc ?_ _)); exact BK301.out)) : gb306 ≠ gb301)); clear BK301; clear HB; have BK301 := n0_; have HB := n1_; have BK306 := n2_; have GW306 := n3_; have GE306 := n4_; have NB301_306 := n5_; have NB306_301 := n6_; clear n0_ n1_ n2_ n3_ n4_ n5_ n6_; clear hb hbox hg; have hnb29 := NB306_301.out; have hnc29 := NB301_306.out; have hcz30_0 : w28.cell? ⟨gb306, 0, none⟩ = some (.int .i64 0) := (blk_cell BK306.out 0).trans rfl; have hcz30_1 : w28.cell? ⟨gb306, 1, none⟩ = some (.int .i64 0) := (blk_cell BK306.out 1).trans rfl; have hcz30_2 : w28.cell? ⟨gb306, 2, none⟩ = some (.int .i64 0) := (blk_cell BK306.out 2).trans rfl; have hcz30_3 : w28.cell? ⟨gb306, 3, none⟩ = some (.int .i64 0) := (blk_cell BK306.out 3).trans rfl; have hfz30_0 := blk_frozen BK306.out 0; have hfz30_1 := blk_frozen BK306.out 1; have hfz30_2 := blk_frozen BK306.out 2; have hfz30_3 := blk_frozen BK306.out 3))
                            have n0_ : Aside0 (((((w28.setCell ⟨gb306, 0, none⟩ (.int .i64 ((rd_T42 l0_1 x36_2).f0.f0))).setCell ⟨gb306, 1, none⟩ (.int .i64 ((rd_T42 l0_1 x36_2).f0.f1))).setCell ⟨gb306, 2, none⟩ (.int .i64 ((rd_T42 l0_1 x36_2).f1))).setCell ⟨gb306, 3, none⟩ (.int .i64 ((rd_T42 l0_1 x36_2).f2))).heap[gb301]? = some (.cells #[.slice A0_0 l0_0.length c0_0, .slice (some ad305) l0_1.length c0_1] 37 (0, 0))) := ⟨by (with_reducible repeat (first | refine blk_drewN ?_ _ | refine blk_drew ?_ | refine blk_alloc ?_ _)); refine blk_far ?_ NB301_306.out _; (with_reducible repeat (first | refine blk_drewN ?_ _ | refine blk_drew ?_ | refine blk_alloc ?_ _)); refine blk_far ?_ NB301_306.out _; (with_reducible repeat (first | refine blk_drewN ?_ _ | refine blk_drew ?_ | refine blk_alloc ?_ _)); refine blk_far ?_ NB301_306.out _; (with_reducible repeat (first | refine blk_drewN ?_ _ | refine blk_drew ?_ | refine blk_alloc ?_ _)); refine blk_far ?_ NB301_306.out _; (with_reducible repeat (first | refine blk_drewN ?_ _ | refine blk_drew ?_ | refine blk_alloc ?_ _)); exact BK301.out⟩
                            have n1_ : Aside0 (((((w28.setCell ⟨gb306, 0, none⟩ (.int .i64 ((rd_T42 l0_1 x36_2).f0.f0))).setCell ⟨gb306, 1, none⟩ (.int .i64 ((rd_T42 l0_1 x36_2).f0.f1))).setCell ⟨gb306, 2, none⟩ (.int .i64 ((rd_T42 l0_1 x36_2).f1))).setCell ⟨gb306, 3, none⟩ (.int .i64 ((rd_T42 l0_1 x36_2).f2))).heap[gb306]? = some (.cells #[.int .i64 ((rd_T42 l0_1 x36_2).f0.f0), .int .i64 ((rd_T42 l0_1 x36_2).f0.f1), .int .i64 ((rd_T42 l0_1 x36_2).f1), .int .i64 ((rd_T42 l0_1 x36_2).f2)] 42 (0, 0))) := ⟨by (with_reducible repeat (first | refine blk_drewN ?_ _ | refine blk_drew ?_ | refine blk_alloc ?_ _)); refine blk_put (cs := #[.int .i64 ((rd_T42 l0_1 x36_2).f0.f0), .int .i64 ((rd_T42 l0_1 x36_2).f0.f1), .int .i64 ((rd_T42 l0_1 x36_2).f1), .int .i64 0]) ?_ 3 _ rfl; (with_reducible repeat (first | refine blk_drewN ?_ _ | refine blk_drew ?_ | refine blk_alloc ?_ _)); refine blk_put (cs := #[.int .i64 ((rd_T42 l0_1 x36_2).f0.f0), .int .i64 ((rd_T42 l0_1 x36_2).f0.f1), .int .i64 0, .int .i64 0]) ?_ 2 _ rfl; (with_reducible repeat (first | refine blk_drewN ?_ _ | refine blk_drew ?_ | refine blk_alloc ?_ _)); refine blk_put (cs := #[.int .i64 ((rd_T42 l0_1 x36_2).f0.f0), .int .i64 0, .int .i64 0, .int .i64 0]) ?_ 1 _ rfl; (with_reducible repeat (first | refine blk_drewN ?_ _ | refine blk_drew ?_ | refine blk_alloc ?_ _)); refine blk_put (cs := #[.int .i64 0, .int .i64 0, .int .i64 0, .int .i64 0]) ?_ 0 _ rfl; (with_reducible repeat (first | refine blk_drewN ?_ _ | refine blk_drew ?_ | refine blk_alloc ?_ _)); exact BK306.out⟩
                            have n2_ : Aside0 (Below w.heap.size w ((((w28.setCell ⟨gb306, 0, none⟩ (.int .i64 ((rd_T42 l0_1 x36_2).f0.f0))).setCell ⟨gb306, 1, none⟩ (.int .i64 ((rd_T42 l0_1 x36_2).f0.f1))).setCell ⟨gb306, 2, none⟩ (.int .i64 ((rd_T42 l0_1 x36_2).f1))).setCell ⟨gb306, 3, none⟩ (.int .i64 ((rd_T42 l0_1 x36_2).f2)))) := ⟨by repeat (first | (with_reducible first | exact HB.out | apply below_alloc | apply pw_below_drewN | apply below_drew1 | refine below_set ?_ GE301.out | refine below_set ?_ GE306.out) | exact HB.out)⟩
                            (try clear BK301)
                            (try clear BK306)
                            (try clear HB)
                            generalize ((((w28.setCell ⟨gb306, 0, none⟩ (.int .i64 ((rd_T42 l0_1 x36_2).f0.f0))).setCell ⟨gb306, 1, none⟩ (.int .i64 ((rd_T42 l0_1 x36_2).f0.f1))).setCell ⟨gb306, 2, none⟩ (.int .i64 ((rd_T42 l0_1 x36_2).f1))).setCell ⟨gb306, 3, none⟩ (.int .i64 ((rd_T42 l0_1 x36_2).f2))) = w31 at n0_ n1_ n2_ ⊢
                            have BK301 := n0_
                            have BK306 := n1_
                            have HB := n2_
                            clear n0_ n1_ n2_
                            have n0_ := Aside0.mk (blk_drew BK301.out)
                            have n1_ := Aside0.mk (blk_drew BK306.out)
                            have n2_ := Aside0.mk (below_drew1 HB.out)
                            clear BK301
                            clear BK306
                            clear HB
                            have BK301 := n0_
                            have BK306 := n1_
                            have HB := n2_
                            clear n0_ n1_ n2_
                            have p308 : 0 ≤ ((ji23) : Int) := of_decide_eq_true (by first | (with_reducible assumption) | assumption)
                            have q308 : (ji23) < (l0_1.length : Int) := of_decide_eq_true (by first | (with_reducible assumption) | assumption)
                            obtain ⟨ad308, e308, hx308_0, hx308_1, hx308_2, hx308_3⟩ := at_T42 HR0_1.out (ji23) p308 q308
                            have hw308_3 := hx308_3
                            have hw308_2 := hx308_2
                            have hw308_1 := hx308_1
                            have hw308_0 := hx308_0
                            obtain rfl : ad305 = ad308 := (by injection e308)
                            replace hx308_0 := (HB.out.cell (World.block_lt_of_cell? w _ hx308_0)).trans hx308_0
                            replace hx308_1 := (HB.out.cell (World.block_lt_of_cell? w _ hx308_1)).trans hx308_1
                            replace hx308_2 := (HB.out.cell (World.block_lt_of_cell? w _ hx308_2)).trans hx308_2
                            replace hx308_3 := (HB.out.cell (World.block_lt_of_cell? w _ hx308_3)).trans hx308_3
                            replace p308 := eq_true p308
                            replace q308 := eq_true q308
                            refine start_ (n := 20) (S := fun w' => w'.cell? ⟨gb306, 0, none⟩ = some (.int .i64 ((rd_T42 l0_1 x36_2).f0.f0)) ∧ w'.cell? ⟨gb306, 1, none⟩ = some (.int .i64 ((rd_T42 l0_1 x36_2).f0.f1)) ∧ w'.cell? ⟨gb306, 2, none⟩ = some (.int .i64 ((rd_T42 l0_1 x36_2).f1)) ∧ w'.cell? ⟨gb306, 3, none⟩ = some (.int .i64 ((rd_T42 l0_1 x36_2).f2)) ∧ w'.cell? ⟨gb301, 0, none⟩ = some (.slice A0_0 l0_0.length c0_0) ∧ w'.cell? ⟨gb301, 1, none⟩ = some (.slice (some ad305) l0_1.length c0_1) ∧ w'.cell? (ad305.add (((ji23)).toNat * 4)) = some (.int .i64 ((rd_T42 l0_1 (ji23)).f0.f0)) ∧ w'.cell? ⟨(ad305.add (((ji23)).toNat * 4)).block, (ad305.add (((ji23)).toNat * 4)).off + 1, none⟩ = some (.int .i64 ((rd_T42 l0_1 (ji23)).f0.f1)) ∧ w'.cell? ⟨(ad305.add (((ji23)).toNat * 4)).block, (ad305.add (((ji23)).toNat * 4)).off + 2, none⟩ = some (.int .i64 ((rd_T42 l0_1 (ji23)).f1)) ∧ w'.cell? ⟨(ad305.add (((ji23)).toNat * 4)).block, (ad305.add (((ji23)).toNat * 4)).off + 3, none⟩ = some (.int .i64 ((rd_T42 l0_1 (ji23)).f2))) (ds := []) #[false, false, false, false, false, false, false, false, false, false, false, false, false, false, false, false, false, false, false, false] (by kernel_rfl) rfl rfl ⟨(blk_cell BK306.out 0).trans rfl, (blk_cell BK306.out 1).trans rfl, (blk_cell BK306.out 2).trans rfl, (blk_cell BK306.out 3).trans rfl, (blk_cell BK301.out 0).trans rfl, (blk_cell BK301.out 1).trans rfl, ((HB.out.cell (World.block_lt_of_cell? w _ hw308_0)).trans hw308_0), ((HB.out.cell (World.block_lt_of_cell? w _ hw308_1)).trans hw308_1), ((HB.out.cell (World.block_lt_of_cell? w _ hw308_2)).trans hw308_2), ((HB.out.cell (World.block_lt_of_cell? w _ hw308_3)).trans hw308_3)⟩ (fun hHeld => ?_); refine with_tabW mrpdu_Good.tab10 mrpdu_Good.bits10 (fun HT_ HW_ => ?_)
                            generalize w31.drew = w32 at BK301 BK306 HB hx308_0 hx308_1 hx308_2 hx308_3 hHeld ⊢
                            refine take_ (i := 0) (N := some 41) (v := ?_) (a' := ?_) #[true, false, false, false, false, false, false, false, false, false, false, false, false, false, false, false, false, false, false, false] rfl rfl (take_ofW HT_.out HW_.out (by kernel_rfl)) (fun _ _ _ h => h) (Or.inl ⟨by rfl, ?_⟩) hHeld ?_ ?_
                            rotate_left
                            · rintro w' ⟨s0, s1, s2, s3, s4, s5, s6, s7, s8, s9⟩
                              go_simp
                              with_reducible rfl
                            rotate_left
                            · simp only [Act.put, List.setIfInBounds_toArray, List.set_cons_zero, List.set_cons_succ, i64_w, i32_w]
                              rfl
                            refine one_ (i := 1) (N := some 42) #[true, true, false, false, false, false, false, false, false, false, false, false, false, false, false, false, false, false, false, false] rfl rfl (one_of HT_.out (by kernel_rfl)) (by decide) (fun K hK => ?_)
                            refine goes_ Tryd.func60 (by kernel_rfl) rfl #[.agg #[.int .i64 ((rd_T42 l0_1 x36_2).f0.f0), .int .i64 ((rd_T42 l0_1 x36_2).f0.f1), .int .i64 ((rd_T42 l0_1 x36_2).f1), .int .i64 ((rd_T42 l0_1 x36_2).f2)]] (by rfl) rfl rfl (by (try simp only [List.map_toArray, List.map_cons, List.map_nil]); first | done | rfl | (simp only [List.length_drop, List.length_take]; rfl)) ?_
                            with_reducible refine (mrpdu_word.calls ((rd_T42 l0_1 x36_2).f0.f0) ((rd_T42 l0_1 x36_2).f0.f1) ((rd_T42 l0_1 x36_2).f1) ((rd_T42 l0_1 x36_2).f2) true _ A20.out).mono ?_
                            rintro e w33 ⟨rfl, hb⟩
                            refine ⟨_, rfl, ?_⟩
                            have n0_ := Aside0.mk (blk_below (g := gb301) (o := .cells #[.slice A0_0 l0_0.length c0_0, .slice (some ad305) l0_1.length c0_1] 37 (0, 0)) (by (with_reducible repeat (first | refine blk_drewN ?_ _ | refine blk_drew ?_ | refine blk_alloc ?_ _)); exact BK301.out) hb)
                            have n1_ := Aside0.mk (blk_below (g := gb306) (o := .cells #[.int .i64 ((rd_T42 l0_1 x36_2).f0.f0), .int .i64 ((rd_T42 l0_1 x36_2).f0.f1), .int .i64 ((rd_T42 l0_1 x36_2).f1), .int .i64 ((rd_T42 l0_1 x36_2).f2)] 42 (0, 0)) (by (with_reducible repeat (first | refine blk_drewN ?_ _ | refine blk_drew ?_ | refine blk_alloc ?_ _)); exact BK306.out) hb)
                            have n2_ := Aside0.mk (below_step (by repeat (first | (with_reducible first | exact HB.out | apply below_alloc | apply pw_below_drewN | apply below_drew1 | refine below_set ?_ GE301.out | refine below_set ?_ GE306.out) | exact HB.out)) hb)
                            clear BK301
                            clear BK306
                            clear HB
                            have BK301 := n0_
                            have BK306 := n1_
                            have HB := n2_
                            clear n0_ n1_ n2_
                            (try clear hb)
                            (try clear hb2)
                            (try clear hk)
                            (try clear hi)
                            refine hK.out _ _ ⟨(blk_cell BK306.out 0).trans rfl, (blk_cell BK306.out 1).trans rfl, (blk_cell BK306.out 2).trans rfl, (blk_cell BK306.out 3).trans rfl, (blk_cell BK301.out 0).trans rfl, (blk_cell BK301.out 1).trans rfl, ((HB.out.cell (World.block_lt_of_cell? w _ hw308_0)).trans hw308_0), ((HB.out.cell (World.block_lt_of_cell? w _ hw308_1)).trans hw308_1), ((HB.out.cell (World.block_lt_of_cell? w _ hw308_2)).trans hw308_2), ((HB.out.cell (World.block_lt_of_cell? w _ hw308_3)).trans hw308_3)⟩ (fun hHeld => ?_)
                            clear hK K
                            refine norm_ (a' := ?_) ?_ ?_
                            rotate_left
                            · show Act.put _ (some 42) _ = _
                              simp only [Act.put, List.setIfInBounds_toArray, List.set_cons_zero, List.set_cons_succ, i64_w, i32_w]
                              rfl
                            refine pure_ (i := 2) (N := some 43) (v := ?_) (a' := ?_) #[true, true, true, false, false, false, false, false, false, false, false, false, false, false, false, false, false, false, false, false] rfl rfl (any_of HT_.out (by kernel_rfl)) (fun _ _ _ h => h) (Or.inl ⟨by rfl, ?_⟩) ?_ ?_
                            rotate_left
                            · intro w'
                              go_simp
                              with_reducible rfl
                            rotate_left
                            · simp only [Act.put, List.setIfInBounds_toArray, List.set_cons_zero, List.set_cons_succ, i64_w, i32_w]
                              rfl
                            refine pure_ (i := 3) (N := some 44) (v := ?_) (a' := ?_) #[true, true, true, true, false, false, false, false, false, false, false, false, false, false, false, false, false, false, false, false] rfl rfl (any_of HT_.out (by kernel_rfl)) (fun _ _ _ h => h) (Or.inl ⟨by rfl, ?_⟩) ?_ ?_
                            rotate_left
                            · intro w'
                              go_simp
                              with_reducible rfl
                            rotate_left
                            · simp only [Act.put, List.setIfInBounds_toArray, List.set_cons_zero, List.set_cons_succ, i64_w, i32_w]
                              rfl
                            refine pure_ (i := 4) (N := some 45) (v := ?_) (a' := ?_) #[true, true, true, true, true, false, false, false, false, false, false, false, false, false, false, false, false, false, false, false] rfl rfl (any_of HT_.out (by kernel_rfl)) (fun _ _ _ h => h) (Or.inl ⟨by rfl, ?_⟩) ?_ ?_
                            rotate_left
                            · intro w'
                              go_simp
                              with_reducible rfl
                            rotate_left
                            · simp only [Act.put, List.setIfInBounds_toArray, List.set_cons_zero, List.set_cons_succ, i64_w, i32_w]
                              rfl
                            refine pure_ (i := 5) (N := some 46) (v := ?_) (a' := ?_) #[true, true, true, true, true, true, false, false, false, false, false, false, false, false, false, false, false, false, false, false] rfl rfl (any_of HT_.out (by kernel_rfl)) (fun _ _ _ h => h) (Or.inl ⟨by rfl, ?_⟩) ?_ ?_
                            rotate_left
                            · intro w'
                              go_simp
                              with_reducible rfl
                            rotate_left
                            · simp only [Act.put, List.setIfInBounds_toArray, List.set_cons_zero, List.set_cons_succ, i64_w, i32_w]
                              rfl
                            refine pure_ (i := 6) (N := some 47) (v := ?_) (a' := ?_) #[true, true, true, true, true, true, true, false, false, false, false, false, false, false, false, false, false, false, false, false] rfl rfl (any_of HT_.out (by kernel_rfl)) (fun _ _ _ h => h) (Or.inl ⟨by rfl, ?_⟩) ?_ ?_
                            rotate_left
                            · intro w'
                              go_simp
                              with_reducible rfl
                            rotate_left
                            · simp only [Act.put, List.setIfInBounds_toArray, List.set_cons_zero, List.set_cons_succ, i64_w, i32_w]
                              rfl
                            refine pure_ (i := 7) (N := some 48) (v := ?_) (a' := ?_) #[true, true, true, true, true, true, true, true, false, false, false, false, false, false, false, false, false, false, false, false] rfl rfl (any_of HT_.out (by kernel_rfl)) (fun _ _ _ h => h) (Or.inl ⟨by rfl, ?_⟩) ?_ ?_
                            rotate_left
                            · intro w'
                              go_simp
                              with_reducible rfl
                            rotate_left
                            · simp only [Act.put, List.setIfInBounds_toArray, List.set_cons_zero, List.set_cons_succ, i64_w, i32_w]
                              rfl
                            refine pure_ (i := 9) (N := some 50) (v := ?_) (a' := ?_) #[true, true, true, true, true, true, true, true, false, true, false, false, false, false, false, false, false, false, false, false] rfl rfl (any_of HT_.out (by kernel_rfl)) (fun _ _ _ h => h) (Or.inl ⟨by rfl, ?_⟩) ?_ ?_
                            rotate_left
                            · intro w'
                              go_simp
                              with_reducible rfl
                            rotate_left
                            · simp only [Act.put, List.setIfInBounds_toArray, List.set_cons_zero, List.set_cons_succ, i64_w, i32_w]
                              rfl
                            refine pure_ (i := 10) (N := some 51) (v := ?_) (a' := ?_) #[true, true, true, true, true, true, true, true, false, true, true, false, false, false, false, false, false, false, false, false] rfl rfl (any_of HT_.out (by kernel_rfl)) (fun _ _ _ h => h) (Or.inl ⟨by rfl, ?_⟩) ?_ ?_
                            rotate_left
                            · intro w'
                              go_simp
                              with_reducible rfl
                            rotate_left
                            · simp only [Act.put, List.setIfInBounds_toArray, List.set_cons_zero, List.set_cons_succ, i64_w, i32_w]
                              rfl
                            refine pure_ (i := 14) (N := some 55) (v := ?_) (a' := ?_) #[true, true, true, true, true, true, true, true, false, true, true, false, false, false, true, false, false, false, false, false] rfl rfl (any_of HT_.out (by kernel_rfl)) (fun _ _ _ h => h) (Or.inl ⟨by rfl, ?_⟩) ?_ ?_
                            rotate_left
                            · intro w'
                              go_simp
                              with_reducible rfl
                            rotate_left
                            · simp only [Act.put, List.setIfInBounds_toArray, List.set_cons_zero, List.set_cons_succ, i64_w, i32_w]
                              rfl
                            refine take_ (i := 8) (N := some 49) (v := ?_) (a' := ?_) #[true, true, true, true, true, true, true, true, true, true, true, false, false, false, true, false, false, false, false, false] rfl rfl (take_ofW HT_.out HW_.out (by kernel_rfl)) (fun _ _ _ h => h) (Or.inl ⟨by rfl, ?_⟩) hHeld ?_ ?_
                            rotate_left
                            · rintro w' ⟨s0, s1, s2, s3, s4, s5, s6, s7, s8, s9⟩
                              go_simp
                              with_reducible rfl
                            rotate_left
                            · simp only [Act.put, List.setIfInBounds_toArray, List.set_cons_zero, List.set_cons_succ, i64_w, i32_w]
                              rfl
                            refine pure_ (i := 11) (N := some 52) (v := ?_) (a' := ?_) #[true, true, true, true, true, true, true, true, true, true, true, true, false, false, true, false, false, false, false, false] rfl rfl (any_of HT_.out (by kernel_rfl)) (fun _ _ _ h => h) (Or.inl ⟨by rfl, ?_⟩) ?_ ?_
                            rotate_left
                            · intro w'
                              go_simp
                              with_reducible rfl
                            rotate_left
                            · simp only [Act.put, List.setIfInBounds_toArray, List.set_cons_zero, List.set_cons_succ, i64_w, i32_w]
                              rfl
                            refine pure_ (i := 12) (N := some 53) (v := ?_) (a' := ?_) #[true, true, true, true, true, true, true, true, true, true, true, true, true, false, true, false, false, false, false, false] rfl rfl (any_of HT_.out (by kernel_rfl)) (fun _ _ _ h => h) (Or.inl ⟨by rfl, ?_⟩) ?_ ?_
                            rotate_left
                            · intro w'
                              go_simp
                              with_reducible rfl
                            rotate_left
                            · simp only [Act.put, List.setIfInBounds_toArray, List.set_cons_zero, List.set_cons_succ, i64_w, i32_w]
                              rfl
                            refine take_ (i := 13) (N := some 54) (v := ?_) (a' := ?_) #[true, true, true, true, true, true, true, true, true, true, true, true, true, true, true, false, false, false, false, false] rfl rfl (take_ofW HT_.out HW_.out (by kernel_rfl)) (fun _ _ _ h => h) (Or.inl ⟨by rfl, ?_⟩) hHeld ?_ ?_
                            rotate_left
                            · rintro w' ⟨s0, s1, s2, s3, s4, s5, s6, s7, s8, s9⟩
                              go_simp
                              with_reducible rfl
                            rotate_left
                            · simp only [Act.put, List.setIfInBounds_toArray, List.set_cons_zero, List.set_cons_succ, i64_w, i32_w]
                              rfl
                            refine take_ (i := 15) (N := some 56) (v := ?_) (a' := ?_) #[true, true, true, true, true, true, true, true, true, true, true, true, true, true, true, true, false, false, false, false] rfl rfl (take_ofW HT_.out HW_.out (by kernel_rfl)) (fun _ _ _ h => h) (Or.inl ⟨by rfl, ?_⟩) hHeld ?_ ?_
                            rotate_left
                            · rintro w' ⟨s0, s1, s2, s3, s4, s5, s6, s7, s8, s9⟩
                              go_simp
                              with_reducible rfl
                            rotate_left
                            · simp only [Act.put, List.setIfInBounds_toArray, List.set_cons_zero, List.set_cons_succ, i64_w, i32_w]
                              rfl
                            refine one_ (i := 16) (N := some 57) #[true, true, true, true, true, true, true, true, true, true, true, true, true, true, true, true, true, false, false, false] rfl rfl (one_of HT_.out (by kernel_rfl)) (by decide) (fun K hK => ?_)
                            refine goes_ Tryd.func51 (by kernel_rfl) rfl #[.agg #[.int .i64 ((rd_T42 l0_1 (ji23)).f0.f0), .int .i64 ((rd_T42 l0_1 (ji23)).f0.f1)], .agg #[.int .i64 ((rd_T42 l0_1 x36_2).f0.f0), .int .i64 ((rd_T42 l0_1 x36_2).f0.f1)]] (by rfl) rfl rfl (by (try simp only [List.map_toArray, List.map_cons, List.map_nil]); first | done | (simp only [hji23]; rfl) | rfl | (simp only [List.length_drop, List.length_take]; rfl)) ?_
                            with_reducible refine (mrpdu_Compare.calls k2 ((rd_T42 l0_1 (ji23)).f0.f0) ((rd_T42 l0_1 (ji23)).f0.f1) ((rd_T42 l0_1 x36_2).f0.f0) ((rd_T42 l0_1 x36_2).f0.f1) t309 _ A26.out).mono ?_
                            rintro e w34 ⟨rfl, hb⟩
                            refine ⟨_, rfl, ?_⟩
                            have n0_ := Aside0.mk (blk_below (g := gb301) (o := .cells #[.slice A0_0 l0_0.length c0_0, .slice (some ad305) l0_1.length c0_1] 37 (0, 0)) (by (with_reducible repeat (first | refine blk_drewN ?_ _ | refine blk_drew ?_ | refine blk_alloc ?_ _)); exact BK301.out) hb)
                            have n1_ := Aside0.mk (blk_below (g := gb306) (o := .cells #[.int .i64 ((rd_T42 l0_1 x36_2).f0.f0), .int .i64 ((rd_T42 l0_1 x36_2).f0.f1), .int .i64 ((rd_T42 l0_1 x36_2).f1), .int .i64 ((rd_T42 l0_1 x36_2).f2)] 42 (0, 0)) (by (with_reducible repeat (first | refine blk_drewN ?_ _ | refine blk_drew ?_ | refine blk_alloc ?_ _)); exact BK306.out) hb)
                            have n2_ := Aside0.mk (below_step (by repeat (first | (with_reducible first | exact HB.out | apply below_alloc | apply pw_below_drewN | apply below_drew1 | refine below_set ?_ GE301.out | refine below_set ?_ GE306.out) | exact HB.out)) hb)
                            clear BK301
                            clear BK306
                            clear HB
                            have BK301 := n0_
                            have BK306 := n1_
                            have HB := n2_
                            clear n0_ n1_ n2_
                            (try clear hb)
                            (try clear hb2)
                            (try clear hk)
                            (try clear hi)
                            refine hK.out _ _ ⟨(blk_cell BK306.out 0).trans rfl, (blk_cell BK306.out 1).trans rfl, (blk_cell BK306.out 2).trans rfl, (blk_cell BK306.out 3).trans rfl, (blk_cell BK301.out 0).trans rfl, (blk_cell BK301.out 1).trans rfl, ((HB.out.cell (World.block_lt_of_cell? w _ hw308_0)).trans hw308_0), ((HB.out.cell (World.block_lt_of_cell? w _ hw308_1)).trans hw308_1), ((HB.out.cell (World.block_lt_of_cell? w _ hw308_2)).trans hw308_2), ((HB.out.cell (World.block_lt_of_cell? w _ hw308_3)).trans hw308_3)⟩ (fun hHeld => ?_)
                            clear hK K
                            refine norm_ (a' := ?_) ?_ ?_
                            rotate_left
                            · show Act.put _ (some 57) _ = _
                              simp only [Act.put, List.setIfInBounds_toArray, List.set_cons_zero, List.set_cons_succ, i64_w, i32_w]
                              rfl
                            refine pure_ (i := 17) (N := some 58) (v := ?_) (a' := ?_) #[true, true, true, true, true, true, true, true, true, true, true, true, true, true, true, true, true, true, false, false] rfl rfl (any_of HT_.out (by kernel_rfl)) (fun _ _ _ h => h) (Or.inl ⟨by rfl, ?_⟩) ?_ ?_
                            rotate_left
                            · intro w'
                              go_simp
                              with_reducible rfl
                            rotate_left
                            · simp only [Act.put, List.setIfInBounds_toArray, List.set_cons_zero, List.set_cons_succ, i64_w, i32_w]
                              rfl
                            refine pure_ (i := 18) (N := some 59) (v := ?_) (a' := ?_) #[true, true, true, true, true, true, true, true, true, true, true, true, true, true, true, true, true, true, true, false] rfl rfl (any_of HT_.out (by kernel_rfl)) (fun _ _ _ h => h) (Or.inl ⟨by rfl, ?_⟩) ?_ ?_
                            rotate_left
                            · intro w'
                              go_simp
                              with_reducible rfl
                            rotate_left
                            · simp only [Act.put, List.setIfInBounds_toArray, List.set_cons_zero, List.set_cons_succ, i64_w, i32_w]
                              rfl
                            refine pure_ (i := 19) (N := some 60) (v := ?_) (a' := ?_) #[true, true, true, true, true, true, true, true, true, true, true, true, true, true, true, true, true, true, true, true] rfl rfl (any_of HT_.out (by kernel_rfl)) (fun _ _ _ h => h) (Or.inl ⟨by rfl, ?_⟩) ?_ ?_
                            rotate_left
                            · intro w'
                              go_simp
                              with_reducible rfl
                            rotate_left
                            · simp only [Act.put, List.setIfInBounds_toArray, List.set_cons_zero, List.set_cons_succ, i64_w, i32_w]
                              rfl
                            refine done_ (done_of HT_.out (by kernel_rfl)) ?_
                            try go_wp2
                            go_ret
                            exact ⟨by first | rfl | (simp [errW_none, errW_some] <;> rfl) | (simp only [← hji23]; first | rfl | (simp [errW_none, errW_some] <;> rfl)) | (simp [*, errW_none, errW_some] <;> rfl), by repeat (first | (with_reducible first | exact HB.out | apply below_alloc | apply pw_below_drewN | apply below_drew1 | refine below_set ?_ GE301.out | refine below_set ?_ GE306.out) | exact HB.out)⟩
                          · rw [if_neg c27] at H
                            have c27b0 : decide (0 ≤ t309) = false := decide_eq_false c27
                            clear c27
                            have H' := Aside0.mk H
                            clear H
                            have p305 : 0 ≤ (x36_2 : Int) := of_decide_eq_true (by first | (with_reducible assumption) | assumption)
                            have q305 : x36_2 < (l0_1.length : Int) := of_decide_eq_true (by first | (with_reducible assumption) | assumption)
                            obtain ⟨ad305, e305, hx305_0, hx305_1, hx305_2, hx305_3⟩ := at_T42 HR0_1.out x36_2 p305 q305
                            cases e305
                            replace hx305_0 := (HB.out.cell (World.block_lt_of_cell? w _ hx305_0)).trans hx305_0
                            replace hx305_1 := (HB.out.cell (World.block_lt_of_cell? w _ hx305_1)).trans hx305_1
                            replace hx305_2 := (HB.out.cell (World.block_lt_of_cell? w _ hx305_2)).trans hx305_2
                            replace hx305_3 := (HB.out.cell (World.block_lt_of_cell? w _ hx305_3)).trans hx305_3
                            replace p305 := eq_true p305
                            replace q305 := eq_true q305
                            try go_wp2_with (first | ((with_reducible refine gate_dst (N := 6) rfl ?_); refine box_event ?hg (N := 6) ?hd (cs := #[.int .i64 0, .int .i64 0, .int .i64 0, .int .i64 0]) (t := 42) ?hr ?_; (case hd => rfl); (case hg => rfl); (case hr => first | (go_simp; done) | (go_simp; rfl)); intro gb306 hg w35 hbox hb; have n0_ := Aside0.mk (blk_below (g := gb301) (o := .cells #[.slice A0_0 l0_0.length c0_0, .slice (some ad305) l0_1.length c0_1] 37 (0, 0)) (by (with_reducible repeat (first | refine blk_drewN ?_ _ | refine blk_drew ?_ | refine blk_alloc ?_ _)); exact BK301.out) hb); have n1_ := Aside0.mk (below_step (by repeat (first | (with_reducible first | exact HB.out | apply below_alloc | apply pw_below_drewN | apply below_drew1 | refine below_set ?_ GE301.out) | exact HB.out)) hb); have n2_ := Aside0.mk (hbox); have n3_ := Aside0.mk ((by rw [hg]; exact (below_size (by repeat (first | (with_reducible first | exact HB.out | apply below_alloc | apply pw_below_drewN | apply below_drew1 | refine below_set ?_ GE301.out) | exact HB.out))) : w.heap.size ≤ gb306)); have n4_ := Aside0.mk ((by rw [hg]; exact (below_size (by repeat (first | (with_reducible first | exact HB.out | apply below_alloc | apply pw_below_drewN | apply below_drew1 | refine below_set ?_ GE301.out) | exact HB.out))) : w.heap.size ≤ gb306)); have n5_ := Aside0.mk ((by rw [hg]; exact Nat.ne_of_lt (blk_lt (g := gb301) (o := .cells #[.slice A0_0 l0_0.length c0_0, .slice (some ad305) l0_1.length c0_1] 37 (0, 0)) (by (with_reducible repeat (first | refine blk_drewN ?_ _ | refine blk_drew ?_ | refine blk_alloc ?_ _)); exact BK301.out)) : gb301 ≠ gb306)); have n6_ := Aside0.mk ((by rw [hg]; exact Nat.ne_of_gt (blk_lt (g := gb301) (o := .cells #[.slice A0_0 l0_0.length c0_0, .slice (some ad305) l0_1.length c0_1] 37 (0, 0)) (by (with_reducible repeat (first | refine blk_drewN ?_ _ | refine blk_drew ?_ | refine blk_alloc ?_ _)); exact BK301.out)) : gb306 ≠ gb301)); clear BK301; clear HB; have BK301 := n0_; have HB := n1_; have BK306 := n2_; have GW306 := n3_; have GE306 := n4_; have NB301_306 := n5_; have NB306_301 := n6_; clear n0_ n1_ n2_ n3_ n4_ n5_ n6_; clear hb hbox hg; have hnb36 := NB306_301.out; have hnc36 := NB301_306.out; have hcz37_0 : w35.cell? ⟨gb306, 0, none⟩ = some (.int .i64 0) := (blk_cell BK306.out 0).trans rfl; have hcz37_1 : w35.cell? ⟨gb306, 1, none⟩ = some (.int .i64 0) := (blk_cell BK306.out 1).trans rfl; have hcz37_2 : w35.cell? ⟨gb306, 2, none⟩ = some (.int .i64 0) := (blk_cell BK306.out 2).trans rfl; have hcz37_3 : w35.cell? ⟨gb306, 3, none⟩ = some (.int .i64 0) := (blk_cell BK306.out 3).trans rfl; have hfz37_0 := blk_frozen BK306.out 0; have hfz37_1 := blk_frozen BK306.out 1; have hfz37_2 := blk_frozen BK306.out 2; have hfz37_3 := blk_frozen BK306.out 3))
                            have n0_ : Aside0 (((((w35.setCell ⟨gb306, 0, none⟩ (.int .i64 ((rd_T42 l0_1 x36_2).f0.f0))).setCell ⟨gb306, 1, none⟩ (.int .i64 ((rd_T42 l0_1 x36_2).f0.f1))).setCell ⟨gb306, 2, none⟩ (.int .i64 ((rd_T42 l0_1 x36_2).f1))).setCell ⟨gb306, 3, none⟩ (.int .i64 ((rd_T42 l0_1 x36_2).f2))).heap[gb301]? = some (.cells #[.slice A0_0 l0_0.length c0_0, .slice (some ad305) l0_1.length c0_1] 37 (0, 0))) := ⟨by (with_reducible repeat (first | refine blk_drewN ?_ _ | refine blk_drew ?_ | refine blk_alloc ?_ _)); refine blk_far ?_ NB301_306.out _; (with_reducible repeat (first | refine blk_drewN ?_ _ | refine blk_drew ?_ | refine blk_alloc ?_ _)); refine blk_far ?_ NB301_306.out _; (with_reducible repeat (first | refine blk_drewN ?_ _ | refine blk_drew ?_ | refine blk_alloc ?_ _)); refine blk_far ?_ NB301_306.out _; (with_reducible repeat (first | refine blk_drewN ?_ _ | refine blk_drew ?_ | refine blk_alloc ?_ _)); refine blk_far ?_ NB301_306.out _; (with_reducible repeat (first | refine blk_drewN ?_ _ | refine blk_drew ?_ | refine blk_alloc ?_ _)); exact BK301.out⟩
                            have n1_ : Aside0 (((((w35.setCell ⟨gb306, 0, none⟩ (.int .i64 ((rd_T42 l0_1 x36_2).f0.f0))).setCell ⟨gb306, 1, none⟩ (.int .i64 ((rd_T42 l0_1 x36_2).f0.f1))).setCell ⟨gb306, 2, none⟩ (.int .i64 ((rd_T42 l0_1 x36_2).f1))).setCell ⟨gb306, 3, none⟩ (.int .i64 ((rd_T42 l0_1 x36_2).f2))).heap[gb306]? = some (.cells #[.int .i64 ((rd_T42 l0_1 x36_2).f0.f0), .int .i64 ((rd_T42 l0_1 x36_2).f0.f1), .int .i64 ((rd_T42 l0_1 x36_2).f1), .int .i64 ((rd_T42 l0_1 x36_2).f2)] 42 (0, 0))) := ⟨by (with_reducible repeat (first | refine blk_drewN ?_ _ | refine blk_drew ?_ | refine blk_alloc ?_ _)); refine blk_put (cs := #[.int .i64 ((rd_T42 l0_1 x36_2).f0.f0), .int .i64 ((rd_T42 l0_1 x36_2).f0.f1), .int .i64 ((rd_T42 l0_1 x36_2).f1), .int .i64 0]) ?_ 3 _ rfl; (with_reducible repeat (first | refine blk_drewN ?_ _ | refine blk_drew ?_ | refine blk_alloc ?_ _)); refine blk_put (cs := #[.int .i64 ((rd_T42 l0_1 x36_2).f0.f0), .int .i64 ((rd_T42 l0_1 x36_2).f0.f1), .int .i64 0, .int .i64 0]) ?_ 2 _ rfl; (with_reducible repeat (first | refine blk_drewN ?_ _ | refine blk_drew ?_ | refine blk_alloc ?_ _)); refine blk_put (cs := #[.int .i64 ((rd_T42 l0_1 x36_2).f0.f0), .int .i64 0, .int .i64 0, .int .i64 0]) ?_ 1 _ rfl; (with_reducible repeat (first | refine blk_drewN ?_ _ | refine blk_drew ?_ | refine blk_alloc ?_ _)); refine blk_put (cs := #[.int .i64 0, .int .i64 0, .int .i64 0, .int .i64 0]) ?_ 0 _ rfl; (with_reducible repeat (first | refine blk_drewN ?_ _ | refine blk_drew ?_ | refine blk_alloc ?_ _)); exact BK306.out⟩
                            have n2_ : Aside0 (Below w.heap.size w ((((w35.setCell ⟨gb306, 0, none⟩ (.int .i64 ((rd_T42 l0_1 x36_2).f0.f0))).setCell ⟨gb306, 1, none⟩ (.int .i64 ((rd_T42 l0_1 x36_2).f0.f1))).setCell ⟨gb306, 2, none⟩ (.int .i64 ((rd_T42 l0_1 x36_2).f1))).setCell ⟨gb306, 3, none⟩ (.int .i64 ((rd_T42 l0_1 x36_2).f2)))) := ⟨by repeat (first | (with_reducible first | exact HB.out | apply below_alloc | apply pw_below_drewN | apply below_drew1 | refine below_set ?_ GE301.out | refine below_set ?_ GE306.out) | exact HB.out)⟩
                            (try clear BK301)
                            (try clear BK306)
                            (try clear HB)
                            generalize ((((w35.setCell ⟨gb306, 0, none⟩ (.int .i64 ((rd_T42 l0_1 x36_2).f0.f0))).setCell ⟨gb306, 1, none⟩ (.int .i64 ((rd_T42 l0_1 x36_2).f0.f1))).setCell ⟨gb306, 2, none⟩ (.int .i64 ((rd_T42 l0_1 x36_2).f1))).setCell ⟨gb306, 3, none⟩ (.int .i64 ((rd_T42 l0_1 x36_2).f2))) = w38 at n0_ n1_ n2_ ⊢
                            have BK301 := n0_
                            have BK306 := n1_
                            have HB := n2_
                            clear n0_ n1_ n2_
                            have n0_ := Aside0.mk (blk_drew BK301.out)
                            have n1_ := Aside0.mk (blk_drew BK306.out)
                            have n2_ := Aside0.mk (below_drew1 HB.out)
                            clear BK301
                            clear BK306
                            clear HB
                            have BK301 := n0_
                            have BK306 := n1_
                            have HB := n2_
                            clear n0_ n1_ n2_
                            have p308 : 0 ≤ ((ji23) : Int) := of_decide_eq_true (by first | (with_reducible assumption) | assumption)
                            have q308 : (ji23) < (l0_1.length : Int) := of_decide_eq_true (by first | (with_reducible assumption) | assumption)
                            obtain ⟨ad308, e308, hx308_0, hx308_1, hx308_2, hx308_3⟩ := at_T42 HR0_1.out (ji23) p308 q308
                            have hw308_3 := hx308_3
                            have hw308_2 := hx308_2
                            have hw308_1 := hx308_1
                            have hw308_0 := hx308_0
                            obtain rfl : ad305 = ad308 := (by injection e308)
                            replace hx308_0 := (HB.out.cell (World.block_lt_of_cell? w _ hx308_0)).trans hx308_0
                            replace hx308_1 := (HB.out.cell (World.block_lt_of_cell? w _ hx308_1)).trans hx308_1
                            replace hx308_2 := (HB.out.cell (World.block_lt_of_cell? w _ hx308_2)).trans hx308_2
                            replace hx308_3 := (HB.out.cell (World.block_lt_of_cell? w _ hx308_3)).trans hx308_3
                            replace p308 := eq_true p308
                            replace q308 := eq_true q308
                            refine start_ (n := 20) (S := fun w' => w'.cell? ⟨gb306, 0, none⟩ = some (.int .i64 ((rd_T42 l0_1 x36_2).f0.f0)) ∧ w'.cell? ⟨gb306, 1, none⟩ = some (.int .i64 ((rd_T42 l0_1 x36_2).f0.f1)) ∧ w'.cell? ⟨gb306, 2, none⟩ = some (.int .i64 ((rd_T42 l0_1 x36_2).f1)) ∧ w'.cell? ⟨gb306, 3, none⟩ = some (.int .i64 ((rd_T42 l0_1 x36_2).f2)) ∧ w'.cell? ⟨gb301, 0, none⟩ = some (.slice A0_0 l0_0.length c0_0) ∧ w'.cell? ⟨gb301, 1, none⟩ = some (.slice (some ad305) l0_1.length c0_1) ∧ w'.cell? (ad305.add (((ji23)).toNat * 4)) = some (.int .i64 ((rd_T42 l0_1 (ji23)).f0.f0)) ∧ w'.cell? ⟨(ad305.add (((ji23)).toNat * 4)).block, (ad305.add (((ji23)).toNat * 4)).off + 1, none⟩ = some (.int .i64 ((rd_T42 l0_1 (ji23)).f0.f1)) ∧ w'.cell? ⟨(ad305.add (((ji23)).toNat * 4)).block, (ad305.add (((ji23)).toNat * 4)).off + 2, none⟩ = some (.int .i64 ((rd_T42 l0_1 (ji23)).f1)) ∧ w'.cell? ⟨(ad305.add (((ji23)).toNat * 4)).block, (ad305.add (((ji23)).toNat * 4)).off + 3, none⟩ = some (.int .i64 ((rd_T42 l0_1 (ji23)).f2))) (ds := []) #[false, false, false, false, false, false, false, false, false, false, false, false, false, false, false, false, false, false, false, false] (by kernel_rfl) rfl rfl ⟨(blk_cell BK306.out 0).trans rfl, (blk_cell BK306.out 1).trans rfl, (blk_cell BK306.out 2).trans rfl, (blk_cell BK306.out 3).trans rfl, (blk_cell BK301.out 0).trans rfl, (blk_cell BK301.out 1).trans rfl, ((HB.out.cell (World.block_lt_of_cell? w _ hw308_0)).trans hw308_0), ((HB.out.cell (World.block_lt_of_cell? w _ hw308_1)).trans hw308_1), ((HB.out.cell (World.block_lt_of_cell? w _ hw308_2)).trans hw308_2), ((HB.out.cell (World.block_lt_of_cell? w _ hw308_3)).trans hw308_3)⟩ (fun hHeld => ?_); refine with_tabW mrpdu_Good.tab10 mrpdu_Good.bits10 (fun HT_ HW_ => ?_)
                            generalize w38.drew = w39 at BK301 BK306 HB hx308_0 hx308_1 hx308_2 hx308_3 hHeld ⊢
                            refine take_ (i := 0) (N := some 41) (v := ?_) (a' := ?_) #[true, false, false, false, false, false, false, false, false, false, false, false, false, false, false, false, false, false, false, false] rfl rfl (take_ofW HT_.out HW_.out (by kernel_rfl)) (fun _ _ _ h => h) (Or.inl ⟨by rfl, ?_⟩) hHeld ?_ ?_
                            rotate_left
                            · rintro w' ⟨s0, s1, s2, s3, s4, s5, s6, s7, s8, s9⟩
                              go_simp
                              with_reducible rfl
                            rotate_left
                            · simp only [Act.put, List.setIfInBounds_toArray, List.set_cons_zero, List.set_cons_succ, i64_w, i32_w]
                              rfl
                            refine one_ (i := 1) (N := some 42) #[true, true, false, false, false, false, false, false, false, false, false, false, false, false, false, false, false, false, false, false] rfl rfl (one_of HT_.out (by kernel_rfl)) (by decide) (fun K hK => ?_)
                            refine goes_ Tryd.func60 (by kernel_rfl) rfl #[.agg #[.int .i64 ((rd_T42 l0_1 x36_2).f0.f0), .int .i64 ((rd_T42 l0_1 x36_2).f0.f1), .int .i64 ((rd_T42 l0_1 x36_2).f1), .int .i64 ((rd_T42 l0_1 x36_2).f2)]] (by rfl) rfl rfl (by (try simp only [List.map_toArray, List.map_cons, List.map_nil]); first | done | rfl | (simp only [List.length_drop, List.length_take]; rfl)) ?_
                            with_reducible refine (mrpdu_word.calls ((rd_T42 l0_1 x36_2).f0.f0) ((rd_T42 l0_1 x36_2).f0.f1) ((rd_T42 l0_1 x36_2).f1) ((rd_T42 l0_1 x36_2).f2) true _ A20.out).mono ?_
                            rintro e w40 ⟨rfl, hb⟩
                            refine ⟨_, rfl, ?_⟩
                            have n0_ := Aside0.mk (blk_below (g := gb301) (o := .cells #[.slice A0_0 l0_0.length c0_0, .slice (some ad305) l0_1.length c0_1] 37 (0, 0)) (by (with_reducible repeat (first | refine blk_drewN ?_ _ | refine blk_drew ?_ | refine blk_alloc ?_ _)); exact BK301.out) hb)
                            have n1_ := Aside0.mk (blk_below (g := gb306) (o := .cells #[.int .i64 ((rd_T42 l0_1 x36_2).f0.f0), .int .i64 ((rd_T42 l0_1 x36_2).f0.f1), .int .i64 ((rd_T42 l0_1 x36_2).f1), .int .i64 ((rd_T42 l0_1 x36_2).f2)] 42 (0, 0)) (by (with_reducible repeat (first | refine blk_drewN ?_ _ | refine blk_drew ?_ | refine blk_alloc ?_ _)); exact BK306.out) hb)
                            have n2_ := Aside0.mk (below_step (by repeat (first | (with_reducible first | exact HB.out | apply below_alloc | apply pw_below_drewN | apply below_drew1 | refine below_set ?_ GE301.out | refine below_set ?_ GE306.out) | exact HB.out)) hb)
                            clear BK301
                            clear BK306
                            clear HB
                            have BK301 := n0_
                            have BK306 := n1_
                            have HB := n2_
                            clear n0_ n1_ n2_
                            (try clear hb)
                            (try clear hb2)
                            (try clear hk)
                            (try clear hi)
                            refine hK.out _ _ ⟨(blk_cell BK306.out 0).trans rfl, (blk_cell BK306.out 1).trans rfl, (blk_cell BK306.out 2).trans rfl, (blk_cell BK306.out 3).trans rfl, (blk_cell BK301.out 0).trans rfl, (blk_cell BK301.out 1).trans rfl, ((HB.out.cell (World.block_lt_of_cell? w _ hw308_0)).trans hw308_0), ((HB.out.cell (World.block_lt_of_cell? w _ hw308_1)).trans hw308_1), ((HB.out.cell (World.block_lt_of_cell? w _ hw308_2)).trans hw308_2), ((HB.out.cell (World.block_lt_of_cell? w _ hw308_3)).trans hw308_3)⟩ (fun hHeld => ?_)
                            clear hK K
                            refine norm_ (a' := ?_) ?_ ?_
                            rotate_left
                            · show Act.put _ (some 42) _ = _
                              simp only [Act.put, List.setIfInBounds_toArray, List.set_cons_zero, List.set_cons_succ, i64_w, i32_w]
                              rfl
                            refine pure_ (i := 2) (N := some 43) (v := ?_) (a' := ?_) #[true, true, true, false, false, false, false, false, false, false, false, false, false, false, false, false, false, false, false, false] rfl rfl (any_of HT_.out (by kernel_rfl)) (fun _ _ _ h => h) (Or.inl ⟨by rfl, ?_⟩) ?_ ?_
                            rotate_left
                            · intro w'
                              go_simp
                              with_reducible rfl
                            rotate_left
                            · simp only [Act.put, List.setIfInBounds_toArray, List.set_cons_zero, List.set_cons_succ, i64_w, i32_w]
                              rfl
                            refine pure_ (i := 3) (N := some 44) (v := ?_) (a' := ?_) #[true, true, true, true, false, false, false, false, false, false, false, false, false, false, false, false, false, false, false, false] rfl rfl (any_of HT_.out (by kernel_rfl)) (fun _ _ _ h => h) (Or.inl ⟨by rfl, ?_⟩) ?_ ?_
                            rotate_left
                            · intro w'
                              go_simp
                              with_reducible rfl
                            rotate_left
                            · simp only [Act.put, List.setIfInBounds_toArray, List.set_cons_zero, List.set_cons_succ, i64_w, i32_w]
                              rfl
                            refine pure_ (i := 4) (N := some 45) (v := ?_) (a' := ?_) #[true, true, true, true, true, false, false, false, false, false, false, false, false, false, false, false, false, false, false, false] rfl rfl (any_of HT_.out (by kernel_rfl)) (fun _ _ _ h => h) (Or.inl ⟨by rfl, ?_⟩) ?_ ?_
                            rotate_left
                            · intro w'
                              go_simp
                              with_reducible rfl
                            rotate_left
                            · simp only [Act.put, List.setIfInBounds_toArray, List.set_cons_zero, List.set_cons_succ, i64_w, i32_w]
                              rfl
                            refine pure_ (i := 5) (N := some 46) (v := ?_) (a' := ?_) #[true, true, true, true, true, true, false, false, false, false, false, false, false, false, false, false, false, false, false, false] rfl rfl (any_of HT_.out (by kernel_rfl)) (fun _ _ _ h => h) (Or.inl ⟨by rfl, ?_⟩) ?_ ?_
                            rotate_left
                            · intro w'
                              go_simp
                              with_reducible rfl
                            rotate_left
                            · simp only [Act.put, List.setIfInBounds_toArray, List.set_cons_zero, List.set_cons_succ, i64_w, i32_w]
                              rfl
                            refine pure_ (i := 6) (N := some 47) (v := ?_) (a' := ?_) #[true, true, true, true, true, true, true, false, false, false, false, false, false, false, false, false, false, false, false, false] rfl rfl (any_of HT_.out (by kernel_rfl)) (fun _ _ _ h => h) (Or.inl ⟨by rfl, ?_⟩) ?_ ?_
                            rotate_left
                            · intro w'
                              go_simp
                              with_reducible rfl
                            rotate_left
                            · simp only [Act.put, List.setIfInBounds_toArray, List.set_cons_zero, List.set_cons_succ, i64_w, i32_w]
                              rfl
                            refine pure_ (i := 7) (N := some 48) (v := ?_) (a' := ?_) #[true, true, true, true, true, true, true, true, false, false, false, false, false, false, false, false, false, false, false, false] rfl rfl (any_of HT_.out (by kernel_rfl)) (fun _ _ _ h => h) (Or.inl ⟨by rfl, ?_⟩) ?_ ?_
                            rotate_left
                            · intro w'
                              go_simp
                              with_reducible rfl
                            rotate_left
                            · simp only [Act.put, List.setIfInBounds_toArray, List.set_cons_zero, List.set_cons_succ, i64_w, i32_w]
                              rfl
                            refine pure_ (i := 9) (N := some 50) (v := ?_) (a' := ?_) #[true, true, true, true, true, true, true, true, false, true, false, false, false, false, false, false, false, false, false, false] rfl rfl (any_of HT_.out (by kernel_rfl)) (fun _ _ _ h => h) (Or.inl ⟨by rfl, ?_⟩) ?_ ?_
                            rotate_left
                            · intro w'
                              go_simp
                              with_reducible rfl
                            rotate_left
                            · simp only [Act.put, List.setIfInBounds_toArray, List.set_cons_zero, List.set_cons_succ, i64_w, i32_w]
                              rfl
                            refine pure_ (i := 10) (N := some 51) (v := ?_) (a' := ?_) #[true, true, true, true, true, true, true, true, false, true, true, false, false, false, false, false, false, false, false, false] rfl rfl (any_of HT_.out (by kernel_rfl)) (fun _ _ _ h => h) (Or.inl ⟨by rfl, ?_⟩) ?_ ?_
                            rotate_left
                            · intro w'
                              go_simp
                              with_reducible rfl
                            rotate_left
                            · simp only [Act.put, List.setIfInBounds_toArray, List.set_cons_zero, List.set_cons_succ, i64_w, i32_w]
                              rfl
                            refine pure_ (i := 14) (N := some 55) (v := ?_) (a' := ?_) #[true, true, true, true, true, true, true, true, false, true, true, false, false, false, true, false, false, false, false, false] rfl rfl (any_of HT_.out (by kernel_rfl)) (fun _ _ _ h => h) (Or.inl ⟨by rfl, ?_⟩) ?_ ?_
                            rotate_left
                            · intro w'
                              go_simp
                              with_reducible rfl
                            rotate_left
                            · simp only [Act.put, List.setIfInBounds_toArray, List.set_cons_zero, List.set_cons_succ, i64_w, i32_w]
                              rfl
                            refine take_ (i := 8) (N := some 49) (v := ?_) (a' := ?_) #[true, true, true, true, true, true, true, true, true, true, true, false, false, false, true, false, false, false, false, false] rfl rfl (take_ofW HT_.out HW_.out (by kernel_rfl)) (fun _ _ _ h => h) (Or.inl ⟨by rfl, ?_⟩) hHeld ?_ ?_
                            rotate_left
                            · rintro w' ⟨s0, s1, s2, s3, s4, s5, s6, s7, s8, s9⟩
                              go_simp
                              with_reducible rfl
                            rotate_left
                            · simp only [Act.put, List.setIfInBounds_toArray, List.set_cons_zero, List.set_cons_succ, i64_w, i32_w]
                              rfl
                            refine pure_ (i := 11) (N := some 52) (v := ?_) (a' := ?_) #[true, true, true, true, true, true, true, true, true, true, true, true, false, false, true, false, false, false, false, false] rfl rfl (any_of HT_.out (by kernel_rfl)) (fun _ _ _ h => h) (Or.inl ⟨by rfl, ?_⟩) ?_ ?_
                            rotate_left
                            · intro w'
                              go_simp
                              with_reducible rfl
                            rotate_left
                            · simp only [Act.put, List.setIfInBounds_toArray, List.set_cons_zero, List.set_cons_succ, i64_w, i32_w]
                              rfl
                            refine pure_ (i := 12) (N := some 53) (v := ?_) (a' := ?_) #[true, true, true, true, true, true, true, true, true, true, true, true, true, false, true, false, false, false, false, false] rfl rfl (any_of HT_.out (by kernel_rfl)) (fun _ _ _ h => h) (Or.inl ⟨by rfl, ?_⟩) ?_ ?_
                            rotate_left
                            · intro w'
                              go_simp
                              with_reducible rfl
                            rotate_left
                            · simp only [Act.put, List.setIfInBounds_toArray, List.set_cons_zero, List.set_cons_succ, i64_w, i32_w]
                              rfl
                            refine take_ (i := 13) (N := some 54) (v := ?_) (a' := ?_) #[true, true, true, true, true, true, true, true, true, true, true, true, true, true, true, false, false, false, false, false] rfl rfl (take_ofW HT_.out HW_.out (by kernel_rfl)) (fun _ _ _ h => h) (Or.inl ⟨by rfl, ?_⟩) hHeld ?_ ?_
                            rotate_left
                            · rintro w' ⟨s0, s1, s2, s3, s4, s5, s6, s7, s8, s9⟩
                              go_simp
                              with_reducible rfl
                            rotate_left
                            · simp only [Act.put, List.setIfInBounds_toArray, List.set_cons_zero, List.set_cons_succ, i64_w, i32_w]
                              rfl
                            refine take_ (i := 15) (N := some 56) (v := ?_) (a' := ?_) #[true, true, true, true, true, true, true, true, true, true, true, true, true, true, true, true, false, false, false, false] rfl rfl (take_ofW HT_.out HW_.out (by kernel_rfl)) (fun _ _ _ h => h) (Or.inl ⟨by rfl, ?_⟩) hHeld ?_ ?_
                            rotate_left
                            · rintro w' ⟨s0, s1, s2, s3, s4, s5, s6, s7, s8, s9⟩
                              go_simp
                              with_reducible rfl
                            rotate_left
                            · simp only [Act.put, List.setIfInBounds_toArray, List.set_cons_zero, List.set_cons_succ, i64_w, i32_w]
                              rfl
                            refine one_ (i := 16) (N := some 57) #[true, true, true, true, true, true, true, true, true, true, true, true, true, true, true, true, true, false, false, false] rfl rfl (one_of HT_.out (by kernel_rfl)) (by decide) (fun K hK => ?_)
                            refine goes_ Tryd.func51 (by kernel_rfl) rfl #[.agg #[.int .i64 ((rd_T42 l0_1 (ji23)).f0.f0), .int .i64 ((rd_T42 l0_1 (ji23)).f0.f1)], .agg #[.int .i64 ((rd_T42 l0_1 x36_2).f0.f0), .int .i64 ((rd_T42 l0_1 x36_2).f0.f1)]] (by rfl) rfl rfl (by (try simp only [List.map_toArray, List.map_cons, List.map_nil]); first | done | (simp only [hji23]; rfl) | rfl | (simp only [List.length_drop, List.length_take]; rfl)) ?_
                            with_reducible refine (mrpdu_Compare.calls k2 ((rd_T42 l0_1 (ji23)).f0.f0) ((rd_T42 l0_1 (ji23)).f0.f1) ((rd_T42 l0_1 x36_2).f0.f0) ((rd_T42 l0_1 x36_2).f0.f1) t309 _ A26.out).mono ?_
                            rintro e w41 ⟨rfl, hb⟩
                            refine ⟨_, rfl, ?_⟩
                            have n0_ := Aside0.mk (blk_below (g := gb301) (o := .cells #[.slice A0_0 l0_0.length c0_0, .slice (some ad305) l0_1.length c0_1] 37 (0, 0)) (by (with_reducible repeat (first | refine blk_drewN ?_ _ | refine blk_drew ?_ | refine blk_alloc ?_ _)); exact BK301.out) hb)
                            have n1_ := Aside0.mk (blk_below (g := gb306) (o := .cells #[.int .i64 ((rd_T42 l0_1 x36_2).f0.f0), .int .i64 ((rd_T42 l0_1 x36_2).f0.f1), .int .i64 ((rd_T42 l0_1 x36_2).f1), .int .i64 ((rd_T42 l0_1 x36_2).f2)] 42 (0, 0)) (by (with_reducible repeat (first | refine blk_drewN ?_ _ | refine blk_drew ?_ | refine blk_alloc ?_ _)); exact BK306.out) hb)
                            have n2_ := Aside0.mk (below_step (by repeat (first | (with_reducible first | exact HB.out | apply below_alloc | apply pw_below_drewN | apply below_drew1 | refine below_set ?_ GE301.out | refine below_set ?_ GE306.out) | exact HB.out)) hb)
                            clear BK301
                            clear BK306
                            clear HB
                            have BK301 := n0_
                            have BK306 := n1_
                            have HB := n2_
                            clear n0_ n1_ n2_
                            (try clear hb)
                            (try clear hb2)
                            (try clear hk)
                            (try clear hi)
                            refine hK.out _ _ ⟨(blk_cell BK306.out 0).trans rfl, (blk_cell BK306.out 1).trans rfl, (blk_cell BK306.out 2).trans rfl, (blk_cell BK306.out 3).trans rfl, (blk_cell BK301.out 0).trans rfl, (blk_cell BK301.out 1).trans rfl, ((HB.out.cell (World.block_lt_of_cell? w _ hw308_0)).trans hw308_0), ((HB.out.cell (World.block_lt_of_cell? w _ hw308_1)).trans hw308_1), ((HB.out.cell (World.block_lt_of_cell? w _ hw308_2)).trans hw308_2), ((HB.out.cell (World.block_lt_of_cell? w _ hw308_3)).trans hw308_3)⟩ (fun hHeld => ?_)
                            clear hK K
                            refine norm_ (a' := ?_) ?_ ?_
                            rotate_left
                            · show Act.put _ (some 57) _ = _
                              simp only [Act.put, List.setIfInBounds_toArray, List.set_cons_zero, List.set_cons_succ, i64_w, i32_w]
                              rfl
                            refine pure_ (i := 17) (N := some 58) (v := ?_) (a' := ?_) #[true, true, true, true, true, true, true, true, true, true, true, true, true, true, true, true, true, true, false, false] rfl rfl (any_of HT_.out (by kernel_rfl)) (fun _ _ _ h => h) (Or.inl ⟨by rfl, ?_⟩) ?_ ?_
                            rotate_left
                            · intro w'
                              go_simp
                              with_reducible rfl
                            rotate_left
                            · simp only [Act.put, List.setIfInBounds_toArray, List.set_cons_zero, List.set_cons_succ, i64_w, i32_w]
                              rfl
                            refine pure_ (i := 18) (N := some 59) (v := ?_) (a' := ?_) #[true, true, true, true, true, true, true, true, true, true, true, true, true, true, true, true, true, true, true, false] rfl rfl (any_of HT_.out (by kernel_rfl)) (fun _ _ _ h => h) (Or.inl ⟨by rfl, ?_⟩) ?_ ?_
                            rotate_left
                            · intro w'
                              go_simp
                              with_reducible rfl
                            rotate_left
                            · simp only [Act.put, List.setIfInBounds_toArray, List.set_cons_zero, List.set_cons_succ, i64_w, i32_w]
                              rfl
                            refine pure_ (i := 19) (N := some 60) (v := ?_) (a' := ?_) #[true, true, true, true, true, true, true, true, true, true, true, true, true, true, true, true, true, true, true, true] rfl rfl (any_of HT_.out (by kernel_rfl)) (fun _ _ _ h => h) (Or.inl ⟨by rfl, ?_⟩) ?_ ?_
                            rotate_left
                            · intro w'
                              go_simp
                              with_reducible rfl
                            rotate_left
                            · simp only [Act.put, List.setIfInBounds_toArray, List.set_cons_zero, List.set_cons_succ, i64_w, i32_w]
                              rfl
                            refine done_ (done_of HT_.out (by kernel_rfl)) ?_
                            try go_wp2
                            go_roundg k2
                            case measure => have := HK1.out; have := HK2.out; omega
                            case rel => exact ⟨(wrap64 (x36_2 + 1)), (by first | rfl | (simp; done) | (simp [*]; done)), H', ⟨by have := HK1.out; have := HK2.out; omega⟩, ⟨by (with_reducible repeat (first | refine blk_drewN ?_ _ | refine blk_drew ?_ | refine blk_alloc ?_ _)); exact BK301.out⟩, ⟨by repeat (first | (with_reducible first | exact HB.out | apply below_alloc | apply pw_below_drewN | apply below_drew1 | refine below_set ?_ GE301.out | refine below_set ?_ GE306.out) | exact HB.out)⟩⟩
                        · rw [if_neg c25] at H
                          exact absurd H (by simp)
                      · rw [if_neg c24] at H
                        exact absurd H (by simp)
                    · rw [if_neg c22] at H
                      have c22b0 : decide (0 < x36_2) = false := decide_eq_false c22
                      clear c22
                      have H' := Aside0.mk H
                      clear H
                      have p305 : 0 ≤ (x36_2 : Int) := of_decide_eq_true (by first | (with_reducible assumption) | assumption)
                      have q305 : x36_2 < (l0_1.length : Int) := of_decide_eq_true (by first | (with_reducible assumption) | assumption)
                      obtain ⟨ad305, e305, hx305_0, hx305_1, hx305_2, hx305_3⟩ := at_T42 HR0_1.out x36_2 p305 q305
                      cases e305
                      replace hx305_0 := (HB.out.cell (World.block_lt_of_cell? w _ hx305_0)).trans hx305_0
                      replace hx305_1 := (HB.out.cell (World.block_lt_of_cell? w _ hx305_1)).trans hx305_1
                      replace hx305_2 := (HB.out.cell (World.block_lt_of_cell? w _ hx305_2)).trans hx305_2
                      replace hx305_3 := (HB.out.cell (World.block_lt_of_cell? w _ hx305_3)).trans hx305_3
                      replace p305 := eq_true p305
                      replace q305 := eq_true q305
                      try go_wp2_with (first | ((with_reducible refine gate_dst (N := 6) rfl ?_); refine box_event ?hg (N := 6) ?hd (cs := #[.int .i64 0, .int .i64 0, .int .i64 0, .int .i64 0]) (t := 42) ?hr ?_; (case hd => rfl); (case hg => rfl); (case hr => first | (go_simp; done) | (go_simp; rfl)); intro gb306 hg w42 hbox hb; have n0_ := Aside0.mk (blk_below (g := gb301) (o := .cells #[.slice A0_0 l0_0.length c0_0, .slice (some ad305) l0_1.length c0_1] 37 (0, 0)) (by (with_reducible repeat (first | refine blk_drewN ?_ _ | refine blk_drew ?_ | refine blk_alloc ?_ _)); exact BK301.out) hb); have n1_ := Aside0.mk (below_step (by repeat (first | (with_reducible first | exact HB.out | apply below_alloc | apply pw_below_drewN | apply below_drew1 | refine below_set ?_ GE301.out) | exact HB.out)) hb); have n2_ := Aside0.mk (hbox); have n3_ := Aside0.mk ((by rw [hg]; exact (below_size (by repeat (first | (with_reducible first | exact HB.out | apply below_alloc | apply pw_below_drewN | apply below_drew1 | refine below_set ?_ GE301.out) | exact HB.out))) : w.heap.size ≤ gb306)); have n4_ := Aside0.mk ((by rw [hg]; exact (below_size (by repeat (first | (with_reducible first | exact HB.out | apply below_alloc | apply pw_below_drewN | apply below_drew1 | refine below_set ?_ GE301.out) | exact HB.out))) : w.heap.size ≤ gb306)); have n5_ := Aside0.mk ((by rw [hg]; exact Nat.ne_of_lt (blk_lt (g := gb301) (o := .cells #[.slice A0_0 l0_0.length c0_0, .slice (some ad305) l0_1.length c0_1] 37 (0, 0)) (by (with_reducible repeat (first | refine blk_drewN ?_ _ | refine blk_drew ?_ | refine blk_alloc ?_ _)); exact BK301.out)) : gb301 ≠ gb306)); have n6_ := Aside0.mk ((by rw [hg]; exact Nat.ne_of_gt (blk_lt (g := gb301) (o := .cells #[.slice A0_0 l0_0.length c0_0, .slice (some ad305) l0_1.length c0_1] 37 (0, 0)) (by (with_reducible repeat (first | refine blk_drewN ?_ _ | refine blk_drew ?_ | refine blk_alloc ?_ _)); exact BK301.out)) : gb306 ≠ gb301)); clear BK301; clear HB; have BK301 := n0_; have HB := n1_; have BK306 := n2_; have GW306 := n3_; have GE306 := n4_; have NB301_306 := n5_; have NB306_301 := n6_; clear n0_ n1_ n2_ n3_ n4_ n5_ n6_; clear hb hbox hg; have hnb43 := NB306_301.out; have hnc43 := NB301_306.out; have hcz44_0 : w42.cell? ⟨gb306, 0, none⟩ = some (.int .i64 0) := (blk_cell BK306.out 0).trans rfl; have hcz44_1 : w42.cell? ⟨gb306, 1, none⟩ = some (.int .i64 0) := (blk_cell BK306.out 1).trans rfl; have hcz44_2 : w42.cell? ⟨gb306, 2, none⟩ = some (.int .i64 0) := (blk_cell BK306.out 2).trans rfl; have hcz44_3 : w42.cell? ⟨gb306, 3, none⟩ = some (.int .i64 0) := (blk_cell BK306.out 3).trans rfl; have hfz44_0 := blk_frozen BK306.out 0; have hfz44_1 := blk_frozen BK306.out 1; have hfz44_2 := blk_frozen BK306.out 2; have hfz44_3 := blk_frozen BK306.out 3))
                      have n0_ : Aside0 (((((w42.setCell ⟨gb306, 0, none⟩ (.int .i64 ((rd_T42 l0_1 x36_2).f0.f0))).setCell ⟨gb306, 1, none⟩ (.int .i64 ((rd_T42 l0_1 x36_2).f0.f1))).setCell ⟨gb306, 2, none⟩ (.int .i64 ((rd_T42 l0_1 x36_2).f1))).setCell ⟨gb306, 3, none⟩ (.int .i64 ((rd_T42 l0_1 x36_2).f2))).heap[gb301]? = some (.cells #[.slice A0_0 l0_0.length c0_0, .slice (some ad305) l0_1.length c0_1] 37 (0, 0))) := ⟨by (with_reducible repeat (first | refine blk_drewN ?_ _ | refine blk_drew ?_ | refine blk_alloc ?_ _)); refine blk_far ?_ NB301_306.out _; (with_reducible repeat (first | refine blk_drewN ?_ _ | refine blk_drew ?_ | refine blk_alloc ?_ _)); refine blk_far ?_ NB301_306.out _; (with_reducible repeat (first | refine blk_drewN ?_ _ | refine blk_drew ?_ | refine blk_alloc ?_ _)); refine blk_far ?_ NB301_306.out _; (with_reducible repeat (first | refine blk_drewN ?_ _ | refine blk_drew ?_ | refine blk_alloc ?_ _)); refine blk_far ?_ NB301_306.out _; (with_reducible repeat (first | refine blk_drewN ?_ _ | refine blk_drew ?_ | refine blk_alloc ?_ _)); exact BK301.out⟩
                      have n1_ : Aside0 (((((w42.setCell ⟨gb306, 0, none⟩ (.int .i64 ((rd_T42 l0_1 x36_2).f0.f0))).setCell ⟨gb306, 1, none⟩ (.int .i64 ((rd_T42 l0_1 x36_2).f0.f1))).setCell ⟨gb306, 2, none⟩ (.int .i64 ((rd_T42 l0_1 x36_2).f1))).setCell ⟨gb306, 3, none⟩ (.int .i64 ((rd_T42 l0_1 x36_2).f2))).heap[gb306]? = some (.cells #[.int .i64 ((rd_T42 l0_1 x36_2).f0.f0), .int .i64 ((rd_T42 l0_1 x36_2).f0.f1), .int .i64 ((rd_T42 l0_1 x36_2).f1), .int .i64 ((rd_T42 l0_1 x36_2).f2)] 42 (0, 0))) := ⟨by (with_reducible repeat (first | refine blk_drewN ?_ _ | refine blk_drew ?_ | refine blk_alloc ?_ _)); refine blk_put (cs := #[.int .i64 ((rd_T42 l0_1 x36_2).f0.f0), .int .i64 ((rd_T42 l0_1 x36_2).f0.f1), .int .i64 ((rd_T42 l0_1 x36_2).f1), .int .i64 0]) ?_ 3 _ rfl; (with_reducible repeat (first | refine blk_drewN ?_ _ | refine blk_drew ?_ | refine blk_alloc ?_ _)); refine blk_put (cs := #[.int .i64 ((rd_T42 l0_1 x36_2).f0.f0), .int .i64 ((rd_T42 l0_1 x36_2).f0.f1), .int .i64 0, .int .i64 0]) ?_ 2 _ rfl; (with_reducible repeat (first | refine blk_drewN ?_ _ | refine blk_drew ?_ | refine blk_alloc ?_ _)); refine blk_put (cs := #[.int .i64 ((rd_T42 l0_1 x36_2).f0.f0), .int .i64 0, .int .i64 0, .int .i64 0]) ?_ 1 _ rfl; (with_reducible repeat (first | refine blk_drewN ?_ _ | refine blk_drew ?_ | refine blk_alloc ?_ _)); refine blk_put (cs := #[.int .i64 0, .int .i64 0, .int .i64 0, .int .i64 0]) ?_ 0 _ rfl; (with_reducible repeat (first | refine blk_drewN ?_ _ | refine blk_drew ?_ | refine blk_alloc ?_ _)); exact BK306.out⟩
                      have n2_ : Aside0 (Below w.heap.size w ((((w42.setCell ⟨gb306, 0, none⟩ (.int .i64 ((rd_T42 l0_1 x36_2).f0.f0))).setCell ⟨gb306, 1, none⟩ (.int .i64 ((rd_T42 l0_1 x36_2).f0.f1))).setCell ⟨gb306, 2, none⟩ (.int .i64 ((rd_T42 l0_1 x36_2).f1))).setCell ⟨gb306, 3, none⟩ (.int .i64 ((rd_T42 l0_1 x36_2).f2)))) := ⟨by repeat (first | (with_reducible first | exact HB.out | apply below_alloc | apply pw_below_drewN | apply below_drew1 | refine below_set ?_ GE301.out | refine below_set ?_ GE306.out) | exact HB.out)⟩
                      (try clear BK301)
                      (try clear BK306)
                      (try clear HB)
                      generalize ((((w42.setCell ⟨gb306, 0, none⟩ (.int .i64 ((rd_T42 l0_1 x36_2).f0.f0))).setCell ⟨gb306, 1, none⟩ (.int .i64 ((rd_T42 l0_1 x36_2).f0.f1))).setCell ⟨gb306, 2, none⟩ (.int .i64 ((rd_T42 l0_1 x36_2).f1))).setCell ⟨gb306, 3, none⟩ (.int .i64 ((rd_T42 l0_1 x36_2).f2))) = w45 at n0_ n1_ n2_ ⊢
                      have BK301 := n0_
                      have BK306 := n1_
                      have HB := n2_
                      clear n0_ n1_ n2_
                      have n0_ := Aside0.mk (blk_drew BK301.out)
                      have n1_ := Aside0.mk (blk_drew BK306.out)
                      have n2_ := Aside0.mk (below_drew1 HB.out)
                      clear BK301
                      clear BK306
                      clear HB
                      have BK301 := n0_
                      have BK306 := n1_
                      have HB := n2_
                      clear n0_ n1_ n2_
                      refine start_ (n := 20) (S := fun w' => w'.cell? ⟨gb306, 0, none⟩ = some (.int .i64 ((rd_T42 l0_1 x36_2).f0.f0)) ∧ w'.cell? ⟨gb306, 1, none⟩ = some (.int .i64 ((rd_T42 l0_1 x36_2).f0.f1)) ∧ w'.cell? ⟨gb306, 2, none⟩ = some (.int .i64 ((rd_T42 l0_1 x36_2).f1)) ∧ w'.cell? ⟨gb306, 3, none⟩ = some (.int .i64 ((rd_T42 l0_1 x36_2).f2))) (ds := []) #[false, false, false, false, false, false, false, false, false, false, false, false, false, false, false, false, false, false, false, false] (by kernel_rfl) rfl rfl ⟨(blk_cell BK306.out 0).trans rfl, (blk_cell BK306.out 1).trans rfl, (blk_cell BK306.out 2).trans rfl, (blk_cell BK306.out 3).trans rfl⟩ (fun hHeld => ?_); refine with_tabW mrpdu_Good.tab10 mrpdu_Good.bits10 (fun HT_ HW_ => ?_)
                      generalize w45.drew = w46 at BK301 BK306 HB hHeld ⊢
                      refine take_ (i := 0) (N := some 41) (v := ?_) (a' := ?_) #[true, false, false, false, false, false, false, false, false, false, false, false, false, false, false, false, false, false, false, false] rfl rfl (take_ofW HT_.out HW_.out (by kernel_rfl)) (fun _ _ _ h => h) (Or.inl ⟨by rfl, ?_⟩) hHeld ?_ ?_
                      rotate_left
                      · rintro w' ⟨s0, s1, s2, s3⟩
                        go_simp
                        with_reducible rfl
                      rotate_left
                      · simp only [Act.put, List.setIfInBounds_toArray, List.set_cons_zero, List.set_cons_succ, i64_w, i32_w]
                        rfl
                      refine one_ (i := 1) (N := some 42) #[true, true, false, false, false, false, false, false, false, false, false, false, false, false, false, false, false, false, false, false] rfl rfl (one_of HT_.out (by kernel_rfl)) (by decide) (fun K hK => ?_)
                      refine goes_ Tryd.func60 (by kernel_rfl) rfl #[.agg #[.int .i64 ((rd_T42 l0_1 x36_2).f0.f0), .int .i64 ((rd_T42 l0_1 x36_2).f0.f1), .int .i64 ((rd_T42 l0_1 x36_2).f1), .int .i64 ((rd_T42 l0_1 x36_2).f2)]] (by rfl) rfl rfl (by (try simp only [List.map_toArray, List.map_cons, List.map_nil]); first | done | rfl | (simp only [List.length_drop, List.length_take]; rfl)) ?_
                      with_reducible refine (mrpdu_word.calls ((rd_T42 l0_1 x36_2).f0.f0) ((rd_T42 l0_1 x36_2).f0.f1) ((rd_T42 l0_1 x36_2).f1) ((rd_T42 l0_1 x36_2).f2) true _ A20.out).mono ?_
                      rintro e w47 ⟨rfl, hb⟩
                      refine ⟨_, rfl, ?_⟩
                      have n0_ := Aside0.mk (blk_below (g := gb301) (o := .cells #[.slice A0_0 l0_0.length c0_0, .slice (some ad305) l0_1.length c0_1] 37 (0, 0)) (by (with_reducible repeat (first | refine blk_drewN ?_ _ | refine blk_drew ?_ | refine blk_alloc ?_ _)); exact BK301.out) hb)
                      have n1_ := Aside0.mk (blk_below (g := gb306) (o := .cells #[.int .i64 ((rd_T42 l0_1 x36_2).f0.f0), .int .i64 ((rd_T42 l0_1 x36_2).f0.f1), .int .i64 ((rd_T42 l0_1 x36_2).f1), .int .i64 ((rd_T42 l0_1 x36_2).f2)] 42 (0, 0)) (by (with_reducible repeat (first | refine blk_drewN ?_ _ | refine blk_drew ?_ | refine blk_alloc ?_ _)); exact BK306.out) hb)
                      have n2_ := Aside0.mk (below_step (by repeat (first | (with_reducible first | exact HB.out | apply below_alloc | apply pw_below_drewN | apply below_drew1 | refine below_set ?_ GE301.out | refine below_set ?_ GE306.out) | exact HB.out)) hb)
                      clear BK301
                      clear BK306
                      clear HB
                      have BK301 := n0_
                      have BK306 := n1_
                      have HB := n2_
                      clear n0_ n1_ n2_
                      (try clear hb)
                      (try clear hb2)
                      (try clear hk)
                      (try clear hi)
                      refine hK.out _ _ ⟨(blk_cell BK306.out 0).trans rfl, (blk_cell BK306.out 1).trans rfl, (blk_cell BK306.out 2).trans rfl, (blk_cell BK306.out 3).trans rfl⟩ (fun hHeld => ?_)
                      clear hK K
                      refine norm_ (a' := ?_) ?_ ?_
                      rotate_left
                      · show Act.put _ (some 42) _ = _
                        simp only [Act.put, List.setIfInBounds_toArray, List.set_cons_zero, List.set_cons_succ, i64_w, i32_w]
                        rfl
                      refine pure_ (i := 2) (N := some 43) (v := ?_) (a' := ?_) #[true, true, true, false, false, false, false, false, false, false, false, false, false, false, false, false, false, false, false, false] rfl rfl (any_of HT_.out (by kernel_rfl)) (fun _ _ _ h => h) (Or.inl ⟨by rfl, ?_⟩) ?_ ?_
                      rotate_left
                      · intro w'
                        go_simp
                        with_reducible rfl
                      rotate_left
                      · simp only [Act.put, List.setIfInBounds_toArray, List.set_cons_zero, List.set_cons_succ, i64_w, i32_w]
                        rfl
                      refine pure_ (i := 3) (N := some 44) (v := ?_) (a' := ?_) #[true, true, true, true, false, false, false, false, false, false, false, false, false, false, false, false, false, false, false, false] rfl rfl (any_of HT_.out (by kernel_rfl)) (fun _ _ _ h => h) (Or.inl ⟨by rfl, ?_⟩) ?_ ?_
                      rotate_left
                      · intro w'
                        go_simp
                        with_reducible rfl
                      rotate_left
                      · simp only [Act.put, List.setIfInBounds_toArray, List.set_cons_zero, List.set_cons_succ, i64_w, i32_w]
                        rfl
                      refine pure_ (i := 4) (N := some 45) (v := ?_) (a' := ?_) #[true, true, true, true, true, false, false, false, false, false, false, false, false, false, false, false, false, false, false, false] rfl rfl (any_of HT_.out (by kernel_rfl)) (fun _ _ _ h => h) (Or.inl ⟨by rfl, ?_⟩) ?_ ?_
                      rotate_left
                      · intro w'
                        go_simp
                        with_reducible rfl
                      rotate_left
                      · simp only [Act.put, List.setIfInBounds_toArray, List.set_cons_zero, List.set_cons_succ, i64_w, i32_w]
                        rfl
                      refine pure_ (i := 5) (N := some 46) (v := ?_) (a' := ?_) #[true, true, true, true, true, true, false, false, false, false, false, false, false, false, false, false, false, false, false, false] rfl rfl (any_of HT_.out (by kernel_rfl)) (fun _ _ _ h => h) (Or.inl ⟨by rfl, ?_⟩) ?_ ?_
                      rotate_left
                      · intro w'
                        go_simp
                        with_reducible rfl
                      rotate_left
                      · simp only [Act.put, List.setIfInBounds_toArray, List.set_cons_zero, List.set_cons_succ, i64_w, i32_w]
                        rfl
                      refine pure_ (i := 6) (N := some 47) (v := ?_) (a' := ?_) #[true, true, true, true, true, true, true, false, false, false, false, false, false, false, false, false, false, false, false, false] rfl rfl (any_of HT_.out (by kernel_rfl)) (fun _ _ _ h => h) (Or.inl ⟨by rfl, ?_⟩) ?_ ?_
                      rotate_left
                      · intro w'
                        go_simp
                        with_reducible rfl
                      rotate_left
                      · simp only [Act.put, List.setIfInBounds_toArray, List.set_cons_zero, List.set_cons_succ, i64_w, i32_w]
                        rfl
                      refine pure_ (i := 7) (N := some 48) (v := undef) (a' := ?_) #[true, true, true, true, true, true, true, true, false, false, false, false, false, false, false, false, false, false, false, false] rfl rfl (any_of HT_.out (by kernel_rfl)) (fun _ _ _ h => h) (Or.inr ⟨by rfl, rfl⟩) ?_ ?_
                      rotate_left
                      · simp only [Act.put, List.setIfInBounds_toArray, List.set_cons_zero, List.set_cons_succ, i64_w, i32_w]
                        rfl
                      refine pure_ (i := 8) (N := some 49) (v := undef) (a' := ?_) #[true, true, true, true, true, true, true, true, true, false, false, false, false, false, false, false, false, false, false, false] rfl rfl (any_of HT_.out (by kernel_rfl)) (fun _ _ _ h => h) (Or.inr ⟨by rfl, rfl⟩) ?_ ?_
                      rotate_left
                      · simp only [Act.put, List.setIfInBounds_toArray, List.set_cons_zero, List.set_cons_succ, i64_w, i32_w]
                        rfl
                      refine pure_ (i := 9) (N := some 50) (v := undef) (a' := ?_) #[true, true, true, true, true, true, true, true, true, true, false, false, false, false, false, false, false, false, false, false] rfl rfl (any_of HT_.out (by kernel_rfl)) (fun _ _ _ h => h) (Or.inr ⟨by rfl, rfl⟩) ?_ ?_
                      rotate_left
                      · simp only [Act.put, List.setIfInBounds_toArray, List.set_cons_zero, List.set_cons_succ, i64_w, i32_w]
                        rfl
                      refine pure_ (i := 10) (N := some 51) (v := undef) (a' := ?_) #[true, true, true, true, true, true, true, true, true, true, true, false, false, false, false, false, false, false, false, false] rfl rfl (any_of HT_.out (by kernel_rfl)) (fun _ _ _ h => h) (Or.inr ⟨by rfl, rfl⟩) ?_ ?_
                      rotate_left
                      · simp only [Act.put, List.setIfInBounds_toArray, List.set_cons_zero, List.set_cons_succ, i64_w, i32_w]
                        rfl
                      refine pure_ (i := 11) (N := some 52) (v := undef) (a' := ?_) #[true, true, true, true, true, true, true, true, true, true, true, true, false, false, false, false, false, false, false, false] rfl rfl (any_of HT_.out (by kernel_rfl)) (fun _ _ _ h => h) (Or.inr ⟨by rfl, rfl⟩) ?_ ?_
                      rotate_left
                      · simp only [Act.put, List.setIfInBounds_toArray, List.set_cons_zero, List.set_cons_succ, i64_w, i32_w]
                        rfl
                      refine pure_ (i := 12) (N := some 53) (v := undef) (a' := ?_) #[true, true, true, true, true, true, true, true, true, true, true, true, true, false, false, false, false, false, false, false] rfl rfl (any_of HT_.out (by kernel_rfl)) (fun _ _ _ h => h) (Or.inr ⟨by rfl, rfl⟩) ?_ ?_
                      rotate_left
                      · simp only [Act.put, List.setIfInBounds_toArray, List.set_cons_zero, List.set_cons_succ, i64_w, i32_w]
                        rfl
                      refine pure_ (i := 13) (N := some 54) (v := undef) (a' := ?_) #[true, true, true, true, true, true, true, true, true, true, true, true, true, true, false, false, false, false, false, false] rfl rfl (any_of HT_.out (by kernel_rfl)) (fun _ _ _ h => h) (Or.inr ⟨by rfl, rfl⟩) ?_ ?_
                      rotate_left
                      · simp only [Act.put, List.setIfInBounds_toArray, List.set_cons_zero, List.set_cons_succ, i64_w, i32_w]
                        rfl
                      refine pure_ (i := 14) (N := some 55) (v := undef) (a' := ?_) #[true, true, true, true, true, true, true, true, true, true, true, true, true, true, true, false, false, false, false, false] rfl rfl (any_of HT_.out (by kernel_rfl)) (fun _ _ _ h => h) (Or.inr ⟨by rfl, rfl⟩) ?_ ?_
                      rotate_left
                      · simp only [Act.put, List.setIfInBounds_toArray, List.set_cons_zero, List.set_cons_succ, i64_w, i32_w]
                        rfl
                      refine pure_ (i := 15) (N := some 56) (v := undef) (a' := ?_) #[true, true, true, true, true, true, true, true, true, true, true, true, true, true, true, true, false, false, false, false] rfl rfl (any_of HT_.out (by kernel_rfl)) (fun _ _ _ h => h) (Or.inr ⟨by rfl, rfl⟩) ?_ ?_
                      rotate_left
                      · simp only [Act.put, List.setIfInBounds_toArray, List.set_cons_zero, List.set_cons_succ, i64_w, i32_w]
                        rfl
                      refine pure_ (i := 16) (N := some 57) (v := undef) (a' := ?_) #[true, true, true, true, true, true, true, true, true, true, true, true, true, true, true, true, true, false, false, false] rfl rfl (any_of HT_.out (by kernel_rfl)) (fun _ _ _ h => h) (Or.inr ⟨by rfl, rfl⟩) ?_ ?_
                      rotate_left
                      · simp only [Act.put, List.setIfInBounds_toArray, List.set_cons_zero, List.set_cons_succ, i64_w, i32_w]
                        rfl
                      refine pure_ (i := 17) (N := some 58) (v := undef) (a' := ?_) #[true, true, true, true, true, true, true, true, true, true, true, true, true, true, true, true, true, true, false, false] rfl rfl (any_of HT_.out (by kernel_rfl)) (fun _ _ _ h => h) (Or.inr ⟨by rfl, rfl⟩) ?_ ?_
                      rotate_left
                      · simp only [Act.put, List.setIfInBounds_toArray, List.set_cons_zero, List.set_cons_succ, i64_w, i32_w]
                        rfl
                      refine pure_ (i := 18) (N := some 59) (v := ?_) (a' := ?_) #[true, true, true, true, true, true, true, true, true, true, true, true, true, true, true, true, true, true, true, false] rfl rfl (any_of HT_.out (by kernel_rfl)) (fun _ _ _ h => h) (Or.inl ⟨by rfl, ?_⟩) ?_ ?_
                      rotate_left
                      · intro w'
                        go_simp
                        with_reducible rfl
                      rotate_left
                      · simp only [Act.put, List.setIfInBounds_toArray, List.set_cons_zero, List.set_cons_succ, i64_w, i32_w]
                        rfl
                      refine pure_ (i := 19) (N := some 60) (v := ?_) (a' := ?_) #[true, true, true, true, true, true, true, true, true, true, true, true, true, true, true, true, true, true, true, true] rfl rfl (any_of HT_.out (by kernel_rfl)) (fun _ _ _ h => h) (Or.inl ⟨by rfl, ?_⟩) ?_ ?_
                      rotate_left
                      · intro w'
                        go_simp
                        with_reducible rfl
                      rotate_left
                      · simp only [Act.put, List.setIfInBounds_toArray, List.set_cons_zero, List.set_cons_succ, i64_w, i32_w]
                        rfl
                      refine done_ (done_of HT_.out (by kernel_rfl)) ?_
                      try go_wp2
                      go_roundg k2
                      case measure => have := HK1.out; have := HK2.out; omega
                      case rel => exact ⟨(wrap64 (x36_2 + 1)), (by first | rfl | (simp; done) | (simp [*]; done)), H', ⟨by have := HK1.out; have := HK2.out; omega⟩, ⟨by (with_reducible repeat (first | refine blk_drewN ?_ _ | refine blk_drew ?_ | refine blk_alloc ?_ _)); exact BK301.out⟩, ⟨by repeat (first | (with_reducible first | exact HB.out | apply below_alloc | apply pw_below_drewN | apply below_drew1 | refine below_set ?_ GE301.out | refine below_set ?_ GE306.out) | exact HB.out)⟩⟩
                  · replace c21 := Bool.eq_false_iff.mpr c21
                    subst c21
                    have H1 : (some false) = some r := by rw [if_neg (show ¬ (false = true) by decide)] at H; exact H
                    clear H
                    have H := H1
                    clear H1
                    obtain rfl := Option.some.inj H
                    have p305 : 0 ≤ (x36_2 : Int) := of_decide_eq_true (by first | (with_reducible assumption) | assumption)
                    have q305 : x36_2 < (l0_1.length : Int) := of_decide_eq_true (by first | (with_reducible assumption) | assumption)
                    obtain ⟨ad305, e305, hx305_0, hx305_1, hx305_2, hx305_3⟩ := at_T42 HR0_1.out x36_2 p305 q305
                    cases e305
                    replace hx305_0 := (HB.out.cell (World.block_lt_of_cell? w _ hx305_0)).trans hx305_0
                    replace hx305_1 := (HB.out.cell (World.block_lt_of_cell? w _ hx305_1)).trans hx305_1
                    replace hx305_2 := (HB.out.cell (World.block_lt_of_cell? w _ hx305_2)).trans hx305_2
                    replace hx305_3 := (HB.out.cell (World.block_lt_of_cell? w _ hx305_3)).trans hx305_3
                    replace p305 := eq_true p305
                    replace q305 := eq_true q305
                    try go_wp2_with (first | ((with_reducible refine gate_dst (N := 6) rfl ?_); refine box_event ?hg (N := 6) ?hd (cs := #[.int .i64 0, .int .i64 0, .int .i64 0, .int .i64 0]) (t := 42) ?hr ?_; (case hd => rfl); (case hg => rfl); (case hr => first | (go_simp; done) | (go_simp; rfl)); intro gb306 hg w48 hbox hb; have n0_ := Aside0.mk (blk_below (g := gb301) (o := .cells #[.slice A0_0 l0_0.length c0_0, .slice (some ad305) l0_1.length c0_1] 37 (0, 0)) (by (with_reducible repeat (first | refine blk_drewN ?_ _ | refine blk_drew ?_ | refine blk_alloc ?_ _)); exact BK301.out) hb); have n1_ := Aside0.mk (below_step (by repeat (first | (with_reducible first | exact HB.out | apply below_alloc | apply pw_below_drewN | apply below_drew1 | refine below_set ?_ GE301.out) | exact HB.out)) hb); have n2_ := Aside0.mk (hbox); have n3_ := Aside0.mk ((by rw [hg]; exact (below_size (by repeat (first | (with_reducible first | exact HB.out | apply below_alloc | apply pw_below_drewN | apply below_drew1 | refine below_set ?_ GE301.out) | exact HB.out))) : w.heap.size ≤ gb306)); have n4_ := Aside0.mk ((by rw [hg]; exact (below_size (by repeat (first | (with_reducible first | exact HB.out | apply below_alloc | apply pw_below_drewN | apply below_drew1 | refine below_set ?_ GE301.out) | exact HB.out))) : w.heap.size ≤ gb306)); have n5_ := Aside0.mk ((by rw [hg]; exact Nat.ne_of_lt (blk_lt (g := gb301) (o := .cells #[.slice A0_0 l0_0.length c0_0, .slice (some ad305) l0_1.length c0_1] 37 (0, 0)) (by (with_reducible repeat (first | refine blk_drewN ?_ _ | refine blk_drew ?_ | refine blk_alloc ?_ _)); exact BK301.out)) : gb301 ≠ gb306)); have n6_ := Aside0.mk ((by rw [hg]; exact Nat.ne_of_gt (blk_lt (g := gb301) (o := .cells #[.slice A0_0 l0_0.length c0_0, .slice (some ad305) l0_1.length c0_1] 37 (0, 0)) (by (with_reducible repeat (first | refine blk_drewN ?_ _ | refine blk_drew ?_ | refine blk_alloc ?_ _)); exact BK301.out)) : gb306 ≠ gb301)); clear BK301; clear HB; have BK301 := n0_; have HB := n1_; have BK306 := n2_; have GW306 := n3_; have GE306 := n4_; have NB301_306 := n5_; have NB306_301 := n6_; clear n0_ n1_ n2_ n3_ n4_ n5_ n6_; clear hb hbox hg; have hnb49 := NB306_301.out; have hnc49 := NB301_306.out; have hcz50_0 : w48.cell? ⟨gb306, 0, none⟩ = some (.int .i64 0) := (blk_cell BK306.out 0).trans rfl; have hcz50_1 : w48.cell? ⟨gb306, 1, none⟩ = some (.int .i64 0) := (blk_cell BK306.out 1).trans rfl; have hcz50_2 : w48.cell? ⟨gb306, 2, none⟩ = some (.int .i64 0) := (blk_cell BK306.out 2).trans rfl; have hcz50_3 : w48.cell? ⟨gb306, 3, none⟩ = some (.int .i64 0) := (blk_cell BK306.out 3).trans rfl; have hfz50_0 := blk_frozen BK306.out 0; have hfz50_1 := blk_frozen BK306.out 1; have hfz50_2 := blk_frozen BK306.out 2; have hfz50_3 := blk_frozen BK306.out 3))
                    have n0_ : Aside0 (((((w48.setCell ⟨gb306, 0, none⟩ (.int .i64 ((rd_T42 l0_1 x36_2).f0.f0))).setCell ⟨gb306, 1, none⟩ (.int .i64 ((rd_T42 l0_1 x36_2).f0.f1))).setCell ⟨gb306, 2, none⟩ (.int .i64 ((rd_T42 l0_1 x36_2).f1))).setCell ⟨gb306, 3, none⟩ (.int .i64 ((rd_T42 l0_1 x36_2).f2))).heap[gb301]? = some (.cells #[.slice A0_0 l0_0.length c0_0, .slice (some ad305) l0_1.length c0_1] 37 (0, 0))) := ⟨by (with_reducible repeat (first | refine blk_drewN ?_ _ | refine blk_drew ?_ | refine blk_alloc ?_ _)); refine blk_far ?_ NB301_306.out _; (with_reducible repeat (first | refine blk_drewN ?_ _ | refine blk_drew ?_ | refine blk_alloc ?_ _)); refine blk_far ?_ NB301_306.out _; (with_reducible repeat (first | refine blk_drewN ?_ _ | refine blk_drew ?_ | refine blk_alloc ?_ _)); refine blk_far ?_ NB301_306.out _; (with_reducible repeat (first | refine blk_drewN ?_ _ | refine blk_drew ?_ | refine blk_alloc ?_ _)); refine blk_far ?_ NB301_306.out _; (with_reducible repeat (first | refine blk_drewN ?_ _ | refine blk_drew ?_ | refine blk_alloc ?_ _)); exact BK301.out⟩
                    have n1_ : Aside0 (((((w48.setCell ⟨gb306, 0, none⟩ (.int .i64 ((rd_T42 l0_1 x36_2).f0.f0))).setCell ⟨gb306, 1, none⟩ (.int .i64 ((rd_T42 l0_1 x36_2).f0.f1))).setCell ⟨gb306, 2, none⟩ (.int .i64 ((rd_T42 l0_1 x36_2).f1))).setCell ⟨gb306, 3, none⟩ (.int .i64 ((rd_T42 l0_1 x36_2).f2))).heap[gb306]? = some (.cells #[.int .i64 ((rd_T42 l0_1 x36_2).f0.f0), .int .i64 ((rd_T42 l0_1 x36_2).f0.f1), .int .i64 ((rd_T42 l0_1 x36_2).f1), .int .i64 ((rd_T42 l0_1 x36_2).f2)] 42 (0, 0))) := ⟨by (with_reducible repeat (first | refine blk_drewN ?_ _ | refine blk_drew ?_ | refine blk_alloc ?_ _)); refine blk_put (cs := #[.int .i64 ((rd_T42 l0_1 x36_2).f0.f0), .int .i64 ((rd_T42 l0_1 x36_2).f0.f1), .int .i64 ((rd_T42 l0_1 x36_2).f1), .int .i64 0]) ?_ 3 _ rfl; (with_reducible repeat (first | refine blk_drewN ?_ _ | refine blk_drew ?_ | refine blk_alloc ?_ _)); refine blk_put (cs := #[.int .i64 ((rd_T42 l0_1 x36_2).f0.f0), .int .i64 ((rd_T42 l0_1 x36_2).f0.f1), .int .i64 0, .int .i64 0]) ?_ 2 _ rfl; (with_reducible repeat (first | refine blk_drewN ?_ _ | refine blk_drew ?_ | refine blk_alloc ?_ _)); refine blk_put (cs := #[.int .i64 ((rd_T42 l0_1 x36_2).f0.f0), .int .i64 0, .int .i64 0, .int .i64 0]) ?_ 1 _ rfl; (with_reducible repeat (first | refine blk_drewN ?_ _ | refine blk_drew ?_ | refine blk_alloc ?_ _)); refine blk_put (cs := #[.int .i64 0, .int .i64 0, .int .i64 0, .int .i64 0]) ?_ 0 _ rfl; (with_reducible repeat (first | refine blk_drewN ?_ _ | refine blk_drew ?_ | refine blk_alloc ?_ _)); exact BK306.out⟩
                    have n2_ : Aside0 (Below w.heap.size w ((((w48.setCell ⟨gb306, 0, none⟩ (.int .i64 ((rd_T42 l0_1 x36_2).f0.f0))).setCell ⟨gb306, 1, none⟩ (.int .i64 ((rd_T42 l0_1 x36_2).f0.f1))).setCell ⟨gb306, 2, none⟩ (.int .i64 ((rd_T42 l0_1 x36_2).f1))).setCell ⟨gb306, 3, none⟩ (.int .i64 ((rd_T42 l0_1 x36_2).f2)))) := ⟨by repeat (first | (with_reducible first | exact HB.out | apply below_alloc | apply pw_below_drewN | apply below_drew1 | refine below_set ?_ GE301.out | refine below_set ?_ GE306.out) | exact HB.out)⟩
                    (try clear BK301)
                    (try clear BK306)
                    (try clear HB)
                    generalize ((((w48.setCell ⟨gb306, 0, none⟩ (.int .i64 ((rd_T42 l0_1 x36_2).f0.f0))).setCell ⟨gb306, 1, none⟩ (.int .i64 ((rd_T42 l0_1 x36_2).f0.f1))).setCell ⟨gb306, 2, none⟩ (.int .i64 ((rd_T42 l0_1 x36_2).f1))).setCell ⟨gb306, 3, none⟩ (.int .i64 ((rd_T42 l0_1 x36_2).f2))) = w51 at n0_ n1_ n2_ ⊢
                    have BK301 := n0_
                    have BK306 := n1_
                    have HB := n2_
                    clear n0_ n1_ n2_
                    have n0_ := Aside0.mk (blk_drew BK301.out)
                    have n1_ := Aside0.mk (blk_drew BK306.out)
                    have n2_ := Aside0.mk (below_drew1 HB.out)
                    clear BK301
                    clear BK306
                    clear HB
                    have BK301 := n0_
                    have BK306 := n1_
                    have HB := n2_
                    clear n0_ n1_ n2_
                    refine start_ (n := 20) (S := fun w' => w'.cell? ⟨gb306, 0, none⟩ = some (.int .i64 ((rd_T42 l0_1 x36_2).f0.f0)) ∧ w'.cell? ⟨gb306, 1, none⟩ = some (.int .i64 ((rd_T42 l0_1 x36_2).f0.f1)) ∧ w'.cell? ⟨gb306, 2, none⟩ = some (.int .i64 ((rd_T42 l0_1 x36_2).f1)) ∧ w'.cell? ⟨gb306, 3, none⟩ = some (.int .i64 ((rd_T42 l0_1 x36_2).f2))) (ds := []) #[false, false, false, false, false, false, false, false, false, false, false, false, false, false, false, false, false, false, false, false] (by kernel_rfl) rfl rfl ⟨(blk_cell BK306.out 0).trans rfl, (blk_cell BK306.out 1).trans rfl, (blk_cell BK306.out 2).trans rfl, (blk_cell BK306.out 3).trans rfl⟩ (fun hHeld => ?_); refine with_tabW mrpdu_Good.tab10 mrpdu_Good.bits10 (fun HT_ HW_ => ?_)
                    generalize w51.drew = w52 at BK301 BK306 HB hHeld ⊢
                    refine take_ (i := 0) (N := some 41) (v := ?_) (a' := ?_) #[true, false, false, false, false, false, false, false, false, false, false, false, false, false, false, false, false, false, false, false] rfl rfl (take_ofW HT_.out HW_.out (by kernel_rfl)) (fun _ _ _ h => h) (Or.inl ⟨by rfl, ?_⟩) hHeld ?_ ?_
                    rotate_left
                    · rintro w' ⟨s0, s1, s2, s3⟩
                      go_simp
                      with_reducible rfl
                    rotate_left
                    · simp only [Act.put, List.setIfInBounds_toArray, List.set_cons_zero, List.set_cons_succ, i64_w, i32_w]
                      rfl
                    refine one_ (i := 1) (N := some 42) #[true, true, false, false, false, false, false, false, false, false, false, false, false, false, false, false, false, false, false, false] rfl rfl (one_of HT_.out (by kernel_rfl)) (by decide) (fun K hK => ?_)
                    refine goes_ Tryd.func60 (by kernel_rfl) rfl #[.agg #[.int .i64 ((rd_T42 l0_1 x36_2).f0.f0), .int .i64 ((rd_T42 l0_1 x36_2).f0.f1), .int .i64 ((rd_T42 l0_1 x36_2).f1), .int .i64 ((rd_T42 l0_1 x36_2).f2)]] (by rfl) rfl rfl (by (try simp only [List.map_toArray, List.map_cons, List.map_nil]); first | done | rfl | (simp only [List.length_drop, List.length_take]; rfl)) ?_
                    with_reducible refine (mrpdu_word.calls ((rd_T42 l0_1 x36_2).f0.f0) ((rd_T42 l0_1 x36_2).f0.f1) ((rd_T42 l0_1 x36_2).f1) ((rd_T42 l0_1 x36_2).f2) false _ A20.out).mono ?_
                    rintro e w53 ⟨rfl, hb⟩
                    refine ⟨_, rfl, ?_⟩
                    have n0_ := Aside0.mk (blk_below (g := gb301) (o := .cells #[.slice A0_0 l0_0.length c0_0, .slice (some ad305) l0_1.length c0_1] 37 (0, 0)) (by (with_reducible repeat (first | refine blk_drewN ?_ _ | refine blk_drew ?_ | refine blk_alloc ?_ _)); exact BK301.out) hb)
                    have n1_ := Aside0.mk (blk_below (g := gb306) (o := .cells #[.int .i64 ((rd_T42 l0_1 x36_2).f0.f0), .int .i64 ((rd_T42 l0_1 x36_2).f0.f1), .int .i64 ((rd_T42 l0_1 x36_2).f1), .int .i64 ((rd_T42 l0_1 x36_2).f2)] 42 (0, 0)) (by (with_reducible repeat (first | refine blk_drewN ?_ _ | refine blk_drew ?_ | refine blk_alloc ?_ _)); exact BK306.out) hb)
                    have n2_ := Aside0.mk (below_step (by repeat (first | (with_reducible first | exact HB.out | apply below_alloc | apply pw_below_drewN | apply below_drew1 | refine below_set ?_ GE301.out | refine below_set ?_ GE306.out) | exact HB.out)) hb)
                    clear BK301
                    clear BK306
                    clear HB
                    have BK301 := n0_
                    have BK306 := n1_
                    have HB := n2_
                    clear n0_ n1_ n2_
                    (try clear hb)
                    (try clear hb2)
                    (try clear hk)
                    (try clear hi)
                    refine hK.out _ _ ⟨(blk_cell BK306.out 0).trans rfl, (blk_cell BK306.out 1).trans rfl, (blk_cell BK306.out 2).trans rfl, (blk_cell BK306.out 3).trans rfl⟩ (fun hHeld => ?_)
                    clear hK K
                    refine norm_ (a' := ?_) ?_ ?_
                    rotate_left
                    · show Act.put _ (some 42) _ = _
                      simp only [Act.put, List.setIfInBounds_toArray, List.set_cons_zero, List.set_cons_succ, i64_w, i32_w]
                      rfl
                    refine pure_ (i := 2) (N := some 43) (v := ?_) (a' := ?_) #[true, true, true, false, false, false, false, false, false, false, false, false, false, false, false, false, false, false, false, false] rfl rfl (any_of HT_.out (by kernel_rfl)) (fun _ _ _ h => h) (Or.inl ⟨by rfl, ?_⟩) ?_ ?_
                    rotate_left
                    · intro w'
                      go_simp
                      with_reducible rfl
                    rotate_left
                    · simp only [Act.put, List.setIfInBounds_toArray, List.set_cons_zero, List.set_cons_succ, i64_w, i32_w]
                      rfl
                    refine pure_ (i := 3) (N := some 44) (v := ?_) (a' := ?_) #[true, true, true, true, false, false, false, false, false, false, false, false, false, false, false, false, false, false, false, false] rfl rfl (any_of HT_.out (by kernel_rfl)) (fun _ _ _ h => h) (Or.inl ⟨by rfl, ?_⟩) ?_ ?_
                    rotate_left
                    · intro w'
                      go_simp
                      with_reducible rfl
                    rotate_left
                    · simp only [Act.put, List.setIfInBounds_toArray, List.set_cons_zero, List.set_cons_succ, i64_w, i32_w]
                      rfl
                    refine pure_ (i := 4) (N := some 45) (v := undef) (a' := ?_) #[true, true, true, true, true, false, false, false, false, false, false, false, false, false, false, false, false, false, false, false] rfl rfl (any_of HT_.out (by kernel_rfl)) (fun _ _ _ h => h) (Or.inr ⟨by rfl, rfl⟩) ?_ ?_
                    rotate_left
                    · simp only [Act.put, List.setIfInBounds_toArray, List.set_cons_zero, List.set_cons_succ, i64_w, i32_w]
                      rfl
                    refine pure_ (i := 5) (N := some 46) (v := undef) (a' := ?_) #[true, true, true, true, true, true, false, false, false, false, false, false, false, false, false, false, false, false, false, false] rfl rfl (any_of HT_.out (by kernel_rfl)) (fun _ _ _ h => h) (Or.inr ⟨by rfl, rfl⟩) ?_ ?_
                    rotate_left
                    · simp only [Act.put, List.setIfInBounds_toArray, List.set_cons_zero, List.set_cons_succ, i64_w, i32_w]
                      rfl
                    refine pure_ (i := 6) (N := some 47) (v := undef) (a' := ?_) #[true, true, true, true, true, true, true, false, false, false, false, false, false, false, false, false, false, false, false, false] rfl rfl (any_of HT_.out (by kernel_rfl)) (fun _ _ _ h => h) (Or.inr ⟨by rfl, rfl⟩) ?_ ?_
                    rotate_left
                    · simp only [Act.put, List.setIfInBounds_toArray, List.set_cons_zero, List.set_cons_succ, i64_w, i32_w]
                      rfl
                    refine pure_ (i := 7) (N := some 48) (v := undef) (a' := ?_) #[true, true, true, true, true, true, true, true, false, false, false, false, false, false, false, false, false, false, false, false] rfl rfl (any_of HT_.out (by kernel_rfl)) (fun _ _ _ h => h) (Or.inr ⟨by rfl, rfl⟩) ?_ ?_
                    rotate_left
                    · simp only [Act.put, List.setIfInBounds_toArray, List.set_cons_zero, List.set_cons_succ, i64_w, i32_w]
                      rfl
                    refine pure_ (i := 8) (N := some 49) (v := undef) (a' := ?_) #[true, true, true, true, true, true, true, true, true, false, false, false, false, false, false, false, false, false, false, false] rfl rfl (any_of HT_.out (by kernel_rfl)) (fun _ _ _ h => h) (Or.inr ⟨by rfl, rfl⟩) ?_ ?_
                    rotate_left
                    · simp only [Act.put, List.setIfInBounds_toArray, List.set_cons_zero, List.set_cons_succ, i64_w, i32_w]
                      rfl
                    refine pure_ (i := 9) (N := some 50) (v := undef) (a' := ?_) #[true, true, true, true, true, true, true, true, true, true, false, false, false, false, false, false, false, false, false, false] rfl rfl (any_of HT_.out (by kernel_rfl)) (fun _ _ _ h => h) (Or.inr ⟨by rfl, rfl⟩) ?_ ?_
                    rotate_left
                    · simp only [Act.put, List.setIfInBounds_toArray, List.set_cons_zero, List.set_cons_succ, i64_w, i32_w]
                      rfl
                    refine pure_ (i := 10) (N := some 51) (v := undef) (a' := ?_) #[true, true, true, true, true, true, true, true, true, true, true, false, false, false, false, false, false, false, false, false] rfl rfl (any_of HT_.out (by kernel_rfl)) (fun _ _ _ h => h) (Or.inr ⟨by rfl, rfl⟩) ?_ ?_
                    rotate_left
                    · simp only [Act.put, List.setIfInBounds_toArray, List.set_cons_zero, List.set_cons_succ, i64_w, i32_w]
                      rfl
                    refine pure_ (i := 11) (N := some 52) (v := undef) (a' := ?_) #[true, true, true, true, true, true, true, true, true, true, true, true, false, false, false, false, false, false, false, false] rfl rfl (any_of HT_.out (by kernel_rfl)) (fun _ _ _ h => h) (Or.inr ⟨by rfl, rfl⟩) ?_ ?_
                    rotate_left
                    · simp only [Act.put, List.setIfInBounds_toArray, List.set_cons_zero, List.set_cons_succ, i64_w, i32_w]
                      rfl
                    refine pure_ (i := 12) (N := some 53) (v := undef) (a' := ?_) #[true, true, true, true, true, true, true, true, true, true, true, true, true, false, false, false, false, false, false, false] rfl rfl (any_of HT_.out (by kernel_rfl)) (fun _ _ _ h => h) (Or.inr ⟨by rfl, rfl⟩) ?_ ?_
                    rotate_left
                    · simp only [Act.put, List.setIfInBounds_toArray, List.set_cons_zero, List.set_cons_succ, i64_w, i32_w]
                      rfl
                    refine pure_ (i := 13) (N := some 54) (v := undef) (a' := ?_) #[true, true, true, true, true, true, true, true, true, true, true, true, true, true, false, false, false, false, false, false] rfl rfl (any_of HT_.out (by kernel_rfl)) (fun _ _ _ h => h) (Or.inr ⟨by rfl, rfl⟩) ?_ ?_
                    rotate_left
                    · simp only [Act.put, List.setIfInBounds_toArray, List.set_cons_zero, List.set_cons_succ, i64_w, i32_w]
                      rfl
                    refine pure_ (i := 14) (N := some 55) (v := undef) (a' := ?_) #[true, true, true, true, true, true, true, true, true, true, true, true, true, true, true, false, false, false, false, false] rfl rfl (any_of HT_.out (by kernel_rfl)) (fun _ _ _ h => h) (Or.inr ⟨by rfl, rfl⟩) ?_ ?_
                    rotate_left
                    · simp only [Act.put, List.setIfInBounds_toArray, List.set_cons_zero, List.set_cons_succ, i64_w, i32_w]
                      rfl
                    refine pure_ (i := 15) (N := some 56) (v := undef) (a' := ?_) #[true, true, true, true, true, true, true, true, true, true, true, true, true, true, true, true, false, false, false, false] rfl rfl (any_of HT_.out (by kernel_rfl)) (fun _ _ _ h => h) (Or.inr ⟨by rfl, rfl⟩) ?_ ?_
                    rotate_left
                    · simp only [Act.put, List.setIfInBounds_toArray, List.set_cons_zero, List.set_cons_succ, i64_w, i32_w]
                      rfl
                    refine pure_ (i := 16) (N := some 57) (v := undef) (a' := ?_) #[true, true, true, true, true, true, true, true, true, true, true, true, true, true, true, true, true, false, false, false] rfl rfl (any_of HT_.out (by kernel_rfl)) (fun _ _ _ h => h) (Or.inr ⟨by rfl, rfl⟩) ?_ ?_
                    rotate_left
                    · simp only [Act.put, List.setIfInBounds_toArray, List.set_cons_zero, List.set_cons_succ, i64_w, i32_w]
                      rfl
                    refine pure_ (i := 17) (N := some 58) (v := undef) (a' := ?_) #[true, true, true, true, true, true, true, true, true, true, true, true, true, true, true, true, true, true, false, false] rfl rfl (any_of HT_.out (by kernel_rfl)) (fun _ _ _ h => h) (Or.inr ⟨by rfl, rfl⟩) ?_ ?_
                    rotate_left
                    · simp only [Act.put, List.setIfInBounds_toArray, List.set_cons_zero, List.set_cons_succ, i64_w, i32_w]
                      rfl
                    refine pure_ (i := 18) (N := some 59) (v := undef) (a' := ?_) #[true, true, true, true, true, true, true, true, true, true, true, true, true, true, true, true, true, true, true, false] rfl rfl (any_of HT_.out (by kernel_rfl)) (fun _ _ _ h => h) (Or.inr ⟨by rfl, rfl⟩) ?_ ?_
                    rotate_left
                    · simp only [Act.put, List.setIfInBounds_toArray, List.set_cons_zero, List.set_cons_succ, i64_w, i32_w]
                      rfl
                    refine pure_ (i := 19) (N := some 60) (v := ?_) (a' := ?_) #[true, true, true, true, true, true, true, true, true, true, true, true, true, true, true, true, true, true, true, true] rfl rfl (any_of HT_.out (by kernel_rfl)) (fun _ _ _ h => h) (Or.inl ⟨by rfl, ?_⟩) ?_ ?_
                    rotate_left
                    · intro w'
                      go_simp
                      with_reducible rfl
                    rotate_left
                    · simp only [Act.put, List.setIfInBounds_toArray, List.set_cons_zero, List.set_cons_succ, i64_w, i32_w]
                      rfl
                    refine done_ (done_of HT_.out (by kernel_rfl)) ?_
                    try go_wp2
                    go_ret
                    exact ⟨by first | rfl | (simp [errW_none, errW_some] <;> rfl) | (simp [*, errW_none, errW_some] <;> rfl), by repeat (first | (with_reducible first | exact HB.out | apply below_alloc | apply pw_below_drewN | apply below_drew1 | refine below_set ?_ GE301.out | refine below_set ?_ GE306.out) | exact HB.out)⟩
                · rw [if_neg c19] at H
                  exact absurd H (by simp)
              · rw [if_neg c18] at H
                exact absurd H (by simp)
            · rw [if_neg c17] at H
              have c17b0 : decide (x36_2 < (l0_1.length : Int)) = false := decide_eq_false c17
              clear c17
              obtain rfl := Option.some.inj H
              go_wp2
              go_ret
              exact ⟨by first | rfl | (simp [errW_none, errW_some] <;> rfl) | (simp [*, errW_none, errW_some] <;> rfl), by repeat (first | (with_reducible first | exact HB.out | apply below_alloc | apply pw_below_drewN | apply below_drew1 | refine below_set ?_ GE301.out) | exact HB.out)⟩
end Go.Proofs.YtkahciadkgjbbaaDoor.QPty
namespace Go.Proofs.YtkahciadkgjbbaaDoor.QPty
open Go.RowKit Go.Proofs.YtkahciadkgjbbaaDoorW.PrintWords Go.Proofs.YtkahciadkgjbbaaDoorW.PrintLast Go.Proofs.YtkahciadkgjbbaaDoorW.PrintMore Gen
set_option linter.unusedVariables false
set_option linter.unusedSimpArgs false
theorem wr_drew {w W : World} {F : Nat → Prop} (h : Wr w F W) : Wr w F W.drew := h.below (below_drew1 (Below.refl _ _))
theorem wr_drewN {w W : World} {F : Nat → Prop} (h : Wr w F W) (n : Nat) : Wr w F (W.drewN n) := h.below (pw_below_drewN (Below.refl _ _) n)
def PS.hear (ev born now : Int) (s : PS) : PS := { s with rg := rhear s.rg ev born now }
def PM.hear1 (now : Int) (m : PM) (x : S42) : PM :=
  if hitS m.sl x.f0.f0 x.f0.f1 then m.upd x.f0.f0 x.f0.f1 (PS.hear x.f1 x.f2 now)
  else if x.f1 = 0 ∨ x.f1 = 1 ∨ x.f1 = 3 then (if 16 ≤ m.sl.length then m.room x.f0.f0 x.f0.f1 else (m.room x.f0.f0 x.f0.f1).upd x.f0.f0 x.f0.f1 (PS.hear x.f1 x.f2 now)) else m
def PM.words (m : PM) (l : List S42) (now : Int) : PM := l.foldl (PM.hear1 now) m
def PM.hear (m : PM) (all : List Int) (words : List S42) (now : Int) : PM := ((m.kinds all now).words words now).tidy
theorem words_take (m : PM) (l : List S42) (now : Int) (k : Nat) (hk : k < l.length) : PM.words m (l.take (k + 1)) now = PM.hear1 now (PM.words m (l.take k) now) l[k] := by
  unfold PM.words
  rw [List.take_succ_eq_append_getElem hk, List.foldl_append]
  rfl
theorem slot_hear (P : Pt) (w : World) (h : PtAt w P) (i : Nat) (hi : i < P.sl.length) {a0 a1 : Int} (hsm : Same P.sl[i] a0 a1) (ev born now : Int) :
    Calls Tryd.prog 31 #[.pointer (some ⟨P.sl[i].rb, 0, none⟩), .int .i64 ev, .int .i64 born, .int .i64 now] w fun x w' => ∃ v, x = .returned (.bool v) ∧ Wr w (fun k => k = P.sl[i].rb) w' ∧ RgAt w' P.sl[i].rb (rhear P.sl[i].rg ev born now) := by
  have hE := h.ent _ (List.getElem_mem hi)
  have hok := h.ok _ (List.getElem_mem hi)
  refine (rhear_calls P.sl[i].rb P.sl[i].rg ev born now w hE.rg hok.2).mono ?_
  rintro x w' ⟨rfl, h1, h2⟩
  exact ⟨_, rfl, h2, h1⟩
theorem heard {w w' : World} {P : Pt} (h : PtAt w P) {i : Nat} (hi : i < P.sl.length) {a0 a1 : Int} (hsm : Same P.sl[i] a0 a1) {ev born now : Int} (hw : Wr w (fun k => k = P.sl[i].rb) w') (hr : RgAt w' P.sl[i].rb (rhear P.sl[i].rg ev born now)) :
    PTurn w P (P.m.upd a0 a1 (PS.hear ev born now)) w' { P with sl := P.sl.set i { P.sl[i] with rg := rhear P.sl[i].rg ev born now } } := by
  have hE := h.ent _ (List.getElem_mem hi)
  have hok := h.ok _ (List.getElem_mem hi)
  exact PTurn.upd h i hi { P.sl[i] with rg := rhear P.sl[i].rg ev born now } rfl rfl rfl rfl ⟨hok.1, rhear_st _ _ _ _ hok.2⟩ (hw.mono (fun k hk => .inr hk)) ⟨blk_kept hE.sl hw.kept (fun e => blk_types hE.sl hE.rg (by decide) e), hr⟩ hsm _ rfl
theorem find_at {w W : World} {P Q : Pt} {m : PM} (T : PTurn w P m W Q) (a0 a1 : Int) :
    Calls Tryd.prog 25 #[.pointer (some ⟨P.pb, 0, none⟩), .agg #[.int .i64 a0, .int .i64 a1]] W fun x w' => Below W.heap.size W w' ∧ ((x = .returned (.pointer none) ∧ hitS m.sl a0 a1 = false) ∨ (hitS m.sl a0 a1 = true ∧ ∃ i, ∃ hi : i < Q.sl.length, Same Q.sl[i] a0 a1 ∧ x = .returned (.pointer (some ⟨Q.sl[i].sb, 0, none⟩)))) := by
  have e : hitS m.sl a0 a1 = hit Q.sl a0 a1 := by rw [← T.m]; exact hit_map T.at_.srt a0 a1
  rw [← T.pb, e]
  rcases Bool.eq_false_or_eq_true (hit Q.sl a0 a1) with hh | hh
  · obtain ⟨hi, hsm⟩ := hit_lt hh
    refine (find_hit Q a0 a1 W T.at_ hh hi).mono ?_
    rintro x w' ⟨rfl, hb⟩
    exact ⟨hb, .inr ⟨hh, _, hi, hsm, rfl⟩⟩
  · refine (find_miss Q a0 a1 W T.at_ hh).mono ?_
    rintro x w' ⟨rfl, hb⟩
    exact ⟨hb, .inl ⟨rfl, hh⟩⟩
theorem room_at {w W : World} {P Q : Pt} {m : PM} (T : PTurn w P m W Q) (a0 a1 : Int) (hno : hitS m.sl a0 a1 = false) :
    Calls Tryd.prog 26 #[.pointer (some ⟨P.pb, 0, none⟩), .agg #[.int .i64 a0, .int .i64 a1]] W fun x w' => ∃ P7, PTurn w P (m.room a0 a1) w' P7 ∧ (∀ (b t : Nat) (cells : Array Value), W.heap[b]? = some (.cells cells t (0, 0)) → (t ≠ 61 ∧ t ≠ 88 ∧ t ≠ 63 ∧ t ≠ 69 ∧ t ≠ 102) → w'.heap[b]? = some (.cells cells t (0, 0))) ∧
      ((x = .returned (.pointer none) ∧ 16 ≤ m.sl.length) ∨ (¬ 16 ≤ m.sl.length ∧ ∃ i, ∃ hi : i < P7.sl.length, Same P7.sl[i] a0 a1 ∧ x = .returned (.pointer (some ⟨P7.sl[i].sb, 0, none⟩)))) := by
  have e : hitS m.sl a0 a1 = hit Q.sl a0 a1 := by rw [← T.m]; exact hit_map T.at_.srt a0 a1
  have hl := T.len
  rw [← T.pb]
  refine (room_calls Q a0 a1 W T.at_).mono ?_
  rintro x w' ⟨P7, T7, hx⟩
  have hm := T7
  rw [T.m] at T7
  refine ⟨P7, T.trans T7, fun b t cells hb ht => hm.blk T.at_ hb ht, ?_⟩
  rcases hx with ⟨rfl, _, h16⟩ | ⟨hor, i, hi, rfl, hsm⟩
  · exact .inl ⟨rfl, by omega⟩
  · refine .inr ⟨?_, i, hi, hsm, rfl⟩
    rcases hor with k | k
    · rw [← e, hno] at k; cases k
    · omega
abbrev Rows (w : World) (F : Nat → Prop) (AA : Option Addr) (all : List Int) (AW : Option Addr) (words : List S42) : Prop := ∀ W, Wr w F W → Kd.C (Kd.int .i64) W AA all.length all ∧ Kd.C k42 W AW words.length words
set_option maxHeartbeats 8000000 in
set_option maxRecDepth 100000 in
theorem hear_good (P : Pt) (now : Int) (AA : Option Addr) (cA : Nat) (all : List Int) (AW : Option Addr) (cW : Nat) (words : List S42) (w : World) (h : PtAt w P) (hr : Rows w P.F AA all AW words) (hcA : all.length ≤ cA) (hcW : words.length ≤ cW) {k : Nat} (hg : mrpdu_Good.f k all words = some true) :
    Calls Tryd.prog 12 #[.pointer (some ⟨P.pb, 0, none⟩), .agg #[.slice AA all.length cA, .slice AW words.length cW], .int .i64 now] w fun x w' => x = .returned (.int .i64 0) ∧ ∃ P', PTurn w P (P.m.hear all words now) w' P' := by
  have mixed : Tryd.prog.follows .mixedOrders = true := by kernel_rfl
  have e29 : ∀ args w, (callFunc 29 args).run Tryd.prog w = .ok (.enter 29 args) w := enters_of Tryd.func29 (by kernel_rfl) rfl
  have e30 : ∀ args w, (callFunc 30 args).run Tryd.prog w = .ok (.enter 30 args) w := enters_of Tryd.func30 (by kernel_rfl) rfl
  have e25 : ∀ args w, (callFunc 25 args).run Tryd.prog w = .ok (.enter 25 args) w := enters_of Tryd.func25 (by kernel_rfl) rfl
  have e26 : ∀ args w, (callFunc 26 args).run Tryd.prog w = .ok (.enter 26 args) w := enters_of Tryd.func26 (by kernel_rfl) rfl
  have e31 : ∀ args w, (callFunc 31 args).run Tryd.prog w = .ok (.enter 31 args) w := enters_of Tryd.func31 (by kernel_rfl) rfl
  have e28 : ∀ args w, (callFunc 28 args).run Tryd.prog w = .ok (.enter 28 args) w := enters_of Tryd.func28 (by kernel_rfl) rfl
  have hu37 := Tryd.underlying37
  have hu42 := Tryd.underlying42
  have hu28 := Tryd.underlying28
  have hmA : all.length ≤ 9223372036854775807 := (hr w (Wr.refl _ _)).1.2.1
  have hmW : words.length ≤ 9223372036854775807 := (hr w (Wr.refl _ _)).2.2.1
  have HR := Aside0.mk hr
  have H := Aside0.mk h
  clear hr h
  go_enter Tryd.func12, Tryd.ntmps12
  go_wp2_with ((with_reducible refine gate_dst (N := 4) rfl ?_); refine box_event ?hg (N := 4) ?hd (cs := #[.slice AA all.length cA, .slice AW words.length cW]) (t := 37) ?hr ?_; (case hd => rfl); (case hg => rfl); (case hr => first | (go_simp; done) | (go_simp; rfl)); intro b4 hg w1 hbox hb; have HB := Aside0.mk hb; have BX := Aside0.mk hbox; have hb0 : w1.cell? ⟨b4, 0, none⟩ = some (.slice AA all.length cA) := (blk_cell hbox 0).trans rfl; have hb1 : w1.cell? ⟨b4, 1, none⟩ = some (.slice AW words.length cW) := (blk_cell hbox 1).trans rfl; clear hb hbox hg)
  go_step3
  go_wp2_with (go_at_fn 29; refine (mrpdu_Good.calls k AA cA all AW cW words true _ (HR.out _ (Wr.of_below HB.out _)).1 hcA (HR.out _ (Wr.of_below HB.out _)).2 hcW hg).mono ?_; rintro x w2 ⟨rfl, hb2⟩; have HB2 := Aside0.mk (below_step HB.out hb2); have BX2 := Aside0.mk (blk_below BX.out hb2); have hb20 : w2.cell? ⟨b4, 0, none⟩ = some (.slice AA all.length cA) := (blk_cell BX2.out 0).trans rfl; clear hb2 hb0 hb1)
  have T0 := Aside0.mk (PTurn.of_below H.out HB2.out)
  go_loopg [8, 22] all.length (fun gg _ s22 wr => ∃ kk : Nat, kk ≤ all.length ∧ all.length - kk ≤ gg ∧ s22 = .int .i64 kk ∧ ∃ Pk, Aside0 (PTurn w P (PM.kinds P.m (all.take kk) now) wr Pk) ∧ Aside0 (wr.heap[b4]? = some (.cells #[.slice AA all.length cA, .slice AW words.length cW] 37 (0, 0))))
  case atStart => exact ⟨0, Nat.zero_le _, by omega, rfl, P, T0, BX2⟩
  case round =>
    clear T0 BX2
    obtain ⟨kk, hkk, hg, rfl, Pk, TK, X4⟩ := hrel
    by_cases hlt : kk < all.length
    · have hltz : (kk : Int) < (all.length : Int) := by omega
      obtain ⟨ad, e, hx0⟩ := CI_at (HR.out _ TK.out.wr).1 kk hlt
      subst e
      have HKT := Aside0.mk (kinds_take P.m all now kk hlt)
      generalize all[kk] = kd at *
      go_wp2_with fail
      go_at_fn 30
      refine (all_at TK.out kd now).mono ?_
      rintro x w5 ⟨rfl, P5, hk5, hi5, T5⟩
      rw [← HKT.out] at T5
      have T5' := Aside0.mk T5
      have X45 := Aside0.mk (hk5 _ _ _ X4.out (by decide))
      clear T5 hk5 hi5
      go_wp2
      go_roundg (all.length - (kk + 1))
      case measure => omega
      case rel => exact ⟨kk + 1, by omega, by omega, by go_num, P5, T5', X45⟩
    · have e : kk = all.length := by omega
      subst e
      rw [List.take_of_length_le (Nat.le_refl _)] at TK
      have hb1 : wr.cell? ⟨b4, 1, none⟩ = some (.slice AW words.length cW) := (blk_cell X4.out 1).trans rfl
      go_wp2
      go_step3
      go_wp2
      go_loopg [10, 11, 34] words.length (fun gg _ _ s34 wr => ∃ kk : Nat, kk ≤ words.length ∧ words.length - kk ≤ gg ∧ s34 = .int .i64 kk ∧ ∃ Pk, Aside0 (PTurn w P (PM.words (PM.kinds P.m all now) (words.take kk) now) wr Pk))
      case atStart => exact ⟨0, Nat.zero_le _, by omega, rfl, Pk, TK⟩
      case round =>
        clear TK X4 hb1
        obtain ⟨kk, hkk, hg, rfl, Pk, TK⟩ := hrel
        by_cases hlt : kk < words.length
        · have hltz : (kk : Int) < (words.length : Int) := by omega
          obtain ⟨ad, e, hx0, hx1, hx2, hx3⟩ := at_T42 (HR.out _ TK.out.wr).2 kk (by omega) (by omega)
          have erd : rd_T42 words (kk : Int) = words[kk] := by unfold rd_T42; rw [Int.toNat_natCast, List.getD_eq_getElem?_getD, List.getElem?_eq_getElem hlt]; rfl
          rw [erd] at hx0 hx1 hx2 hx3
          rw [Int.toNat_natCast] at hx0 hx1 hx2 hx3
          subst e
          have HKT := Aside0.mk (words_take (PM.kinds P.m all now) words now kk hlt)
          clear erd
          generalize words[kk] = x at *
          generalize PM.words (PM.kinds P.m all now) (words.take kk) now = mk at *
          obtain ⟨⟨a0, a1⟩, ev, bo⟩ := x
          dsimp only at hx0 hx1 hx2 hx3
          go_wp2_with ((with_reducible refine gate_dst (N := 10) rfl ?_); refine box_event ?hg (N := 10) ?hd (cs := #[.int .i64 0, .int .i64 0, .int .i64 0, .int .i64 0]) (t := 42) ?hr ?_; (case hd => rfl); (case hg => rfl); (case hr => first | (go_simp; done) | (go_simp; rfl)); intro b10 hg w2 hbox hb; have HG := Aside0.mk hg; have BX10 := Aside0.mk hbox; have HB9 := Aside0.mk hb; have hz0 : w2.cell? ⟨b10, 0, none⟩ = some (.int .i64 0) := (blk_cell hbox 0).trans rfl; have hz1 : w2.cell? ⟨b10, 1, none⟩ = some (.int .i64 0) := (blk_cell hbox 1).trans rfl; have hz2 : w2.cell? ⟨b10, 2, none⟩ = some (.int .i64 0) := (blk_cell hbox 2).trans rfl; have hz3 : w2.cell? ⟨b10, 3, none⟩ = some (.int .i64 0) := (blk_cell hbox 3).trans rfl; have hf0 := blk_frozen hbox 0; have hf1 := blk_frozen hbox 1; have hf2 := blk_frozen hbox 2; have hf3 := blk_frozen hbox 3; clear hb hbox hg)
          obtain ⟨w3, hw3⟩ : ∃ w3, w3 = (((w2.setCell ⟨b10, 0, none⟩ (.int .i64 a0)).setCell ⟨b10, 1, none⟩ (.int .i64 a1)).setCell ⟨b10, 2, none⟩ (.int .i64 ev)).setCell ⟨b10, 3, none⟩ (.int .i64 bo) := ⟨_, rfl⟩
          rw [← hw3]
          have hgb : wr.heap.size ≤ b10 := by rw [HG.out]; exact Nat.le_refl _
          have T3 := Aside0.mk (show PTurn w P mk w3 Pk from TK.out.below (by rw [hw3]; exact below_set (below_set (below_set (below_set HB9.out hgb) hgb) hgb) hgb))
          have X3 := Aside0.mk (show w3.heap[b10]? = some (.cells #[.int .i64 a0, .int .i64 a1, .int .i64 ev, .int .i64 bo] 42 (0, 0)) by rw [hw3]; exact blk_put (blk_put (blk_put (blk_put BX10.out 0 _ rfl) 1 _ rfl) 2 _ rfl) 3 _ rfl)
          clear hw3 hz0 hz1 hz2 hz3 hf0 hf1 hf2 hf3 hx0 hx1 hx2 hx3 TK hgb
          go_at_fn 25
          refine (find_at T3.out a0 a1).mono ?_
          rintro x w4 ⟨hb4, ⟨rfl, hno⟩ | ⟨hyes, i, hi, hsm, rfl⟩⟩
          · have T4 := Aside0.mk (T3.out.below hb4)
            have X4 := Aside0.mk (blk_below X3.out hb4)
            clear hb4 T3 X3
            have hd0 : w4.cell? ⟨b10, 0, none⟩ = some (.int .i64 a0) := (blk_cell X4.out 0).trans rfl
            have hd1 : w4.cell? ⟨b10, 1, none⟩ = some (.int .i64 a1) := (blk_cell X4.out 1).trans rfl
            have hd2 : w4.cell? ⟨b10, 2, none⟩ = some (.int .i64 ev) := (blk_cell X4.out 2).trans rfl
            by_cases hev : ev = 0 ∨ ev = 1 ∨ ev = 3
            · have HEV9 := Aside0.mk hev
              rcases hev with hev | hev | hev
              all_goals
                first
                  | (have q0 : (ev == 0) = true := (by rw [hev]; decide); clear hev)
                  | (have q0 : (ev == 0) = false := (by rw [hev]; decide); have q1 : (ev == 1) = true := (by rw [hev]; decide); clear hev)
                  | (have q0 : (ev == 0) = false := (by rw [hev]; decide); have q1 : (ev == 1) = false := (by rw [hev]; decide); have q3 : (ev == 3) = true := (by rw [hev]; decide); clear hev)
                go_wp2_with fail
                go_at_fn 26
                refine (room_at T4.out a0 a1 hno).mono ?_
                rintro x w5 ⟨P7, T7, hk7, ⟨rfl, h16⟩ | ⟨h16, i, hi, hsm, rfl⟩⟩
                · have T7' := Aside0.mk T7
                  clear T7 hk7
                  go_wp2
                  go_roundg (words.length - (kk + 1))
                  case measure => omega
                  case rel => exact ⟨kk + 1, by omega, by omega, by go_num, _, ⟨by rw [HKT.out]; unfold PM.hear1; rw [if_neg (by rw [hno]; decide), if_pos HEV9.out, if_pos h16]; exact T7'.out⟩⟩
                · have T7' := Aside0.mk T7
                  have X7 := Aside0.mk (hk7 _ _ _ X4.out (by decide))
                  have hcalc : ∀ e9 : Int, (e9 = 0 ∨ e9 = 1 ∨ e9 = 3) → PM.hear1 now mk ⟨⟨a0, a1⟩, e9, bo⟩ = (mk.room a0 a1).upd a0 a1 (PS.hear e9 bo now) := fun e9 he => by unfold PM.hear1; rw [if_neg (by rw [hno]; decide), if_pos he, if_neg h16]
                  have HCL := Aside0.mk hcalc
                  clear T7 hk7 hcalc hd0 hd1 hd2
                  have HE9 := Aside0.mk (T7'.out.at_.ent _ (List.getElem_mem hi))
                  have HSL := Aside0.mk (fun W (hb : Below w5.heap.size w5 W) => slot_hear P7 W (T7'.out.at_.below hb) i hi hsm ev bo now)
                  have HHD := Aside0.mk (fun W hw hr => T7'.out.trans (heard (w' := W) T7'.out.at_ hi hsm (ev := ev) (born := bo) (now := now) hw hr))
                  rw [T7'.out.m] at HHD
                  generalize hyy : P7.sl[i] = y at *
                  have HC2 := Aside0.mk (fun W (hw : Wr w5 (fun k => k = y.rb) W) => hw.cell (show w5.cell? ⟨y.sb, 2, none⟩ = some (.pointer (some ⟨y.rb, 0, none⟩)) from (blk_cell HE9.out.sl 2).trans rfl) (fun q => absurd q (blk_types HE9.out.sl HE9.out.rg (by decide))))
                  have HC3 := Aside0.mk (fun W (hw : Wr w5 (fun k => k = y.rb) W) => hw.cell (show w5.cell? ⟨b10, 2, none⟩ = some (.int .i64 ev) from (blk_cell X7.out 2).trans rfl) (fun q => absurd q (blk_types X7.out HE9.out.rg (by decide))))
                  have HC4 := Aside0.mk (fun W (hw : Wr w5 (fun k => k = y.rb) W) => hw.cell (show w5.cell? ⟨b10, 3, none⟩ = some (.int .i64 bo) from (blk_cell X7.out 3).trans rfl) (fun q => absurd q (blk_types X7.out HE9.out.rg (by decide))))
                  have hc2 := HC2.out w5 (Wr.refl _ _)
                  have hc3 := HC3.out w5 (Wr.refl _ _)
                  have hc4 := HC4.out w5 (Wr.refl _ _)
                  clear hyy hsm hi
                  go_wp2_with fail
                  go_region_held3 (fun W => W.cell? ⟨y.sb, 2, none⟩ = some (.pointer (some ⟨y.rb, 0, none⟩)) ∧ W.cell? ⟨b10, 2, none⟩ = some (.int .i64 ev) ∧ W.cell? ⟨b10, 3, none⟩ = some (.int .i64 bo) ∧ Wr w5 (fun k => k = y.rb) W) (first | exact ⟨HC2.out _ (by repeat (with_reducible first | assumption | exact Wr.refl _ _ | apply wr_drew | apply wr_drewN)), HC3.out _ (by repeat (with_reducible first | assumption | exact Wr.refl _ _ | apply wr_drew | apply wr_drewN)), HC4.out _ (by repeat (with_reducible first | assumption | exact Wr.refl _ _ | apply wr_drew | apply wr_drewN)), (by repeat (with_reducible first | assumption | exact Wr.refl _ _ | apply wr_drew | apply wr_drewN))⟩)
                    (first | (go_at_call 31; with_reducible refine (HSL.out _ (by repeat (with_reducible first | assumption | exact Below.refl _ _ | apply pw_below_drewN | apply below_drew1))).mono ?_; rintro x w9 ⟨v9, rfl, hw9, hr9⟩; replace hw9 := (Wr.of_below (show Below w5.heap.size w5 _ from (by repeat (with_reducible first | assumption | exact Below.refl _ _ | apply pw_below_drewN | apply below_drew1))) (fun k => k = y.rb)).then_ hw9; have HR9 := Aside0.mk hr9; clear hr9))
                  all_goals
                    rename_i hS9
                    have HT9 := Aside0.mk (HHD.out _ hS9.2.2.2 HR9.out)
                    clear hS9
                    go_wp2
                    go_roundg (words.length - (kk + 1))
                    case measure => omega
                    case rel => exact ⟨kk + 1, by omega, by omega, by go_num, _, ⟨by rw [HKT.out, HCL.out _ HEV9.out]; exact HT9.out⟩⟩
            · have hn0 : (ev == 0) = false := by simp only [beq_eq_false_iff_ne, ne_eq]; omega
              have hn1 : (ev == 1) = false := by simp only [beq_eq_false_iff_ne, ne_eq]; omega
              have hn3 : (ev == 3) = false := by simp only [beq_eq_false_iff_ne, ne_eq]; omega
              have hm0 : ¬ ev = 0 := by omega
              have hm1 : ¬ ev = 1 := by omega
              have hm3 : ¬ ev = 3 := by omega
              go_wp2
              go_roundg (words.length - (kk + 1))
              case measure => omega
              case rel => exact ⟨kk + 1, by omega, by omega, by go_num, _, ⟨by rw [HKT.out]; unfold PM.hear1; rw [if_neg (by rw [hno]; decide), if_neg hev]; exact T4.out⟩⟩
          · have T4 := Aside0.mk (T3.out.below hb4)
            have X4 := Aside0.mk (blk_below X3.out hb4)
            have hcalc : PM.hear1 now mk ⟨⟨a0, a1⟩, ev, bo⟩ = mk.upd a0 a1 (PS.hear ev bo now) := by unfold PM.hear1; rw [if_pos hyes]
            have HCL := Aside0.mk hcalc
            clear hb4 T3 X3 hcalc
            have HE9 := Aside0.mk (T4.out.at_.ent _ (List.getElem_mem hi))
            have HSL := Aside0.mk (fun W (hb : Below w4.heap.size w4 W) => slot_hear Pk W (T4.out.at_.below hb) i hi hsm ev bo now)
            have HHD := Aside0.mk (fun W hw hr => T4.out.trans (heard (w' := W) T4.out.at_ hi hsm (ev := ev) (born := bo) (now := now) hw hr))
            rw [T4.out.m] at HHD
            generalize hyy : Pk.sl[i] = y at *
            have HC2 := Aside0.mk (fun W (hw : Wr w4 (fun k => k = y.rb) W) => hw.cell (show w4.cell? ⟨y.sb, 2, none⟩ = some (.pointer (some ⟨y.rb, 0, none⟩)) from (blk_cell HE9.out.sl 2).trans rfl) (fun q => absurd q (blk_types HE9.out.sl HE9.out.rg (by decide))))
            have HC3 := Aside0.mk (fun W (hw : Wr w4 (fun k => k = y.rb) W) => hw.cell (show w4.cell? ⟨b10, 2, none⟩ = some (.int .i64 ev) from (blk_cell X4.out 2).trans rfl) (fun q => absurd q (blk_types X4.out HE9.out.rg (by decide))))
            have HC4 := Aside0.mk (fun W (hw : Wr w4 (fun k => k = y.rb) W) => hw.cell (show w4.cell? ⟨b10, 3, none⟩ = some (.int .i64 bo) from (blk_cell X4.out 3).trans rfl) (fun q => absurd q (blk_types X4.out HE9.out.rg (by decide))))
            have hc2 := HC2.out w4 (Wr.refl _ _)
            have hc3 := HC3.out w4 (Wr.refl _ _)
            have hc4 := HC4.out w4 (Wr.refl _ _)
            clear hyy hsm hi
            go_wp2_with fail
            go_region_held3 (fun W => W.cell? ⟨y.sb, 2, none⟩ = some (.pointer (some ⟨y.rb, 0, none⟩)) ∧ W.cell? ⟨b10, 2, none⟩ = some (.int .i64 ev) ∧ W.cell? ⟨b10, 3, none⟩ = some (.int .i64 bo) ∧ Wr w4 (fun k => k = y.rb) W) (first | exact ⟨HC2.out _ (by repeat (with_reducible first | assumption | exact Wr.refl _ _ | apply wr_drew | apply wr_drewN)), HC3.out _ (by repeat (with_reducible first | assumption | exact Wr.refl _ _ | apply wr_drew | apply wr_drewN)), HC4.out _ (by repeat (with_reducible first | assumption | exact Wr.refl _ _ | apply wr_drew | apply wr_drewN)), (by repeat (with_reducible first | assumption | exact Wr.refl _ _ | apply wr_drew | apply wr_drewN))⟩)
              (first | (go_at_call 31; with_reducible refine (HSL.out _ (by repeat (with_reducible first | assumption | exact Below.refl _ _ | apply pw_below_drewN | apply below_drew1))).mono ?_; rintro x w9 ⟨v9, rfl, hw9, hr9⟩; replace hw9 := (Wr.of_below (show Below w4.heap.size w4 _ from (by repeat (with_reducible first | assumption | exact Below.refl _ _ | apply pw_below_drewN | apply below_drew1))) (fun k => k = y.rb)).then_ hw9; have HR9 := Aside0.mk hr9; clear hr9))
            all_goals
              rename_i hS9
              have HT9 := Aside0.mk (HHD.out _ hS9.2.2.2 HR9.out)
              clear hS9
              go_wp2
              go_roundg (words.length - (kk + 1))
              case measure => omega
              case rel => exact ⟨kk + 1, by omega, by omega, by go_num, _, ⟨by rw [HKT.out, HCL.out]; exact HT9.out⟩⟩
        · have e : kk = words.length := by omega
          subst e
          rw [List.take_of_length_le (Nat.le_refl _)] at TK
          go_wp2_with fail
          go_at_fn 28
          refine (tidy_at TK.out).mono ?_
          rintro x w7 ⟨rfl, P7, _, _, _, T7⟩
          have T7' := Aside0.mk T7
          clear T7
          go_wp2
          try rw [Exit.noGoto_ret]
          go_ret
          exact ⟨rfl, _, T7'.out⟩
end Go.Proofs.YtkahciadkgjbbaaDoor.QPty
namespace Go.Proofs.YtkahciadkgjbbaaDoor.QPty
open Go.RowKit Go.Proofs.YtkahciadkgjbbaaDoorW.PrintWords Go.Proofs.YtkahciadkgjbbaaDoorW.PrintLast Go.Proofs.YtkahciadkgjbbaaDoorW.PrintMore Gen
set_option linter.unusedVariables false
set_option linter.unusedSimpArgs false
def Keep (W W' : World) : Prop := ∀ (b t : Nat) (cells : Array Value), W.heap[b]? = some (.cells cells t (0, 0)) → (t ≠ 61 ∧ t ≠ 88 ∧ t ≠ 63 ∧ t ≠ 69 ∧ t ≠ 102) → W'.heap[b]? = some (.cells cells t (0, 0))
theorem Keep.below {W W' : World} (hb : Below W.heap.size W W') : Keep W W' := fun b t cells h _ => blk_below h hb
theorem Keep.trans {W W' W2 : World} (a : Keep W W') (b : Keep W' W2) : Keep W W2 := fun k t cells h ht => b k t cells (a k t cells h ht) ht
theorem Keep.turn {W W' : World} {P P' : Pt} {m : PM} (h : PtAt W P) (T : PTurn W P m W' P') : Keep W W' := fun b t cells hb ht => T.blk h hb ht
theorem Keep.rowI {W W' : World} (hk : Keep W W') {base : Nat} {u : Value} {l : List Int} (hr : Kd.R (Kd.int .i64) 3 W base (fun _ => True) u l) : Kd.R (Kd.int .i64) 3 W' base (fun _ => True) u l :=
  Kd.R_reok rfl (Kd.R_step (Kd.R_tight rfl hr) (fun k hk' hlt => by obtain ⟨c, hc⟩ := typed_int hr k hk'.symm; rw [hk k 3 c hc (by decide), hc])) hr.1
theorem Keep.rowW {W W' : World} (hk : Keep W W') {base : Nat} {u : Value} {l : List S42} (hr : Kd.R k42 42 W base (fun _ => True) u l) : Kd.R k42 42 W' base (fun _ => True) u l :=
  Kd.R_reok rfl (Kd.R_step (Kd.R_tight rfl hr) (fun k hk' hlt => by obtain ⟨c, hc⟩ := typed_wd hr k hk'.symm; rw [hk k 42 c hc (by decide), hc])) hr.1
def Duo (w0 : World) (pa qb : Nat) (W : World) (A B : PM) : Prop := ∃ P Q, PtAt W P ∧ PtAt W Q ∧ P.pb = pa ∧ Q.pb = qb ∧ P.m = A ∧ Q.m = B ∧ (∀ k, P.F k → ¬ Q.F k) ∧ (∀ k, P.F k → w0.heap.size ≤ k) ∧ (∀ k, Q.F k → w0.heap.size ≤ k) ∧ Below w0.heap.size w0 W ∧ EV W ∧ 0 < w0.heap.size
section
variable {w0 W W' : World} {pa qb : Nat} {A B : PM}
theorem Duo.symm (D : Duo w0 pa qb W A B) : Duo w0 qb pa W B A := by
  obtain ⟨P, Q, a, b, c, d, e, f, g, h, i, j, k, l⟩ := D
  exact ⟨Q, P, b, a, d, c, f, e, fun q h1 h2 => g q h2 h1, i, h, j, k, l⟩
theorem Duo.bel (D : Duo w0 pa qb W A B) : Below w0.heap.size w0 W := by obtain ⟨P, Q, a, b, c, d, e, f, g, h, i, j, k, l⟩ := D; exact j
theorem Duo.below (D : Duo w0 pa qb W A B) (hb : Below W.heap.size W W') : Duo w0 pa qb W' A B := by
  obtain ⟨P, Q, a, b, c, d, e, f, g, h, i, j, k, l⟩ := D
  exact ⟨P, Q, a.below hb, b.below hb, c, d, e, f, g, h, i, below_step j hb, k.below hb, l⟩
theorem Duo.turn {P Q P' : Pt} {m : PM} (a : PtAt W P) (b : PtAt W Q) (c : P.pb = pa) (d : Q.pb = qb) (f : Q.m = B) (g : ∀ k, P.F k → ¬ Q.F k) (h : ∀ k, P.F k → w0.heap.size ≤ k) (i : ∀ k, Q.F k → w0.heap.size ≤ k) (j : Below w0.heap.size w0 W) (k : EV W) (l : 0 < w0.heap.size) (T : PTurn W P m W' P') : Duo w0 pa qb W' m B := by
  refine ⟨P', Q, T.at_, b.other a T.wr (fun q h1 h2 => g q h2 h1), T.pb.trans c, d, T.m, f, fun q h1 h2 => ?_, fun q h1 => ?_, i, T.wr.low j j.size h, k.wr T.wr (fun q => absurd (h 0 q) (by omega)), l⟩
  · rcases T.own q h1 with h3 | h3
    · exact g q h3 h2
    · have := b.F_lt q h2; omega
  · rcases T.own q h1 with h3 | h3
    · exact h q h3
    · exact Nat.le_trans j.size h3
theorem duo_want (D : Duo w0 pa qb W A B) (a0 a1 born : Int) (new : Bool) :
    Calls Tryd.prog 10 #[.pointer (some ⟨pa, 0, none⟩), .agg #[.int .i64 a0, .int .i64 a1], .int .i64 born, .bool new] W fun x w' => x = .returned (.int .i64 (wantRes A a0 a1 born)) ∧ Duo w0 pa qb w' (A.want a0 a1 born new) B ∧ Keep W w' := by
  obtain ⟨P, Q, a, b, rfl, d, rfl, f, g, h, i, j, k, l⟩ := D
  refine (want_calls P a0 a1 born new W a).mono ?_
  rintro x w' ⟨rfl, P', T⟩
  exact ⟨rfl, Duo.turn a b rfl d f g h i j k l T, Keep.turn a T⟩
theorem duo_tick (D : Duo w0 pa qb W A B) (n : Nat) :
    Calls Tryd.prog 13 #[.pointer (some ⟨pa, 0, none⟩), .int .i64 n] W fun x w' => ∃ AA cA AW cW, x = .returned (.tuple #[.agg #[.slice AA (A.msgAll n).length cA, .slice AW (A.msgWords n).length cW], .bool (decide (0 < (A.msgAll n).length + (A.msgWords n).length))]) ∧
      Kd.R (Kd.int .i64) 3 w' 0 (fun _ => True) (.slice AA (A.msgAll n).length cA) (A.msgAll n) ∧ Kd.R k42 42 w' 0 (fun _ => True) (.slice AW (A.msgWords n).length cW) (A.msgWords n) ∧ Duo w0 pa qb w' (A.tick n) B ∧ Keep W w' := by
  obtain ⟨P, Q, a, b, rfl, d, rfl, f, g, h, i, j, k, l⟩ := D
  refine (tick_calls P n W a k (fun q => absurd (h 0 q) (by omega))).mono ?_
  rintro x w' ⟨vA, vW, P', all, words, rfl, rfl, rfl, hra, hrw, T⟩
  obtain ⟨AA, cA, rfl⟩ := Kd.R_slice hra
  obtain ⟨AW, cW, rfl⟩ := Kd.R_slice hrw
  exact ⟨AA, cA, AW, cW, rfl, Kd.R_lower hra (Nat.zero_le _), Kd.R_lower hrw (Nat.zero_le _), Duo.turn a b rfl d f g h i j k l T, Keep.turn a T⟩
theorem duo_hear (D : Duo w0 pa qb W A B) (now : Int) {AA : Option Addr} {cA : Nat} {all : List Int} {AW : Option Addr} {cW : Nat} {words : List S42} (hra : Kd.R (Kd.int .i64) 3 W 0 (fun _ => True) (.slice AA all.length cA) all) (hrw : Kd.R k42 42 W 0 (fun _ => True) (.slice AW words.length cW) words) {k : Nat} (hg : mrpdu_Good.f k all words = some true) :
    Calls Tryd.prog 12 #[.pointer (some ⟨pa, 0, none⟩), .agg #[.slice AA all.length cA, .slice AW words.length cW], .int .i64 now] W fun x w' => x = .returned (.int .i64 0) ∧ Duo w0 pa qb w' (A.hear all words now) B ∧ Keep W w' := by
  obtain ⟨P, Q, a, b, rfl, d, rfl, f, g, h, i, j, k2, l⟩ := D
  have hrows : Rows W P.F AA all AW words := fun W2 hw => by
    have hI := R_kept rfl hra hw.kept (fun q hq => by obtain ⟨c, hc⟩ := typed_int hra q hq; exact a.not_F hc (by decide))
    have hJ := R_kept rfl hrw hw.kept (fun q hq => by obtain ⟨c, hc⟩ := typed_wd hrw q hq; exact a.not_F hc (by decide))
    exact ⟨(Kd.R_reads' hI).2.2, (Kd.R_reads' hJ).2.2⟩
  refine (hear_good P now AA cA all AW cW words W a hrows (Kd.R_reads' hra).2.1 (Kd.R_reads' hrw).2.1 hg).mono ?_
  rintro x w' ⟨rfl, P', T⟩
  exact ⟨rfl, Duo.turn a b rfl d f g h i j k2 l T, Keep.turn a T⟩
theorem duo_has (D : Duo w0 pa qb W A B) (a0 a1 : Int) :
    Calls Tryd.prog 15 #[.pointer (some ⟨pa, 0, none⟩), .agg #[.int .i64 a0, .int .i64 a1]] W fun x w' => x = .returned (.bool (A.hasA a0 a1)) ∧ Below W.heap.size W w' := by
  obtain ⟨P, Q, a, b, rfl, d, rfl, f, g, h, i, j, k, l⟩ := D
  exact hasP_calls P a0 a1 W a
theorem duo_new {w : World} (hev : EV w) {P : Pt} (hb : Below w.heap.size w W) (hp : PtAt W P) (hF : ∀ k, P.F k → w.heap.size ≤ k) {Q : Pt} (hb2 : Below W.heap.size W W') (hq : PtAt W' Q) (hF2 : ∀ k, Q.F k → W.heap.size ≤ k) : Duo w P.pb Q.pb W' P.m Q.m :=
  ⟨P, Q, hp.below hb2, hq, rfl, rfl, rfl, rfl, fun k h1 h2 => by have h3 := hp.F_lt k h1; have h4 := hF2 k h2; omega, hF, fun k hk => Nat.le_trans hb.size (hF2 k hk), below_step hb hb2, (hev.below hb).below hb2, hev.lt⟩
end
end Go.Proofs.YtkahciadkgjbbaaDoor.QPty
namespace Go.Proofs.YtkahciadkgjbbaaDoor.QPty
open Go.RowKit Go.Proofs.YtkahciadkgjbbaaDoorW.PrintWords Go.Proofs.YtkahciadkgjbbaaDoorW.PrintLast Go.Proofs.YtkahciadkgjbbaaDoorW.PrintMore Gen
set_option linter.unusedVariables false
set_option linter.unusedSimpArgs false
def roundA (a0 a1 : Int) (born : Bool) (n : Nat) (A : PM) : PM := if born then A.want a0 a1 n false else A
def roundB (a0 a1 : Int) (born : Bool) (n : Nat) (A B : PM) : PM := if 0 < ((roundA a0 a1 born n A).msgAll n).length + ((roundA a0 a1 born n A).msgWords n).length then B.hear ((roundA a0 a1 born n A).msgAll n) ((roundA a0 a1 born n A).msgWords n) n else B
def roundC (a0 a1 : Int) (born : Bool) (n : Nat) (A B : PM) : PM := if 0 < ((roundB a0 a1 born n A B).msgAll n).length + ((roundB a0 a1 born n A B).msgWords n).length then ((roundA a0 a1 born n A).tick n).hear ((roundB a0 a1 born n A B).msgAll n) ((roundB a0 a1 born n A B).msgWords n) n else (roundA a0 a1 born n A).tick n
def round (a0 a1 : Int) (born : Bool) (n : Nat) (A B : PM) : PM × PM := (roundC a0 a1 born n A B, (roundB a0 a1 born n A B).tick n)
def roundOk (a0 a1 : Int) (born : Bool) (af n : Nat) (A B : PM) : Prop :=
  (0 < ((roundA a0 a1 born n A).msgAll n).length + ((roundA a0 a1 born n A).msgWords n).length → ∃ k, mrpdu_Good.f k ((roundA a0 a1 born n A).msgAll n) ((roundA a0 a1 born n A).msgWords n) = some true) ∧
  (0 < ((roundB a0 a1 born n A B).msgAll n).length + ((roundB a0 a1 born n A B).msgWords n).length → ∃ k, mrpdu_Good.f k ((roundB a0 a1 born n A B).msgAll n) ((roundB a0 a1 born n A B).msgWords n) = some true) ∧
  (af ≤ n → ((roundB a0 a1 born n A B).tick n).hasA a0 a1 = born)
set_option maxHeartbeats 8000000 in
set_option maxRecDepth 100000 in
theorem talk_true (w0 : World) (pa qb : Nat) (I : Nat → PM → PM → Prop) (fr tt af : Nat) (a0 a1 : Int) (hstep : ∀ k A B, fr ≤ k → k < tt → I k A B → roundOk a0 a1 true af (k + 1) A B ∧ I (k + 1) (round a0 a1 true (k + 1) A B).1 (round a0 a1 true (k + 1) A B).2) (hft : fr ≤ tt) (hto : tt ≤ 100000) (A B : PM) (h0 : I fr A B) (W : World) (hD : Duo w0 pa qb W A B) :
    Calls Tryd.prog 8 #[.pointer (some ⟨pa, 0, none⟩), .pointer (some ⟨qb, 0, none⟩), .int .i64 fr, .int .i64 tt, .agg #[.int .i64 a0, .int .i64 a1], .int .i64 af, .bool true] W fun x w' => x = .returned (.bool true) ∧ ∃ A' B', Duo w0 pa qb w' A' B' ∧ I tt A' B' := by
  have mixed : Tryd.prog.follows .mixedOrders = true := by kernel_rfl
  have e10 : ∀ args w, (callFunc 10 args).run Tryd.prog w = .ok (.enter 10 args) w := enters_of Tryd.func10 (by kernel_rfl) rfl
  have e12 : ∀ args w, (callFunc 12 args).run Tryd.prog w = .ok (.enter 12 args) w := enters_of Tryd.func12 (by kernel_rfl) rfl
  have e13 : ∀ args w, (callFunc 13 args).run Tryd.prog w = .ok (.enter 13 args) w := enters_of Tryd.func13 (by kernel_rfl) rfl
  have e15 : ∀ args w, (callFunc 15 args).run Tryd.prog w = .ok (.enter 15 args) w := enters_of Tryd.func15 (by kernel_rfl) rfl
  have hu28 := Tryd.underlying28
  have hu37 := Tryd.underlying37
  have HS := Aside0.mk hstep
  have HD := Aside0.mk hD
  have H0 := Aside0.mk h0
  clear hstep hD h0
  go_enter Tryd.func8, Tryd.ntmps8
  go_wp2_with ((with_reducible refine gate_dst (N := 11) rfl ?_); refine box_event ?hg (N := 11) ?hd (cs := #[.int .i64 a0, .int .i64 a1]) (t := 28) ?hr ?_; (case hd => rfl); (case hg => rfl); (case hr => first | (go_simp; done) | (go_simp; rfl)); intro b11 hg w1 hbox hb; have DB := Aside0.mk (HD.out.below hb); have BX := Aside0.mk hbox; clear hb hbox hg)
  go_loopg [15, 16, 17, 18, 19] (tt + 1) (fun gg s15 _ _ _ _ wr => ∃ n k : Nat, n = k + 1 ∧ fr ≤ k ∧ k ≤ tt ∧ tt + 1 - n ≤ gg ∧ s15 = .int .i64 n ∧ ∃ A B, Aside0 (Duo w0 pa qb wr A B) ∧ Aside0 (I k A B) ∧ Aside0 (wr.heap[b11]? = some (.cells #[.int .i64 a0, .int .i64 a1] 28 (0, 0))))
  case atStart => exact ⟨fr + 1, fr, rfl, Nat.le_refl _, hft, by omega, by go_num, A, B, DB, H0, BX⟩
  case round =>
    clear DB H0 BX
    obtain ⟨n, k, hnk, hfk, hkt, hg, rfl, A, B, D, HI, X11⟩ := hrel
    by_cases hlt : n ≤ tt
    · have hltz : (n : Int) ≤ (tt : Int) := by omega
      have hst := HS.out k A B hfk (by omega) HI.out
      rw [← hnk] at hst
      have HOK := Aside0.mk hst.1
      have HIN := Aside0.mk hst.2
      unfold roundOk at HOK
      have hq0 : wr.cell? ⟨b11, 0, none⟩ = some (.int .i64 a0) := (blk_cell X11.out 0).trans rfl
      have hq1 : wr.cell? ⟨b11, 1, none⟩ = some (.int .i64 a1) := (blk_cell X11.out 1).trans rfl
      have hfn : fr ≤ n := by omega
      clear hst HI hnk hfk hkt
      go_wp2_with fail
      go_at_fn 10
      refine (duo_want D.out a0 a1 n false).mono ?_
      rintro x w1 ⟨rfl, hD, hk⟩
      have X1 := Aside0.mk (hk _ _ _ X11.out (by decide))
      have D1 := Aside0.mk hD
      have E1 := Aside0.mk (show A.want a0 a1 n false = roundA a0 a1 true n A from rfl)
      rw [E1.out] at D1
      clear hD hk X11 D E1
      generalize hA1 : roundA a0 a1 true n A = A1 at *
      go_wp2_with fail
      go_at_fn 13
      refine (duo_tick D1.out n).mono ?_
      rintro x w2 ⟨AA, cA, AW, cW, rfl, hra, hrw, hD, hk⟩
      have X2 := Aside0.mk (hk _ _ _ X1.out (by decide))
      have D2 := Aside0.mk hD
      have RA2 := Aside0.mk hra
      have RW2 := Aside0.mk hrw
      clear hra hrw hD hk X1 D1
      obtain ⟨nA, hnA⟩ : ∃ q, q = (A1.msgAll n).length := ⟨_, rfl⟩
      obtain ⟨nW, hnW⟩ : ∃ q, q = (A1.msgWords n).length := ⟨_, rfl⟩
      rw [← hnA, ← hnW]
      have HNA := Aside0.mk hnA
      have HNW := Aside0.mk hnW
      rw [← hnA] at RA2
      rw [← hnW] at RW2
      clear hnA hnW
      by_cases c1 : 0 < nA + nW
      · have hdec1 : decide (0 < nA + nW) = true := decide_eq_true c1
        rw [hdec1]
        go_wp2_with ((with_reducible refine gate_dst (N := 16) rfl ?_); refine box_event ?hg (N := 16) ?hd (cs := #[.slice none 0 0, .slice none 0 0]) (t := 37) ?hr ?_; (case hd => rfl); (case hg => rfl); (case hr => first | (go_simp; done) | (go_simp; rfl)); intro b16 hg w3 hbox hb; have hgb : w2.heap.size ≤ b16 := (by rw [hg]; exact Nat.le_refl _); have BXm := Aside0.mk hbox; have HBm := Aside0.mk hb; have hz0 : w3.cell? ⟨b16, 0, none⟩ = some (.slice none 0 0) := (blk_cell hbox 0).trans rfl; have hz1 : w3.cell? ⟨b16, 1, none⟩ = some (.slice none 0 0) := (blk_cell hbox 1).trans rfl; have hf0 := blk_frozen hbox 0; have hf1 := blk_frozen hbox 1; clear hb hbox hg)
        obtain ⟨w4, hw4⟩ : ∃ w4, w4 = (w3.setCell ⟨b16, 0, none⟩ (.slice AA nA cA)).setCell ⟨b16, 1, none⟩ (.slice AW nW cW) := ⟨_, rfl⟩
        rw [← hw4]
        have hb4 : Below w2.heap.size w2 w4 := by rw [hw4]; exact below_set (below_set HBm.out hgb) hgb
        have X4 := Aside0.mk (blk_below X2.out hb4)
        have D4 := Aside0.mk (D2.out.below hb4)
        have RA4 := Aside0.mk (Kd.R_below RA2.out hb4)
        have RW4 := Aside0.mk (Kd.R_below RW2.out hb4)
        have hm := (set37 BXm.out (.slice AA nA cA) (.slice AW nW cW)).1
        rw [← hw4] at hm
        have hy0 : w4.cell? ⟨b16, 0, none⟩ = some (.slice AA nA cA) := (blk_cell hm 0).trans rfl
        have hy1 : w4.cell? ⟨b16, 1, none⟩ = some (.slice AW nW cW) := (blk_cell hm 1).trans rfl
        clear hw4 hb4 hm hz0 hz1 hf0 hf1 BXm HBm X2 D2 RA2 RW2 hgb
        have hgd := HOK.out.1 (by rw [← HNA.out, ← HNW.out]; exact c1)
        obtain ⟨kg, hkg⟩ := hgd
        go_wp2_with fail
        go_at_fn 12
        rw [HNA.out, HNW.out]
        rw [HNA.out] at RA4
        rw [HNW.out] at RW4
        refine (duo_hear D4.out.symm n RA4.out RW4.out hkg).mono ?_
        rintro x w5 ⟨rfl, hD, hk⟩
        have X5 := Aside0.mk (hk _ _ _ X4.out (by decide))
        have D5 := Aside0.mk hD.symm
        have hB1 : roundB a0 a1 true n A B = B.hear (A1.msgAll n) (A1.msgWords n) n := by unfold roundB; rw [hA1, if_pos (by rw [← HNA.out, ← HNW.out]; exact c1)]
        rw [← hB1] at D5
        clear hD hk X4 D4 RA4 RW4 hB1 hy0 hy1
        generalize hB1 : roundB a0 a1 true n A B = B1 at *
        go_wp2_with fail
        go_at_fn 13
        refine (duo_tick D5.out.symm n).mono ?_
        rintro x w6 ⟨AC, cC, AD, cD, rfl, hra, hrw, hD, hk⟩
        have X6 := Aside0.mk (hk _ _ _ X5.out (by decide))
        have D6 := Aside0.mk hD.symm
        have RA6 := Aside0.mk hra
        have RW6 := Aside0.mk hrw
        clear hra hrw hD hk X5 D5
        obtain ⟨nC, hnC⟩ : ∃ q, q = (B1.msgAll n).length := ⟨_, rfl⟩
        obtain ⟨nD, hnD⟩ : ∃ q, q = (B1.msgWords n).length := ⟨_, rfl⟩
        rw [← hnC, ← hnD]
        have HNC := Aside0.mk hnC
        have HND := Aside0.mk hnD
        rw [← hnC] at RA6
        rw [← hnD] at RW6
        clear hnC hnD
        by_cases c2 : 0 < nC + nD
        · have hdec2 : decide (0 < nC + nD) = true := decide_eq_true c2
          rw [hdec2]
          go_wp2_with ((with_reducible refine gate_dst (N := 18) rfl ?_); refine box_event ?hg (N := 18) ?hd (cs := #[.slice none 0 0, .slice none 0 0]) (t := 37) ?hr ?_; (case hd => rfl); (case hg => rfl); (case hr => first | (go_simp; done) | (go_simp; rfl)); intro b18 hg w7 hbox hb; have hgb : w6.heap.size ≤ b18 := (by rw [hg]; exact Nat.le_refl _); have BXm := Aside0.mk hbox; have HBm := Aside0.mk hb; have hz0 : w7.cell? ⟨b18, 0, none⟩ = some (.slice none 0 0) := (blk_cell hbox 0).trans rfl; have hz1 : w7.cell? ⟨b18, 1, none⟩ = some (.slice none 0 0) := (blk_cell hbox 1).trans rfl; have hf0 := blk_frozen hbox 0; have hf1 := blk_frozen hbox 1; clear hb hbox hg)
          obtain ⟨w8, hw8⟩ : ∃ w8, w8 = (w7.setCell ⟨b18, 0, none⟩ (.slice AC nC cC)).setCell ⟨b18, 1, none⟩ (.slice AD nD cD) := ⟨_, rfl⟩
          rw [← hw8]
          have hb8 : Below w6.heap.size w6 w8 := by rw [hw8]; exact below_set (below_set HBm.out hgb) hgb
          have X8 := Aside0.mk (blk_below X6.out hb8)
          have D8 := Aside0.mk (D6.out.below hb8)
          have RA8 := Aside0.mk (Kd.R_below RA6.out hb8)
          have RW8 := Aside0.mk (Kd.R_below RW6.out hb8)
          have hm := (set37 BXm.out (.slice AC nC cC) (.slice AD nD cD)).1
          rw [← hw8] at hm
          have hy0 : w8.cell? ⟨b18, 0, none⟩ = some (.slice AC nC cC) := (blk_cell hm 0).trans rfl
          have hy1 : w8.cell? ⟨b18, 1, none⟩ = some (.slice AD nD cD) := (blk_cell hm 1).trans rfl
          clear hw8 hb8 hm hz0 hz1 hf0 hf1 BXm HBm X6 D6 RA6 RW6 hgb
          have hgd := HOK.out.2.1 (by rw [← HNC.out, ← HND.out]; exact c2)
          obtain ⟨kh, hkh⟩ := hgd
          go_wp2_with fail
          go_at_fn 12
          rw [HNC.out, HND.out]
          rw [HNC.out] at RA8
          rw [HND.out] at RW8
          refine (duo_hear D8.out n RA8.out RW8.out hkh).mono ?_
          rintro x w9 ⟨rfl, hD, hk⟩
          have X9 := Aside0.mk (hk _ _ _ X8.out (by decide))
          have D9 := Aside0.mk hD
          have hC1 : roundC a0 a1 true n A B = (A1.tick n).hear (B1.msgAll n) (B1.msgWords n) n := by unfold roundC; rw [hA1, hB1, if_pos (by rw [← HNC.out, ← HND.out]; exact c2)]
          rw [← hC1] at D9
          clear hD hk X8 D8 RA8 RW8 hC1 hy0 hy1
          have HRD := Aside0.mk (show round a0 a1 true n A B = (roundC a0 a1 true n A B, B1.tick n) by unfold round; rw [hB1])
          have HHS := Aside0.mk (show af ≤ n → (B1.tick n).hasA a0 a1 = true from fun hh => by have := HOK.out.2.2 hh; exact this)
          have HNX := HIN
          rw [HRD.out] at HNX
          generalize roundC a0 a1 true n A B = A9 at *
          generalize B1.tick n = B9 at *
          have hq0 : w9.cell? ⟨b11, 0, none⟩ = some (.int .i64 a0) := (blk_cell X9.out 0).trans rfl
          have hq1 : w9.cell? ⟨b11, 1, none⟩ = some (.int .i64 a1) := (blk_cell X9.out 1).trans rfl
          by_cases c3 : af ≤ n
          · have hdec3 : decide ((af : Int) ≤ (n : Int)) = true := decide_eq_true (by omega)
            have hhs := HHS.out c3
            go_wp2_with (go_at_fn 15; with_reducible refine (duo_has D9.out.symm a0 a1).mono ?_; rintro x w10 ⟨rfl, hb10⟩; have D10 := Aside0.mk (D9.out.below hb10); have X10 := Aside0.mk (blk_below X9.out hb10); clear hb10; rw [hhs])
            go_roundg (tt + 1 - (n + 1))
            case measure => omega
            case rel => exact ⟨n + 1, n, rfl, by omega, by omega, by omega, by go_num, A9, B9, D10, HNX, X10⟩
          · have hdec3 : decide ((af : Int) ≤ (n : Int)) = false := decide_eq_false (by omega)
            go_wp2
            go_roundg (tt + 1 - (n + 1))
            case measure => omega
            case rel => exact ⟨n + 1, n, rfl, by omega, by omega, by omega, by go_num, A9, B9, D9, HNX, X9⟩
        · have hdec2 : decide (0 < nC + nD) = false := decide_eq_false c2
          rw [hdec2]
          have hC1 : roundC a0 a1 true n A B = A1.tick n := by unfold roundC; rw [hA1, hB1, if_neg (by rw [← HNC.out, ← HND.out]; exact c2)]
          have HRD := Aside0.mk (show round a0 a1 true n A B = (A1.tick n, B1.tick n) by unfold round; rw [hB1, hC1])
          have HHS := Aside0.mk (show af ≤ n → (B1.tick n).hasA a0 a1 = true from fun hh => by have := HOK.out.2.2 hh; exact this)
          have HNX := HIN
          rw [HRD.out] at HNX
          clear hC1
          generalize A1.tick n = A9 at *
          generalize B1.tick n = B9 at *
          by_cases c3 : af ≤ n
          · have hdec3 : decide ((af : Int) ≤ (n : Int)) = true := decide_eq_true (by omega)
            have hhs := HHS.out c3
            go_wp2_with (first
              | ((with_reducible refine gate_dst (N := 18) rfl ?_); refine box_event ?hg (N := 18) ?hd (cs := #[.slice none 0 0, .slice none 0 0]) (t := 37) ?hr ?_; (case hd => rfl); (case hg => rfl); (case hr => first | (go_simp; done) | (go_simp; rfl)); intro b18 hg w7 hbox hb; have hgb : w6.heap.size ≤ b18 := (by rw [hg]; exact Nat.le_refl _); have BXm := Aside0.mk hbox; have HBm := Aside0.mk hb; have hz0 : w7.cell? ⟨b18, 0, none⟩ = some (.slice none 0 0) := (blk_cell hbox 0).trans rfl; have hz1 : w7.cell? ⟨b18, 1, none⟩ = some (.slice none 0 0) := (blk_cell hbox 1).trans rfl; have hf0 := blk_frozen hbox 0; have hf1 := blk_frozen hbox 1; clear hb hbox hg; have hq0 : w7.cell? ⟨b11, 0, none⟩ = some (.int .i64 a0) := (blk_cell (blk_below X6.out HBm.out) 0).trans rfl; have hq1 : w7.cell? ⟨b11, 1, none⟩ = some (.int .i64 a1) := (blk_cell (blk_below X6.out HBm.out) 1).trans rfl; have hlt6 := blk_lt X6.out; have hnb : ¬ b11 = b18 := (by omega); have hnb2 : ¬ b18 = b11 := (by omega); clear hlt6)
              | (go_at_fn 15; with_reducible refine (duo_has (D6.out.below (below_set (below_set HBm.out hgb) hgb)).symm a0 a1).mono ?_; rintro x w10 ⟨rfl, hb10⟩; have D10 := Aside0.mk ((D6.out.below (below_set (below_set HBm.out hgb) hgb)).below hb10); have X10 := Aside0.mk (blk_below (blk_below X6.out (below_set (below_set HBm.out hgb) hgb)) hb10); clear hb10; rw [hhs]))
            go_roundg (tt + 1 - (n + 1))
            case measure => omega
            case rel => exact ⟨n + 1, n, rfl, by omega, by omega, by omega, by go_num, A9, B9, D10, HNX, X10⟩
          · have hdec3 : decide ((af : Int) ≤ (n : Int)) = false := decide_eq_false (by omega)
            go_wp2_with ((with_reducible refine gate_dst (N := 18) rfl ?_); refine box_event ?hg (N := 18) ?hd (cs := #[.slice none 0 0, .slice none 0 0]) (t := 37) ?hr ?_; (case hd => rfl); (case hg => rfl); (case hr => first | (go_simp; done) | (go_simp; rfl)); intro b18 hg w7 hbox hb; have hgb : w6.heap.size ≤ b18 := (by rw [hg]; exact Nat.le_refl _); have BXm := Aside0.mk hbox; have HBm := Aside0.mk hb; have hz0 : w7.cell? ⟨b18, 0, none⟩ = some (.slice none 0 0) := (blk_cell hbox 0).trans rfl; have hz1 : w7.cell? ⟨b18, 1, none⟩ = some (.slice none 0 0) := (blk_cell hbox 1).trans rfl; have hf0 := blk_frozen hbox 0; have hf1 := blk_frozen hbox 1; clear hb hbox hg; have hq0 : w7.cell? ⟨b11, 0, none⟩ = some (.int .i64 a0) := (blk_cell (blk_below X6.out HBm.out) 0).trans rfl; have hq1 : w7.cell? ⟨b11, 1, none⟩ = some (.int .i64 a1) := (blk_cell (blk_below X6.out HBm.out) 1).trans rfl; have hlt6 := blk_lt X6.out; have hnb : ¬ b11 = b18 := (by omega); have hnb2 : ¬ b18 = b11 := (by omega); clear hlt6)
            go_roundg (tt + 1 - (n + 1))
            case measure => omega
            case rel => exact ⟨n + 1, n, rfl, by omega, by omega, by omega, by go_num, A9, B9, ⟨D6.out.below (below_set (below_set HBm.out hgb) hgb)⟩, HNX, ⟨blk_below X6.out (below_set (below_set HBm.out hgb) hgb)⟩⟩
      · have hdec1 : decide (0 < nA + nW) = false := decide_eq_false c1
        rw [hdec1]
        go_wp2_with ((with_reducible refine gate_dst (N := 16) rfl ?_); refine box_event ?hg (N := 16) ?hd (cs := #[.slice none 0 0, .slice none 0 0]) (t := 37) ?hr ?_; (case hd => rfl); (case hg => rfl); (case hr => first | (go_simp; done) | (go_simp; rfl)); intro b16 hg w3 hbox hb; have hgb : w2.heap.size ≤ b16 := (by rw [hg]; exact Nat.le_refl _); have BXm := Aside0.mk hbox; have HBm := Aside0.mk hb; have hz0 : w3.cell? ⟨b16, 0, none⟩ = some (.slice none 0 0) := (blk_cell hbox 0).trans rfl; have hz1 : w3.cell? ⟨b16, 1, none⟩ = some (.slice none 0 0) := (blk_cell hbox 1).trans rfl; have hf0 := blk_frozen hbox 0; have hf1 := blk_frozen hbox 1; clear hb hbox hg)
        obtain ⟨w4, hw4⟩ : ∃ w4, w4 = (w3.setCell ⟨b16, 0, none⟩ (.slice AA nA cA)).setCell ⟨b16, 1, none⟩ (.slice AW nW cW) := ⟨_, rfl⟩
        rw [← hw4]
        have hb4 : Below w2.heap.size w2 w4 := by rw [hw4]; exact below_set (below_set HBm.out hgb) hgb
        have X4 := Aside0.mk (blk_below X2.out hb4)
        have D4 := Aside0.mk (D2.out.below hb4)
        have RA4 := Aside0.mk (Kd.R_below RA2.out hb4)
        have RW4 := Aside0.mk (Kd.R_below RW2.out hb4)
        have hm := (set37 BXm.out (.slice AA nA cA) (.slice AW nW cW)).1
        rw [← hw4] at hm
        have hy0 : w4.cell? ⟨b16, 0, none⟩ = some (.slice AA nA cA) := (blk_cell hm 0).trans rfl
        have hy1 : w4.cell? ⟨b16, 1, none⟩ = some (.slice AW nW cW) := (blk_cell hm 1).trans rfl
        clear hw4 hb4 hm hz0 hz1 hf0 hf1 BXm HBm X2 D2 RA2 RW2 hgb
        have X5 := X4
        have hB1 : roundB a0 a1 true n A B = B := by unfold roundB; rw [hA1, if_neg (by rw [← HNA.out, ← HNW.out]; exact c1)]
        have D5 := Aside0.mk (show Duo w0 pa qb w4 (A1.tick n) (roundB a0 a1 true n A B) from by rw [hB1]; exact D4.out)
        clear X4 D4 RA4 RW4 hB1 hy0 hy1
        generalize hB1 : roundB a0 a1 true n A B = B1 at *
        go_wp2_with fail
        go_at_fn 13
        refine (duo_tick D5.out.symm n).mono ?_
        rintro x w6 ⟨AC, cC, AD, cD, rfl, hra, hrw, hD, hk⟩
        have X6 := Aside0.mk (hk _ _ _ X5.out (by decide))
        have D6 := Aside0.mk hD.symm
        have RA6 := Aside0.mk hra
        have RW6 := Aside0.mk hrw
        clear hra hrw hD hk X5 D5
        obtain ⟨nC, hnC⟩ : ∃ q, q = (B1.msgAll n).length := ⟨_, rfl⟩
        obtain ⟨nD, hnD⟩ : ∃ q, q = (B1.msgWords n).length := ⟨_, rfl⟩
        rw [← hnC, ← hnD]
        have HNC := Aside0.mk hnC
        have HND := Aside0.mk hnD
        rw [← hnC] at RA6
        rw [← hnD] at RW6
        clear hnC hnD
        by_cases c2 : 0 < nC + nD
        · have hdec2 : decide (0 < nC + nD) = true := decide_eq_true c2
          rw [hdec2]
          go_wp2_with ((with_reducible refine gate_dst (N := 18) rfl ?_); refine box_event ?hg (N := 18) ?hd (cs := #[.slice none 0 0, .slice none 0 0]) (t := 37) ?hr ?_; (case hd => rfl); (case hg => rfl); (case hr => first | (go_simp; done) | (go_simp; rfl)); intro b18 hg w7 hbox hb; have hgb : w6.heap.size ≤ b18 := (by rw [hg]; exact Nat.le_refl _); have BXm := Aside0.mk hbox; have HBm := Aside0.mk hb; have hz0 : w7.cell? ⟨b18, 0, none⟩ = some (.slice none 0 0) := (blk_cell hbox 0).trans rfl; have hz1 : w7.cell? ⟨b18, 1, none⟩ = some (.slice none 0 0) := (blk_cell hbox 1).trans rfl; have hf0 := blk_frozen hbox 0; have hf1 := blk_frozen hbox 1; clear hb hbox hg)
          obtain ⟨w8, hw8⟩ : ∃ w8, w8 = (w7.setCell ⟨b18, 0, none⟩ (.slice AC nC cC)).setCell ⟨b18, 1, none⟩ (.slice AD nD cD) := ⟨_, rfl⟩
          rw [← hw8]
          have hb8 : Below w6.heap.size w6 w8 := by rw [hw8]; exact below_set (below_set HBm.out hgb) hgb
          have X8 := Aside0.mk (blk_below X6.out hb8)
          have D8 := Aside0.mk (D6.out.below hb8)
          have RA8 := Aside0.mk (Kd.R_below RA6.out hb8)
          have RW8 := Aside0.mk (Kd.R_below RW6.out hb8)
          have hm := (set37 BXm.out (.slice AC nC cC) (.slice AD nD cD)).1
          rw [← hw8] at hm
          have hy0 : w8.cell? ⟨b18, 0, none⟩ = some (.slice AC nC cC) := (blk_cell hm 0).trans rfl
          have hy1 : w8.cell? ⟨b18, 1, none⟩ = some (.slice AD nD cD) := (blk_cell hm 1).trans rfl
          clear hw8 hb8 hm hz0 hz1 hf0 hf1 BXm HBm X6 D6 RA6 RW6 hgb
          have hgd := HOK.out.2.1 (by rw [← HNC.out, ← HND.out]; exact c2)
          obtain ⟨kh, hkh⟩ := hgd
          go_wp2_with fail
          go_at_fn 12
          rw [HNC.out, HND.out]
          rw [HNC.out] at RA8
          rw [HND.out] at RW8
          refine (duo_hear D8.out n RA8.out RW8.out hkh).mono ?_
          rintro x w9 ⟨rfl, hD, hk⟩
          have X9 := Aside0.mk (hk _ _ _ X8.out (by decide))
          have D9 := Aside0.mk hD
          have hC1 : roundC a0 a1 true n A B = (A1.tick n).hear (B1.msgAll n) (B1.msgWords n) n := by unfold roundC; rw [hA1, hB1, if_pos (by rw [← HNC.out, ← HND.out]; exact c2)]
          rw [← hC1] at D9
          clear hD hk X8 D8 RA8 RW8 hC1 hy0 hy1
          have HRD := Aside0.mk (show round a0 a1 true n A B = (roundC a0 a1 true n A B, B1.tick n) by unfold round; rw [hB1])
          have HHS := Aside0.mk (show af ≤ n → (B1.tick n).hasA a0 a1 = true from fun hh => by have := HOK.out.2.2 hh; exact this)
          have HNX := HIN
          rw [HRD.out] at HNX
          generalize roundC a0 a1 true n A B = A9 at *
          generalize B1.tick n = B9 at *
          have hq0 : w9.cell? ⟨b11, 0, none⟩ = some (.int .i64 a0) := (blk_cell X9.out 0).trans rfl
          have hq1 : w9.cell? ⟨b11, 1, none⟩ = some (.int .i64 a1) := (blk_cell X9.out 1).trans rfl
          by_cases c3 : af ≤ n
          · have hdec3 : decide ((af : Int) ≤ (n : Int)) = true := decide_eq_true (by omega)
            have hhs := HHS.out c3
            go_wp2_with (go_at_fn 15; with_reducible refine (duo_has D9.out.symm a0 a1).mono ?_; rintro x w10 ⟨rfl, hb10⟩; have D10 := Aside0.mk (D9.out.below hb10); have X10 := Aside0.mk (blk_below X9.out hb10); clear hb10; rw [hhs])
            go_roundg (tt + 1 - (n + 1))
            case measure => omega
            case rel => exact ⟨n + 1, n, rfl, by omega, by omega, by omega, by go_num, A9, B9, D10, HNX, X10⟩
          · have hdec3 : decide ((af : Int) ≤ (n : Int)) = false := decide_eq_false (by omega)
            go_wp2
            go_roundg (tt + 1 - (n + 1))
            case measure => omega
            case rel => exact ⟨n + 1, n, rfl, by omega, by omega, by omega, by go_num, A9, B9, D9, HNX, X9⟩
        · have hdec2 : decide (0 < nC + nD) = false := decide_eq_false c2
          rw [hdec2]
          have hC1 : roundC a0 a1 true n A B = A1.tick n := by unfold roundC; rw [hA1, hB1, if_neg (by rw [← HNC.out, ← HND.out]; exact c2)]
          have HRD := Aside0.mk (show round a0 a1 true n A B = (A1.tick n, B1.tick n) by unfold round; rw [hB1, hC1])
          have HHS := Aside0.mk (show af ≤ n → (B1.tick n).hasA a0 a1 = true from fun hh => by have := HOK.out.2.2 hh; exact this)
          have HNX := HIN
          rw [HRD.out] at HNX
          clear hC1
          generalize A1.tick n = A9 at *
          generalize B1.tick n = B9 at *
          by_cases c3 : af ≤ n
          · have hdec3 : decide ((af : Int) ≤ (n : Int)) = true := decide_eq_true (by omega)
            have hhs := HHS.out c3
            go_wp2_with (first
              | ((with_reducible refine gate_dst (N := 18) rfl ?_); refine box_event ?hg (N := 18) ?hd (cs := #[.slice none 0 0, .slice none 0 0]) (t := 37) ?hr ?_; (case hd => rfl); (case hg => rfl); (case hr => first | (go_simp; done) | (go_simp; rfl)); intro b18 hg w7 hbox hb; have hgb : w6.heap.size ≤ b18 := (by rw [hg]; exact Nat.le_refl _); have BXm := Aside0.mk hbox; have HBm := Aside0.mk hb; have hz0 : w7.cell? ⟨b18, 0, none⟩ = some (.slice none 0 0) := (blk_cell hbox 0).trans rfl; have hz1 : w7.cell? ⟨b18, 1, none⟩ = some (.slice none 0 0) := (blk_cell hbox 1).trans rfl; have hf0 := blk_frozen hbox 0; have hf1 := blk_frozen hbox 1; clear hb hbox hg; have hq0 : w7.cell? ⟨b11, 0, none⟩ = some (.int .i64 a0) := (blk_cell (blk_below X6.out HBm.out) 0).trans rfl; have hq1 : w7.cell? ⟨b11, 1, none⟩ = some (.int .i64 a1) := (blk_cell (blk_below X6.out HBm.out) 1).trans rfl; have hlt6 := blk_lt X6.out; have hnb : ¬ b11 = b18 := (by omega); have hnb2 : ¬ b18 = b11 := (by omega); clear hlt6)
              | (go_at_fn 15; with_reducible refine (duo_has (D6.out.below (below_set (below_set HBm.out hgb) hgb)).symm a0 a1).mono ?_; rintro x w10 ⟨rfl, hb10⟩; have D10 := Aside0.mk ((D6.out.below (below_set (below_set HBm.out hgb) hgb)).below hb10); have X10 := Aside0.mk (blk_below (blk_below X6.out (below_set (below_set HBm.out hgb) hgb)) hb10); clear hb10; rw [hhs]))
            go_roundg (tt + 1 - (n + 1))
            case measure => omega
            case rel => exact ⟨n + 1, n, rfl, by omega, by omega, by omega, by go_num, A9, B9, D10, HNX, X10⟩
          · have hdec3 : decide ((af : Int) ≤ (n : Int)) = false := decide_eq_false (by omega)
            go_wp2_with ((with_reducible refine gate_dst (N := 18) rfl ?_); refine box_event ?hg (N := 18) ?hd (cs := #[.slice none 0 0, .slice none 0 0]) (t := 37) ?hr ?_; (case hd => rfl); (case hg => rfl); (case hr => first | (go_simp; done) | (go_simp; rfl)); intro b18 hg w7 hbox hb; have hgb : w6.heap.size ≤ b18 := (by rw [hg]; exact Nat.le_refl _); have BXm := Aside0.mk hbox; have HBm := Aside0.mk hb; have hz0 : w7.cell? ⟨b18, 0, none⟩ = some (.slice none 0 0) := (blk_cell hbox 0).trans rfl; have hz1 : w7.cell? ⟨b18, 1, none⟩ = some (.slice none 0 0) := (blk_cell hbox 1).trans rfl; have hf0 := blk_frozen hbox 0; have hf1 := blk_frozen hbox 1; clear hb hbox hg; have hq0 : w7.cell? ⟨b11, 0, none⟩ = some (.int .i64 a0) := (blk_cell (blk_below X6.out HBm.out) 0).trans rfl; have hq1 : w7.cell? ⟨b11, 1, none⟩ = some (.int .i64 a1) := (blk_cell (blk_below X6.out HBm.out) 1).trans rfl; have hlt6 := blk_lt X6.out; have hnb : ¬ b11 = b18 := (by omega); have hnb2 : ¬ b18 = b11 := (by omega); clear hlt6)
            go_roundg (tt + 1 - (n + 1))
            case measure => omega
            case rel => exact ⟨n + 1, n, rfl, by omega, by omega, by omega, by go_num, A9, B9, ⟨D6.out.below (below_set (below_set HBm.out hgb) hgb)⟩, HNX, ⟨blk_below X6.out (below_set (below_set HBm.out hgb) hgb)⟩⟩
    · have hltz : ¬ (n : Int) ≤ (tt : Int) := by omega
      have ek : k = tt := by omega
      subst ek
      go_wp2
      go_ret
      exact ⟨rfl, A, B, D.out, HI.out⟩
set_option maxHeartbeats 8000000 in
set_option maxRecDepth 100000 in
theorem talk_false (w0 : World) (pa qb : Nat) (I : Nat → PM → PM → Prop) (fr tt af : Nat) (a0 a1 : Int) (hstep : ∀ k A B, fr ≤ k → k < tt → I k A B → roundOk a0 a1 false af (k + 1) A B ∧ I (k + 1) (round a0 a1 false (k + 1) A B).1 (round a0 a1 false (k + 1) A B).2) (hft : fr ≤ tt) (hto : tt ≤ 100000) (A B : PM) (h0 : I fr A B) (W : World) (hD : Duo w0 pa qb W A B) :
    Calls Tryd.prog 8 #[.pointer (some ⟨pa, 0, none⟩), .pointer (some ⟨qb, 0, none⟩), .int .i64 fr, .int .i64 tt, .agg #[.int .i64 a0, .int .i64 a1], .int .i64 af, .bool false] W fun x w' => x = .returned (.bool true) ∧ ∃ A' B', Duo w0 pa qb w' A' B' ∧ I tt A' B' := by
  have mixed : Tryd.prog.follows .mixedOrders = true := by kernel_rfl
  have e10 : ∀ args w, (callFunc 10 args).run Tryd.prog w = .ok (.enter 10 args) w := enters_of Tryd.func10 (by kernel_rfl) rfl
  have e12 : ∀ args w, (callFunc 12 args).run Tryd.prog w = .ok (.enter 12 args) w := enters_of Tryd.func12 (by kernel_rfl) rfl
  have e13 : ∀ args w, (callFunc 13 args).run Tryd.prog w = .ok (.enter 13 args) w := enters_of Tryd.func13 (by kernel_rfl) rfl
  have e15 : ∀ args w, (callFunc 15 args).run Tryd.prog w = .ok (.enter 15 args) w := enters_of Tryd.func15 (by kernel_rfl) rfl
  have hu28 := Tryd.underlying28
  have hu37 := Tryd.underlying37
  have HS := Aside0.mk hstep
  have HD := Aside0.mk hD
  have H0 := Aside0.mk h0
  clear hstep hD h0
  go_enter Tryd.func8, Tryd.ntmps8
  go_wp2_with ((with_reducible refine gate_dst (N := 11) rfl ?_); refine box_event ?hg (N := 11) ?hd (cs := #[.int .i64 a0, .int .i64 a1]) (t := 28) ?hr ?_; (case hd => rfl); (case hg => rfl); (case hr => first | (go_simp; done) | (go_simp; rfl)); intro b11 hg w1 hbox hb; have DB := Aside0.mk (HD.out.below hb); have BX := Aside0.mk hbox; clear hb hbox hg)
  go_loopg [15, 16, 17, 18, 19] (tt + 1) (fun gg s15 _ _ _ _ wr => ∃ n k : Nat, n = k + 1 ∧ fr ≤ k ∧ k ≤ tt ∧ tt + 1 - n ≤ gg ∧ s15 = .int .i64 n ∧ ∃ A B, Aside0 (Duo w0 pa qb wr A B) ∧ Aside0 (I k A B) ∧ Aside0 (wr.heap[b11]? = some (.cells #[.int .i64 a0, .int .i64 a1] 28 (0, 0))))
  case atStart => exact ⟨fr + 1, fr, rfl, Nat.le_refl _, hft, by omega, by go_num, A, B, DB, H0, BX⟩
  case round =>
    clear DB H0 BX
    obtain ⟨n, k, hnk, hfk, hkt, hg, rfl, A, B, D, HI, X11⟩ := hrel
    by_cases hlt : n ≤ tt
    · have hltz : (n : Int) ≤ (tt : Int) := by omega
      have hst := HS.out k A B hfk (by omega) HI.out
      rw [← hnk] at hst
      have HOK := Aside0.mk hst.1
      have HIN := Aside0.mk hst.2
      unfold roundOk at HOK
      have hq0 : wr.cell? ⟨b11, 0, none⟩ = some (.int .i64 a0) := (blk_cell X11.out 0).trans rfl
      have hq1 : wr.cell? ⟨b11, 1, none⟩ = some (.int .i64 a1) := (blk_cell X11.out 1).trans rfl
      have hfn : fr ≤ n := by omega
      clear hst HI hnk hfk hkt
      have X1 := X11
      have D1 := Aside0.mk (show Duo w0 pa qb wr (roundA a0 a1 false n A) B from D.out)
      clear X11 D
      generalize hA1 : roundA a0 a1 false n A = A1 at *
      go_wp2_with fail
      go_at_fn 13
      refine (duo_tick D1.out n).mono ?_
      rintro x w2 ⟨AA, cA, AW, cW, rfl, hra, hrw, hD, hk⟩
      have X2 := Aside0.mk (hk _ _ _ X1.out (by decide))
      have D2 := Aside0.mk hD
      have RA2 := Aside0.mk hra
      have RW2 := Aside0.mk hrw
      clear hra hrw hD hk X1 D1
      obtain ⟨nA, hnA⟩ : ∃ q, q = (A1.msgAll n).length := ⟨_, rfl⟩
      obtain ⟨nW, hnW⟩ : ∃ q, q = (A1.msgWords n).length := ⟨_, rfl⟩
      rw [← hnA, ← hnW]
      have HNA := Aside0.mk hnA
      have HNW := Aside0.mk hnW
      rw [← hnA] at RA2
      rw [← hnW] at RW2
      clear hnA hnW
      by_cases c1 : 0 < nA + nW
      · have hdec1 : decide (0 < nA + nW) = true := decide_eq_true c1
        rw [hdec1]
        go_wp2_with ((with_reducible refine gate_dst (N := 16) rfl ?_); refine box_event ?hg (N := 16) ?hd (cs := #[.slice none 0 0, .slice none 0 0]) (t := 37) ?hr ?_; (case hd => rfl); (case hg => rfl); (case hr => first | (go_simp; done) | (go_simp; rfl)); intro b16 hg w3 hbox hb; have hgb : w2.heap.size ≤ b16 := (by rw [hg]; exact Nat.le_refl _); have BXm := Aside0.mk hbox; have HBm := Aside0.mk hb; have hz0 : w3.cell? ⟨b16, 0, none⟩ = some (.slice none 0 0) := (blk_cell hbox 0).trans rfl; have hz1 : w3.cell? ⟨b16, 1, none⟩ = some (.slice none 0 0) := (blk_cell hbox 1).trans rfl; have hf0 := blk_frozen hbox 0; have hf1 := blk_frozen hbox 1; clear hb hbox hg)
        obtain ⟨w4, hw4⟩ : ∃ w4, w4 = (w3.setCell ⟨b16, 0, none⟩ (.slice AA nA cA)).setCell ⟨b16, 1, none⟩ (.slice AW nW cW) := ⟨_, rfl⟩
        rw [← hw4]
        have hb4 : Below w2.heap.size w2 w4 := by rw [hw4]; exact below_set (below_set HBm.out hgb) hgb
        have X4 := Aside0.mk (blk_below X2.out hb4)
        have D4 := Aside0.mk (D2.out.below hb4)
        have RA4 := Aside0.mk (Kd.R_below RA2.out hb4)
        have RW4 := Aside0.mk (Kd.R_below RW2.out hb4)
        have hm := (set37 BXm.out (.slice AA nA cA) (.slice AW nW cW)).1
        rw [← hw4] at hm
        have hy0 : w4.cell? ⟨b16, 0, none⟩ = some (.slice AA nA cA) := (blk_cell hm 0).trans rfl
        have hy1 : w4.cell? ⟨b16, 1, none⟩ = some (.slice AW nW cW) := (blk_cell hm 1).trans rfl
        clear hw4 hb4 hm hz0 hz1 hf0 hf1 BXm HBm X2 D2 RA2 RW2 hgb
        have hgd := HOK.out.1 (by rw [← HNA.out, ← HNW.out]; exact c1)
        obtain ⟨kg, hkg⟩ := hgd
        go_wp2_with fail
        go_at_fn 12
        rw [HNA.out, HNW.out]
        rw [HNA.out] at RA4
        rw [HNW.out] at RW4
        refine (duo_hear D4.out.symm n RA4.out RW4.out hkg).mono ?_
        rintro x w5 ⟨rfl, hD, hk⟩
        have X5 := Aside0.mk (hk _ _ _ X4.out (by decide))
        have D5 := Aside0.mk hD.symm
        have hB1 : roundB a0 a1 false n A B = B.hear (A1.msgAll n) (A1.msgWords n) n := by unfold roundB; rw [hA1, if_pos (by rw [← HNA.out, ← HNW.out]; exact c1)]
        rw [← hB1] at D5
        clear hD hk X4 D4 RA4 RW4 hB1 hy0 hy1
        generalize hB1 : roundB a0 a1 false n A B = B1 at *
        go_wp2_with fail
        go_at_fn 13
        refine (duo_tick D5.out.symm n).mono ?_
        rintro x w6 ⟨AC, cC, AD, cD, rfl, hra, hrw, hD, hk⟩
        have X6 := Aside0.mk (hk _ _ _ X5.out (by decide))
        have D6 := Aside0.mk hD.symm
        have RA6 := Aside0.mk hra
        have RW6 := Aside0.mk hrw
        clear hra hrw hD hk X5 D5
        obtain ⟨nC, hnC⟩ : ∃ q, q = (B1.msgAll n).length := ⟨_, rfl⟩
        obtain ⟨nD, hnD⟩ : ∃ q, q = (B1.msgWords n).length := ⟨_, rfl⟩
        rw [← hnC, ← hnD]
        have HNC := Aside0.mk hnC
        have HND := Aside0.mk hnD
        rw [← hnC] at RA6
        rw [← hnD] at RW6
        clear hnC hnD
        by_cases c2 : 0 < nC + nD
        · have hdec2 : decide (0 < nC + nD) = true := decide_eq_true c2
          rw [hdec2]
          go_wp2_with ((with_reducible refine gate_dst (N := 18) rfl ?_); refine box_event ?hg (N := 18) ?hd (cs := #[.slice none 0 0, .slice none 0 0]) (t := 37) ?hr ?_; (case hd => rfl); (case hg => rfl); (case hr => first | (go_simp; done) | (go_simp; rfl)); intro b18 hg w7 hbox hb; have hgb : w6.heap.size ≤ b18 := (by rw [hg]; exact Nat.le_refl _); have BXm := Aside0.mk hbox; have HBm := Aside0.mk hb; have hz0 : w7.cell? ⟨b18, 0, none⟩ = some (.slice none 0 0) := (blk_cell hbox 0).trans rfl; have hz1 : w7.cell? ⟨b18, 1, none⟩ = some (.slice none 0 0) := (blk_cell hbox 1).trans rfl; have hf0 := blk_frozen hbox 0; have hf1 := blk_frozen hbox 1; clear hb hbox hg)
          obtain ⟨w8, hw8⟩ : ∃ w8, w8 = (w7.setCell ⟨b18, 0, none⟩ (.slice AC nC cC)).setCell ⟨b18, 1, none⟩ (.slice AD nD cD) := ⟨_, rfl⟩
          rw [← hw8]
          have hb8 : Below w6.heap.size w6 w8 := by rw [hw8]; exact below_set (below_set HBm.out hgb) hgb
          have X8 := Aside0.mk (blk_below X6.out hb8)
          have D8 := Aside0.mk (D6.out.below hb8)
          have RA8 := Aside0.mk (Kd.R_below RA6.out hb8)
          have RW8 := Aside0.mk (Kd.R_below RW6.out hb8)
          have hm := (set37 BXm.out (.slice AC nC cC) (.slice AD nD cD)).1
          rw [← hw8] at hm
          have hy0 : w8.cell? ⟨b18, 0, none⟩ = some (.slice AC nC cC) := (blk_cell hm 0).trans rfl
          have hy1 : w8.cell? ⟨b18, 1, none⟩ = some (.slice AD nD cD) := (blk_cell hm 1).trans rfl
          clear hw8 hb8 hm hz0 hz1 hf0 hf1 BXm HBm X6 D6 RA6 RW6 hgb
          have hgd := HOK.out.2.1 (by rw [← HNC.out, ← HND.out]; exact c2)
          obtain ⟨kh, hkh⟩ := hgd
          go_wp2_with fail
          go_at_fn 12
          rw [HNC.out, HND.out]
          rw [HNC.out] at RA8
          rw [HND.out] at RW8
          refine (duo_hear D8.out n RA8.out RW8.out hkh).mono ?_
          rintro x w9 ⟨rfl, hD, hk⟩
          have X9 := Aside0.mk (hk _ _ _ X8.out (by decide))
          have D9 := Aside0.mk hD
          have hC1 : roundC a0 a1 false n A B = (A1.tick n).hear (B1.msgAll n) (B1.msgWords n) n := by unfold roundC; rw [hA1, hB1, if_pos (by rw [← HNC.out, ← HND.out]; exact c2)]
          rw [← hC1] at D9
          clear hD hk X8 D8 RA8 RW8 hC1 hy0 hy1
          have HRD := Aside0.mk (show round a0 a1 false n A B = (roundC a0 a1 false n A B, B1.tick n) by unfold round; rw [hB1])
          have HHS := Aside0.mk (show af ≤ n → (B1.tick n).hasA a0 a1 = false from fun hh => by have := HOK.out.2.2 hh; exact this)
          have HNX := HIN
          rw [HRD.out] at HNX
          generalize roundC a0 a1 false n A B = A9 at *
          generalize B1.tick n = B9 at *
          have hq0 : w9.cell? ⟨b11, 0, none⟩ = some (.int .i64 a0) := (blk_cell X9.out 0).trans rfl
          have hq1 : w9.cell? ⟨b11, 1, none⟩ = some (.int .i64 a1) := (blk_cell X9.out 1).trans rfl
          by_cases c3 : af ≤ n
          · have hdec3 : decide ((af : Int) ≤ (n : Int)) = true := decide_eq_true (by omega)
            have hhs := HHS.out c3
            go_wp2_with (go_at_fn 15; with_reducible refine (duo_has D9.out.symm a0 a1).mono ?_; rintro x w10 ⟨rfl, hb10⟩; have D10 := Aside0.mk (D9.out.below hb10); have X10 := Aside0.mk (blk_below X9.out hb10); clear hb10; rw [hhs])
            go_roundg (tt + 1 - (n + 1))
            case measure => omega
            case rel => exact ⟨n + 1, n, rfl, by omega, by omega, by omega, by go_num, A9, B9, D10, HNX, X10⟩
          · have hdec3 : decide ((af : Int) ≤ (n : Int)) = false := decide_eq_false (by omega)
            go_wp2
            go_roundg (tt + 1 - (n + 1))
            case measure => omega
            case rel => exact ⟨n + 1, n, rfl, by omega, by omega, by omega, by go_num, A9, B9, D9, HNX, X9⟩
        · have hdec2 : decide (0 < nC + nD) = false := decide_eq_false c2
          rw [hdec2]
          have hC1 : roundC a0 a1 false n A B = A1.tick n := by unfold roundC; rw [hA1, hB1, if_neg (by rw [← HNC.out, ← HND.out]; exact c2)]
          have HRD := Aside0.mk (show round a0 a1 false n A B = (A1.tick n, B1.tick n) by unfold round; rw [hB1, hC1])
          have HHS := Aside0.mk (show af ≤ n → (B1.tick n).hasA a0 a1 = false from fun hh => by have := HOK.out.2.2 hh; exact this)
          have HNX := HIN
          rw [HRD.out] at HNX
          clear hC1
          generalize A1.tick n = A9 at *
          generalize B1.tick n = B9 at *
          by_cases c3 : af ≤ n
          · have hdec3 : decide ((af : Int) ≤ (n : Int)) = true := decide_eq_true (by omega)
            have hhs := HHS.out c3
            go_wp2_with (first
              | ((with_reducible refine gate_dst (N := 18) rfl ?_); refine box_event ?hg (N := 18) ?hd (cs := #[.slice none 0 0, .slice none 0 0]) (t := 37) ?hr ?_; (case hd => rfl); (case hg => rfl); (case hr => first | (go_simp; done) | (go_simp; rfl)); intro b18 hg w7 hbox hb; have hgb : w6.heap.size ≤ b18 := (by rw [hg]; exact Nat.le_refl _); have BXm := Aside0.mk hbox; have HBm := Aside0.mk hb; have hz0 : w7.cell? ⟨b18, 0, none⟩ = some (.slice none 0 0) := (blk_cell hbox 0).trans rfl; have hz1 : w7.cell? ⟨b18, 1, none⟩ = some (.slice none 0 0) := (blk_cell hbox 1).trans rfl; have hf0 := blk_frozen hbox 0; have hf1 := blk_frozen hbox 1; clear hb hbox hg; have hq0 : w7.cell? ⟨b11, 0, none⟩ = some (.int .i64 a0) := (blk_cell (blk_below X6.out HBm.out) 0).trans rfl; have hq1 : w7.cell? ⟨b11, 1, none⟩ = some (.int .i64 a1) := (blk_cell (blk_below X6.out HBm.out) 1).trans rfl; have hlt6 := blk_lt X6.out; have hnb : ¬ b11 = b18 := (by omega); have hnb2 : ¬ b18 = b11 := (by omega); clear hlt6)
              | (go_at_fn 15; with_reducible refine (duo_has (D6.out.below (below_set (below_set HBm.out hgb) hgb)).symm a0 a1).mono ?_; rintro x w10 ⟨rfl, hb10⟩; have D10 := Aside0.mk ((D6.out.below (below_set (below_set HBm.out hgb) hgb)).below hb10); have X10 := Aside0.mk (blk_below (blk_below X6.out (below_set (below_set HBm.out hgb) hgb)) hb10); clear hb10; rw [hhs]))
            go_roundg (tt + 1 - (n + 1))
            case measure => omega
            case rel => exact ⟨n + 1, n, rfl, by omega, by omega, by omega, by go_num, A9, B9, D10, HNX, X10⟩
          · have hdec3 : decide ((af : Int) ≤ (n : Int)) = false := decide_eq_false (by omega)
            go_wp2_with ((with_reducible refine gate_dst (N := 18) rfl ?_); refine box_event ?hg (N := 18) ?hd (cs := #[.slice none 0 0, .slice none 0 0]) (t := 37) ?hr ?_; (case hd => rfl); (case hg => rfl); (case hr => first | (go_simp; done) | (go_simp; rfl)); intro b18 hg w7 hbox hb; have hgb : w6.heap.size ≤ b18 := (by rw [hg]; exact Nat.le_refl _); have BXm := Aside0.mk hbox; have HBm := Aside0.mk hb; have hz0 : w7.cell? ⟨b18, 0, none⟩ = some (.slice none 0 0) := (blk_cell hbox 0).trans rfl; have hz1 : w7.cell? ⟨b18, 1, none⟩ = some (.slice none 0 0) := (blk_cell hbox 1).trans rfl; have hf0 := blk_frozen hbox 0; have hf1 := blk_frozen hbox 1; clear hb hbox hg; have hq0 : w7.cell? ⟨b11, 0, none⟩ = some (.int .i64 a0) := (blk_cell (blk_below X6.out HBm.out) 0).trans rfl; have hq1 : w7.cell? ⟨b11, 1, none⟩ = some (.int .i64 a1) := (blk_cell (blk_below X6.out HBm.out) 1).trans rfl; have hlt6 := blk_lt X6.out; have hnb : ¬ b11 = b18 := (by omega); have hnb2 : ¬ b18 = b11 := (by omega); clear hlt6)
            go_roundg (tt + 1 - (n + 1))
            case measure => omega
            case rel => exact ⟨n + 1, n, rfl, by omega, by omega, by omega, by go_num, A9, B9, ⟨D6.out.below (below_set (below_set HBm.out hgb) hgb)⟩, HNX, ⟨blk_below X6.out (below_set (below_set HBm.out hgb) hgb)⟩⟩
      · have hdec1 : decide (0 < nA + nW) = false := decide_eq_false c1
        rw [hdec1]
        go_wp2_with ((with_reducible refine gate_dst (N := 16) rfl ?_); refine box_event ?hg (N := 16) ?hd (cs := #[.slice none 0 0, .slice none 0 0]) (t := 37) ?hr ?_; (case hd => rfl); (case hg => rfl); (case hr => first | (go_simp; done) | (go_simp; rfl)); intro b16 hg w3 hbox hb; have hgb : w2.heap.size ≤ b16 := (by rw [hg]; exact Nat.le_refl _); have BXm := Aside0.mk hbox; have HBm := Aside0.mk hb; have hz0 : w3.cell? ⟨b16, 0, none⟩ = some (.slice none 0 0) := (blk_cell hbox 0).trans rfl; have hz1 : w3.cell? ⟨b16, 1, none⟩ = some (.slice none 0 0) := (blk_cell hbox 1).trans rfl; have hf0 := blk_frozen hbox 0; have hf1 := blk_frozen hbox 1; clear hb hbox hg)
        obtain ⟨w4, hw4⟩ : ∃ w4, w4 = (w3.setCell ⟨b16, 0, none⟩ (.slice AA nA cA)).setCell ⟨b16, 1, none⟩ (.slice AW nW cW) := ⟨_, rfl⟩
        rw [← hw4]
        have hb4 : Below w2.heap.size w2 w4 := by rw [hw4]; exact below_set (below_set HBm.out hgb) hgb
        have X4 := Aside0.mk (blk_below X2.out hb4)
        have D4 := Aside0.mk (D2.out.below hb4)
        have RA4 := Aside0.mk (Kd.R_below RA2.out hb4)
        have RW4 := Aside0.mk (Kd.R_below RW2.out hb4)
        have hm := (set37 BXm.out (.slice AA nA cA) (.slice AW nW cW)).1
        rw [← hw4] at hm
        have hy0 : w4.cell? ⟨b16, 0, none⟩ = some (.slice AA nA cA) := (blk_cell hm 0).trans rfl
        have hy1 : w4.cell? ⟨b16, 1, none⟩ = some (.slice AW nW cW) := (blk_cell hm 1).trans rfl
        clear hw4 hb4 hm hz0 hz1 hf0 hf1 BXm HBm X2 D2 RA2 RW2 hgb
        have X5 := X4
        have hB1 : roundB a0 a1 false n A B = B := by unfold roundB; rw [hA1, if_neg (by rw [← HNA.out, ← HNW.out]; exact c1)]
        have D5 := Aside0.mk (show Duo w0 pa qb w4 (A1.tick n) (roundB a0 a1 false n A B) from by rw [hB1]; exact D4.out)
        clear X4 D4 RA4 RW4 hB1 hy0 hy1
        generalize hB1 : roundB a0 a1 false n A B = B1 at *
        go_wp2_with fail
        go_at_fn 13
        refine (duo_tick D5.out.symm n).mono ?_
        rintro x w6 ⟨AC, cC, AD, cD, rfl, hra, hrw, hD, hk⟩
        have X6 := Aside0.mk (hk _ _ _ X5.out (by decide))
        have D6 := Aside0.mk hD.symm
        have RA6 := Aside0.mk hra
        have RW6 := Aside0.mk hrw
        clear hra hrw hD hk X5 D5
        obtain ⟨nC, hnC⟩ : ∃ q, q = (B1.msgAll n).length := ⟨_, rfl⟩
        obtain ⟨nD, hnD⟩ : ∃ q, q = (B1.msgWords n).length := ⟨_, rfl⟩
        rw [← hnC, ← hnD]
        have HNC := Aside0.mk hnC
        have HND := Aside0.mk hnD
        rw [← hnC] at RA6
        rw [← hnD] at RW6
        clear hnC hnD
        by_cases c2 : 0 < nC + nD
        · have hdec2 : decide (0 < nC + nD) = true := decide_eq_true c2
          rw [hdec2]
          go_wp2_with ((with_reducible refine gate_dst (N := 18) rfl ?_); refine box_event ?hg (N := 18) ?hd (cs := #[.slice none 0 0, .slice none 0 0]) (t := 37) ?hr ?_; (case hd => rfl); (case hg => rfl); (case hr => first | (go_simp; done) | (go_simp; rfl)); intro b18 hg w7 hbox hb; have hgb : w6.heap.size ≤ b18 := (by rw [hg]; exact Nat.le_refl _); have BXm := Aside0.mk hbox; have HBm := Aside0.mk hb; have hz0 : w7.cell? ⟨b18, 0, none⟩ = some (.slice none 0 0) := (blk_cell hbox 0).trans rfl; have hz1 : w7.cell? ⟨b18, 1, none⟩ = some (.slice none 0 0) := (blk_cell hbox 1).trans rfl; have hf0 := blk_frozen hbox 0; have hf1 := blk_frozen hbox 1; clear hb hbox hg)
          obtain ⟨w8, hw8⟩ : ∃ w8, w8 = (w7.setCell ⟨b18, 0, none⟩ (.slice AC nC cC)).setCell ⟨b18, 1, none⟩ (.slice AD nD cD) := ⟨_, rfl⟩
          rw [← hw8]
          have hb8 : Below w6.heap.size w6 w8 := by rw [hw8]; exact below_set (below_set HBm.out hgb) hgb
          have X8 := Aside0.mk (blk_below X6.out hb8)
          have D8 := Aside0.mk (D6.out.below hb8)
          have RA8 := Aside0.mk (Kd.R_below RA6.out hb8)
          have RW8 := Aside0.mk (Kd.R_below RW6.out hb8)
          have hm := (set37 BXm.out (.slice AC nC cC) (.slice AD nD cD)).1
          rw [← hw8] at hm
          have hy0 : w8.cell? ⟨b18, 0, none⟩ = some (.slice AC nC cC) := (blk_cell hm 0).trans rfl
          have hy1 : w8.cell? ⟨b18, 1, none⟩ = some (.slice AD nD cD) := (blk_cell hm 1).trans rfl
          clear hw8 hb8 hm hz0 hz1 hf0 hf1 BXm HBm X6 D6 RA6 RW6 hgb
          have hgd := HOK.out.2.1 (by rw [← HNC.out, ← HND.out]; exact c2)
          obtain ⟨kh, hkh⟩ := hgd
          go_wp2_with fail
          go_at_fn 12
          rw [HNC.out, HND.out]
          rw [HNC.out] at RA8
          rw [HND.out] at RW8
          refine (duo_hear D8.out n RA8.out RW8.out hkh).mono ?_
          rintro x w9 ⟨rfl, hD, hk⟩
          have X9 := Aside0.mk (hk _ _ _ X8.out (by decide))
          have D9 := Aside0.mk hD
          have hC1 : roundC a0 a1 false n A B = (A1.tick n).hear (B1.msgAll n) (B1.msgWords n) n := by unfold roundC; rw [hA1, hB1, if_pos (by rw [← HNC.out, ← HND.out]; exact c2)]
          rw [← hC1] at D9
          clear hD hk X8 D8 RA8 RW8 hC1 hy0 hy1
          have HRD := Aside0.mk (show round a0 a1 false n A B = (roundC a0 a1 false n A B, B1.tick n) by unfold round; rw [hB1])
          have HHS := Aside0.mk (show af ≤ n → (B1.tick n).hasA a0 a1 = false from fun hh => by have := HOK.out.2.2 hh; exact this)
          have HNX := HIN
          rw [HRD.out] at HNX
          generalize roundC a0 a1 false n A B = A9 at *
          generalize B1.tick n = B9 at *
          have hq0 : w9.cell? ⟨b11, 0, none⟩ = some (.int .i64 a0) := (blk_cell X9.out 0).trans rfl
          have hq1 : w9.cell? ⟨b11, 1, none⟩ = some (.int .i64 a1) := (blk_cell X9.out 1).trans rfl
          by_cases c3 : af ≤ n
          · have hdec3 : decide ((af : Int) ≤ (n : Int)) = true := decide_eq_true (by omega)
            have hhs := HHS.out c3
            go_wp2_with (go_at_fn 15; with_reducible refine (duo_has D9.out.symm a0 a1).mono ?_; rintro x w10 ⟨rfl, hb10⟩; have D10 := Aside0.mk (D9.out.below hb10); have X10 := Aside0.mk (blk_below X9.out hb10); clear hb10; rw [hhs])
            go_roundg (tt + 1 - (n + 1))
            case measure => omega
            case rel => exact ⟨n + 1, n, rfl, by omega, by omega, by omega, by go_num, A9, B9, D10, HNX, X10⟩
          · have hdec3 : decide ((af : Int) ≤ (n : Int)) = false := decide_eq_false (by omega)
            go_wp2
            go_roundg (tt + 1 - (n + 1))
            case measure => omega
            case rel => exact ⟨n + 1, n, rfl, by omega, by omega, by omega, by go_num, A9, B9, D9, HNX, X9⟩
        · have hdec2 : decide (0 < nC + nD) = false := decide_eq_false c2
          rw [hdec2]
          have hC1 : roundC a0 a1 false n A B = A1.tick n := by unfold roundC; rw [hA1, hB1, if_neg (by rw [← HNC.out, ← HND.out]; exact c2)]
          have HRD := Aside0.mk (show round a0 a1 false n A B = (A1.tick n, B1.tick n) by unfold round; rw [hB1, hC1])
          have HHS := Aside0.mk (show af ≤ n → (B1.tick n).hasA a0 a1 = false from fun hh => by have := HOK.out.2.2 hh; exact this)
          have HNX := HIN
          rw [HRD.out] at HNX
          clear hC1
          generalize A1.tick n = A9 at *
          generalize B1.tick n = B9 at *
          by_cases c3 : af ≤ n
          · have hdec3 : decide ((af : Int) ≤ (n : Int)) = true := decide_eq_true (by omega)
            have hhs := HHS.out c3
            go_wp2_with (first
              | ((with_reducible refine gate_dst (N := 18) rfl ?_); refine box_event ?hg (N := 18) ?hd (cs := #[.slice none 0 0, .slice none 0 0]) (t := 37) ?hr ?_; (case hd => rfl); (case hg => rfl); (case hr => first | (go_simp; done) | (go_simp; rfl)); intro b18 hg w7 hbox hb; have hgb : w6.heap.size ≤ b18 := (by rw [hg]; exact Nat.le_refl _); have BXm := Aside0.mk hbox; have HBm := Aside0.mk hb; have hz0 : w7.cell? ⟨b18, 0, none⟩ = some (.slice none 0 0) := (blk_cell hbox 0).trans rfl; have hz1 : w7.cell? ⟨b18, 1, none⟩ = some (.slice none 0 0) := (blk_cell hbox 1).trans rfl; have hf0 := blk_frozen hbox 0; have hf1 := blk_frozen hbox 1; clear hb hbox hg; have hq0 : w7.cell? ⟨b11, 0, none⟩ = some (.int .i64 a0) := (blk_cell (blk_below X6.out HBm.out) 0).trans rfl; have hq1 : w7.cell? ⟨b11, 1, none⟩ = some (.int .i64 a1) := (blk_cell (blk_below X6.out HBm.out) 1).trans rfl; have hlt6 := blk_lt X6.out; have hnb : ¬ b11 = b18 := (by omega); have hnb2 : ¬ b18 = b11 := (by omega); clear hlt6)
              | (go_at_fn 15; with_reducible refine (duo_has (D6.out.below (below_set (below_set HBm.out hgb) hgb)).symm a0 a1).mono ?_; rintro x w10 ⟨rfl, hb10⟩; have D10 := Aside0.mk ((D6.out.below (below_set (below_set HBm.out hgb) hgb)).below hb10); have X10 := Aside0.mk (blk_below (blk_below X6.out (below_set (below_set HBm.out hgb) hgb)) hb10); clear hb10; rw [hhs]))
            go_roundg (tt + 1 - (n + 1))
            case measure => omega
            case rel => exact ⟨n + 1, n, rfl, by omega, by omega, by omega, by go_num, A9, B9, D10, HNX, X10⟩
          · have hdec3 : decide ((af : Int) ≤ (n : Int)) = false := decide_eq_false (by omega)
            go_wp2_with ((with_reducible refine gate_dst (N := 18) rfl ?_); refine box_event ?hg (N := 18) ?hd (cs := #[.slice none 0 0, .slice none 0 0]) (t := 37) ?hr ?_; (case hd => rfl); (case hg => rfl); (case hr => first | (go_simp; done) | (go_simp; rfl)); intro b18 hg w7 hbox hb; have hgb : w6.heap.size ≤ b18 := (by rw [hg]; exact Nat.le_refl _); have BXm := Aside0.mk hbox; have HBm := Aside0.mk hb; have hz0 : w7.cell? ⟨b18, 0, none⟩ = some (.slice none 0 0) := (blk_cell hbox 0).trans rfl; have hz1 : w7.cell? ⟨b18, 1, none⟩ = some (.slice none 0 0) := (blk_cell hbox 1).trans rfl; have hf0 := blk_frozen hbox 0; have hf1 := blk_frozen hbox 1; clear hb hbox hg; have hq0 : w7.cell? ⟨b11, 0, none⟩ = some (.int .i64 a0) := (blk_cell (blk_below X6.out HBm.out) 0).trans rfl; have hq1 : w7.cell? ⟨b11, 1, none⟩ = some (.int .i64 a1) := (blk_cell (blk_below X6.out HBm.out) 1).trans rfl; have hlt6 := blk_lt X6.out; have hnb : ¬ b11 = b18 := (by omega); have hnb2 : ¬ b18 = b11 := (by omega); clear hlt6)
            go_roundg (tt + 1 - (n + 1))
            case measure => omega
            case rel => exact ⟨n + 1, n, rfl, by omega, by omega, by omega, by go_num, A9, B9, ⟨D6.out.below (below_set (below_set HBm.out hgb) hgb)⟩, HNX, ⟨blk_below X6.out (below_set (below_set HBm.out hgb) hgb)⟩⟩
    · have hltz : ¬ (n : Int) ≤ (tt : Int) := by omega
      have ek : k = tt := by omega
      subst ek
      go_wp2
      go_ret
      exact ⟨rfl, A, B, D.out, HI.out⟩
end Go.Proofs.YtkahciadkgjbbaaDoor.QPty
namespace Go.Proofs.YtkahciadkgjbbaaDoor.QPty
open Go.RowKit Go.Proofs.YtkahciadkgjbbaaDoorW.PrintWords Go.Proofs.YtkahciadkgjbbaaDoorW.PrintLast Go.Proofs.YtkahciadkgjbbaaDoorW.PrintMore Gen
set_option linter.unusedVariables false
set_option linter.unusedSimpArgs false
theorem types0 : typesL [] = [1] := by unfold typesL Lib.compact; simp [List.mergeSort, Lib.compactUpTo, Lib.keeps, List.range, List.range.loop]
theorem types1 : typesL [1] = [1] := by unfold typesL Lib.compact; simp [List.mergeSort, List.MergeSort.Internal.splitInTwo, List.merge, Lib.compactUpTo, Lib.keeps, List.range, List.range.loop]
def r0 : RG := ⟨0, 0, 0, 0⟩
def keepS (l : List PS) : List PS := l.filter fun s => !s.idle
section
variable {m : PM} {n : Nat} {s : PS}
theorem all_sl (m : PM) (kd now : Int) : (m.all kd now).sl = m.sl.map (PS.all kd now) := rfl
theorem hearAll_nil (h : m.sl = []) {all : List Int} (ha : all = [] ∨ all = [1]) : (m.kinds all n).sl = [] := by
  rcases ha with rfl | rfl
  · exact h
  · show (m.all 1 n).sl = []
    rw [all_sl, h]; rfl
theorem hearAll_one (h : m.sl = [s]) {all : List Int} (ha : all = [] ∨ all = [1]) : ∃ s2, (s2 = s ∨ s2 = PS.all 1 n s) ∧ (m.kinds all n).sl = [s2] := by
  rcases ha with rfl | rfl
  · exact ⟨s, .inl rfl, h⟩
  · exact ⟨_, .inr rfl, by show (m.all 1 n).sl = _; rw [all_sl, h]; rfl⟩
theorem tick_nil (h : m.sl = []) : (m.msgAll n = [] ∨ m.msgAll n = [1]) ∧ m.msgWords n = [] ∧ (m.tick n).sl = [] := by
  have h1 : (m.tick1 n).sl = [] := by unfold PM.tick1; dsimp only; rw [h]; rfl
  have h2 : ((m.tick1 n).tick2 n).sl = [] := by
    unfold PM.tick2
    split
    · rw [h1]
      show (PM.kinds _ (typesL []) n).sl = []
      rw [types0]
      exact hearAll_nil rfl (.inr rfl)
    · exact h1
  have h3 : (((m.tick1 n).tick2 n).tick3 n).sl = [] := by
    unfold PM.tick3
    split
    · unfold PM.say; dsimp only; rw [h2]; rfl
    · exact h2
  refine ⟨?_, ?_, ?_⟩
  · unfold PM.msgAll PM.sayAll
    rw [h2]
    split
    · split
      · exact .inr types0
      · exact .inl rfl
    · exact .inl rfl
  · unfold PM.msgWords PM.sayWords
    rw [h2]
    split <;> rfl
  · unfold PM.tick PM.tidy
    dsimp only
    rw [h3]; rfl
theorem tick_one (h : m.sl = [s]) (ha : s.a0 = 1) : ∃ s2, (s2 = PS.tick n s ∨ s2 = PS.all 1 n (PS.tick n s)) ∧ (m.msgAll n = [] ∨ m.msgAll n = [1]) ∧ m.msgWords n = (if (n : Int) % 2 = 0 then [s2].filterMap PS.word else []) ∧ (m.tick n).sl = keepS [if (n : Int) % 2 = 0 then PS.say s2 else s2] := by
  have h1 : (m.tick1 n).sl = [PS.tick n s] := by unfold PM.tick1; dsimp only; rw [h]; rfl
  have h2 : ∃ s2, (s2 = PS.tick n s ∨ s2 = PS.all 1 n (PS.tick n s)) ∧ ((m.tick1 n).tick2 n).sl = [s2] := by
    unfold PM.tick2
    split
    · rw [h1]
      show ∃ s2, _ ∧ (PM.kinds _ (typesL [s.a0]) n).sl = [s2]
      rw [ha, types1]
      exact ⟨_, .inr rfl, by show (PM.all _ 1 n).sl = _; rw [all_sl]; rfl⟩
    · exact ⟨_, .inl rfl, h1⟩
  obtain ⟨s2, hs2, h2⟩ := h2
  have ha2 : s2.a0 = 1 := by
    rcases hs2 with rfl | rfl
    · exact ha
    · unfold PS.all; split <;> exact ha
  refine ⟨s2, hs2, ?_, ?_, ?_⟩
  · unfold PM.msgAll PM.sayAll
    rw [h2]
    split
    · split
      · exact .inr (by show typesL [s2.a0] = [1]; rw [ha2]; exact types1)
      · exact .inl rfl
    · exact .inl rfl
  · unfold PM.msgWords PM.sayWords
    rw [h2]
  · unfold PM.tick PM.tidy
    dsimp only
    show keepS _ = _
    congr 1
    unfold PM.tick3
    split
    · unfold PM.say; dsimp only; rw [h2]; rfl
    · exact h2
theorem hear_nil (h : m.sl = []) {all : List Int} (ha : all = [] ∨ all = [1]) : (m.hear all [] n).sl = [] := by
  unfold PM.hear PM.tidy
  dsimp only
  show keepS ((m.kinds all n).words [] n).sl = []
  unfold PM.words
  rw [List.foldl_nil, hearAll_nil h ha]; rfl
theorem hear_one (h : m.sl = [s]) {all : List Int} (ha : all = [] ∨ all = [1]) : ∃ s2, (s2 = s ∨ s2 = PS.all 1 n s) ∧ (m.hear all [] n).sl = keepS [s2] := by
  obtain ⟨s2, hs2, h2⟩ := hearAll_one (n := n) h ha
  refine ⟨s2, hs2, ?_⟩
  unfold PM.hear PM.tidy
  dsimp only
  show keepS ((m.kinds all n).words [] n).sl = _
  unfold PM.words
  rw [List.foldl_nil, h2]
theorem hearW_nil (h : m.sl = []) {all : List Int} (ha : all = [] ∨ all = [1]) (ev bo : Int) : (m.hear all [⟨⟨1, 9⟩, ev, bo⟩] n).sl = keepS (if ev = 0 ∨ ev = 1 ∨ ev = 3 then [PS.hear ev bo n (psNew 1 9)] else []) := by
  unfold PM.hear PM.tidy
  dsimp only
  show keepS ((m.kinds all n).words [⟨⟨1, 9⟩, ev, bo⟩] n).sl = _
  unfold PM.words
  rw [List.foldl_cons, List.foldl_nil]
  have h2 := hearAll_nil (n := n) h ha
  generalize m.kinds all n = q at *
  congr 1
  unfold PM.hear1
  dsimp only
  have hh : hitS q.sl 1 9 = false := by rw [h2]; rfl
  rw [hh, if_neg (by decide)]
  split
  · rw [if_neg (by rw [h2]; decide)]
    unfold PM.upd PM.room
    rw [hh, if_neg (by decide), if_neg (by rw [h2]; decide)]
    dsimp only
    rw [h2]
    rfl
  · exact h2
theorem hearW_one (h : m.sl = [s]) (h0 : s.a0 = 1) (h1 : s.a1 = 9) {all : List Int} (ha : all = [] ∨ all = [1]) (ev bo : Int) : ∃ s2, (s2 = s ∨ s2 = PS.all 1 n s) ∧ (m.hear all [⟨⟨1, 9⟩, ev, bo⟩] n).sl = keepS [PS.hear ev bo n s2] := by
  obtain ⟨s2, hs2, h2⟩ := hearAll_one (n := n) h ha
  refine ⟨s2, hs2, ?_⟩
  have hi : s2.is 1 9 = true := by
    have : s2.a0 = 1 ∧ s2.a1 = 9 := by
      rcases hs2 with rfl | rfl
      · exact ⟨h0, h1⟩
      · unfold PS.all; split <;> exact ⟨h0, h1⟩
    unfold PS.is
    exact decide_eq_true this
  unfold PM.hear PM.tidy
  dsimp only
  show keepS ((m.kinds all n).words [⟨⟨1, 9⟩, ev, bo⟩] n).sl = _
  unfold PM.words
  rw [List.foldl_cons, List.foldl_nil]
  generalize m.kinds all n = q at *
  congr 1
  unfold PM.hear1
  dsimp only
  have hh : hitS q.sl 1 9 = true := by rw [h2]; unfold hitS; simp [hi]
  rw [hh, if_pos rfl]
  unfold PM.upd
  dsimp only
  rw [h2]
  simp [hi]
theorem want_nil (h : m.sl = []) (born : Int) (hb : 0 ≤ born) (hb2 : born ≤ 1048576) : (m.want 1 9 born false).sl = [⟨1, 9, 1, born, r0⟩] := by
  have hh : hitS m.sl 1 9 = false := by rw [h]; rfl
  unfold PM.want
  rw [if_neg (by rintro (k | k); exact absurd k (by decide); omega), hh, if_neg (by decide), if_neg (by omega), if_neg (by rw [h]; decide)]
  unfold PM.tidy PM.upd PM.room
  rw [hh, if_neg (by decide), if_neg (by rw [h]; decide)]
  dsimp only
  rw [h]
  have e : PS.want born false (psNew 1 9) = ⟨1, 9, 1, born, r0⟩ := by
    unfold PS.want psNew wst
    dsimp only
    have hb' : ¬ born < 0 := by omega
    simp only [if_neg hb']
    rfl
  show ([psNew 1 9].map fun s => if s.is 1 9 then PS.want born false s else s).filter _ = _
  have hi : (psNew 1 9).is 1 9 = true := rfl
  simp only [List.map_cons, List.map_nil, hi, if_true, e]
  rfl
theorem want_one {st : Nat} {b : Int} (h : m.sl = [⟨1, 9, st, b, r0⟩]) (hst : st = 1 ∨ st = 2 ∨ st = 3) (born : Int) (hb : 0 ≤ born) (hb2 : born ≤ 1048576) : (m.want 1 9 born false).sl = [⟨1, 9, st, born, r0⟩] := by
  have hh : hitS m.sl 1 9 = true := by rw [h]; rfl
  unfold PM.want
  rw [if_neg (by rintro (k | k); exact absurd k (by decide); omega), hh, if_pos rfl]
  unfold PM.tidy PM.upd
  dsimp only
  rw [h]
  have hi : (⟨1, 9, st, b, r0⟩ : PS).is 1 9 = true := rfl
  have e : PS.want born false ⟨1, 9, st, b, r0⟩ = ⟨1, 9, st, born, r0⟩ := by
    unfold PS.want wst
    dsimp only
    have hb' : ¬ born < 0 := by omega
    have hs' : asays st = true := by unfold asays; exact decide_eq_true hst
    simp only [if_neg hb', hs', if_true]
  simp only [List.map_cons, List.map_nil, hi, if_true, e]
  have hid : (⟨1, 9, st, born, r0⟩ : PS).idle = false := by
    unfold PS.idle
    dsimp only
    rw [decide_eq_false (show ¬ st = 0 by omega), Bool.and_false]
  rw [List.filter_cons_of_pos (by rw [hid]; rfl)]; rfl
theorem unwant_nil (h : m.sl = []) : (m.want 1 9 (-1) false).sl = [] := by
  have hh : hitS m.sl 1 9 = false := by rw [h]; rfl
  unfold PM.want
  rw [if_neg (by decide), hh, if_neg (by decide), if_pos (by decide)]
  exact h
theorem unwant_one {st : Nat} {b : Int} (h : m.sl = [⟨1, 9, st, b, r0⟩]) (hst : st = 1 ∨ st = 2 ∨ st = 3) : (m.want 1 9 (-1) false).sl = [⟨1, 9, 4, b, r0⟩] := by
  have hh : hitS m.sl 1 9 = true := by rw [h]; rfl
  unfold PM.want
  rw [if_neg (by decide), hh, if_pos rfl]
  unfold PM.tidy PM.upd
  dsimp only
  rw [h]
  rcases hst with rfl | rfl | rfl <;> rfl
end
theorem good_msg {all : List Int} (ha : all = [] ∨ all = [1]) {words : List S42} (hw : words = [] ∨ ∃ ev bo, words = [⟨⟨1, 9⟩, ev, bo⟩] ∧ 0 ≤ ev ∧ ev ≤ 5 ∧ 0 ≤ bo ∧ bo ≤ 1048576) : ∃ k, mrpdu_Good.f k all words = some true := by
  refine ⟨4, ?_⟩
  have hs : mrpdu_size.f 1 = some 2 := rfl
  have hat : mrpdu_Attr.f 1 9 = some true := attr_ev 1 9
  have hl1 : ∀ k, mrpdu_Good.l1 (k + 2) words (words.length : Int) 0 all words = some true := fun k => by
    rcases hw with rfl | ⟨ev, bo, rfl, h0, h1, h2, h3⟩
    · simp [mrpdu_Good.l1]
    · have hwd : mrpdu_word.f 1 9 ev bo = some true := by
        unfold mrpdu_word.f
        rw [hat]
        simp [h0, h1, h2, h3]
      have w1 : wrap64 1 = 1 := by decide +kernel
      simp [mrpdu_Good.l1, rd_T42, hwd, w1]
  unfold mrpdu_Good.f
  rcases ha with rfl | rfl
  · have := hl1 1
    simp only [mrpdu_Good.l0, List.length_nil]
    simpa using this
  · have w1 : wrap64 1 = 1 := by decide +kernel
    have := hl1 0
    simp [mrpdu_Good.l0, rd, hs, w1]
    simpa using this
end Go.Proofs.YtkahciadkgjbbaaDoor.QPty
namespace Go.Proofs.YtkahciadkgjbbaaDoor.QPty
open Go.RowKit Go.Proofs.YtkahciadkgjbbaaDoorW.PrintWords Go.Proofs.YtkahciadkgjbbaaDoorW.PrintLast Go.Proofs.YtkahciadkgjbbaaDoorW.PrintMore Gen
set_option linter.unusedVariables false
set_option linter.unusedSimpArgs false
def aS (st : Nat) (bo : Int) : PS := ⟨1, 9, st, bo, r0⟩
def bS (rs : Nat) (L due : Int) : PS := ⟨1, 9, 0, 0, ⟨0, rs, L, due⟩⟩
def up (st : Nat) : Prop := st = 1 ∨ st = 2 ∨ st = 3
abbrev AllOk (all : List Int) : Prop := all = [] ∨ all = [1]
section
variable {m : PM} {n : Nat} {st rs : Nat} {bo L due : Int}
theorem rtick0 (n : Int) : rtick r0 n = r0 := by
  unfold rtick
  have h1 : rt1 r0 n = r0 := by unfold rt1; exact if_neg (fun x => absurd x.1 (by decide))
  rw [h1]
  unfold rt2
  exact if_neg (fun x => absurd rfl x.1)
theorem aTick (n st : Nat) (bo : Int) : PS.tick n (aS st bo) = aS (if (n : Int) % 6 = 0 then aN st 3 else st) bo := by
  unfold PS.tick aS
  dsimp only
  rw [rtick0]
theorem aKeep (h : st ≠ 0) : keepS [aS st bo] = [aS st bo] := by
  have hid : (aS st bo).idle = false := by
    unfold PS.idle aS
    dsimp only
    rw [decide_eq_false h, Bool.and_false]
  unfold keepS
  rw [List.filter_cons_of_pos (by rw [hid]; rfl)]; rfl
theorem bKeep (h : rs ≠ 0) : keepS [bS rs L due] = [bS rs L due] := by
  have hid : (bS rs L due).idle = false := by
    unfold PS.idle bS ridle
    dsimp only
    rw [decide_eq_false (by omega)]; rfl
  unfold keepS
  rw [List.filter_cons_of_pos (by rw [hid]; rfl)]; rfl
theorem bDrop : keepS [bS 0 L due] = [] := rfl
theorem bAll (n : Int) (h1 : -1000 ≤ n) (h2 : n ≤ 100000) : PS.all 1 n (bS 2 L due) = bS 1 L (n + 24) ∧ PS.all 1 n (bS 1 L due) = bS 1 L due ∧ PS.all 1 n (bS 0 L due) = bS 0 L due := by
  refine ⟨?_, rfl, rfl⟩
  have hw : wrap64 (n + 24) = n + 24 := by unfold wrap64; omega
  show bS 1 L (wrap64 (n + 24)) = _
  rw [hw]
theorem bSay : PS.say (bS rs L due) = bS rs L due := rfl
theorem old_no {L n : Int} (h0 : 0 ≤ L) (h1 : L ≤ n) (h2 : n ≤ L + 120) : old L n = false := by
  unfold old
  apply decide_eq_false
  have : wrap64 (n - L) = n - L := by unfold wrap64; omega
  omega
theorem bTick (n : Nat) (h0 : 0 ≤ L) (h1 : L ≤ n) (h2 : n ≤ L + 120) : PS.tick n (bS 2 L due) = bS 2 L due ∧ ((n : Int) < due → PS.tick n (bS 1 L due) = bS 1 L due) ∧ (due ≤ n → PS.tick n (bS 1 L due) = bS 0 L due) := by
  have ho := old_no h0 h1 h2
  have e0 : ∀ r : RG, PS.tick n ⟨1, 9, 0, 0, r⟩ = ⟨1, 9, 0, 0, rtick r n⟩ := fun r => by
    unfold PS.tick
    dsimp only
    congr 1
    split <;> rfl
  have t2 : ∀ r : RG, r.born = L → rt2 r n = r := fun r hr => by
    unfold rt2
    exact if_neg (fun x => by rw [hr, ho] at x; exact absurd x.2 (by decide))
  refine ⟨?_, fun h => ?_, fun h => ?_⟩
  · unfold bS
    rw [e0]
    unfold rtick
    rw [show rt1 ⟨0, 2, L, due⟩ n = ⟨0, 2, L, due⟩ by unfold rt1; exact if_neg (fun x => absurd (show (2 : Nat) = 1 from x.1) (by decide)), t2 _ rfl]
  · unfold bS
    rw [e0]
    unfold rtick
    rw [show rt1 ⟨0, 1, L, due⟩ n = ⟨0, 1, L, due⟩ by unfold rt1; exact if_neg (fun x => by have := x.2; dsimp only at this; omega), t2 _ rfl]
  · unfold bS
    rw [e0]
    unfold rtick
    rw [show rt1 ⟨0, 1, L, due⟩ n = ⟨0, 0, L, due⟩ by unfold rt1; exact if_pos ⟨rfl, h⟩, t2 _ rfl]
def awake (rs : Nat) (due : Int) (n : Int) : Prop := rs = 2 ∨ (rs = 1 ∧ n < due)
def after (rs : Nat) (due : Int) (n : Int) (rs' : Nat) (due' : Int) : Prop := (rs' = rs ∧ due' = due) ∨ (rs = 2 ∧ rs' = 1 ∧ due' = n + 24)
theorem tickB (h : m.sl = [bS rs L due]) (hr : awake rs due n) (h0 : 0 ≤ L) (h1 : L ≤ n) (h2 : n ≤ L + 120) (h3 : n ≤ 5000) :
    AllOk (m.msgAll n) ∧ m.msgWords n = [] ∧ ∃ rs' due', (m.tick n).sl = [bS rs' L due'] ∧ after rs due n rs' due' := by
  obtain ⟨s2, hs2, ha, hw, ht⟩ := tick_one (n := n) h rfl
  obtain ⟨b1, b2, b3⟩ := bTick (due := due) n h0 h1 h2
  obtain ⟨a1, a2, a3⟩ := bAll (L := L) (due := due) (n : Int) (by omega) (by omega)
  have key : ∃ rs' due', s2 = bS rs' L due' ∧ after rs due n rs' due' ∧ rs' ≠ 0 := by
    rcases hr with rfl | ⟨rfl, hd⟩
    · rw [b1] at hs2
      rcases hs2 with rfl | rfl
      · exact ⟨2, due, rfl, .inl ⟨rfl, rfl⟩, by decide⟩
      · exact ⟨1, n + 24, a1, .inr ⟨rfl, rfl, rfl⟩, by decide⟩
    · rw [b2 hd] at hs2
      rcases hs2 with rfl | rfl
      · exact ⟨1, due, rfl, .inl ⟨rfl, rfl⟩, by decide⟩
      · exact ⟨1, due, a2, .inl ⟨rfl, rfl⟩, by decide⟩
  obtain ⟨rs', due', rfl, hk, hne⟩ := key
  refine ⟨ha, ?_, rs', due', ?_, hk⟩
  · rw [hw]; split <;> rfl
  · rw [ht, bSay, ite_self, bKeep hne]
theorem tickB_gone (h : m.sl = [bS 1 L due]) (hd : due ≤ n) (h0 : 0 ≤ L) (h1 : L ≤ n) (h2 : n ≤ L + 120) (h3 : n ≤ 5000) :
    AllOk (m.msgAll n) ∧ m.msgWords n = [] ∧ (m.tick n).sl = [] := by
  obtain ⟨s2, hs2, ha, hw, ht⟩ := tick_one (n := n) h rfl
  obtain ⟨b1, b2, b3⟩ := bTick (due := due) n h0 h1 h2
  obtain ⟨a1, a2, a3⟩ := bAll (L := L) (due := due) (n : Int) (by omega) (by omega)
  have key : s2 = bS 0 L due := by
    rw [b3 hd] at hs2
    rcases hs2 with rfl | rfl
    · rfl
    · exact a3
  subst key
  refine ⟨ha, ?_, ?_⟩
  · rw [hw]; split <;> rfl
  · rw [ht, bSay, ite_self, bDrop]
theorem after_ne {rs' : Nat} {due' x : Int} (hr : awake rs due x) (h : after rs due n rs' due') : rs' ≠ 0 := by
  rcases h with ⟨h, _⟩ | ⟨_, h, _⟩
  · rcases hr with k | ⟨k, _⟩ <;> omega
  · omega
theorem hearB_all (h : m.sl = [bS rs L due]) (hr : awake rs due n) (h3 : n ≤ 5000) {all : List Int} (ha : AllOk all) : ∃ rs' due', (m.hear all [] n).sl = [bS rs' L due'] ∧ after rs due n rs' due' := by
  obtain ⟨s2, hs2, ht⟩ := hear_one (n := n) h ha
  obtain ⟨a1, a2, a3⟩ := bAll (L := L) (due := due) (n : Int) (by omega) (by omega)
  have key : ∃ rs' due', s2 = bS rs' L due' ∧ after rs due n rs' due' := by
    rcases hs2 with rfl | rfl
    · exact ⟨rs, due, rfl, .inl ⟨rfl, rfl⟩⟩
    · rcases hr with rfl | ⟨rfl, hd⟩
      · exact ⟨1, n + 24, a1, .inr ⟨rfl, rfl, rfl⟩⟩
      · exact ⟨1, due, a2, .inl ⟨rfl, rfl⟩⟩
  obtain ⟨rs', due', rfl, hk⟩ := key
  exact ⟨rs', due', by rw [ht, bKeep (after_ne hr hk)], hk⟩
theorem mn_self (n : Int) : mn n n = n := by unfold mn; split <;> rfl
theorem hearW (n : Nat) (ev : Int) (hev : ev = 0 ∨ ev = 1) (hrs : rs = 0 ∨ rs = 1 ∨ rs = 2) (h1 : rs = 0 ∨ L ≤ n) : PS.hear ev n n (bS rs L due) = bS 2 n due := by
  unfold PS.hear bS
  dsimp only
  have hr : rhear ⟨0, rs, L, due⟩ ev n n = rjoin ⟨0, rs, L, due⟩ n n := by
    unfold rhear
    rw [if_pos (by omega), if_pos ⟨by rw [mn_self]; exact old_no (by omega) (Int.le_refl _) (by omega), by rw [mn_self]; omega⟩]
  rw [hr]
  unfold rjoin
  dsimp only
  rw [mn_self]
  have hb : (if rs = 0 then (n : Int) else mx L n) = n := by
    rcases h1 with h1 | h1
    · rw [if_pos h1]
    · split
      · rfl
      · unfold mx; split <;> omega
  rw [hb]
  rcases hrs with rfl | rfl | rfl <;> rfl
theorem hearB_word (h : m.sl = [bS rs L due]) (hr : awake rs due n) (h1 : L ≤ n) (h3 : n ≤ 5000) {all : List Int} (ha : AllOk all) (ev : Int) (hev : ev = 0 ∨ ev = 1) : ∃ due', (m.hear all [⟨⟨1, 9⟩, ev, n⟩] n).sl = [bS 2 n due'] := by
  obtain ⟨s2, hs2, ht⟩ := hearW_one (n := n) h rfl rfl ha ev n
  obtain ⟨a1, a2, a3⟩ := bAll (L := L) (due := due) (n : Int) (by omega) (by omega)
  have key : ∃ rs' due', s2 = bS rs' L due' ∧ (rs' = 0 ∨ rs' = 1 ∨ rs' = 2) := by
    rcases hs2 with rfl | rfl
    · exact ⟨rs, due, rfl, by rcases hr with k | ⟨k, _⟩ <;> omega⟩
    · rcases hr with rfl | ⟨rfl, hd⟩
      · exact ⟨1, n + 24, a1, by decide⟩
      · exact ⟨1, due, a2, by decide⟩
  obtain ⟨rs', due', rfl, hk⟩ := key
  exact ⟨due', by rw [ht, hearW n ev hev hk (.inr h1), bKeep (by decide)]⟩
theorem hearB_new (h : m.sl = []) {all : List Int} (ha : AllOk all) (ev : Int) (hev : ev = 0 ∨ ev = 1) : ∃ due', (m.hear all [⟨⟨1, 9⟩, ev, n⟩] n).sl = [bS 2 n due'] := by
  have ht := hearW_nil (n := n) h ha ev n
  rw [if_pos (by omega)] at ht
  exact ⟨0, by rw [ht, show psNew 1 9 = bS 0 0 0 from rfl, hearW n ev hev (.inl rfl) (.inl rfl), bKeep (by decide)]⟩
theorem hearB_leave (h : m.sl = [bS rs L due]) (hr : awake rs due n) (h3 : n ≤ 5000) {all : List Int} (ha : AllOk all) (bo : Int) : ∃ due', (m.hear all [⟨⟨1, 9⟩, 5, bo⟩] n).sl = [bS 1 L due'] ∧ ((rs = 1 ∧ due' = due) ∨ due' = n + 24) := by
  obtain ⟨s2, hs2, ht⟩ := hearW_one (n := n) h rfl rfl ha 5 bo
  obtain ⟨a1, a2, a3⟩ := bAll (L := L) (due := due) (n : Int) (by omega) (by omega)
  have hw : wrap64 ((n : Int) + 24) = n + 24 := by unfold wrap64; omega
  have n1 : rN 2 1 = 1 := by decide
  have n2 : rN 1 1 = 1 := by decide
  have l2 : ∀ d, PS.hear 5 bo n (bS 2 L d) = bS 1 L (n + 24) := fun d => by
    unfold PS.hear bS
    dsimp only
    unfold rhear
    rw [if_neg (by decide), if_pos rfl]
    unfold rstep
    dsimp only
    rw [if_pos (by decide), n1, hw]
  have l1 : ∀ d, PS.hear 5 bo n (bS 1 L d) = bS 1 L d := fun d => by
    unfold PS.hear bS
    dsimp only
    unfold rhear
    rw [if_neg (by decide), if_pos rfl]
    unfold rstep
    dsimp only
    rw [if_neg (by decide), n2]
  rcases hr with rfl | ⟨rfl, hd⟩
  · rcases hs2 with rfl | rfl
    · exact ⟨n + 24, by rw [ht, l2, bKeep (by decide)], .inr rfl⟩
    · exact ⟨n + 24, by rw [ht, a1, l1, bKeep (by decide)], .inr rfl⟩
  · rcases hs2 with rfl | rfl
    · exact ⟨due, by rw [ht, l1, bKeep (by decide)], .inl ⟨rfl, rfl⟩⟩
    · exact ⟨due, by rw [ht, a2, l1, bKeep (by decide)], .inl ⟨rfl, rfl⟩⟩
theorem hearB_leave_nil (h : m.sl = []) {all : List Int} (ha : AllOk all) (bo : Int) : (m.hear all [⟨⟨1, 9⟩, 5, bo⟩] n).sl = [] := by
  have ht := hearW_nil (n := n) h ha 5 bo
  rw [if_neg (by decide)] at ht
  rw [ht]; rfl
theorem has_bS (h : m.sl = [bS rs L due]) (hr : rs ≠ 0) : m.hasA 1 9 = true := by
  have hg : m.get 1 9 = some (bS rs L due) := by unfold PM.get; rw [h]; rfl
  unfold PM.hasA
  rw [hg]
  show rhas ⟨0, rs, L, due⟩ = true
  unfold rhas
  exact decide_eq_true (.inr ⟨rfl, hr⟩)
theorem has_nil' (h : m.sl = []) : m.hasA 1 9 = false := by
  unfold PM.hasA PM.get
  rw [h]; rfl
theorem tickA (h : m.sl = [aS st bo]) (hst : up st) : AllOk (m.msgAll n) ∧ ∃ st', (m.tick n).sl = [aS st' bo] ∧ up st' ∧
    ((¬ (n : Int) % 2 = 0 ∧ m.msgWords n = [] ∧ (st = 1 → st' = 1)) ∨ ((n : Int) % 2 = 0 ∧ (m.msgWords n = [] ∧ ¬ (n : Int) % 6 = 0 ∧ st ≠ 1 ∨ ∃ ev, (ev = 0 ∨ ev = 1) ∧ m.msgWords n = [⟨⟨1, 9⟩, ev, bo⟩]))) := by
  obtain ⟨s2, hs2, ha, hw, ht⟩ := tick_one (n := n) h rfl
  rw [aTick] at hs2
  refine ⟨ha, ?_⟩
  have key : ∃ q, s2 = aS q bo ∧ up q ∧ (st = 1 → q = 1) ∧ (q = 3 → ¬ (n : Int) % 6 = 0 ∧ st ≠ 1) := by
    by_cases c6 : (n : Int) % 6 = 0
    · rw [if_pos c6] at hs2
      rcases hst with rfl | rfl | rfl <;> rcases hs2 with rfl | rfl
      all_goals first
        | exact ⟨1, rfl, .inl rfl, fun _ => rfl, fun k => absurd k (by decide)⟩
        | exact ⟨2, rfl, .inr (.inl rfl), fun k => absurd k (by decide), fun k => absurd k (by decide)⟩
    · rw [if_neg c6] at hs2
      rcases hst with rfl | rfl | rfl <;> rcases hs2 with rfl | rfl
      all_goals first
        | exact ⟨1, rfl, .inl rfl, fun _ => rfl, fun k => absurd k (by decide)⟩
        | exact ⟨2, rfl, .inr (.inl rfl), fun k => absurd k (by decide), fun k => absurd k (by decide)⟩
        | exact ⟨3, rfl, .inr (.inr rfl), fun k => absurd k (by decide), fun k => ⟨c6, by decide⟩⟩
  obtain ⟨q, rfl, hq, h1, h3⟩ := key
  by_cases c2 : (n : Int) % 2 = 0
  · rw [if_pos c2] at hw ht
    rcases hq with rfl | rfl | rfl
    · exact ⟨2, by rw [ht]; rfl, .inr (.inl rfl), .inr ⟨c2, .inr ⟨0, .inl rfl, by rw [hw]; rfl⟩⟩⟩
    · exact ⟨3, by rw [ht]; rfl, .inr (.inr rfl), .inr ⟨c2, .inr ⟨1, .inr rfl, by rw [hw]; rfl⟩⟩⟩
    · exact ⟨3, by rw [ht]; rfl, .inr (.inr rfl), .inr ⟨c2, .inl ⟨by rw [hw]; rfl, h3 rfl⟩⟩⟩
  · rw [if_neg c2] at hw ht
    refine ⟨q, by rw [ht, aKeep (by rcases hq with k | k | k <;> omega)], hq, .inl ⟨c2, hw, h1⟩⟩
theorem hearA (h : m.sl = [aS st bo]) (hst : up st) {all : List Int} (ha : AllOk all) : ∃ st', (m.hear all [] n).sl = [aS st' bo] ∧ up st' ∧ (st = 1 → st' = 1) := by
  obtain ⟨s2, hs2, ht⟩ := hear_one (n := n) h ha
  rcases hst with rfl | rfl | rfl <;> rcases hs2 with rfl | rfl
  all_goals first
    | exact ⟨1, by rw [ht]; rfl, .inl rfl, fun _ => rfl⟩
    | exact ⟨2, by rw [ht]; rfl, .inr (.inl rfl), fun k => absurd k (by decide)⟩
    | exact ⟨3, by rw [ht]; rfl, .inr (.inr rfl), fun k => absurd k (by decide)⟩
theorem tickA4 (h : m.sl = [aS 4 bo]) : AllOk (m.msgAll n) ∧ ((¬ (n : Int) % 2 = 0 ∧ m.msgWords n = [] ∧ (m.tick n).sl = [aS 4 bo]) ∨ ((n : Int) % 2 = 0 ∧ m.msgWords n = [⟨⟨1, 9⟩, 5, bo⟩] ∧ (m.tick n).sl = [])) := by
  obtain ⟨s2, hs2, ha, hw, ht⟩ := tick_one (n := n) h rfl
  rw [aTick] at hs2
  refine ⟨ha, ?_⟩
  have key : s2 = aS 4 bo := by
    by_cases c6 : (n : Int) % 6 = 0
    · rw [if_pos c6] at hs2
      rcases hs2 with rfl | rfl <;> rfl
    · rw [if_neg c6] at hs2
      rcases hs2 with rfl | rfl <;> rfl
  subst key
  by_cases c2 : (n : Int) % 2 = 0
  · rw [if_pos c2] at hw ht
    exact .inr ⟨c2, by rw [hw]; rfl, by rw [ht]; rfl⟩
  · rw [if_neg c2] at hw ht
    exact .inl ⟨c2, hw, by rw [ht, aKeep (by decide)]⟩
theorem hearA4 (h : m.sl = [aS 4 bo]) {all : List Int} (ha : AllOk all) : (m.hear all [] n).sl = [aS 4 bo] := by
  obtain ⟨s2, hs2, ht⟩ := hear_one (n := n) h ha
  rcases hs2 with rfl | rfl <;> (rw [ht]; rfl)
end
end Go.Proofs.YtkahciadkgjbbaaDoor.QPty
namespace Go.Proofs.YtkahciadkgjbbaaDoor.QPty
open Go.RowKit Go.Proofs.YtkahciadkgjbbaaDoorW.PrintWords Go.Proofs.YtkahciadkgjbbaaDoorW.PrintLast Go.Proofs.YtkahciadkgjbbaaDoorW.PrintMore Gen
set_option linter.unusedVariables false
set_option linter.unusedSimpArgs false
section
variable {m : PM} {n : Nat} {st rs : Nat} {bo L due : Int}
theorem orNot_nil (h : m.sl = []) {all : List Int} (ha : AllOk all) (c : Prop) [Decidable c] : (if c then m.hear all [] n else m).sl = [] := by
  split
  · exact hear_nil h ha
  · exact h
theorem orNot_up (h : m.sl = [aS st bo]) (hst : up st) {all : List Int} (ha : AllOk all) (c : Prop) [Decidable c] : ∃ st', (if c then m.hear all [] n else m).sl = [aS st' bo] ∧ up st' ∧ (st = 1 → st' = 1) := by
  split
  · exact hearA h hst ha
  · exact ⟨st, h, hst, id⟩
theorem orNot_4 (h : m.sl = [aS 4 bo]) {all : List Int} (ha : AllOk all) (c : Prop) [Decidable c] : (if c then m.hear all [] n else m).sl = [aS 4 bo] := by
  split
  · exact hearA4 h ha
  · exact h
theorem orNot_b (h : m.sl = [bS rs L due]) (hr : awake rs due n) (h3 : n ≤ 5000) {all : List Int} (ha : AllOk all) (c : Prop) [Decidable c] : ∃ rs' due', (if c then m.hear all [] n else m).sl = [bS rs' L due'] ∧ after rs due n rs' due' := by
  split
  · exact hearB_all h hr h3 ha
  · exact ⟨rs, due, h, .inl ⟨rfl, rfl⟩⟩
end
theorem good_nil {all : List Int} (ha : AllOk all) : ∃ k, mrpdu_Good.f k all [] = some true := good_msg ha (.inl rfl)
def I1 (k : Nat) (A B : PM) : Prop := A.sl = [] ∧ B.sl = []
theorem step1 (start : Nat) (k : Nat) (A B : PM) (hk : k < start) (h : I1 k A B) : roundOk 1 9 false (start + 1) (k + 1) A B ∧ I1 (k + 1) (round 1 9 false (k + 1) A B).1 (round 1 9 false (k + 1) A B).2 := by
  obtain ⟨hA, hB⟩ := h
  obtain ⟨a1, a2, a3⟩ := tick_nil (n := k + 1) hA
  have eA : roundA 1 9 false (k + 1) A = A := rfl
  have hB1 : (roundB 1 9 false (k + 1) A B).sl = [] := by
    unfold roundB
    rw [eA, a2]
    exact orNot_nil hB a1 _
  obtain ⟨b1, b2, b3⟩ := tick_nil (n := k + 1) hB1
  refine ⟨⟨fun _ => ?_, fun _ => ?_, fun hh => absurd hh (by omega)⟩, ?_, b3⟩
  · rw [eA, a2]; exact good_nil a1
  · rw [b2]; exact good_nil b1
  · show (roundC 1 9 false (k + 1) A B).sl = []
    unfold roundC
    rw [b2]
    exact orNot_nil (by rw [eA]; exact a3) b1 _
def B2Ok (n : Nat) (B : PM) : Prop := ∃ (rs : Nat) (L : Nat) (due : Int), B.sl = [bS rs L due] ∧ (rs = 2 ∨ rs = 1 ∧ (L : Int) + 24 ≤ due ∧ due ≤ n + 24) ∧ L ≤ n ∧ n / 6 = L / 6
def I2 (start n : Nat) (A B : PM) : Prop := (n = start ∧ A.sl = [] ∧ B.sl = []) ∨ (start < n ∧ ∃ st, A.sl = [aS st n] ∧ up st ∧ ((B.sl = [] ∧ st = 1 ∧ n = start + 1 ∧ ¬ (n : Int) % 2 = 0) ∨ B2Ok n B))
theorem wantA (start k : Nat) (A B : PM) (h : I2 start k A B) (hk : k < 1000) : ∃ st, (roundA 1 9 true (k + 1) A).sl = [aS st ((k + 1 : Nat) : Int)] ∧ up st ∧ (k = start → st = 1) ∧ (B.sl = [] → st = 1) := by
  show ∃ st, (A.want 1 9 ((k + 1 : Nat) : Int) false).sl = _ ∧ _
  rcases h with ⟨hn, hA, hB⟩ | ⟨hn, st, hA, hst, hB⟩
  · exact ⟨1, want_nil hA _ (by omega) (by omega), .inl rfl, fun _ => rfl, fun _ => rfl⟩
  · refine ⟨st, want_one hA hst _ (by omega) (by omega), hst, fun e => absurd e (by omega), fun e => ?_⟩
    rcases hB with ⟨_, h1, _⟩ | ⟨rs, L, due, hb, _⟩
    · exact h1
    · rw [e] at hb; cases hb
theorem B2_tick {B : PM} {n : Nat} (hn : n ≤ 2000) (h : B2Ok n B) : AllOk (B.msgAll n) ∧ B.msgWords n = [] ∧ B2Ok n (B.tick n) ∧ (B.tick n).hasA 1 9 = true := by
  obtain ⟨rs, L, due, hb, hr, hL, h6⟩ := h
  have haw : awake rs due n := by
    rcases hr with k | ⟨k, k2, k3⟩
    · exact .inl k
    · exact .inr ⟨k, by omega⟩
  obtain ⟨a, w, rs', due', ht, hf⟩ := tickB (n := n) hb haw (by omega) (by omega) (by omega) (by omega)
  refine ⟨a, w, ⟨rs', L, due', ht, ?_, hL, h6⟩, has_bS ht (after_ne haw hf)⟩
  rcases hf with ⟨rfl, rfl⟩ | ⟨h2, rfl, rfl⟩
  · exact hr
  · exact .inr ⟨rfl, by omega, by omega⟩
theorem B2_hear {B : PM} {n : Nat} (hn : n ≤ 2000) {all : List Int} (ha : AllOk all) (h : B2Ok n B) (c : Prop) [Decidable c] : B2Ok n (if c then B.hear all [] n else B) := by
  obtain ⟨rs, L, due, hb, hr, hL, h6⟩ := h
  have haw : awake rs due n := by
    rcases hr with k | ⟨k, k2, k3⟩
    · exact .inl k
    · exact .inr ⟨k, by omega⟩
  obtain ⟨rs', due', ht, hf⟩ := orNot_b (n := n) hb haw (by omega) ha c
  refine ⟨rs', L, due', ht, ?_, hL, h6⟩
  rcases hf with ⟨rfl, rfl⟩ | ⟨h2, rfl, rfl⟩
  · exact hr
  · exact .inr ⟨rfl, by omega, by omega⟩
theorem step2 (start tt : Nat) (k : Nat) (A B : PM) (hs : start ≤ k) (hk : k < tt) (htt : tt ≤ 900) (h : I2 start k A B) : roundOk 1 9 true (start + 2) (k + 1) A B ∧ I2 start (k + 1) (round 1 9 true (k + 1) A B).1 (round 1 9 true (k + 1) A B).2 := by
  obtain ⟨st, hA1, hst, hks, hBn⟩ := wantA start k A B h (by omega)
  obtain ⟨a1, st', a3, hst', hw⟩ := tickA (n := k + 1) hA1 hst
  have key : (∃ ev, (ev = 0 ∨ ev = 1) ∧ (roundA 1 9 true (k + 1) A).msgWords (k + 1) = [⟨⟨1, 9⟩, ev, ((k + 1 : Nat) : Int)⟩] ∧ B2Ok (k + 1) (roundB 1 9 true (k + 1) A B)) ∨
      ((roundA 1 9 true (k + 1) A).msgWords (k + 1) = [] ∧ ((B2Ok (k + 1) (roundB 1 9 true (k + 1) A B)) ∨ ((roundB 1 9 true (k + 1) A B).sl = [] ∧ k = start ∧ st' = 1 ∧ ¬ ((k + 1 : Nat) : Int) % 2 = 0))) := by
    have hwd : (∃ ev, (ev = 0 ∨ ev = 1) ∧ (roundA 1 9 true (k + 1) A).msgWords (k + 1) = [⟨⟨1, 9⟩, ev, ((k + 1 : Nat) : Int)⟩]) ∨ ((roundA 1 9 true (k + 1) A).msgWords (k + 1) = [] ∧ (¬ ((k + 1 : Nat) : Int) % 2 = 0 ∧ (st = 1 → st' = 1) ∨ ((k + 1 : Nat) : Int) % 2 = 0 ∧ ¬ ((k + 1 : Nat) : Int) % 6 = 0 ∧ st ≠ 1)) := by
      rcases hw with ⟨c2, w, h1⟩ | ⟨c2, ⟨w, c6, h1⟩ | ⟨ev, hev, w⟩⟩
      · exact .inr ⟨w, .inl ⟨c2, h1⟩⟩
      · exact .inr ⟨w, .inr ⟨c2, c6, h1⟩⟩
      · exact .inl ⟨ev, hev, w⟩
    rcases hwd with ⟨ev, hev, w⟩ | ⟨w, hodd⟩
    · refine .inl ⟨ev, hev, w, ?_⟩
      unfold roundB
      rw [w, if_pos (by simp)]
      have hnew : ∀ due', ∀ Q : PM, Q.sl = [bS 2 ((k + 1 : Nat) : Int) due'] → B2Ok (k + 1) Q := fun due' Q hq => ⟨2, k + 1, due', hq, .inl rfl, Nat.le_refl _, rfl⟩
      rcases h with ⟨hn, hA, hB⟩ | ⟨hn, st0, hA, hst0, hB⟩
      · obtain ⟨due', hh⟩ := hearB_new (n := k + 1) hB a1 ev hev
        exact hnew due' _ hh
      · rcases hB with ⟨hB, _⟩ | ⟨rs, L, due, hB, hr, hL, h6⟩
        · obtain ⟨due', hh⟩ := hearB_new (n := k + 1) hB a1 ev hev
          exact hnew due' _ hh
        · obtain ⟨due', hh⟩ := hearB_word (n := k + 1) hB (by rcases hr with q | ⟨q, q2, q3⟩; exact .inl q; exact .inr ⟨q, by omega⟩) (by omega) (by omega) a1 ev hev
          exact hnew due' _ hh
    · refine .inr ⟨w, ?_⟩
      unfold roundB
      rw [w]
      rcases h with ⟨hn, hA, hB⟩ | ⟨hn, st0, hA, hst0, hB⟩
      · have h1 := hks hn
        refine .inr ⟨orNot_nil hB a1 _, hn, ?_, ?_⟩
        · rcases hodd with ⟨_, q⟩ | ⟨_, _, q⟩
          · exact q h1
          · exact absurd h1 q
        · rcases hodd with ⟨q, _⟩ | ⟨_, _, q⟩
          · exact q
          · exact absurd h1 q
      · rcases hB with ⟨hB, h1, h2, h3⟩ | ⟨rs, L, due, hB, hr, hL, h6⟩
        · exfalso
          have h1' := hBn hB
          rcases hodd with ⟨q, _⟩ | ⟨_, _, q⟩
          · omega
          · exact q h1'
        · refine .inl (B2_hear (by omega) a1 ⟨rs, L, due, hB, ?_, by omega, ?_⟩ _)
          · rcases hr with q | ⟨q, q2, q3⟩
            · exact .inl q
            · exact .inr ⟨q, q2, by omega⟩
          · rcases hodd with ⟨q, _⟩ | ⟨_, q, _⟩ <;> omega
  have hgA : ∃ k2, mrpdu_Good.f k2 ((roundA 1 9 true (k + 1) A).msgAll (k + 1)) ((roundA 1 9 true (k + 1) A).msgWords (k + 1)) = some true := by
    rcases key with ⟨ev, hev, w, _⟩ | ⟨w, _⟩
    · rw [w]; exact good_msg a1 (.inr ⟨ev, _, rfl, by omega, by omega, by omega, by omega⟩)
    · rw [w]; exact good_nil a1
  have hB1 : B2Ok (k + 1) (roundB 1 9 true (k + 1) A B) ∨ ((roundB 1 9 true (k + 1) A B).sl = [] ∧ k = start ∧ st' = 1 ∧ ¬ ((k + 1 : Nat) : Int) % 2 = 0) := by
    rcases key with ⟨_, _, _, q⟩ | ⟨_, q⟩
    · exact .inl q
    · exact q
  rcases hB1 with hB1 | ⟨hB1, hk1, hs1, hodd⟩
  · obtain ⟨b1, b2, b3, b4⟩ := B2_tick (by omega) hB1
    refine ⟨⟨fun _ => hgA, fun _ => by rw [b2]; exact good_nil b1, fun _ => b4⟩, .inr ⟨by omega, ?_⟩⟩
    obtain ⟨st2, hC, hst2, _⟩ := orNot_up (n := k + 1) a3 hst' b1 (0 < ((roundB 1 9 true (k + 1) A B).msgAll (k + 1)).length + ((roundB 1 9 true (k + 1) A B).msgWords (k + 1)).length)
    refine ⟨st2, ?_, hst2, .inr b3⟩
    show (roundC 1 9 true (k + 1) A B).sl = _
    unfold roundC
    rw [b2] at hC ⊢
    exact hC
  · obtain ⟨b1, b2, b3⟩ := tick_nil (n := k + 1) hB1
    refine ⟨⟨fun _ => hgA, fun _ => by rw [b2]; exact good_nil b1, fun hh => absurd hh (by omega)⟩, .inr ⟨by omega, ?_⟩⟩
    obtain ⟨st2, hC, hst2, hst3⟩ := orNot_up (n := k + 1) a3 hst' b1 (0 < ((roundB 1 9 true (k + 1) A B).msgAll (k + 1)).length + ((roundB 1 9 true (k + 1) A B).msgWords (k + 1)).length)
    refine ⟨st2, ?_, hst2, .inl ⟨b3, hst3 hs1, by omega, hodd⟩⟩
    show (roundC 1 9 true (k + 1) A B).sl = _
    unfold roundC
    rw [b2] at hC ⊢
    exact hC
def B3Ok (e n : Nat) (B : PM) : Prop := B.sl = [] ∨ ∃ (rs : Nat) (L : Nat) (due : Int), B.sl = [bS rs L due] ∧ (rs = 2 ∨ rs = 1 ∧ (e : Int) + 19 ≤ due ∧ due ≤ n + 24) ∧ L ≤ n ∧ e ≤ L + 5
def I3 (e n : Nat) (A B : PM) : Prop :=
  (A.sl = [] ∧ (B.sl = [] ∨ ∃ (L : Nat) (due : Int), B.sl = [bS 1 L due] ∧ (n : Int) < due ∧ due ≤ e + 26 ∧ L ≤ n ∧ e ≤ L + 5)) ∨
  (∃ bo : Int, A.sl = [aS 4 bo] ∧ 0 ≤ bo ∧ bo ≤ 1000 ∧ (n = e ∨ n = e + 1 ∧ ¬ (n : Int) % 2 = 0) ∧ B3Ok e n B)
theorem start3 (start e : Nat) (A B : PM) (he : e ≤ 900) (h : I2 start e A B) : I3 e e (A.want 1 9 (-1) false) B := by
  rcases h with ⟨_, hA, hB⟩ | ⟨_, st, hA, hst, hB⟩
  · exact .inl ⟨unwant_nil hA, .inl hB⟩
  · refine .inr ⟨e, unwant_one hA hst, by omega, by omega, .inl rfl, ?_⟩
    rcases hB with ⟨hB, _⟩ | ⟨rs, L, due, hB, hr, hL, h6⟩
    · exact .inl hB
    · refine .inr ⟨rs, L, due, hB, ?_, hL, by omega⟩
      rcases hr with q | ⟨q, q2, q3⟩
      · exact .inl q
      · exact .inr ⟨q, by omega, by omega⟩
theorem B3_awake {rs : Nat} {due : Int} {e n k : Nat} (hr : rs = 2 ∨ rs = 1 ∧ (e : Int) + 19 ≤ due ∧ due ≤ n + 24) (hk : k ≤ e + 10) : awake rs due k := by
  rcases hr with q | ⟨q, q2, _⟩
  · exact .inl q
  · exact .inr ⟨q, by omega⟩
theorem B3_after {rs rs' : Nat} {due due' : Int} {e n : Nat} (hr : rs = 2 ∨ rs = 1 ∧ (e : Int) + 19 ≤ due ∧ due ≤ n + 24) (he : e ≤ n) (h : after rs due n rs' due') : rs' = 2 ∨ rs' = 1 ∧ (e : Int) + 19 ≤ due' ∧ due' ≤ n + 24 := by
  rcases h with ⟨rfl, rfl⟩ | ⟨_, rfl, rfl⟩
  · exact hr
  · exact .inr ⟨rfl, by omega, by omega⟩
theorem B3_mono {rs : Nat} {due : Int} {e n n2 : Nat} (hr : rs = 2 ∨ rs = 1 ∧ (e : Int) + 19 ≤ due ∧ due ≤ n + 24) (h : n ≤ n2) : rs = 2 ∨ rs = 1 ∧ (e : Int) + 19 ≤ due ∧ due ≤ n2 + 24 := by
  rcases hr with q | ⟨q, q2, q3⟩
  · exact .inl q
  · exact .inr ⟨q, q2, by omega⟩
theorem B3_tick {B : PM} {n e : Nat} (hn : n ≤ 2000) (h : B.sl = [] ∨ ∃ (L : Nat) (due : Int), B.sl = [bS 1 L due] ∧ due ≤ e + 26 ∧ L ≤ n ∧ e ≤ L + 5 ∧ n ≤ due) :
    AllOk (B.msgAll n) ∧ B.msgWords n = [] ∧ ((B.tick n).sl = [] ∨ ∃ (L : Nat) (due : Int), (B.tick n).sl = [bS 1 L due] ∧ (n : Int) < due ∧ due ≤ e + 26 ∧ L ≤ n ∧ e ≤ L + 5) := by
  rcases h with h | ⟨L, due, h, h1, h2, h3, h4⟩
  · obtain ⟨a, b, c⟩ := tick_nil (n := n) h
    exact ⟨a, b, .inl c⟩
  · by_cases hd : (n : Int) < due
    · obtain ⟨a, w, rs', due', ht, hf⟩ := tickB (n := n) h (.inr ⟨rfl, hd⟩) (by omega) (by omega) (by omega) (by omega)
      rcases hf with ⟨rfl, rfl⟩ | ⟨q, _⟩
      · exact ⟨a, w, .inr ⟨L, due', ht, hd, h1, h2, h3⟩⟩
      · omega
    · obtain ⟨a, w, ht⟩ := tickB_gone (n := n) h (by omega) (by omega) (by omega) (by omega) (by omega)
      exact ⟨a, w, .inl ht⟩
theorem B3_has {B : PM} {n e : Nat} (h : B.sl = [] ∨ ∃ (L : Nat) (due : Int), B.sl = [bS 1 L due] ∧ (n : Int) < due ∧ due ≤ e + 26 ∧ L ≤ n ∧ e ≤ L + 5) (hn : e + 28 ≤ n) : B.hasA 1 9 = false := by
  rcases h with h | ⟨L, due, h, h1, h2, _⟩
  · exact has_nil' h
  · omega
theorem step3 (e tt : Nat) (k : Nat) (A B : PM) (hs : e ≤ k) (hk : k < tt) (htt : tt ≤ 1500) (h : I3 e k A B) : roundOk 1 9 false (e + 28) (k + 1) A B ∧ I3 e (k + 1) (round 1 9 false (k + 1) A B).1 (round 1 9 false (k + 1) A B).2 := by
  have eA : roundA 1 9 false (k + 1) A = A := rfl
  rcases h with ⟨hA, hB⟩ | ⟨bo, hA, hb0, hb1, hn, hB⟩
  · obtain ⟨a1, a2, a3⟩ := tick_nil (n := k + 1) hA
    have hB1 : (roundB 1 9 false (k + 1) A B).sl = [] ∨ ∃ (L : Nat) (due : Int), (roundB 1 9 false (k + 1) A B).sl = [bS 1 L due] ∧ due ≤ e + 26 ∧ L ≤ k + 1 ∧ e ≤ L + 5 ∧ ((k + 1 : Nat) : Int) ≤ due := by
      unfold roundB
      rw [eA, a2]
      rcases hB with hB | ⟨L, due, hB, h1, h2, h3, h4⟩
      · exact .inl (orNot_nil hB a1 _)
      · by_cases hd : ((k + 1 : Nat) : Int) < due
        · obtain ⟨rs', due', ht, hf⟩ := orNot_b (n := k + 1) hB (.inr ⟨rfl, hd⟩) (by omega) a1 (0 < (A.msgAll (k + 1)).length + ([] : List S42).length)
          rcases hf with ⟨rfl, rfl⟩ | ⟨q, _⟩
          · exact .inr ⟨L, due', ht, h2, by omega, h4, by omega⟩
          · omega
        · refine .inr ⟨L, due, ?_, h2, by omega, h4, by omega⟩
          split
          · obtain ⟨s2, hs2, ht⟩ := hear_one (n := k + 1) hB a1
            have : s2 = bS 1 L due := by
              rcases hs2 with rfl | rfl
              · rfl
              · exact (bAll (L := (L : Int)) (due := due) ((k + 1 : Nat) : Int) (by omega) (by omega)).2.1
            rw [ht, this, bKeep (by decide)]
          · exact hB
    obtain ⟨b1, b2, b3⟩ := B3_tick (e := e) (by omega) hB1
    refine ⟨⟨fun _ => by rw [eA, a2]; exact good_nil a1, fun _ => by rw [b2]; exact good_nil b1, fun hh => B3_has b3 hh⟩, .inl ⟨?_, b3⟩⟩
    show (roundC 1 9 false (k + 1) A B).sl = []
    unfold roundC
    rw [b2]
    exact orNot_nil (by rw [eA]; exact a3) b1 _
  · obtain ⟨a1, hw⟩ := tickA4 (n := k + 1) hA
    rcases hw with ⟨c2, a2, a3⟩ | ⟨c2, a2, a3⟩
    ·
      have hke : k = e := by omega
      have hB1 : B3Ok e (k + 1) (roundB 1 9 false (k + 1) A B) := by
        unfold roundB
        rw [eA, a2]
        rcases hB with hB | ⟨rs, L, due, hB, h1, h3, h4⟩
        · exact .inl (orNot_nil hB a1 _)
        · have h1' := B3_mono (n2 := k + 1) h1 (by omega)
          obtain ⟨rs', due', ht, hf⟩ := orNot_b (n := k + 1) hB (B3_awake h1' (by omega)) (by omega) a1 (0 < (A.msgAll (k + 1)).length + ([] : List S42).length)
          exact .inr ⟨rs', L, due', ht, B3_after h1' (by omega) hf, by omega, h4⟩
      have hB2 : AllOk ((roundB 1 9 false (k + 1) A B).msgAll (k + 1)) ∧ (roundB 1 9 false (k + 1) A B).msgWords (k + 1) = [] ∧ B3Ok e (k + 1) ((roundB 1 9 false (k + 1) A B).tick (k + 1)) := by
        rcases hB1 with hq | ⟨rs, L, due, hq, h1, h3, h4⟩
        · obtain ⟨a, b, c⟩ := tick_nil (n := k + 1) hq
          exact ⟨a, b, .inl c⟩
        · obtain ⟨a, w, rs', due', ht, hf⟩ := tickB (n := k + 1) hq (B3_awake h1 (by omega)) (by omega) (by omega) (by omega) (by omega)
          exact ⟨a, w, .inr ⟨rs', L, due', ht, B3_after h1 (by omega) hf, h3, h4⟩⟩
      obtain ⟨b1, b2, b3⟩ := hB2
      refine ⟨⟨fun _ => by rw [eA, a2]; exact good_nil a1, fun _ => by rw [b2]; exact good_nil b1, fun hh => absurd hh (by omega)⟩, .inr ⟨bo, ?_, hb0, hb1, .inr ⟨by omega, c2⟩, b3⟩⟩
      show (roundC 1 9 false (k + 1) A B).sl = _
      unfold roundC
      rw [b2]
      exact orNot_4 (by rw [eA]; exact a3) b1 _
    ·
      have hB1 : (roundB 1 9 false (k + 1) A B).sl = [] ∨ ∃ (L : Nat) (due : Int), (roundB 1 9 false (k + 1) A B).sl = [bS 1 L due] ∧ due ≤ e + 26 ∧ L ≤ k + 1 ∧ e ≤ L + 5 ∧ ((k + 1 : Nat) : Int) ≤ due := by
        unfold roundB
        rw [eA, a2, if_pos (by simp)]
        rcases hB with hB | ⟨rs, L, due, hB, h1, h3, h4⟩
        · exact .inl (hearB_leave_nil hB a1 bo)
        · obtain ⟨due', ht, hd⟩ := hearB_leave (n := k + 1) hB (B3_awake h1 (by omega)) (by omega) a1 bo
          refine .inr ⟨L, due', ht, ?_, by omega, h4, ?_⟩
          · rcases hd with ⟨q, rfl⟩ | q
            · rcases h1 with q2 | ⟨_, _, q3⟩ <;> omega
            · omega
          · rcases hd with ⟨q, rfl⟩ | q
            · rcases h1 with q2 | ⟨_, q2, q3⟩ <;> omega
            · omega
      obtain ⟨b1, b2, b3⟩ := B3_tick (e := e) (by omega) hB1
      refine ⟨⟨fun _ => by rw [eA, a2]; exact good_msg a1 (.inr ⟨5, bo, rfl, by decide, by decide, hb0, by omega⟩), fun _ => by rw [b2]; exact good_nil b1, fun hh => absurd hh (by omega)⟩, .inl ⟨?_, b3⟩⟩
      show (roundC 1 9 false (k + 1) A B).sl = []
      unfold roundC
      rw [b2]
      exact orNot_nil (by rw [eA]; exact a3) b1 _
end Go.Proofs.YtkahciadkgjbbaaDoor.QPty
namespace Go.Proofs.YtkahciadkgjbbaaDoor.QPty
open Go.RowKit Go.Proofs.YtkahciadkgjbbaaDoorW.PrintWords Go.Proofs.YtkahciadkgjbbaaDoorW.PrintLast Go.Proofs.YtkahciadkgjbbaaDoorW.PrintMore Gen
set_option linter.unusedVariables false
set_option linter.unusedSimpArgs false
theorem vid_calls (v : Int) (w : World) : Calls Tryd.prog 9 #[.int .i64 v] w fun e w' => e = .returned (.agg #[.int .i64 1, .int .i64 v]) ∧ Below w.heap.size w w' := kissgatelaw16_vid.calls v 1 v w rfl
theorem alive_words : ((PM.new []).want 1 7 3 false).msgWords 4 = [⟨⟨1, 7⟩, 0, 3⟩] := by kernel_rfl
theorem alive_all : ((PM.new []).want 1 7 3 false).msgAll 4 = [] := by kernel_rfl
theorem alive_res : wantRes (PM.new []) 1 7 3 = 0 := by kernel_rfl
theorem eqA28 (d : Nat) (w : World) (x0 x1 y0 y1 : Int) :
    (Op.equalIn (d + 2) 28 (.agg #[.int .i64 x0, .int .i64 x1]) (.agg #[.int .i64 y0, .int .i64 y1])).run Tryd.prog w = .ok (x0 == y0 && (x1 == y1)) w := by
  refine eqA_of Tryd.underlying28 (by kernel_rfl) ?_
  refine eqf_cons (by rfl) (by go_simp; rfl) (by go_simp; rfl) (by go_simp) ?_
  exact eqf_last (by rfl) (by go_simp; rfl) (by go_simp; rfl) (by go_simp)
theorem eqA42 (d : Nat) (w : World) (x0 x1 x2 x3 y0 y1 y2 y3 : Int) :
    (Op.equalIn (d + 3) 42 (.agg #[.int .i64 x0, .int .i64 x1, .int .i64 x2, .int .i64 x3]) (.agg #[.int .i64 y0, .int .i64 y1, .int .i64 y2, .int .i64 y3])).run Tryd.prog w = .ok ((x0 == y0 && (x1 == y1)) && (x2 == y2 && (x3 == y3))) w := by
  refine eqA_of Tryd.underlying42 (by kernel_rfl) ?_
  refine eqf_cons (by rfl) (by go_simp) (by go_simp) (eqA28 d w _ _ _ _) ?_
  refine eqf_cons (by rfl) (by go_simp; rfl) (by go_simp; rfl) (by go_simp) ?_
  exact eqf_last (by rfl) (by go_simp; rfl) (by go_simp; rfl) (by go_simp)
theorem tick_calls_at (P : Pt) (n : Nat) (ni : Int) (e : ni = (n : Int)) (w : World) (h : PtAt w P) (hev : EV w) (hF0 : ¬ P.F 0) : Calls Tryd.prog 13 #[.pointer (some ⟨P.pb, 0, none⟩), .int .i64 ni] w (TickPost P n w) := by
  subst e
  exact tick_calls P n w h hev hF0
set_option maxHeartbeats 4000000 in
set_option maxRecDepth 100000 in
theorem alive_calls (w : World) (hev : EV w) : Calls Tryd.prog 6 #[] w fun x w' => x = .returned (.bool true) ∧ Below w.heap.size w w' := by
  have mixed : Tryd.prog.follows .mixedOrders = true := by kernel_rfl
  have e7 : ∀ args w, (callFunc 7 args).run Tryd.prog w = .ok (.enter 7 args) w := enters_of Tryd.func7 (by kernel_rfl) rfl
  have e9 : ∀ args w, (callFunc 9 args).run Tryd.prog w = .ok (.enter 9 args) w := enters_of Tryd.func9 (by kernel_rfl) rfl
  have e10 : ∀ args w, (callFunc 10 args).run Tryd.prog w = .ok (.enter 10 args) w := enters_of Tryd.func10 (by kernel_rfl) rfl
  have e13 : ∀ args w, (callFunc 13 args).run Tryd.prog w = .ok (.enter 13 args) w := enters_of Tryd.func13 (by kernel_rfl) rfl
  have hu37 := Tryd.underlying37
  have hu42 := Tryd.underlying42
  have hu28 := Tryd.underlying28
  have HEV := Aside0.mk hev
  clear hev
  go_enter Tryd.func6, Tryd.ntmps6
  go_wp2_with fail
  go_at_fn 7
  refine (new_calls none 0 [] w (Kd.C_nil _ _) (Nat.le_refl _) (by decide)).mono ?_
  rintro x w1 ⟨P, rfl, hP, hm, hF, hb⟩
  have HP := Aside0.mk hP
  have HM := Aside0.mk hm
  have HF := Aside0.mk hF
  have HB := Aside0.mk hb
  clear hP hm hF hb
  go_wp2_with fail
  go_at_fn 9
  refine (vid_calls 7 _).mono ?_
  rintro x w2 ⟨rfl, hb⟩
  have HP2 := Aside0.mk (HP.out.below hb)
  have HB2 := Aside0.mk (below_step HB.out hb)
  clear hb
  go_wp2_with fail
  go_at_fn 10
  refine (want_calls P 1 7 3 false _ HP2.out).mono ?_
  rintro x w3 ⟨rfl, P3, T3⟩
  rw [HM.out] at T3 ⊢
  rw [alive_res]
  have HF3 := Aside0.mk (show ∀ k, P3.F k → w.heap.size ≤ k from fun k hk => (T3.own k hk).elim (HF.out k) (fun h => Nat.le_trans HB2.out.size h))
  have HB3 := Aside0.mk (T3.wr.low HB2.out HB2.out.size HF.out)
  have HT3 := Aside0.mk T3
  clear T3
  go_wp2_with fail
  go_at_fn 13
  have h00 : ¬ P3.F 0 := fun q => by have h1 := HF3.out 0 q; have h2 := HEV.out.lt; omega
  have htk := tick_calls_at P3 4 4 rfl _ HT3.out.at_ (HEV.out.below HB3.out) h00
  rw [HT3.out.pb] at htk
  refine htk.mono ?_
  rintro x w4 ⟨vA, vW, P4, all, words, rfl, hall, hwords, hra, hrw, T4⟩
  rw [HT3.out.m, alive_all] at hall
  rw [HT3.out.m, alive_words] at hwords
  subst hall hwords
  have HB4 := Aside0.mk (T4.wr.low HB3.out HB3.out.size HF3.out)
  obtain ⟨AA, cA, rfl⟩ := Kd.R_slice hra
  obtain ⟨gw, cW, rfl⟩ : ∃ g c, vW = .slice (some ⟨g, 0, none⟩) 1 c := by
    obtain ⟨_, inner, hown, _⟩ := hrw
    rcases hown.2 with ⟨_, e2⟩ | ⟨g, cap, cur, hv, _⟩
    · cases e2
    · exact ⟨g, cap, hv⟩
  have HC := Aside0.mk (Kd.R_reads' hrw).2.2
  clear hra hrw T4
  simp only [List.length_nil, List.length_cons, Nat.zero_add, Nat.lt_add_one, decide_true]
  go_wp2_with ((with_reducible refine gate_dst (N := 3) rfl ?_); refine box_event ?hg (N := 3) ?hd (cs := #[.slice none 0 0, .slice none 0 0]) (t := 37) ?hr ?_; (case hd => rfl); (case hg => rfl); (case hr => first | (go_simp; done) | (go_simp; rfl)); intro b3 hg w5 hbox hb; have HG := Aside0.mk hg; have BX := Aside0.mk hbox; have HB5 := Aside0.mk hb; have hz0 : w5.cell? ⟨b3, 0, none⟩ = some (.slice none 0 0) := (blk_cell hbox 0).trans rfl; have hz1 : w5.cell? ⟨b3, 1, none⟩ = some (.slice none 0 0) := (blk_cell hbox 1).trans rfl; have hf0 := blk_frozen hbox 0; have hf1 := blk_frozen hbox 1; clear hb hbox hg)
  have EQ : ∀ (d : Nat) (W : World), (Op.equalIn (d + 3) 42 (.agg #[.int .i64 1, .int .i64 7, .int .i64 0, .int .i64 3]) (.agg #[.int .i64 1, .int .i64 7, .int .i64 0, .int .i64 3])).run Tryd.prog W = .ok true W := fun d W => by rw [eqA42]; rfl
  obtain ⟨w6, hw6⟩ : ∃ w6, w6 = (w5.setCell ⟨b3, 0, none⟩ (.slice AA 0 cA)).setCell ⟨b3, 1, none⟩ (.slice (some ⟨gw, 0, none⟩) 1 cW) := ⟨_, rfl⟩
  rw [← hw6]
  have hm := (set37 BX.out (.slice AA 0 cA) (.slice (some ⟨gw, 0, none⟩) 1 cW)).1
  rw [← hw6] at hm
  have hgb : w4.heap.size ≤ b3 := by rw [HG.out]; exact Nat.le_refl _
  have hb6 : Below w4.heap.size w4 w6 := by rw [hw6]; exact below_set (below_set HB5.out hgb) hgb
  have HB6 := Aside0.mk (below_step HB4.out hb6)
  obtain ⟨ad, e, hx0, hx1, hx2, hx3⟩ := at_T42 (Kd.C_below HC.out hb6) 0 (by decide) (by decide)
  injection e with e
  subst e
  replace hx0 : w6.cell? ⟨gw, 0, none⟩ = some (.int .i64 1) := hx0
  replace hx1 : w6.cell? ⟨gw, 1, none⟩ = some (.int .i64 7) := hx1
  replace hx2 : w6.cell? ⟨gw, 2, none⟩ = some (.int .i64 0) := hx2
  replace hx3 : w6.cell? ⟨gw, 3, none⟩ = some (.int .i64 3) := hx3
  have HM1 := Aside0.mk (fun W (hb : Below w6.heap.size w6 W) => show W.cell? ⟨b3, 1, none⟩ = some (.slice (some ⟨gw, 0, none⟩) 1 cW) from (blk_cell (blk_below hm hb) 1).trans rfl)
  have HX0 := Aside0.mk (fun W (hb : Below w6.heap.size w6 W) => (hb.cell (World.block_lt_of_cell? _ _ hx0)).trans hx0)
  have HX1 := Aside0.mk (fun W (hb : Below w6.heap.size w6 W) => (hb.cell (World.block_lt_of_cell? _ _ hx1)).trans hx1)
  have HX2 := Aside0.mk (fun W (hb : Below w6.heap.size w6 W) => (hb.cell (World.block_lt_of_cell? _ _ hx2)).trans hx2)
  have HX3 := Aside0.mk (fun W (hb : Below w6.heap.size w6 W) => (hb.cell (World.block_lt_of_cell? _ _ hx3)).trans hx3)
  clear hw6 hb6 hz0 hz1 hf0 hf1 BX HB5 HG hgb h00 htk HC
  have hm1 := HM1.out w6 (Below.refl _ _)
  go_region_held3 (fun W => W.cell? ⟨b3, 1, none⟩ = some (.slice (some ⟨gw, 0, none⟩) 1 cW) ∧ W.cell? ⟨gw, 0, none⟩ = some (.int .i64 1) ∧ W.cell? ⟨gw, 1, none⟩ = some (.int .i64 7) ∧ W.cell? ⟨gw, 2, none⟩ = some (.int .i64 0) ∧ W.cell? ⟨gw, 3, none⟩ = some (.int .i64 3) ∧ Below w6.heap.size w6 W) (first | exact ⟨HM1.out _ (by repeat (with_reducible first | assumption | exact Below.refl _ _ | apply below_alloc | apply pw_below_drewN | apply below_drew1)), HX0.out _ (by repeat (with_reducible first | assumption | exact Below.refl _ _ | apply below_alloc | apply pw_below_drewN | apply below_drew1)), HX1.out _ (by repeat (with_reducible first | assumption | exact Below.refl _ _ | apply below_alloc | apply pw_below_drewN | apply below_drew1)), HX2.out _ (by repeat (with_reducible first | assumption | exact Below.refl _ _ | apply below_alloc | apply pw_below_drewN | apply below_drew1)), HX3.out _ (by repeat (with_reducible first | assumption | exact Below.refl _ _ | apply below_alloc | apply pw_below_drewN | apply below_drew1)), (by repeat (with_reducible first | assumption | exact Below.refl _ _ | apply below_alloc | apply pw_below_drewN | apply below_drew1))⟩)
    (first | (go_at_call 9; with_reducible refine (vid_calls _ _).mono ?_; rintro x w7 ⟨rfl, hb7⟩; replace hb7 := below_step (show Below w6.heap.size w6 _ from (by repeat (with_reducible first | assumption | exact Below.refl _ _ | apply below_alloc | apply pw_below_drewN | apply below_drew1))) hb7; have hs7 := hb7.size))
  all_goals
    rename_i hS9
    have HB9 := Aside0.mk (below_step HB6.out hS9.2.2.2.2.2)
    clear hS9
    go_wp2
    go_ret
    exact ⟨rfl, HB9.out⟩
end Go.Proofs.YtkahciadkgjbbaaDoor.QPty
